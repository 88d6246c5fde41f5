/- Parts of the proof, one behind the other: TreeE, TreeF, TreeG. No further condition. -/
import Derived.Test.YthdeopopodhimaaDoorM11
set_option linter.unusedVariables false
set_option linter.unusedSimpArgs false
/- Forks are made of vertices. No further condition. -/
set_option linter.unusedVariables false
set_option linter.unusedSimpArgs false
namespace Go.Proofs.YthdeopopodhimaaDoor
open Go.Ab

def tyV : Nat → TypeId
  | 0 => 74
  | _ + 1 => 89
def inV : (h : Nat) → Vt h → AV
  | 0, l => .sl 3 (l.row.map Pr.av) .none
  | h + 1, l => .agg [.sl 1 (l.kids.map (avV h)) .none, .int .i64 ((allV (h + 1) l).length : Int)]
theorem avV_eq (h : Nat) (v : Vt h) : avV h v = .iface (tyV h) (inV h v) := by cases h <;> rfl
theorem vx_get {h : Nat} {l : List (Vt h)} {i : Nat} {x : Vt h} (hx : l[i]? = some x) : (l.map (avV h))[i]? = some (.iface (tyV h) (inV h x)) := by
  rw [← avV_eq]
  exact map_get hx

theorem leafAll_ok (l : List Pr) : APure Tryd.prog 94 [.sl 3 (l.map Pr.av) .none] (.int .i64 (l.length : Int)) := by
  intro M
  refine acalls_of tabOK Tryd.func94 rfl (by decide) (by simp [Tryd.f94]) ?_
  have la : ((l.map Pr.av).length : Int) = (l.length : Int) := by simp
  repeat' (first | (show DW _ _ _ _ _ _ _ _; first | refine DW_V tabs rfl rfl rfl rfl (congrArg (AV.int _) la) ?_ | refine DW_A tabs rfl ?_ | refine DW_nil ?_ | refine DW_lits tabOK rfl rfl rfl rfl rfl rfl rfl rfl rfl rfl rfl rfl rfl ?_ | refine DW_append_own tabOK rfl rfl rfl rfl rfl rfl rfl rfl rfl rfl rfl rfl rfl rfl rfl (by simp; omega) (by simp; omega) ?_) | (show W _ _ _ _ _ _; first | refine W_seq ?_ | refine W_text rfl (fun _ _ _ h => h) ?_ | refine W_block ?_ | refine W_skip ?_ | refine W_exit ?_ | refine W_ret ?_ | refine W_true rfl ?_ | refine W_false rfl ?_ | refine W_cond rfl (fun _ => ?_) (fun _ => ?_)))
  exact ⟨rfl, _, rfl, rfl, rfl⟩
theorem forkAll_ok (x : AV) (n : Int) : APure Tryd.prog 107 [.agg [x, .int .i64 n]] (.int .i64 n) := by
  intro M
  refine acalls_of tabOK Tryd.func107 rfl (by decide) (by simp [Tryd.f107]) ?_
  repeat' (first | (show DW _ _ _ _ _ _ _ _; first | refine DW_A tabs rfl ?_ | refine DW_nil ?_ | refine DW_lits tabOK rfl rfl rfl rfl rfl rfl rfl rfl rfl rfl rfl rfl rfl ?_ | refine DW_append_own tabOK rfl rfl rfl rfl rfl rfl rfl rfl rfl rfl rfl rfl rfl rfl rfl (by simp; omega) (by simp; omega) ?_) | (show W _ _ _ _ _ _; first | refine W_seq ?_ | refine W_text rfl (fun _ _ _ h => h) ?_ | refine W_block ?_ | refine W_skip ?_ | refine W_exit ?_ | refine W_ret ?_ | refine W_true rfl ?_ | refine W_false rfl ?_ | refine W_cond rfl (fun _ => ?_) (fun _ => ?_)))
  exact ⟨rfl, _, rfl, rfl, rfl⟩
def fAll : Nat → FuncId
  | 0 => 94
  | _ + 1 => 107
theorem mAll (h : Nat) : methF Tryd.prog (tyV h) "sexton/tree.all" = some (fAll h) := by
  cases h
  · show methF Tryd.prog 74 "sexton/tree.all" = some 94
    kernel_rfl
  · show methF Tryd.prog 89 "sexton/tree.all" = some 107
    kernel_rfl
theorem all_ok (h : Nat) (v : Vt h) : APure Tryd.prog (fAll h) [inV h v] (.int .i64 ((allV h v).length : Int)) := by
  cases h with
  | zero => exact leafAll_ok v.row
  | succ h => exact forkAll_ok _ _

theorem allL_take {h : Nat} {l : List (Vt h)} {i : Nat} {x : Vt h} (hx : l[i]? = some x) : allL h (l.take (i + 1)) = allL h (l.take i) ++ allV h x := by
  rw [take_succ hx, allL_app, allL_one]
theorem allL_takeLe {h : Nat} (l : List (Vt h)) (i : Nat) : (allL h (l.take i)).length ≤ (allL h l).length := by
  have : l = l.take i ++ l.drop i := (List.take_append_drop i l).symm
  conv => rhs; rw [this]
  rw [allL_app, List.length_append]
  omega
theorem halves_sub {h : Nat} {l : List (Vt h)} {r : List (Vt h)} (hr : r ∈ halvesL l) : (allL h r).length ≤ (allL h l).length := by
  unfold halvesL at hr
  split at hr
  · simp at hr
    rw [hr]
    exact Nat.le_refl _
  · simp only [List.mem_cons, List.not_mem_nil, or_false] at hr
    rcases hr with rfl | rfl
    · exact allL_takeLe _ _
    · have := allL_app (h := h) (l.take (l.length / 2)) (l.drop (l.length / 2))
      rw [List.take_append_drop] at this
      rw [this, List.length_append]
      omega
def tokN (g : Nat) (c : List AV) : Mem := ⟨2, [(1, .cells c), (0, .spare g)]⟩
theorem tokN_of {g : Nat} {c : List AV} {M : Mem} (hn : 2 = M.next) (h1 : M.get 1 = some (.cells c)) (h0 : M.get 0 = some (.spare g)) : (tokN g c).le M := Mem.le_cons h1 (Mem.le_cons h0 (Mem.le_nil hn))
theorem vx1_app {h : Nat} {a : List (Vt (h + 1))} {r : Vt (h + 1)} {t : Tag} {n : Int} (hn : n = ((allV (h + 1) r).length : Int)) : AV.sl 1 (a.map (avV (h + 1)) ++ [.iface 89 (.agg [.sl 1 (r.kids.map (avV h)) .none, .int .i64 n])]) t = .sl 1 ((a ++ [r]).map (avV (h + 1))) t := by
  rw [List.map_append, hn]
  rfl
def rowsV1 (h : Nat) (l : List (Vt (h + 1))) : AV := .sl 1 (l.map fun r => .sl 1 (r.kids.map (avV h)) .none) .full
theorem closed_rowsV1 (h : Nat) (rows : List (Vt (h + 1))) : Closed (rowsV1 h rows) := by
  have h1 : ∀ x, x ∈ (rows.map fun r => AV.sl 1 (r.kids.map (avV h)) .none) → Closed x := by
    intro x hx
    obtain ⟨a, _, rfl⟩ := List.mem_map.1 hx
    exact closed_vxs h a.kids
  refine closed_sl (.inr rfl) h1 ?_
  intro x hx c hc
  obtain ⟨a, _, rfl⟩ := List.mem_map.1 hx
  have : c = .sl 1 (a.kids.map (avV h)) .none := by simpa [AV.cells] using hc
  exact this ▸ closed_vxs h a.kids

set_option maxRecDepth 100000 in
theorem forks_ok (h : Nat) (l : List (Vt h)) (hl : l.length < 10000) (hs : (allL h l).length < 1000000000) : APure Tryd.prog 37 [.sl 1 (l.map (avV h)) .none] (.sl 1 ((halvesL l : List (Vt (h + 1))).map (avV (h + 1))) .none) := by
  refine pure_sub (closed1 (closed_vxs h l)) (closed_vxs (h + 1) _) ?_
  refine acalls_of tabOK Tryd.func37 rfl (by decide) (by simp [Tryd.f37]) ?_
  have k0 := halvesV_ok h l (by omega)
  have hlen := halves_len l
  have h20 : (halvesL l).length ≤ 2 := by rw [hlen]; split <;> omega
  have hsub0 : ∀ r, r ∈ halvesL l → (allL h r).length < 1000000000 ∧ r.length ≤ l.length := fun r hr => ⟨by have := halves_sub hr; omega, by
    unfold halvesL at hr
    split at hr
    · simp at hr; rw [hr]; exact Nat.le_refl _
    · simp at hr
      rcases hr with rfl | rfl <;> simp <;> omega⟩
  obtain ⟨rows, hrows⟩ : ∃ rows : List (Vt (h + 1)), rows = halvesL l := ⟨_, rfl⟩
  have h2 : rows.length ≤ 2 := by rw [hrows]; exact h20
  have hsub : ∀ r, r ∈ rows → (allL h r.kids).length < 1000000000 ∧ r.kids.length ≤ l.length := by rw [hrows]; exact hsub0
  have k : APure Tryd.prog 44 [.sl 1 (l.map (avV h)) .none] (rowsV1 h rows) := by rw [hrows]; exact k0
  have hg : ((halvesL l : List (Vt (h + 1))).map (avV (h + 1))) = rows.map (avV (h + 1)) := by rw [hrows]
  rw [hg]
  unfold rowsV1 at k
  have la : ((rows.map fun r => AV.sl 1 (r.kids.map (avV h)) .none).length : Int) = (rows.length : Int) := by simp
  repeat' (first | (show DW _ _ _ _ _ _ _ _; first | refine DW_V tabs rfl rfl rfl rfl (congrArg (AV.int _) la) ?_ | refine DW_A tabs rfl ?_ | refine DW_nil ?_ | refine DW_lits tabOK rfl rfl rfl rfl rfl rfl rfl rfl rfl rfl rfl rfl rfl ?_ | refine DW_pure rfl rfl rfl rfl rfl k ?_ | refine DW_append_own tabOK rfl rfl rfl rfl rfl rfl rfl rfl rfl rfl rfl rfl rfl rfl rfl (by simp; omega) (by simp; omega) ?_) | (show W _ _ _ _ _ _; first | refine W_seq ?_ | refine W_text rfl (fun _ _ _ h => h) ?_ | refine W_block ?_ | refine W_skip ?_ | refine W_exit ?_ | refine W_ret ?_ | refine W_true rfl ?_ | refine W_false rfl ?_ | refine W_cond rfl (fun _ => ?_) (fun _ => ?_) | refine W_draw mixed [2, 3, 0, 1, 4, 5, 6] [.R, .R, .P, .P, .P, .R, .E] rfl rfl (by kernel_rfl) ?_))
  refine W_count rows.length (fun i f N => ∃ (g : Nat), N = tokM g ∧ f = ⟨[(3, .sl 1 ((rows.take i).map (avV (h + 1))) (.tok 0 g)), (10, .sl 1 (rows.map fun r => .sl 1 (r.kids.map (avV h)) .none) .full), (11, .int .i64 (rows.length : Int)), (12, .int .i64 (i : Int))], []⟩) (Nat.zero_le _) ⟨0, rfl, rfl⟩
    ((Joint.tok 3 rfl (sz' := 1) (.inr rfl)).trans (Joint.le ?_ (tokM_of rfl rfl))) ?_
  · skip
    repeat (refine AF.le_cons rfl ?_)
    exact AF.le_nil rfl
  · rintro i f N hi ⟨g, rfl, rfl⟩
    by_cases h1 : i < rows.length
    · have d1 : decide ((i : Int) < (rows.length : Int)) = true := by simp; omega
      have hx : rows[i]? = some rows[i] := List.getElem?_eq_getElem h1
      have fi := wrap_succ (i := i) (by omega)
      have hs := take_succ hx
      have hrs := hsub rows[i] (List.getElem_mem h1)
      generalize rows[i] = r at hx hs hrs
      have lr : ((r.kids.map (avV h)).length : Int) = (r.kids.length : Int) := by simp
      repeat' (first | (show DW _ _ _ _ _ _ _ _; first | refine DW_V tabs rfl rfl rfl rfl (congrArg AV.bool d1) ?_ | refine DW_V tabs rfl rfl rfl rfl (congrArg (AV.int _) fi) ?_ | refine DW_V tabs rfl rfl rfl rfl (congrArg (AV.int _) la) ?_ | refine DW_A tabs rfl ?_ | refine DW_nil ?_ | refine DW_lits tabOK rfl rfl rfl rfl rfl rfl rfl rfl rfl rfl rfl rfl rfl ?_ | refine DW_append_own tabOK rfl rfl rfl rfl rfl rfl rfl rfl rfl rfl rfl rfl rfl rfl rfl (by simp; omega) (by simp; omega) ?_) | (show W _ _ _ _ _ _; first | refine W_seq ?_ | refine W_text rfl (fun _ _ _ h => h) ?_ | refine W_block ?_ | refine W_skip ?_ | refine W_exit ?_ | refine W_ret ?_ | refine W_true rfl ?_ | refine W_false rfl ?_ | refine W_cond rfl (fun _ => ?_) (fun _ => ?_) | refine W_draw mixed [2, 3, 0, 1, 4, 5, 6] [.R, .R, .P, .P, .P, .R, .E] rfl rfl (by kernel_rfl) ?_))
      refine DW_index tabOK rfl rfl rfl rfl rfl rfl rfl rfl rfl rfl (Int.natCast_nonneg _) (map_get hx) ?_
      repeat' (first | (show DW _ _ _ _ _ _ _ _; first | refine DW_V tabs rfl rfl rfl rfl (congrArg (AV.int _) fi) ?_ | refine DW_V tabs rfl rfl rfl rfl (congrArg (AV.int _) la) ?_ | refine DW_V tabs rfl rfl rfl rfl (congrArg (AV.int _) lr) ?_ | refine DW_A tabs rfl ?_ | refine DW_nil ?_ | refine DW_lits tabOK rfl rfl rfl rfl rfl rfl rfl rfl rfl rfl rfl rfl rfl ?_ | refine DW_append_own tabOK rfl rfl rfl rfl rfl rfl rfl rfl rfl rfl rfl rfl rfl rfl rfl (by simp; omega) (by simp; omega) ?_) | (show W _ _ _ _ _ _; first | refine W_seq ?_ | refine W_text rfl (fun _ _ _ h => h) ?_ | refine W_block ?_ | refine W_skip ?_ | refine W_exit ?_ | refine W_ret ?_ | refine W_true rfl ?_ | refine W_false rfl ?_ | refine W_cond rfl (fun _ => ?_) (fun _ => ?_) | refine W_draw mixed [2, 3, 0, 1, 4, 5, 6] [.R, .R, .P, .P, .P, .R, .E] rfl rfl (by kernel_rfl) ?_))
      refine W_count r.kids.length (fun j f N => N = tokN g [.sl 1 (r.kids.map (avV h)) .none, .int .i64 ((allL h (r.kids.take j)).length : Int)] ∧ f = ⟨[(3, .sl 1 ((rows.take i).map (avV (h + 1))) (.tok 0 g)), (6, .ptr 1 0), (10, .sl 1 (rows.map fun r => .sl 1 (r.kids.map (avV h)) .none) .full), (11, .int .i64 (rows.length : Int)), (12, .int .i64 (i : Int)), (18, .sl 1 (r.kids.map (avV h)) .none), (19, .int .i64 (r.kids.length : Int)), (20, .int .i64 (j : Int))], []⟩) (Nat.zero_le _) ⟨rfl, rfl⟩ (Joint.le ?_ (tokN_of rfl rfl rfl)) ?_
      · skip
        repeat (refine AF.le_cons rfl ?_)
        exact AF.le_nil rfl
      · rintro j f N hj ⟨rfl, rfl⟩
        by_cases h3 : j < r.kids.length
        · have d3 : decide ((j : Int) < (r.kids.length : Int)) = true := by simp; omega
          have hy : r.kids[j]? = some r.kids[j] := List.getElem?_eq_getElem h3
          have fj := wrap_succ (i := j) (by omega)
          have ht := allL_take hy
          have hle := allL_takeLe r.kids (j + 1)
          generalize r.kids[j] = y at hy ht
          rw [ht, List.length_append] at hle
          have w1 : IntKind.wrap .i64 (((allL h (r.kids.take j)).length : Int) + ((allV h y).length : Int)) = ((allL h (r.kids.take (j + 1))).length : Int) := by
            rw [ht, List.length_append]
            exact (Go.Ab.wrap_small (by omega) (by omega)).trans (by omega)
          have ky := all_ok h y
          have my := mAll h
          repeat' (first | (show DW _ _ _ _ _ _ _ _; first | refine DW_V tabs rfl rfl rfl rfl (congrArg AV.bool d3) ?_ | refine DW_V tabs rfl rfl rfl rfl (congrArg (AV.int _) fj) ?_ | refine DW_A tabs rfl ?_ | refine DW_nil ?_ | refine DW_lits tabOK rfl rfl rfl rfl rfl rfl rfl rfl rfl rfl rfl rfl rfl ?_ | refine DW_append_own tabOK rfl rfl rfl rfl rfl rfl rfl rfl rfl rfl rfl rfl rfl rfl rfl (by simp; omega) (by simp; omega) ?_) | (show W _ _ _ _ _ _; first | refine W_seq ?_ | refine W_text rfl (fun _ _ _ h => h) ?_ | refine W_block ?_ | refine W_skip ?_ | refine W_exit ?_ | refine W_ret ?_ | refine W_true rfl ?_ | refine W_false rfl ?_ | refine W_cond rfl (fun _ => ?_) (fun _ => ?_) | refine W_draw mixed [2, 3, 0, 1, 4, 5, 6] [.R, .R, .P, .P, .P, .R, .E] rfl rfl (by kernel_rfl) ?_))
          refine DW_index tabOK rfl rfl rfl rfl rfl rfl rfl rfl rfl rfl (Int.natCast_nonneg _) (vx_get hy) ?_
          repeat' (first | (show DW _ _ _ _ _ _ _ _; first | refine DW_V tabs rfl rfl rfl rfl (congrArg (AV.int _) fj) ?_ | refine DW_A tabs rfl ?_ | refine DW_nil ?_ | refine DW_lits tabOK rfl rfl rfl rfl rfl rfl rfl rfl rfl rfl rfl rfl rfl ?_ | refine DW_append_own tabOK rfl rfl rfl rfl rfl rfl rfl rfl rfl rfl rfl rfl rfl rfl rfl (by simp; omega) (by simp; omega) ?_) | (show W _ _ _ _ _ _; first | refine W_seq ?_ | refine W_text rfl (fun _ _ _ h => h) ?_ | refine W_block ?_ | refine W_skip ?_ | refine W_exit ?_ | refine W_ret ?_ | refine W_true rfl ?_ | refine W_false rfl ?_ | refine W_cond rfl (fun _ => ?_) (fun _ => ?_) | refine W_draw mixed [2, 3, 0, 1, 4, 5, 6] [.R, .R, .P, .P, .P, .R, .E] rfl rfl (by kernel_rfl) ?_))
          refine DW_invoke rfl rfl rfl rfl rfl my ky ?_
          repeat' (first | (show DW _ _ _ _ _ _ _ _; first | refine DW_V tabs rfl rfl rfl rfl (congrArg (AV.int _) fj) ?_ | refine DW_V tabs rfl rfl rfl rfl (congrArg (AV.int _) w1) ?_ | refine DW_A tabs rfl ?_ | refine DW_nil ?_ | refine DW_lits tabOK rfl rfl rfl rfl rfl rfl rfl rfl rfl rfl rfl rfl rfl ?_ | refine DW_append_own tabOK rfl rfl rfl rfl rfl rfl rfl rfl rfl rfl rfl rfl rfl rfl rfl (by simp; omega) (by simp; omega) ?_) | (show W _ _ _ _ _ _; first | refine W_seq ?_ | refine W_text rfl (fun _ _ _ h => h) ?_ | refine W_block ?_ | refine W_skip ?_ | refine W_exit ?_ | refine W_ret ?_ | refine W_true rfl ?_ | refine W_false rfl ?_ | refine W_cond rfl (fun _ => ?_) (fun _ => ?_) | refine W_draw mixed [2, 3, 0, 1, 4, 5, 6] [.R, .R, .P, .P, .P, .R, .E] rfl rfl (by kernel_rfl) ?_))
          refine ⟨h3, _, _, ⟨rfl, rfl⟩, Joint.le ?_ (tokN_of rfl rfl rfl)⟩
          repeat (refine AF.le_cons rfl ?_)
          exact AF.le_nil rfl
        · have d3 : decide ((j : Int) < (r.kids.length : Int)) = false := by simp; omega
          obtain rfl : j = r.kids.length := by omega
          repeat' (first | (show DW _ _ _ _ _ _ _ _; first | refine DW_V tabs rfl rfl rfl rfl (congrArg AV.bool d3) ?_ | refine DW_V tabs rfl rfl rfl rfl (congrArg (AV.int _) fi) ?_ | refine DW_A tabs rfl ?_ | refine DW_nil ?_ | refine DW_lits tabOK rfl rfl rfl rfl rfl rfl rfl rfl rfl rfl rfl rfl rfl ?_ | refine DW_append_own tabOK rfl rfl rfl rfl rfl rfl rfl rfl rfl rfl rfl rfl rfl rfl rfl (by simp; omega) (by simp; omega) ?_) | (show W _ _ _ _ _ _; first | refine W_seq ?_ | refine W_text rfl (fun _ _ _ h => h) ?_ | refine W_block ?_ | refine W_skip ?_ | refine W_exit ?_ | refine W_ret ?_ | refine W_true rfl ?_ | refine W_false rfl ?_ | refine W_cond rfl (fun _ => ?_) (fun _ => ?_) | refine W_draw mixed [2, 3, 0, 1, 4, 5, 6] [.R, .R, .P, .P, .P, .R, .E] rfl rfl (by kernel_rfl) ?_))
          refine ⟨h1, _, _, ⟨g + 1, rfl, rfl⟩, ?_⟩
          refine Joint.cut (k := 1) (Nat.zero_le _) (by show 1 ≤ 2; omega) rfl ⟨?_, ?_, ?_, ?_, trivial⟩ ⟨by decide, rfl, trivial⟩
          · rw [hs, ← vx1_app (n := ((allL h (r.kids.take r.kids.length)).length : Int)) (by rw [List.take_length]; rfl)]
            refine SubC.tok (by decide) ?_
            intro x hx c hc
            have hx' : x ∈ (rows.take i).map (avV (h + 1)) ++ [r].map (avV (h + 1)) := by
              rw [List.take_length] at hx
              exact hx
            rw [← List.map_append] at hx'
            rw [avs_one (h + 1) _ x hx'] at hc
            simp at hc
            exact hc ▸ avs_closed (h + 1) _ x hx'
          · exact SubC.of_closed (closed_rowsV1 h rows)
          · exact SubC.of_closed closed_int
          · exact SubC.of_closed closed_int
    · have d1 : decide ((i : Int) < (rows.length : Int)) = false := by simp; omega
      obtain rfl : i = rows.length := by omega
      repeat' (first | (show DW _ _ _ _ _ _ _ _; first | refine DW_V tabs rfl rfl rfl rfl (congrArg AV.bool d1) ?_ | refine DW_A tabs rfl ?_ | refine DW_nil ?_ | refine DW_lits tabOK rfl rfl rfl rfl rfl rfl rfl rfl rfl rfl rfl rfl rfl ?_ | refine DW_append_own tabOK rfl rfl rfl rfl rfl rfl rfl rfl rfl rfl rfl rfl rfl rfl rfl (by simp; omega) (by simp; omega) ?_) | (show W _ _ _ _ _ _; first | refine W_seq ?_ | refine W_text rfl (fun _ _ _ h => h) ?_ | refine W_block ?_ | refine W_skip ?_ | refine W_exit ?_ | refine W_ret ?_ | refine W_true rfl ?_ | refine W_false rfl ?_ | refine W_cond rfl (fun _ => ?_) (fun _ => ?_) | refine W_draw mixed [2, 3, 0, 1, 4, 5, 6] [.R, .R, .P, .P, .P, .R, .E] rfl rfl (by kernel_rfl) ?_))
      rw [List.take_length]
      exact ⟨rfl, _, rfl, _, rfl, SubC.untag (closed_vxs (h + 1) _)⟩

/-! ### first -/
theorem leafFirst_ok (p : Pr) (l : List Pr) : APure Tryd.prog 96 [.sl 3 ((p :: l).map Pr.av) .none] p.key.av := by
  refine pure_sub (closed1 (closed_prs _)) (closed_ky _) ?_
  refine acalls_of tabOK Tryd.func96 rfl (by decide) (by simp [Tryd.f96]) ?_
  repeat' (first | (show DW _ _ _ _ _ _ _ _; first | refine DW_A tabs rfl ?_ | refine DW_nil ?_ | refine DW_lits tabOK rfl rfl rfl rfl rfl rfl rfl rfl rfl rfl rfl rfl rfl ?_ | refine DW_append_own tabOK rfl rfl rfl rfl rfl rfl rfl rfl rfl rfl rfl rfl rfl rfl rfl (by simp; omega) (by simp; omega) ?_) | (show W _ _ _ _ _ _; first | refine W_seq ?_ | refine W_text rfl (fun _ _ _ h => h) ?_ | refine W_block ?_ | refine W_skip ?_ | refine W_exit ?_ | refine W_ret ?_ | refine W_true rfl ?_ | refine W_false rfl ?_ | refine W_cond rfl (fun _ => ?_) (fun _ => ?_)))
  refine DW_index tabOK rfl rfl rfl rfl rfl rfl rfl rfl rfl rfl (Int.le_refl 0) rfl ?_
  repeat' (first | (show DW _ _ _ _ _ _ _ _; first | refine DW_A tabs rfl ?_ | refine DW_nil ?_ | refine DW_lits tabOK rfl rfl rfl rfl rfl rfl rfl rfl rfl rfl rfl rfl rfl ?_ | refine DW_append_own tabOK rfl rfl rfl rfl rfl rfl rfl rfl rfl rfl rfl rfl rfl rfl rfl (by simp; omega) (by simp; omega) ?_) | (show W _ _ _ _ _ _; first | refine W_seq ?_ | refine W_text rfl (fun _ _ _ h => h) ?_ | refine W_block ?_ | refine W_skip ?_ | refine W_exit ?_ | refine W_ret ?_ | refine W_true rfl ?_ | refine W_false rfl ?_ | refine W_cond rfl (fun _ => ?_) (fun _ => ?_)))
  exact ⟨rfl, _, rfl, _, rfl, SubC.of_closed (closed_ky _)⟩
def fFirst : Nat → FuncId
  | 0 => 96
  | _ + 1 => 109
theorem mFirst (h : Nat) : methF Tryd.prog (tyV h) "sexton/tree.first" = some (fFirst h) := by
  cases h
  · show methF Tryd.prog 74 "sexton/tree.first" = some 96
    kernel_rfl
  · show methF Tryd.prog 89 "sexton/tree.first" = some 109
    kernel_rfl
theorem first_kid {h : Nat} {x : Vt h} {l : List (Vt h)} (hx : allV h x ≠ []) : firstV (h + 1) (x :: l) = firstV h x := by
  unfold firstV
  have e : allV (h + 1) (x :: l) = allV h x ++ allL h l := allL_cons x l
  rw [e]
  cases hv : allV h x with
  | nil => exact absurd hv hx
  | cons p r => rfl
set_option maxRecDepth 100000 in
theorem forkFirst_ok (h : Nat) (x : Vt h) (l : List (Vt h)) (n : Int) (k : Ky) (hk : APure Tryd.prog (fFirst h) [inV h x] k.av) : APure Tryd.prog 109 [.agg [.sl 1 ((x :: l).map (avV h)) .none, .int .i64 n]] k.av := by
  refine pure_sub (closed1 (closed_agg (closed2 (closed_vxs h _) closed_int))) (closed_ky _) ?_
  refine acalls_of tabOK Tryd.func109 rfl (by decide) (by simp [Tryd.f109]) ?_
  have my := mFirst h
  repeat' (first | (show DW _ _ _ _ _ _ _ _; first | refine DW_A tabs rfl ?_ | refine DW_nil ?_ | refine DW_lits tabOK rfl rfl rfl rfl rfl rfl rfl rfl rfl rfl rfl rfl rfl ?_ | refine DW_append_own tabOK rfl rfl rfl rfl rfl rfl rfl rfl rfl rfl rfl rfl rfl rfl rfl (by simp; omega) (by simp; omega) ?_) | (show W _ _ _ _ _ _; first | refine W_seq ?_ | refine W_text rfl (fun _ _ _ h => h) ?_ | refine W_block ?_ | refine W_skip ?_ | refine W_exit ?_ | refine W_ret ?_ | refine W_true rfl ?_ | refine W_false rfl ?_ | refine W_cond rfl (fun _ => ?_) (fun _ => ?_)))
  refine DW_index tabOK rfl rfl rfl rfl rfl rfl rfl rfl rfl rfl (Int.le_refl 0) (vx_get (l := x :: l) (i := 0) rfl) ?_
  repeat' (first | (show DW _ _ _ _ _ _ _ _; first | refine DW_A tabs rfl ?_ | refine DW_nil ?_ | refine DW_lits tabOK rfl rfl rfl rfl rfl rfl rfl rfl rfl rfl rfl rfl rfl ?_ | refine DW_append_own tabOK rfl rfl rfl rfl rfl rfl rfl rfl rfl rfl rfl rfl rfl rfl rfl (by simp; omega) (by simp; omega) ?_) | (show W _ _ _ _ _ _; first | refine W_seq ?_ | refine W_text rfl (fun _ _ _ h => h) ?_ | refine W_block ?_ | refine W_skip ?_ | refine W_exit ?_ | refine W_ret ?_ | refine W_true rfl ?_ | refine W_false rfl ?_ | refine W_cond rfl (fun _ => ?_) (fun _ => ?_)))
  refine DW_invoke rfl rfl rfl rfl rfl my hk ?_
  repeat' (first | (show DW _ _ _ _ _ _ _ _; first | refine DW_A tabs rfl ?_ | refine DW_nil ?_ | refine DW_lits tabOK rfl rfl rfl rfl rfl rfl rfl rfl rfl rfl rfl rfl rfl ?_ | refine DW_append_own tabOK rfl rfl rfl rfl rfl rfl rfl rfl rfl rfl rfl rfl rfl rfl rfl (by simp; omega) (by simp; omega) ?_) | (show W _ _ _ _ _ _; first | refine W_seq ?_ | refine W_text rfl (fun _ _ _ h => h) ?_ | refine W_block ?_ | refine W_skip ?_ | refine W_exit ?_ | refine W_ret ?_ | refine W_true rfl ?_ | refine W_false rfl ?_ | refine W_cond rfl (fun _ => ?_) (fun _ => ?_)))
  exact ⟨rfl, _, rfl, _, rfl, SubC.of_closed (closed_ky _)⟩
theorem vFirst_ok : ∀ (h : Nat) (v : Vt h), (h = 0 → allV h v ≠ []) → (0 < h → okN h v) → APure Tryd.prog (fFirst h) [inV h v] (firstV h v).av
  | 0, l, h0, _ => by
    have hne : l.row ≠ [] := h0 rfl
    obtain ⟨p, r, hl⟩ : ∃ p r, l.row = p :: r := by
      cases hl : l.row with
      | nil => exact absurd hl hne
      | cons p r => exact ⟨p, r, rfl⟩
    have e1 : inV 0 l = .sl 3 ((p :: r).map Pr.av) .none := by show AV.sl 3 (l.row.map Pr.av) .none = _; rw [hl]
    have e2 : firstV 0 l = p.key := by unfold firstV; show ((l.row).headD _).key = _; rw [hl]; rfl
    rw [e1, e2]
    exact leafFirst_ok p r
  | h + 1, l, _, h1 => by
    obtain ⟨k1, k2, k3⟩ := h1 (Nat.succ_pos h)
    obtain ⟨x, r, hl⟩ : ∃ x r, l.kids = x :: r := by
      cases hl : l.kids with
      | nil => rw [hl] at k1; simp at k1
      | cons p r => exact ⟨p, r, rfl⟩
    have hx : okN h x := k3 x (by rw [hl]; simp)
    have hne := okN_ne h x hx
    have e1 : inV (h + 1) l = .agg [.sl 1 ((x :: r).map (avV h)) .none, .int .i64 ((allV (h + 1) l).length : Int)] := by
      show AV.agg [.sl 1 (l.kids.map (avV h)) .none, .int .i64 ((allV (h + 1) l).length : Int)] = _
      rw [hl]
    have e2 : firstV (h + 1) l = firstV h x := (show firstV (h + 1) l.kids = _ by rw [hl]; exact first_kid hne)
    rw [e1, e2]
    exact forkFirst_ok h x r _ _ (vFirst_ok h x (fun _ => hne) (fun _ => hx))
end Go.Proofs.YthdeopopodhimaaDoor

/- A pair is put into a tree. No further condition. -/
set_option linter.unusedVariables false
set_option linter.unusedSimpArgs false
namespace Go.Proofs.YthdeopopodhimaaDoor
open Go.Ab

theorem belowF_ok (h : Nat) (x : Vt h) (hx : okN h x) (k : Ky) : APure Tryd.prog 115 [avV h x, .ref [.str k.path, .int .i64 k.time]] (.bool (rless k (firstV h x))) := by
  have hk := vFirst_ok h x (fun _ => okN_ne h x hx) (fun _ => hx)
  rw [avV_eq]
  intro M
  refine acalls_of tabOK Tryd.func115 rfl (by decide) (by simp [Tryd.f115]) ?_
  have my := mFirst h
  have kl := less_ok k (firstV h x)
  rw [toS_neg] at kl
  generalize firstV h x = q at hk kl
  repeat' (first | (show DW _ _ _ _ _ _ _ _; first | refine DW_A tabs rfl ?_ | refine DW_nil ?_ | refine DW_lits tabOK rfl rfl rfl rfl rfl rfl rfl rfl rfl rfl rfl rfl rfl ?_ | refine DW_append_own tabOK rfl rfl rfl rfl rfl rfl rfl rfl rfl rfl rfl rfl rfl rfl rfl (by simp; omega) (by simp; omega) ?_) | (show W _ _ _ _ _ _; first | refine W_seq ?_ | refine W_text rfl (fun _ _ _ h => h) ?_ | refine W_block ?_ | refine W_skip ?_ | refine W_exit ?_ | refine W_ret ?_ | refine W_true rfl ?_ | refine W_false rfl ?_ | refine W_cond rfl (fun _ => ?_) (fun _ => ?_) | refine W_draw mixed [1, 2, 0, 3, 4] [.R, .P, .P, .E, .P] rfl rfl (by kernel_rfl) ?_))
  refine DW_invoke rfl rfl rfl rfl rfl my hk ?_
  repeat' (first | (show DW _ _ _ _ _ _ _ _; first | refine DW_A tabs rfl ?_ | refine DW_nil ?_ | refine DW_lits tabOK rfl rfl rfl rfl rfl rfl rfl rfl rfl rfl rfl rfl rfl ?_ | refine DW_pure rfl rfl rfl rfl rfl kl ?_ | refine DW_append_own tabOK rfl rfl rfl rfl rfl rfl rfl rfl rfl rfl rfl rfl rfl rfl rfl (by simp; omega) (by simp; omega) ?_) | (show W _ _ _ _ _ _; first | refine W_seq ?_ | refine W_text rfl (fun _ _ _ h => h) ?_ | refine W_block ?_ | refine W_skip ?_ | refine W_exit ?_ | refine W_ret ?_ | refine W_true rfl ?_ | refine W_false rfl ?_ | refine W_cond rfl (fun _ => ?_) (fun _ => ?_) | refine W_draw mixed [1, 2, 0, 3, 4] [.R, .P, .P, .E, .P] rfl rfl (by kernel_rfl) ?_))
  exact ⟨rfl, _, rfl, rfl, rfl⟩

set_option maxRecDepth 100000 in
theorem below_ok (h : Nat) (l : List (Vt h)) (n : Int) (hl : l.length < 100000) (hv : ∀ v, v ∈ l → okN h v) (k : Ky) : APure Tryd.prog 113 [.agg [.sl 1 (l.map (avV h)) .none, .int .i64 n], k.av] (.int .i64 (belowV l k : Int)) := by
  intro M
  refine acalls_of tabOK Tryd.func113 rfl (by decide) (by simp [Tryd.f113]) ?_
  have kf := indexV_ok h l .none (by omega) 115 [] [.ref [.str k.path, .int .i64 k.time]] (fun v => rless k (firstV h v)) (fun x hx => belowF_ok h x (hv x hx) k)
  have la : ((l.map (avV h)).length : Int) = (l.length : Int) := by simp
  unfold idxI at kf
  unfold belowV
  have hle : (l.findIdx fun v => rless k (firstV h v)) ≤ l.length := List.findIdx_le_length
  generalize (l.findIdx fun v => rless k (firstV h v)) = j at kf hle
  have hmax : (if true = true then (if (j : Int) - 1 < 0 then 0 else (j : Int) - 1) else if 0 < (j : Int) - 1 then 0 else (j : Int) - 1) = ((j - 1 : Nat) : Int) := by
    rw [if_pos rfl]
    split <;> omega
  have w1 : IntKind.wrap .i64 ((j : Int) - 1) = (j : Int) - 1 := Go.Ab.wrap_small (by omega) (by omega)
  by_cases h1 : j < l.length
  · rw [if_pos h1] at kf
    have d1 : decide ((j : Int) < 0) = false := by simp
    repeat' (first | (show DW _ _ _ _ _ _ _ _; first | refine DW_V tabs rfl rfl rfl rfl (congrArg AV.bool d1) ?_ | refine DW_V tabs rfl rfl rfl rfl (congrArg (AV.int _) la) ?_ | refine DW_V tabs rfl rfl rfl rfl (congrArg (AV.int _) w1) ?_ | refine DW_V tabs rfl rfl rfl rfl (congrArg (AV.int _) hmax) ?_ | refine DW_A tabs rfl ?_ | refine DW_nil ?_ | refine DW_lits tabOK rfl rfl rfl rfl rfl rfl rfl rfl rfl rfl rfl rfl rfl ?_ | refine DW_pure rfl rfl rfl rfl rfl kf ?_ | refine DW_append_own tabOK rfl rfl rfl rfl rfl rfl rfl rfl rfl rfl rfl rfl rfl rfl rfl (by simp; omega) (by simp; omega) ?_) | (show W _ _ _ _ _ _; first | refine W_seq ?_ | refine W_text rfl (fun _ _ _ h => h) ?_ | refine W_block ?_ | refine W_skip ?_ | refine W_exit ?_ | refine W_ret ?_ | refine W_true rfl ?_ | refine W_false rfl ?_ | refine W_cond rfl (fun _ => ?_) (fun _ => ?_)))
    exact ⟨rfl, _, rfl, rfl, rfl⟩
  · rw [if_neg h1] at kf
    obtain rfl : j = l.length := by omega
    repeat' (first | (show DW _ _ _ _ _ _ _ _; first | refine DW_V tabs rfl rfl rfl rfl (congrArg (AV.int _) la) ?_ | refine DW_V tabs rfl rfl rfl rfl (congrArg (AV.int _) w1) ?_ | refine DW_V tabs rfl rfl rfl rfl (congrArg (AV.int _) hmax) ?_ | refine DW_A tabs rfl ?_ | refine DW_nil ?_ | refine DW_lits tabOK rfl rfl rfl rfl rfl rfl rfl rfl rfl rfl rfl rfl rfl ?_ | refine DW_pure rfl rfl rfl rfl rfl kf ?_ | refine DW_append_own tabOK rfl rfl rfl rfl rfl rfl rfl rfl rfl rfl rfl rfl rfl rfl rfl (by simp; omega) (by simp; omega) ?_) | (show W _ _ _ _ _ _; first | refine W_seq ?_ | refine W_text rfl (fun _ _ _ h => h) ?_ | refine W_block ?_ | refine W_skip ?_ | refine W_exit ?_ | refine W_ret ?_ | refine W_true rfl ?_ | refine W_false rfl ?_ | refine W_cond rfl (fun _ => ?_) (fun _ => ?_)))
    exact ⟨rfl, _, rfl, rfl, rfl⟩

set_option maxRecDepth 100000 in
theorem with_ok (h : Nat) (l : List (Vt h)) (n : Int) (hl : l.length < 10000) (i many : Nat) (him : i + many ≤ l.length) (m : List (Vt h)) (hm : m.length < 10000) (h0 : 0 < (withL l i many m).length) : APure Tryd.prog 114 [.agg [.sl 1 (l.map (avV h)) .none, .int .i64 n], .int .i64 (i : Int), .int .i64 (many : Int), .sl 1 (m.map (avV h)) .none] (.sl 1 ((withL l i many m).map (avV h)) .none) := by
  intro M
  refine acalls_of tabOK Tryd.func114 rfl (by decide) (by simp [Tryd.f114]) ?_
  have e : flatV [(l.take i, false), (m, false), (l.drop (i + many), false)] = withL l i many m := by simp [flatV, withL]
  have hlen : (withL l i many m).length ≤ l.length + m.length := by unfold withL; simp; omega
  have kc := concatV_ok h [(l.take i, false), (m, false), (l.drop (i + many), false)] true (by simp) (by rw [e]; exact h0) (by rw [e]; omega)
  rw [e] at kc
  have w1 : IntKind.wrap .i64 ((i : Int) + (many : Int)) = ((i + many : Nat) : Int) := (Go.Ab.wrap_small (by omega) (by omega)).trans (by omega)
  repeat' (first | (show DW _ _ _ _ _ _ _ _; first | refine DW_V tabs rfl rfl rfl rfl (congrArg (AV.int _) w1) ?_ | refine DW_A tabs rfl ?_ | refine DW_nil ?_ | refine DW_lits tabOK rfl rfl rfl rfl rfl rfl rfl rfl rfl rfl rfl rfl rfl ?_ | refine DW_append_own tabOK rfl rfl rfl rfl rfl rfl rfl rfl rfl rfl rfl rfl rfl rfl rfl (by simp; omega) (by simp; omega) ?_) | (show W _ _ _ _ _ _; first | refine W_seq ?_ | refine W_text rfl (fun _ _ _ h => h) ?_ | refine W_block ?_ | refine W_skip ?_ | refine W_exit ?_ | refine W_ret ?_ | refine W_true rfl ?_ | refine W_false rfl ?_ | refine W_cond rfl (fun _ => ?_) (fun _ => ?_) | refine W_draw mixed [2, 4, 7, 8, 9, 0, 1, 3, 5, 6, 10, 11, 12, 13] [.R, .R, .P, .P, .P, .R, .R, .P, .P, .P, .P, .P, .P, .P] rfl rfl (by kernel_rfl) ?_))
  refine DW_to tabOK rfl rfl rfl rfl (n := i) rfl rfl rfl rfl rfl rfl (by omega) ?_
  repeat' (first | (show DW _ _ _ _ _ _ _ _; first | refine DW_V tabs rfl rfl rfl rfl (congrArg (AV.int _) w1) ?_ | refine DW_A tabs rfl ?_ | refine DW_nil ?_ | refine DW_lits tabOK rfl rfl rfl rfl rfl rfl rfl rfl rfl rfl rfl rfl rfl ?_ | refine DW_append_own tabOK rfl rfl rfl rfl rfl rfl rfl rfl rfl rfl rfl rfl rfl rfl rfl (by simp; omega) (by simp; omega) ?_) | (show W _ _ _ _ _ _; first | refine W_seq ?_ | refine W_text rfl (fun _ _ _ h => h) ?_ | refine W_block ?_ | refine W_skip ?_ | refine W_exit ?_ | refine W_ret ?_ | refine W_true rfl ?_ | refine W_false rfl ?_ | refine W_cond rfl (fun _ => ?_) (fun _ => ?_) | refine W_draw mixed [2, 4, 7, 8, 9, 0, 1, 3, 5, 6, 10, 11, 12, 13] [.R, .R, .P, .P, .P, .R, .R, .P, .P, .P, .P, .P, .P, .P] rfl rfl (by kernel_rfl) ?_))
  refine DW_from tabOK rfl rfl rfl rfl (lo := i + many) rfl rfl rfl rfl rfl rfl him ?_
  repeat' (first | (show DW _ _ _ _ _ _ _ _; first | refine DW_A tabs rfl ?_ | refine DW_nil ?_ | refine DW_lits tabOK rfl rfl rfl rfl rfl rfl rfl rfl rfl rfl rfl rfl rfl ?_ | refine DW_pure rfl rfl rfl rfl rfl kc ?_ | refine DW_append_own tabOK rfl rfl rfl rfl rfl rfl rfl rfl rfl rfl rfl rfl rfl rfl rfl (by simp; omega) (by simp; omega) ?_) | (show W _ _ _ _ _ _; first | refine W_seq ?_ | refine W_text rfl (fun _ _ _ h => h) ?_ | refine W_block ?_ | refine W_skip ?_ | refine W_exit ?_ | refine W_ret ?_ | refine W_true rfl ?_ | refine W_false rfl ?_ | refine W_cond rfl (fun _ => ?_) (fun _ => ?_) | refine W_draw mixed [2, 4, 7, 8, 9, 0, 1, 3, 5, 6, 10, 11, 12, 13] [.R, .R, .P, .P, .P, .R, .R, .P, .P, .P, .P, .P, .P, .P] rfl rfl (by kernel_rfl) ?_))
  exact ⟨rfl, _, rfl, rfl, rfl⟩

/-! ### put -/
set_option maxRecDepth 100000 in
theorem leafPut_ok (l : List Pr) (hl : l.length < 1000) (p : Pr) : APure Tryd.prog 98 [.sl 3 (l.map Pr.av) .none, p.av] (.sl 1 ((putV 0 (l : Vt 0) p).map (avV 0)) .none) := by
  intro M
  refine acalls_of tabOK Tryd.func98 rfl (by decide) (by simp [Tryd.f98]) ?_
  have k1 := nPut_ok l (by omega) p
  have hp := putP_len l p
  have k2 := leaves_ok (putP l p) (by omega)
  repeat' (first | (show DW _ _ _ _ _ _ _ _; first | refine DW_A tabs rfl ?_ | refine DW_nil ?_ | refine DW_lits tabOK rfl rfl rfl rfl rfl rfl rfl rfl rfl rfl rfl rfl rfl ?_ | refine DW_pure rfl rfl rfl rfl rfl k1 ?_ | refine DW_pure rfl rfl rfl rfl rfl k2 ?_ | refine DW_append_own tabOK rfl rfl rfl rfl rfl rfl rfl rfl rfl rfl rfl rfl rfl rfl rfl (by simp; omega) (by simp; omega) ?_) | (show W _ _ _ _ _ _; first | refine W_seq ?_ | refine W_text rfl (fun _ _ _ h => h) ?_ | refine W_block ?_ | refine W_skip ?_ | refine W_exit ?_ | refine W_ret ?_ | refine W_true rfl ?_ | refine W_false rfl ?_ | refine W_cond rfl (fun _ => ?_) (fun _ => ?_)))
  exact ⟨rfl, _, rfl, rfl, rfl⟩
def fPut : Nat → FuncId
  | 0 => 98
  | _ + 1 => 111
theorem mPut (h : Nat) : methF Tryd.prog (tyV h) "sexton/tree.put" = some (fPut h) := by
  cases h
  · show methF Tryd.prog 74 "sexton/tree.put" = some 98
    kernel_rfl
  · show methF Tryd.prog 89 "sexton/tree.put" = some 111
    kernel_rfl
set_option maxRecDepth 100000 in
theorem forkPut_ok (h : Nat) (l : List (Vt h)) (n : Int) (p : Pr) (hl : l.length < 1000) (hv : ∀ v, v ∈ l → okN h v) (x : Vt h) (hx : l[belowV l p.key]? = some x) (r : List (Vt h)) (hr : r.length ≤ 10) (hr0 : 0 < r.length) (hs : (allL h (withL l (belowV l p.key) 1 r)).length < 1000000000)
    (hk : APure Tryd.prog (fPut h) [inV h x, p.av] (.sl 1 (r.map (avV h)) .none)) : APure Tryd.prog 111 [.agg [.sl 1 (l.map (avV h)) .none, .int .i64 n], p.av] (.sl 1 ((halvesL (withL l (belowV l p.key) 1 r) : List (Vt (h + 1))).map (avV (h + 1))) .none) := by
  intro M
  refine acalls_of tabOK Tryd.func111 rfl (by decide) (by simp [Tryd.f111]) ?_
  have kb := below_ok h l n (by omega) hv p.key
  have hlt := (List.getElem?_eq_some_iff.1 hx).1
  generalize belowV l p.key = i at kb hx hs hlt
  have hlen : (withL l i 1 r).length ≤ l.length + r.length ∧ 0 < (withL l i 1 r).length := by unfold withL; simp; omega
  have kw := with_ok h l n (by omega) i 1 (by omega) r (by omega) hlen.2
  have kf := forks_ok h (withL l i 1 r) (by omega) hs
  have my := mPut h
  repeat' (first | (show DW _ _ _ _ _ _ _ _; first | refine DW_A tabs rfl ?_ | refine DW_nil ?_ | refine DW_lits tabOK rfl rfl rfl rfl rfl rfl rfl rfl rfl rfl rfl rfl rfl ?_ | refine DW_pure rfl rfl rfl rfl rfl kb ?_ | refine DW_append_own tabOK rfl rfl rfl rfl rfl rfl rfl rfl rfl rfl rfl rfl rfl rfl rfl (by simp; omega) (by simp; omega) ?_) | (show W _ _ _ _ _ _; first | refine W_seq ?_ | refine W_text rfl (fun _ _ _ h => h) ?_ | refine W_block ?_ | refine W_skip ?_ | refine W_exit ?_ | refine W_ret ?_ | refine W_true rfl ?_ | refine W_false rfl ?_ | refine W_cond rfl (fun _ => ?_) (fun _ => ?_) | refine W_draw mixed [1, 4, 0, 2, 3, 5, 6, 7, 8, 9, 10, 11] [.R, .P, .R, .R, .P, .R, .R, .R, .P, .P, .P, .P] rfl rfl (by kernel_rfl) ?_))
  refine DW_index tabOK rfl rfl rfl rfl rfl rfl rfl rfl rfl rfl (Int.natCast_nonneg _) (vx_get hx) ?_
  repeat' (first | (show DW _ _ _ _ _ _ _ _; first | refine DW_A tabs rfl ?_ | refine DW_nil ?_ | refine DW_lits tabOK rfl rfl rfl rfl rfl rfl rfl rfl rfl rfl rfl rfl rfl ?_ | refine DW_append_own tabOK rfl rfl rfl rfl rfl rfl rfl rfl rfl rfl rfl rfl rfl rfl rfl (by simp; omega) (by simp; omega) ?_) | (show W _ _ _ _ _ _; first | refine W_seq ?_ | refine W_text rfl (fun _ _ _ h => h) ?_ | refine W_block ?_ | refine W_skip ?_ | refine W_exit ?_ | refine W_ret ?_ | refine W_true rfl ?_ | refine W_false rfl ?_ | refine W_cond rfl (fun _ => ?_) (fun _ => ?_) | refine W_draw mixed [1, 4, 0, 2, 3, 5, 6, 7, 8, 9, 10, 11] [.R, .P, .R, .R, .P, .R, .R, .R, .P, .P, .P, .P] rfl rfl (by kernel_rfl) ?_))
  refine DW_invoke rfl rfl rfl rfl rfl my hk ?_
  repeat' (first | (show DW _ _ _ _ _ _ _ _; first | refine DW_A tabs rfl ?_ | refine DW_nil ?_ | refine DW_lits tabOK rfl rfl rfl rfl rfl rfl rfl rfl rfl rfl rfl rfl rfl ?_ | refine DW_pure rfl rfl rfl rfl rfl kw ?_ | refine DW_pure rfl rfl rfl rfl rfl kf ?_ | refine DW_append_own tabOK rfl rfl rfl rfl rfl rfl rfl rfl rfl rfl rfl rfl rfl rfl rfl (by simp; omega) (by simp; omega) ?_) | (show W _ _ _ _ _ _; first | refine W_seq ?_ | refine W_text rfl (fun _ _ _ h => h) ?_ | refine W_block ?_ | refine W_skip ?_ | refine W_exit ?_ | refine W_ret ?_ | refine W_true rfl ?_ | refine W_false rfl ?_ | refine W_cond rfl (fun _ => ?_) (fun _ => ?_) | refine W_draw mixed [1, 4, 0, 2, 3, 5, 6, 7, 8, 9, 10, 11] [.R, .P, .R, .R, .P, .R, .R, .R, .P, .P, .P, .P] rfl rfl (by kernel_rfl) ?_))
  exact ⟨rfl, _, rfl, rfl, rfl⟩
theorem vPut_ok : ∀ (h : Nat) (v : Vt h) (p : Pr), okR h v → Rise (allV h v) → (allV h v).length < 100000000 → APure Tryd.prog (fPut h) [inV h v, p.av] (.sl 1 ((putV h v p).map (avV h)) .none)
  | 0, l, p, hv, _, _ => leafPut_ok l.row (by have : l.row.length ≤ 4 := hv; omega) p
  | h + 1, l, p, hv, hr, hn => by
    have hv' := hv
    obtain ⟨h1, h2, h3⟩ := hv
    have h0 : l.kids ≠ [] := by intro he; rw [he] at h1; simp at h1
    obtain ⟨a, v, b, e1, e2, e3, e4, e5⟩ := below_cut h0 h3 hr p.key
    have hvk : okN h v := h3 v (by rw [e1]; simp)
    have hall : allV (h + 1) l = allL h a ++ (allV h v ++ allL h b) := by
      show allL h l.kids = _
      rw [e1, allL_app, allL_cons]
    have hrv : Rise (allV h v) := by rw [hall] at hr; exact rise_mid hr
    have hnv : (allV h v).length < 100000000 := by rw [hall] at hn; simp at hn; omega
    obtain ⟨i1, i2, i3⟩ := put_all h v p (okN_okR hvk) hrv
    have ih := vPut_ok h v p (okN_okR hvk) hrv hnv
    have hw : withL l.kids (belowV l.kids p.key) 1 (putV h v p) = a ++ (putV h v p ++ b) := by rw [e2, e1]; exact with_at
    have hp := putP_len (allV h v) p
    have k := forkPut_ok h l.kids ((allV (h + 1) l).length : Int) p (by omega) h3 v e3 (putV h v p) (by omega) i3 (by
      rw [hw, allL_app, allL_app, i1]
      rw [hall] at hn
      simp at hn ⊢
      omega) ih
    have hp2 : putV (h + 1) l p = halvesL (withL l.kids (belowV l.kids p.key) 1 (putV h v p)) := by
      show halvesL (withL l.kids (belowV l.kids p.key) 1 (match l.kids[belowV l.kids p.key]? with
        | some kid => putV h kid p
        | none => [])) = _
      rw [e3]
    rw [hp2]
    exact k
end Go.Proofs.YthdeopopodhimaaDoor

/- What stands in a tree from a key on is told. No further condition. -/
set_option linter.unusedVariables false
set_option linter.unusedSimpArgs false
namespace Go.Proofs.YthdeopopodhimaaDoor
open Go.Ab

theorem max0_is (a b : Nat) : (if true = true then (if (a : Int) - (b : Int) < 0 then 0 else (a : Int) - (b : Int)) else if 0 < (a : Int) - (b : Int) then 0 else (a : Int) - (b : Int)) = ((a - b : Nat) : Int) := by
  rw [if_pos rfl]
  split <;> omega
theorem min2_is (a b : Nat) : (if false = true then (if (a : Int) < (b : Int) then (b : Int) else (a : Int)) else if (b : Int) < (a : Int) then (b : Int) else (a : Int)) = ((min a b : Nat) : Int) := by
  rw [if_neg (by simp)]
  split <;> omega
theorem cut_mid (l : List Pr) (i m : Nat) : (l.take (min l.length (i + m))).drop i = (l.drop i).take m := by
  rw [← List.take_take, List.take_of_length_le (l := l.take (i + m)) (by simp; omega), List.drop_take]
  congr 1
  omega

set_option maxRecDepth 100000 in
theorem leafFrom_ok (l : List Pr) (hl : l.length < 1000) (k : Ky) (out : List Pr) (ho : out.length < 100000000) (n : Nat) (hn : n < 100000000) (g : Nat) :
    ACalls Tryd.prog 97 [.sl 3 (l.map Pr.av) .none, k.av, .sl 3 (out.map Pr.av) (.tok 0 g), .int .i64 (n : Int)] (tokM g) (fun e M' => ∃ g', e = .ret (.sl 3 ((takeF out n (fromP l k)).map Pr.av) (.tok 0 g')) ∧ (tokM g').le M') := by
  refine acalls_of tabOK Tryd.func97 rfl (by decide) (by simp [Tryd.f97]) ?_
  have kf := nFind_ok l .none (by omega) k
  have hle := findP_le l k
  rw [fromP_cut]
  generalize findP l k = i at kf hle
  have la : ((l.map Pr.av).length : Int) = (l.length : Int) := by simp
  have lo : ((out.map Pr.av).length : Int) = (out.length : Int) := by simp
  have w1 : IntKind.wrap .i64 ((n : Int) - (out.length : Int)) = (n : Int) - (out.length : Int) := Go.Ab.wrap_small (by omega) (by omega)
  have hmax := max0_is n out.length
  have w2 : IntKind.wrap .i64 ((i : Int) + ((n - out.length : Nat) : Int)) = ((i + (n - out.length) : Nat) : Int) := (Go.Ab.wrap_small (by omega) (by omega)).trans (by omega)
  have hmin := min2_is l.length (i + (n - out.length))
  have hcut := cut_mid l i (n - out.length)
  repeat' (first | (show DW _ _ _ _ _ _ _ _; first | refine DW_V tabs rfl rfl rfl rfl (congrArg (AV.int _) la) ?_ | refine DW_V tabs rfl rfl rfl rfl (congrArg (AV.int _) lo) ?_ | refine DW_V tabs rfl rfl rfl rfl (congrArg (AV.int _) w1) ?_ | refine DW_V tabs rfl rfl rfl rfl (congrArg (AV.int _) hmax) ?_ | refine DW_V tabs rfl rfl rfl rfl (congrArg (AV.int _) w2) ?_ | refine DW_V tabs rfl rfl rfl rfl (congrArg (AV.int _) hmin) ?_ | refine DW_A tabs rfl ?_ | refine DW_nil ?_ | refine DW_lits tabOK rfl rfl rfl rfl rfl rfl rfl rfl rfl rfl rfl rfl rfl ?_ | refine DW_pure rfl rfl rfl rfl rfl kf ?_ | refine DW_append_own tabOK rfl rfl rfl rfl rfl rfl rfl rfl rfl rfl rfl rfl rfl rfl rfl (by simp; omega) (by simp; omega) ?_) | (show W _ _ _ _ _ _; first | refine W_seq ?_ | refine W_text rfl (fun _ _ _ h => h) ?_ | refine W_block ?_ | refine W_skip ?_ | refine W_exit ?_ | refine W_ret ?_ | refine W_true rfl ?_ | refine W_false rfl ?_ | refine W_cond rfl (fun _ => ?_) (fun _ => ?_)))
  refine DW_mid tabOK rfl rfl rfl rfl (lo := i) (n := min l.length (i + (n - out.length))) rfl rfl rfl rfl rfl rfl rfl (by omega) (by omega) ?_
  rw [hcut]
  repeat' (first | (show DW _ _ _ _ _ _ _ _; first | refine DW_A tabs rfl ?_ | refine DW_nil ?_ | refine DW_lits tabOK rfl rfl rfl rfl rfl rfl rfl rfl rfl rfl rfl rfl rfl ?_ | refine DW_append_own tabOK rfl rfl rfl rfl rfl rfl rfl rfl rfl rfl rfl rfl rfl rfl rfl (by simp; omega) (by simp; omega) ?_) | (show W _ _ _ _ _ _; first | refine W_seq ?_ | refine W_text rfl (fun _ _ _ h => h) ?_ | refine W_block ?_ | refine W_skip ?_ | refine W_exit ?_ | refine W_ret ?_ | refine W_true rfl ?_ | refine W_false rfl ?_ | refine W_cond rfl (fun _ => ?_) (fun _ => ?_)))
  exact ⟨rfl, _, rfl, g + 1, by unfold takeF; rw [List.map_append]; rfl, tokM_of rfl rfl⟩

set_option maxRecDepth 100000 in
theorem leafFrom0_ok (l : List Pr) (hl : l.length < 1000) (k : Ky) (n : Nat) (hn : n < 100000000) :
    ACalls Tryd.prog 97 [.sl 3 (l.map Pr.av) .none, k.av, .sl 0 [] .full, .int .i64 (n : Int)] ⟨0, []⟩ (fun e M' => ∃ g', e = .ret (.sl 3 ((takeF [] n (fromP l k)).map Pr.av) (.tok 0 g')) ∧ (tokM g').le M') := by
  refine acalls_of tabOK Tryd.func97 rfl (by decide) (by simp [Tryd.f97]) ?_
  have kf := nFind_ok l .none (by omega) k
  have hle := findP_le l k
  rw [fromP_cut]
  generalize findP l k = i at kf hle
  have la : ((l.map Pr.av).length : Int) = (l.length : Int) := by simp
  have lo : ((([] : List AV)).length : Int) = (0 : Nat) := by simp
  have w1 : IntKind.wrap .i64 ((n : Int) - ((0 : Nat) : Int)) = (n : Int) - ((0 : Nat) : Int) := Go.Ab.wrap_small (by omega) (by omega)
  have hmax := max0_is n 0
  have w2 : IntKind.wrap .i64 ((i : Int) + ((n - 0 : Nat) : Int)) = ((i + (n - 0) : Nat) : Int) := (Go.Ab.wrap_small (by omega) (by omega)).trans (by omega)
  have hmin := min2_is l.length (i + (n - 0))
  have hcut := cut_mid l i (n - 0)
  refine W_ghost (Joint.tok 2 rfl (sz' := 3) (.inr rfl)) ?_
  repeat' (first | (show DW _ _ _ _ _ _ _ _; first | refine DW_V tabs rfl rfl rfl rfl (congrArg (AV.int _) la) ?_ | refine DW_V tabs rfl rfl rfl rfl (congrArg (AV.int _) lo) ?_ | refine DW_V tabs rfl rfl rfl rfl (congrArg (AV.int _) w1) ?_ | refine DW_V tabs rfl rfl rfl rfl (congrArg (AV.int _) hmax) ?_ | refine DW_V tabs rfl rfl rfl rfl (congrArg (AV.int _) w2) ?_ | refine DW_V tabs rfl rfl rfl rfl (congrArg (AV.int _) hmin) ?_ | refine DW_A tabs rfl ?_ | refine DW_nil ?_ | refine DW_lits tabOK rfl rfl rfl rfl rfl rfl rfl rfl rfl rfl rfl rfl rfl ?_ | refine DW_pure rfl rfl rfl rfl rfl kf ?_ | refine DW_append_own tabOK rfl rfl rfl rfl rfl rfl rfl rfl rfl rfl rfl rfl rfl rfl rfl (by simp; omega) (by simp; omega) ?_) | (show W _ _ _ _ _ _; first | refine W_seq ?_ | refine W_text rfl (fun _ _ _ h => h) ?_ | refine W_block ?_ | refine W_skip ?_ | refine W_exit ?_ | refine W_ret ?_ | refine W_true rfl ?_ | refine W_false rfl ?_ | refine W_cond rfl (fun _ => ?_) (fun _ => ?_)))
  refine DW_mid tabOK rfl rfl rfl rfl (lo := i) (n := min l.length (i + (n - 0))) rfl rfl rfl rfl rfl rfl rfl (by omega) (by omega) ?_
  rw [hcut]
  repeat' (first | (show DW _ _ _ _ _ _ _ _; first | refine DW_A tabs rfl ?_ | refine DW_nil ?_ | refine DW_lits tabOK rfl rfl rfl rfl rfl rfl rfl rfl rfl rfl rfl rfl rfl ?_ | refine DW_append_own tabOK rfl rfl rfl rfl rfl rfl rfl rfl rfl rfl rfl rfl rfl rfl rfl (by simp; omega) (by simp; omega) ?_) | (show W _ _ _ _ _ _; first | refine W_seq ?_ | refine W_text rfl (fun _ _ _ h => h) ?_ | refine W_block ?_ | refine W_skip ?_ | refine W_exit ?_ | refine W_ret ?_ | refine W_true rfl ?_ | refine W_false rfl ?_ | refine W_cond rfl (fun _ => ?_) (fun _ => ?_)))
  exact ⟨rfl, _, rfl, 1, by unfold takeF; rw [List.map_append]; rfl, tokM_of rfl rfl⟩

def fFrom : Nat → FuncId
  | 0 => 97
  | _ + 1 => 110
theorem mFrom (h : Nat) : methF Tryd.prog (tyV h) "sexton/tree.from" = some (fFrom h) := by
  cases h
  · show methF Tryd.prog 74 "sexton/tree.from" = some 97
    kernel_rfl
  · show methF Tryd.prog 89 "sexton/tree.from" = some 110
    kernel_rfl
/-- What the loop over kids has told. -/
def fromF (out : List Pr) (n : Nat) (k : Ky) {h : Nat} (l : List (Vt h)) (i : Nat) : List Pr := takeF out n (fromP (allL h (l.take i)) k)

theorem takeF_len (out : List Pr) (n : Nat) (l : List Pr) : (takeF out n l).length ≤ max out.length n := by
  unfold takeF
  simp
  omega

def FromOK (h : Nat) : Prop := ∀ (v : Vt h) (k : Ky) (out : List Pr) (n g : Nat), okR h v → Rise (allV h v) → out.length < 100000000 → n < 100000000 →
    ACalls Tryd.prog (fFrom h) [inV h v, k.av, .sl 3 (out.map Pr.av) (.tok 0 g), .int .i64 (n : Int)] (tokM g) (fun e M' => ∃ g', e = .ret (.sl 3 ((takeF out n (fromP (allV h v) k)).map Pr.av) (.tok 0 g')) ∧ (tokM g').le M')

/-- From kid to kid. -/
theorem from_step {h : Nat} {l : List (Vt h)} {k : Ky} {out : List Pr} {n : Nat} {i : Nat} {x : Vt h} (hx : l[i]? = some x) (hi : 0 < i → ∀ p, p ∈ allV h x → rless p.key k = false) :
    takeF (fromF out n k l i) n (fromP (allV h x) k) = fromF out n k l (i + 1) := by
  unfold fromF
  rw [takeF_app, allL_take hx]
  congr 1
  by_cases h0 : i = 0
  · subst h0
    have : allL h (l.take 0) = [] := rfl
    rw [this]
    rfl
  · rw [fromP_behind (hi (by omega))]
    congr 1
    unfold fromP
    cases ha : allV h x with
    | nil => rfl
    | cons q r => rw [List.dropWhile_cons, if_neg (by rw [hi (by omega) q (by rw [ha]; simp)]; simp)]
theorem from_stop {h : Nat} {l : List (Vt h)} {k : Ky} {out : List Pr} {n : Nat} {i : Nat} (hr : Rise (allL h l)) (hf : n ≤ (fromF out n k l i).length) (hb : 0 < i ∨ n ≤ out.length) (hi : 0 < i → ∀ p, p ∈ allL h (l.drop i) → rless p.key k = false) : fromF out n k l i = fromF out n k l l.length := by
  by_cases h0 : i = 0
  · have ho : n ≤ out.length := by omega
    unfold fromF
    rw [takeF_full ho, takeF_full ho]
  · have e : allL h (l.take l.length) = allL h (l.take i) ++ allL h (l.drop i) := by rw [List.take_length, ← allL_app, List.take_append_drop]
    unfold fromF at hf ⊢
    rw [e, fromP_behind (hi (by omega)), ← takeF_app, takeF_full hf]
end Go.Proofs.YthdeopopodhimaaDoor
