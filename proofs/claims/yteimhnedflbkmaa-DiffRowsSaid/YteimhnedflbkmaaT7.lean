/- A step of the proof that the law holds: functions of the program, each shown to compute what its text says. No further condition. -/
import Derived.Test.YteimhnedflbkmaaT6
namespace Go.Proofs.Yteimhnedflbkmaa
open Go.Ab

def tokM (g : Nat) : Mem := ⟨1, [(0, .spare g)]⟩
theorem tokM_of {g : Nat} {M : Mem} (hn : 1 = M.next) (h1 : M.get 0 = some (.spare g)) : (tokM g).le M := Mem.le_cons h1 (Mem.le_nil hn)

/-- A row that was appended to, handed back. -/
theorem pure_rows {P : Program} {g : FuncId} {args : List AV} {l : List Dl} (ha : ∀ x, x ∈ args → Closed x) (h : ACalls P g args ⟨0, []⟩ (fun e _ => ∃ k n, e = .ret (.sl 2 (l.map Dl.av) (.tok k n)))) : APure P g args (.sl 2 (l.map Dl.av) .none) := by
  refine apure_of ha (closed_sl (.inl rfl) (closed_dls _) (closed_dls2 _)) ?_
  refine ACalls.mono (h.joint (R' := fun e _ => e = .ret (.sl 2 (l.map Dl.av) .none)) ?_ ?_) (fun e M he => he)
  · rintro x M' ⟨k, n, e⟩
    cases e
    refine ⟨_, ⟨0, []⟩, rfl, ?_⟩
    refine Joint.trans (g := ⟨[(0, .sl 2 (l.map Dl.av) .none)], []⟩) (Joint.le (AF.le_sub Sub.untag (AF.le_nil rfl)) (Mem.le_refl M')) (Joint.cut (Nat.le_refl _) (Nat.zero_le _) rfl ⟨SubC.of_closed ?_, trivial⟩ trivial)
    exact closed_sl (.inl rfl) (closed_dls _) (closed_dls2 _)
  · rintro x M' ⟨k, n, e⟩
    cases e

theorem sl_more (s : List Dl × Nat) (d : Dl) : AV.sl 2 (s.1.map Dl.av ++ [d.av]) (.tok 0 (s.2 + 1)) = AV.sl 2 ((more s d).1.map Dl.av) (.tok 0 (more s d).2) := sl_app

theorem closed2 {x y : AV} (hx : Closed x) (hy : Closed y) : ∀ z, z ∈ [x, y] → Closed z := by
  intro z hz
  simp only [List.mem_cons, List.not_mem_nil, or_false] at hz
  rcases hz with rfl | rfl
  · exact hx
  · exact hy
theorem closed1 {x : AV} (hx : Closed x) : ∀ z, z ∈ [x] → Closed z := by
  intro z hz
  simp only [List.mem_cons, List.not_mem_nil, or_false] at hz
  subst hz
  exact hx
theorem cl_ens (l : List En) : Closed (.sl 5 (l.map En.av) .none) := closed_sl (.inl rfl) (closed_ens _) (closed_ens2 _)
theorem cl_dls (l : List Dl) : Closed (.sl 2 (l.map Dl.av) .none) := closed_sl (.inl rfl) (closed_dls _) (closed_dls2 _)

set_option maxHeartbeats 2000000 in
theorem entries11_ok (a b : List En) (ha : smallE a) (hb : smallE b) : APure Try.prog 11 [.sl 5 (a.map En.av) .none, .sl 5 (b.map En.av) .none] (.sl 2 ((entriesS a b ([], 0)).1.map Dl.av) .none) := by
  refine pure_rows (closed2 (cl_ens a) (cl_ens b)) ?_
  have ha1 := ha.1
  have hb1 := hb.1
  refine acalls_of tabOK Try.func11 rfl (by decide) (by simp [Try.f11]) ?_
  repeat' (first
        | (show DW _ _ _ _ _ _ _ _; first
          | refine DW_Q tabs rfl rfl rfl rfl ?_
          | refine DW_nil ?_
          | refine DW_R tabOK rfl rfl rfl rfl rfl ?_
          | refine DW_E tabOK rfl rfl rfl rfl rfl ?_
          | refine DW_E0 tabOK rfl rfl rfl rfl rfl ?_
          | refine DW_no rfl rfl rfl ?_
          | refine DW_no0 rfl rfl rfl ?_
          | refine DW_lits tabOK rfl rfl rfl rfl rfl rfl rfl rfl rfl rfl rfl rfl rfl ?_
          | refine DW_append_own tabOK rfl rfl rfl rfl rfl rfl rfl rfl rfl rfl rfl rfl rfl rfl rfl (by simp; omega) (by simp; omega) ?_)
        | (show W _ _ _ _ _ _; first
          | refine W_seq ?_
          | refine W_text rfl (fun _ _ _ h => h) ?_
          | refine W_block ?_
          | refine W_skip ?_
          | refine W_exit ?_
          | refine W_ret ?_
          | refine W_true rfl ?_
          | refine W_false rfl ?_
          | refine W_cond rfl (fun _ => ?_) (fun _ => ?_)
          | refine W_draw mixed [0, 1, 2, 3, 4, 5, 6, 7, 8, 9, 10, 11, 15, 16, 12, 13, 14, 17, 18, 19, 20, 21, 22] [.P, .P, .P, .P, .P, .P, .P, .P, .P, .P, .P, .P, .R, .R, .R, .P, .P, .R, .R, .R, .P, .P, .P] rfl rfl (by kernel_rfl) ?_
          | refine W_draw mixed [0, 1, 2, 3, 4, 5, 6, 10, 11, 7, 8, 9, 12, 13, 14, 15, 16] [.P, .P, .P, .P, .P, .P, .P, .R, .R, .R, .P, .P, .R, .R, .R, .P, .P] rfl rfl (by kernel_rfl) ?_
          | refine W_draw mixed [0, 1, 5, 6, 2, 3, 4, 7, 8, 9, 10, 11] [.P, .P, .R, .R, .R, .P, .P, .R, .R, .R, .E, .P] rfl rfl (by kernel_rfl) ?_))
  refine W_loop (fun m f N => ∃ (i k : Nat) (s : List Dl × Nat), i ≤ a.length ∧ k ≤ b.length ∧ m = (a.length - i) + (b.length - k) + 1 ∧ s.1.length ≤ i + k ∧ N = tokM s.2 ∧
    walkF a.length b.length (fun i => (a.getD i default).path) (fun i => (b.getD i default).path) (stepE a b) m i k s = entriesS a b ([], 0) ∧
    f = ⟨[(0, .sl 5 (a.map En.av) .none), (1, .sl 5 (b.map En.av) .none), (5, .sl 2 (s.1.map Dl.av) (.tok 0 s.2)), (6, .int .i64 i), (7, .int .i64 k)], []⟩)
    ⟨0, 0, ([], 0), by omega, by omega, rfl, by simp, rfl, by simp [entriesS], rfl⟩
    ((Joint.tok 5 rfl (sz' := 2) (.inr rfl)).trans (Joint.le ?_ (tokM_of rfl rfl))) ?_
  · skip
    repeat (refine AF.le_cons rfl ?_)
    exact AF.le_nil rfl
  · rintro m f N ⟨i, k, s, hi, hk, rfl, hJ, rfl, hw, rfl⟩
    have hfi : i < a.length → IntKind.wrap .i64 ((i : Int) + 1) = ((i + 1 : Nat) : Int) := fun h => wrap_succ (by omega)
    have hfk : k < b.length → IntKind.wrap .i64 ((k : Int) + 1) = ((k + 1 : Nat) : Int) := fun h => wrap_succ (by omega)
    have gA : i < a.length → a[i]? = some (a.getD i default) := fun h => by simp [List.getD, h]
    have gB : k < b.length → b[k]? = some (b.getD k default) := fun h => by simp [List.getD, h]
    have la : ((a.map En.av).length : Int) = (a.length : Int) := by simp
    have lb : ((b.map En.av).length : Int) = (b.length : Int) := by simp
    by_cases h1 : i < a.length
    · have d1 : decide ((i : Int) < (a.length : Int)) = true := by simp; omega
      have d2 : decide ((a.length : Int) ≤ (i : Int)) = false := by simp; omega
      have fi := hfi h1
      have xa := gA h1
      by_cases h2 : k < b.length
      · have d3 : decide ((k : Int) < (b.length : Int)) = true := by simp; omega
        have d4 : decide ((b.length : Int) ≤ (k : Int)) = false := by simp; omega
        have fk := hfk h2
        have xb := gB h2
        repeat' (first
              | (show DW _ _ _ _ _ _ _ _; first
                | refine DW_V tabs rfl rfl rfl rfl (congrArg AV.bool d1) ?_
                | refine DW_V tabs rfl rfl rfl rfl (congrArg AV.bool d2) ?_
                | refine DW_V tabs rfl rfl rfl rfl (congrArg AV.bool d3) ?_
                | refine DW_V tabs rfl rfl rfl rfl (congrArg AV.bool d4) ?_
                | refine DW_V tabs rfl rfl rfl rfl (congrArg (AV.int _) la) ?_
                | refine DW_V tabs rfl rfl rfl rfl (congrArg (AV.int _) lb) ?_
                | refine DW_V tabs rfl rfl rfl rfl (congrArg (AV.int _) fi) ?_
                | refine DW_V tabs rfl rfl rfl rfl (congrArg (AV.int _) fk) ?_
                | refine DW_Q tabs rfl rfl rfl rfl ?_
                | refine DW_nil ?_
                | refine DW_R tabOK rfl rfl rfl rfl rfl ?_
                | refine DW_E tabOK rfl rfl rfl rfl rfl ?_
                | refine DW_E0 tabOK rfl rfl rfl rfl rfl ?_
                | refine DW_no rfl rfl rfl ?_
                | refine DW_no0 rfl rfl rfl ?_
                | refine DW_lits tabOK rfl rfl rfl rfl rfl rfl rfl rfl rfl rfl rfl rfl rfl ?_
                | refine DW_append_own tabOK rfl rfl rfl rfl rfl rfl rfl rfl rfl rfl rfl rfl rfl rfl rfl (by simp; omega) (by simp; omega) ?_)
              | (show W _ _ _ _ _ _; first
                | refine W_seq ?_
                | refine W_text rfl (fun _ _ _ h => h) ?_
                | refine W_block ?_
                | refine W_skip ?_
                | refine W_exit ?_
                | refine W_ret ?_
                | refine W_true rfl ?_
                | refine W_false rfl ?_
                | refine W_cond rfl (fun _ => ?_) (fun _ => ?_)
                | refine W_draw mixed [0, 1, 2, 3, 4, 5, 6, 7, 8, 9, 10, 11, 15, 16, 12, 13, 14, 17, 18, 19, 20, 21, 22] [.P, .P, .P, .P, .P, .P, .P, .P, .P, .P, .P, .P, .R, .R, .R, .P, .P, .R, .R, .R, .P, .P, .P] rfl rfl (by kernel_rfl) ?_
                | refine W_draw mixed [0, 1, 2, 3, 4, 5, 6, 10, 11, 7, 8, 9, 12, 13, 14, 15, 16] [.P, .P, .P, .P, .P, .P, .P, .R, .R, .R, .P, .P, .R, .R, .R, .P, .P] rfl rfl (by kernel_rfl) ?_
                | refine W_draw mixed [0, 1, 5, 6, 2, 3, 4, 7, 8, 9, 10, 11] [.P, .P, .R, .R, .R, .P, .P, .R, .R, .R, .E, .P] rfl rfl (by kernel_rfl) ?_))
        refine DW_index tabOK rfl rfl rfl rfl rfl rfl rfl rfl rfl rfl (Int.natCast_nonneg _) (map_get xa) ?_
        repeat (first
              | refine DW_Q tabs rfl rfl rfl rfl ?_
              | refine DW_R tabOK rfl rfl rfl rfl rfl ?_
              | refine DW_E tabOK rfl rfl rfl rfl rfl ?_
              | refine DW_E0 tabOK rfl rfl rfl rfl rfl ?_
              | refine DW_no rfl rfl rfl ?_
              | refine DW_no0 rfl rfl rfl ?_)
        refine DW_index tabOK rfl rfl rfl rfl rfl rfl rfl rfl rfl rfl (Int.natCast_nonneg _) (map_get xb) ?_
        repeat' (first
              | (show DW _ _ _ _ _ _ _ _; first
                | refine DW_V tabs rfl rfl rfl rfl (congrArg AV.bool d1) ?_
                | refine DW_V tabs rfl rfl rfl rfl (congrArg AV.bool d2) ?_
                | refine DW_V tabs rfl rfl rfl rfl (congrArg AV.bool d3) ?_
                | refine DW_V tabs rfl rfl rfl rfl (congrArg AV.bool d4) ?_
                | refine DW_V tabs rfl rfl rfl rfl (congrArg (AV.int _) la) ?_
                | refine DW_V tabs rfl rfl rfl rfl (congrArg (AV.int _) lb) ?_
                | refine DW_V tabs rfl rfl rfl rfl (congrArg (AV.int _) fi) ?_
                | refine DW_V tabs rfl rfl rfl rfl (congrArg (AV.int _) fk) ?_
                | refine DW_Q tabs rfl rfl rfl rfl ?_
                | refine DW_nil ?_
                | refine DW_R tabOK rfl rfl rfl rfl rfl ?_
                | refine DW_E tabOK rfl rfl rfl rfl rfl ?_
                | refine DW_E0 tabOK rfl rfl rfl rfl rfl ?_
                | refine DW_no rfl rfl rfl ?_
                | refine DW_no0 rfl rfl rfl ?_
                | refine DW_lits tabOK rfl rfl rfl rfl rfl rfl rfl rfl rfl rfl rfl rfl rfl ?_
                | refine DW_append_own tabOK rfl rfl rfl rfl rfl rfl rfl rfl rfl rfl rfl rfl rfl rfl rfl (by simp; omega) (by simp; omega) ?_)
              | (show W _ _ _ _ _ _; first
                | refine W_seq ?_
                | refine W_text rfl (fun _ _ _ h => h) ?_
                | refine W_block ?_
                | refine W_skip ?_
                | refine W_exit ?_
                | refine W_ret ?_
                | refine W_true rfl ?_
                | refine W_false rfl ?_
                | refine W_cond rfl (fun _ => ?_) (fun _ => ?_)
                | refine W_draw mixed [0, 1, 2, 3, 4, 5, 6, 7, 8, 9, 10, 11, 15, 16, 12, 13, 14, 17, 18, 19, 20, 21, 22] [.P, .P, .P, .P, .P, .P, .P, .P, .P, .P, .P, .P, .R, .R, .R, .P, .P, .R, .R, .R, .P, .P, .P] rfl rfl (by kernel_rfl) ?_
                | refine W_draw mixed [0, 1, 2, 3, 4, 5, 6, 10, 11, 7, 8, 9, 12, 13, 14, 15, 16] [.P, .P, .P, .P, .P, .P, .P, .R, .R, .R, .P, .P, .R, .R, .R, .P, .P] rfl rfl (by kernel_rfl) ?_
                | refine W_draw mixed [0, 1, 5, 6, 2, 3, 4, 7, 8, 9, 10, 11] [.P, .P, .R, .R, .R, .P, .P, .R, .R, .R, .E, .P] rfl rfl (by kernel_rfl) ?_))
        · rename_i hl
          refine DW_index tabOK rfl rfl rfl rfl rfl rfl rfl rfl rfl rfl (Int.natCast_nonneg _) (map_get xa) ?_
          repeat' (first
                | (show DW _ _ _ _ _ _ _ _; first
                  | refine DW_V tabs rfl rfl rfl rfl (congrArg AV.bool d1) ?_
                  | refine DW_V tabs rfl rfl rfl rfl (congrArg AV.bool d2) ?_
                  | refine DW_V tabs rfl rfl rfl rfl (congrArg AV.bool d3) ?_
                  | refine DW_V tabs rfl rfl rfl rfl (congrArg AV.bool d4) ?_
                  | refine DW_V tabs rfl rfl rfl rfl (congrArg (AV.int _) la) ?_
                  | refine DW_V tabs rfl rfl rfl rfl (congrArg (AV.int _) lb) ?_
                  | refine DW_V tabs rfl rfl rfl rfl (congrArg (AV.int _) fi) ?_
                  | refine DW_V tabs rfl rfl rfl rfl (congrArg (AV.int _) fk) ?_
                  | refine DW_Q tabs rfl rfl rfl rfl ?_
                  | refine DW_nil ?_
                  | refine DW_R tabOK rfl rfl rfl rfl rfl ?_
                  | refine DW_E tabOK rfl rfl rfl rfl rfl ?_
                  | refine DW_E0 tabOK rfl rfl rfl rfl rfl ?_
                  | refine DW_no rfl rfl rfl ?_
                  | refine DW_no0 rfl rfl rfl ?_
                  | refine DW_lits tabOK rfl rfl rfl rfl rfl rfl rfl rfl rfl rfl rfl rfl rfl ?_
                  | refine DW_append_own tabOK rfl rfl rfl rfl rfl rfl rfl rfl rfl rfl rfl rfl rfl rfl rfl (by simp; omega) (by simp; omega) ?_)
                | (show W _ _ _ _ _ _; first
                  | refine W_seq ?_
                  | refine W_text rfl (fun _ _ _ h => h) ?_
                  | refine W_block ?_
                  | refine W_skip ?_
                  | refine W_exit ?_
                  | refine W_ret ?_
                  | refine W_true rfl ?_
                  | refine W_false rfl ?_
                  | refine W_cond rfl (fun _ => ?_) (fun _ => ?_)
                  | refine W_draw mixed [0, 1, 2, 3, 4, 5, 6, 7, 8, 9, 10, 11, 15, 16, 12, 13, 14, 17, 18, 19, 20, 21, 22] [.P, .P, .P, .P, .P, .P, .P, .P, .P, .P, .P, .P, .R, .R, .R, .P, .P, .R, .R, .R, .P, .P, .P] rfl rfl (by kernel_rfl) ?_
                  | refine W_draw mixed [0, 1, 2, 3, 4, 5, 6, 10, 11, 7, 8, 9, 12, 13, 14, 15, 16] [.P, .P, .P, .P, .P, .P, .P, .R, .R, .R, .P, .P, .R, .R, .R, .P, .P] rfl rfl (by kernel_rfl) ?_
                  | refine W_draw mixed [0, 1, 5, 6, 2, 3, 4, 7, 8, 9, 10, 11] [.P, .P, .R, .R, .R, .P, .P, .R, .R, .R, .E, .P] rfl rfl (by kernel_rfl) ?_))
          have e : stepE a b s (i : Int) (-1 : Int) = more s ⟨(a.getD i default).path, 3⟩ := by
            have h1 : ¬ ((i : Int) < 0) := by omega
            have h2 : ¬ ((k : Int) < 0) := by omega
            simp only [stepE, if_neg h1, Int.toNat_natCast]; rfl
          refine ⟨(a.length - (i + 1)) + (b.length - (k)) + 1, _, _, by omega, ⟨i + 1, k, more s ⟨(a.getD i default).path, 3⟩, by omega, by omega, rfl, ?_, rfl, ?_, rfl⟩, Joint.le ?_ (tokM_of rfl rfl)⟩
          · simp [more]; omega
          · rw [← hw, show a.length - i + (b.length - k) + 1 = ((a.length - (i + 1)) + (b.length - (k)) + 1) + 1 from by omega, walkF_1 h1 (.inr hl), e]
          · refine AF.le_cons rfl (AF.le_cons rfl (AF.le_cons (sl_more s ⟨(a.getD i default).path, 3⟩) (AF.le_cons rfl (AF.le_cons rfl (AF.le_nil rfl)))))
        · rename_i hl
          refine DW_index tabOK rfl rfl rfl rfl rfl rfl rfl rfl rfl rfl (Int.natCast_nonneg _) (map_get xb) ?_
          repeat (first
                | refine DW_Q tabs rfl rfl rfl rfl ?_
                | refine DW_R tabOK rfl rfl rfl rfl rfl ?_
                | refine DW_E tabOK rfl rfl rfl rfl rfl ?_
                | refine DW_E0 tabOK rfl rfl rfl rfl rfl ?_
                | refine DW_no rfl rfl rfl ?_
                | refine DW_no0 rfl rfl rfl ?_)
          refine DW_index tabOK rfl rfl rfl rfl rfl rfl rfl rfl rfl rfl (Int.natCast_nonneg _) (map_get xa) ?_
          repeat' (first
                | (show DW _ _ _ _ _ _ _ _; first
                  | refine DW_V tabs rfl rfl rfl rfl (congrArg AV.bool d1) ?_
                  | refine DW_V tabs rfl rfl rfl rfl (congrArg AV.bool d2) ?_
                  | refine DW_V tabs rfl rfl rfl rfl (congrArg AV.bool d3) ?_
                  | refine DW_V tabs rfl rfl rfl rfl (congrArg AV.bool d4) ?_
                  | refine DW_V tabs rfl rfl rfl rfl (congrArg (AV.int _) la) ?_
                  | refine DW_V tabs rfl rfl rfl rfl (congrArg (AV.int _) lb) ?_
                  | refine DW_V tabs rfl rfl rfl rfl (congrArg (AV.int _) fi) ?_
                  | refine DW_V tabs rfl rfl rfl rfl (congrArg (AV.int _) fk) ?_
                  | refine DW_Q tabs rfl rfl rfl rfl ?_
                  | refine DW_nil ?_
                  | refine DW_R tabOK rfl rfl rfl rfl rfl ?_
                  | refine DW_E tabOK rfl rfl rfl rfl rfl ?_
                  | refine DW_E0 tabOK rfl rfl rfl rfl rfl ?_
                  | refine DW_no rfl rfl rfl ?_
                  | refine DW_no0 rfl rfl rfl ?_
                  | refine DW_lits tabOK rfl rfl rfl rfl rfl rfl rfl rfl rfl rfl rfl rfl rfl ?_
                  | refine DW_append_own tabOK rfl rfl rfl rfl rfl rfl rfl rfl rfl rfl rfl rfl rfl rfl rfl (by simp; omega) (by simp; omega) ?_)
                | (show W _ _ _ _ _ _; first
                  | refine W_seq ?_
                  | refine W_text rfl (fun _ _ _ h => h) ?_
                  | refine W_block ?_
                  | refine W_skip ?_
                  | refine W_exit ?_
                  | refine W_ret ?_
                  | refine W_true rfl ?_
                  | refine W_false rfl ?_
                  | refine W_cond rfl (fun _ => ?_) (fun _ => ?_)
                  | refine W_draw mixed [0, 1, 2, 3, 4, 5, 6, 7, 8, 9, 10, 11, 15, 16, 12, 13, 14, 17, 18, 19, 20, 21, 22] [.P, .P, .P, .P, .P, .P, .P, .P, .P, .P, .P, .P, .R, .R, .R, .P, .P, .R, .R, .R, .P, .P, .P] rfl rfl (by kernel_rfl) ?_
                  | refine W_draw mixed [0, 1, 2, 3, 4, 5, 6, 10, 11, 7, 8, 9, 12, 13, 14, 15, 16] [.P, .P, .P, .P, .P, .P, .P, .R, .R, .R, .P, .P, .R, .R, .R, .P, .P] rfl rfl (by kernel_rfl) ?_
                  | refine W_draw mixed [0, 1, 5, 6, 2, 3, 4, 7, 8, 9, 10, 11] [.P, .P, .R, .R, .R, .P, .P, .R, .R, .R, .E, .P] rfl rfl (by kernel_rfl) ?_))
          · rename_i hl2
            refine DW_index tabOK rfl rfl rfl rfl rfl rfl rfl rfl rfl rfl (Int.natCast_nonneg _) (map_get xb) ?_
            repeat' (first
                  | (show DW _ _ _ _ _ _ _ _; first
                    | refine DW_V tabs rfl rfl rfl rfl (congrArg AV.bool d1) ?_
                    | refine DW_V tabs rfl rfl rfl rfl (congrArg AV.bool d2) ?_
                    | refine DW_V tabs rfl rfl rfl rfl (congrArg AV.bool d3) ?_
                    | refine DW_V tabs rfl rfl rfl rfl (congrArg AV.bool d4) ?_
                    | refine DW_V tabs rfl rfl rfl rfl (congrArg (AV.int _) la) ?_
                    | refine DW_V tabs rfl rfl rfl rfl (congrArg (AV.int _) lb) ?_
                    | refine DW_V tabs rfl rfl rfl rfl (congrArg (AV.int _) fi) ?_
                    | refine DW_V tabs rfl rfl rfl rfl (congrArg (AV.int _) fk) ?_
                    | refine DW_Q tabs rfl rfl rfl rfl ?_
                    | refine DW_nil ?_
                    | refine DW_R tabOK rfl rfl rfl rfl rfl ?_
                    | refine DW_E tabOK rfl rfl rfl rfl rfl ?_
                    | refine DW_E0 tabOK rfl rfl rfl rfl rfl ?_
                    | refine DW_no rfl rfl rfl ?_
                    | refine DW_no0 rfl rfl rfl ?_
                    | refine DW_lits tabOK rfl rfl rfl rfl rfl rfl rfl rfl rfl rfl rfl rfl rfl ?_
                    | refine DW_append_own tabOK rfl rfl rfl rfl rfl rfl rfl rfl rfl rfl rfl rfl rfl rfl rfl (by simp; omega) (by simp; omega) ?_)
                  | (show W _ _ _ _ _ _; first
                    | refine W_seq ?_
                    | refine W_text rfl (fun _ _ _ h => h) ?_
                    | refine W_block ?_
                    | refine W_skip ?_
                    | refine W_exit ?_
                    | refine W_ret ?_
                    | refine W_true rfl ?_
                    | refine W_false rfl ?_
                    | refine W_cond rfl (fun _ => ?_) (fun _ => ?_)
                    | refine W_draw mixed [0, 1, 2, 3, 4, 5, 6, 7, 8, 9, 10, 11, 15, 16, 12, 13, 14, 17, 18, 19, 20, 21, 22] [.P, .P, .P, .P, .P, .P, .P, .P, .P, .P, .P, .P, .R, .R, .R, .P, .P, .R, .R, .R, .P, .P, .P] rfl rfl (by kernel_rfl) ?_
                    | refine W_draw mixed [0, 1, 2, 3, 4, 5, 6, 10, 11, 7, 8, 9, 12, 13, 14, 15, 16] [.P, .P, .P, .P, .P, .P, .P, .R, .R, .R, .P, .P, .R, .R, .R, .P, .P] rfl rfl (by kernel_rfl) ?_
                    | refine W_draw mixed [0, 1, 5, 6, 2, 3, 4, 7, 8, 9, 10, 11] [.P, .P, .R, .R, .R, .P, .P, .R, .R, .R, .E, .P] rfl rfl (by kernel_rfl) ?_))
            have e : stepE a b s (-1 : Int) (k : Int) = more s ⟨(b.getD k default).path, 1⟩ := by
              have h1 : ¬ ((i : Int) < 0) := by omega
              have h2 : ¬ ((k : Int) < 0) := by omega
              simp only [stepE, Int.toNat_natCast]; rfl
            refine ⟨(a.length - (i)) + (b.length - (k + 1)) + 1, _, _, by omega, ⟨i, k + 1, more s ⟨(b.getD k default).path, 1⟩, by omega, by omega, rfl, ?_, rfl, ?_, rfl⟩, Joint.le ?_ (tokM_of rfl rfl)⟩
            · simp [more]; omega
            · rw [← hw, show a.length - i + (b.length - k) + 1 = ((a.length - (i)) + (b.length - (k + 1)) + 1) + 1 from by omega, walkF_2 h2 (fun _ => hl) (.inr hl2), e]
            · refine AF.le_cons rfl (AF.le_cons rfl (AF.le_cons (sl_more s ⟨(b.getD k default).path, 1⟩) (AF.le_cons rfl (AF.le_cons rfl (AF.le_nil rfl)))))
          · rename_i hl2
            refine DW_index tabOK rfl rfl rfl rfl rfl rfl rfl rfl rfl rfl (Int.natCast_nonneg _) (map_get xa) ?_
            repeat (first
                  | refine DW_Q tabs rfl rfl rfl rfl ?_
                  | refine DW_R tabOK rfl rfl rfl rfl rfl ?_
                  | refine DW_E tabOK rfl rfl rfl rfl rfl ?_
                  | refine DW_E0 tabOK rfl rfl rfl rfl rfl ?_
                  | refine DW_no rfl rfl rfl ?_
                  | refine DW_no0 rfl rfl rfl ?_)
            refine DW_index tabOK rfl rfl rfl rfl rfl rfl rfl rfl rfl rfl (Int.natCast_nonneg _) (map_get xb) ?_
            repeat (first
                  | refine DW_Q tabs rfl rfl rfl rfl ?_
                  | refine DW_R tabOK rfl rfl rfl rfl rfl ?_
                  | refine DW_E tabOK rfl rfl rfl rfl rfl ?_
                  | refine DW_E0 tabOK rfl rfl rfl rfl rfl ?_
                  | refine DW_no rfl rfl rfl ?_
                  | refine DW_no0 rfl rfl rfl ?_)
            refine DW_pure rfl rfl rfl rfl rfl (same21_ok (a.getD i default).info (b.getD k default).info (ha.2 _ (List.mem_of_getElem? xa))) ?_
            repeat' (first
                  | (show DW _ _ _ _ _ _ _ _; first
                    | refine DW_V tabs rfl rfl rfl rfl (congrArg AV.bool d1) ?_
                    | refine DW_V tabs rfl rfl rfl rfl (congrArg AV.bool d2) ?_
                    | refine DW_V tabs rfl rfl rfl rfl (congrArg AV.bool d3) ?_
                    | refine DW_V tabs rfl rfl rfl rfl (congrArg AV.bool d4) ?_
                    | refine DW_V tabs rfl rfl rfl rfl (congrArg (AV.int _) la) ?_
                    | refine DW_V tabs rfl rfl rfl rfl (congrArg (AV.int _) lb) ?_
                    | refine DW_V tabs rfl rfl rfl rfl (congrArg (AV.int _) fi) ?_
                    | refine DW_V tabs rfl rfl rfl rfl (congrArg (AV.int _) fk) ?_
                    | refine DW_Q tabs rfl rfl rfl rfl ?_
                    | refine DW_nil ?_
                    | refine DW_R tabOK rfl rfl rfl rfl rfl ?_
                    | refine DW_E tabOK rfl rfl rfl rfl rfl ?_
                    | refine DW_E0 tabOK rfl rfl rfl rfl rfl ?_
                    | refine DW_no rfl rfl rfl ?_
                    | refine DW_no0 rfl rfl rfl ?_
                    | refine DW_lits tabOK rfl rfl rfl rfl rfl rfl rfl rfl rfl rfl rfl rfl rfl ?_
                    | refine DW_append_own tabOK rfl rfl rfl rfl rfl rfl rfl rfl rfl rfl rfl rfl rfl rfl rfl (by simp; omega) (by simp; omega) ?_)
                  | (show W _ _ _ _ _ _; first
                    | refine W_seq ?_
                    | refine W_text rfl (fun _ _ _ h => h) ?_
                    | refine W_block ?_
                    | refine W_skip ?_
                    | refine W_exit ?_
                    | refine W_ret ?_
                    | refine W_true rfl ?_
                    | refine W_false rfl ?_
                    | refine W_cond rfl (fun _ => ?_) (fun _ => ?_)
                    | refine W_draw mixed [0, 1, 2, 3, 4, 5, 6, 7, 8, 9, 10, 11, 15, 16, 12, 13, 14, 17, 18, 19, 20, 21, 22] [.P, .P, .P, .P, .P, .P, .P, .P, .P, .P, .P, .P, .R, .R, .R, .P, .P, .R, .R, .R, .P, .P, .P] rfl rfl (by kernel_rfl) ?_
                    | refine W_draw mixed [0, 1, 2, 3, 4, 5, 6, 10, 11, 7, 8, 9, 12, 13, 14, 15, 16] [.P, .P, .P, .P, .P, .P, .P, .R, .R, .R, .P, .P, .R, .R, .R, .P, .P] rfl rfl (by kernel_rfl) ?_
                    | refine W_draw mixed [0, 1, 5, 6, 2, 3, 4, 7, 8, 9, 10, 11] [.P, .P, .R, .R, .R, .P, .P, .R, .R, .R, .E, .P] rfl rfl (by kernel_rfl) ?_))
            · rename_i hm
              have hm : ¬ (a.getD i default).info = (b.getD k default).info := by simpa using hm
              refine DW_index tabOK rfl rfl rfl rfl rfl rfl rfl rfl rfl rfl (Int.natCast_nonneg _) (map_get xa) ?_
              repeat' (first
                    | (show DW _ _ _ _ _ _ _ _; first
                      | refine DW_V tabs rfl rfl rfl rfl (congrArg AV.bool d1) ?_
                      | refine DW_V tabs rfl rfl rfl rfl (congrArg AV.bool d2) ?_
                      | refine DW_V tabs rfl rfl rfl rfl (congrArg AV.bool d3) ?_
                      | refine DW_V tabs rfl rfl rfl rfl (congrArg AV.bool d4) ?_
                      | refine DW_V tabs rfl rfl rfl rfl (congrArg (AV.int _) la) ?_
                      | refine DW_V tabs rfl rfl rfl rfl (congrArg (AV.int _) lb) ?_
                      | refine DW_V tabs rfl rfl rfl rfl (congrArg (AV.int _) fi) ?_
                      | refine DW_V tabs rfl rfl rfl rfl (congrArg (AV.int _) fk) ?_
                      | refine DW_Q tabs rfl rfl rfl rfl ?_
                      | refine DW_nil ?_
                      | refine DW_R tabOK rfl rfl rfl rfl rfl ?_
                      | refine DW_E tabOK rfl rfl rfl rfl rfl ?_
                      | refine DW_E0 tabOK rfl rfl rfl rfl rfl ?_
                      | refine DW_no rfl rfl rfl ?_
                      | refine DW_no0 rfl rfl rfl ?_
                      | refine DW_lits tabOK rfl rfl rfl rfl rfl rfl rfl rfl rfl rfl rfl rfl rfl ?_
                      | refine DW_append_own tabOK rfl rfl rfl rfl rfl rfl rfl rfl rfl rfl rfl rfl rfl rfl rfl (by simp; omega) (by simp; omega) ?_)
                    | (show W _ _ _ _ _ _; first
                      | refine W_seq ?_
                      | refine W_text rfl (fun _ _ _ h => h) ?_
                      | refine W_block ?_
                      | refine W_skip ?_
                      | refine W_exit ?_
                      | refine W_ret ?_
                      | refine W_true rfl ?_
                      | refine W_false rfl ?_
                      | refine W_cond rfl (fun _ => ?_) (fun _ => ?_)
                      | refine W_draw mixed [0, 1, 2, 3, 4, 5, 6, 7, 8, 9, 10, 11, 15, 16, 12, 13, 14, 17, 18, 19, 20, 21, 22] [.P, .P, .P, .P, .P, .P, .P, .P, .P, .P, .P, .P, .R, .R, .R, .P, .P, .R, .R, .R, .P, .P, .P] rfl rfl (by kernel_rfl) ?_
                      | refine W_draw mixed [0, 1, 2, 3, 4, 5, 6, 10, 11, 7, 8, 9, 12, 13, 14, 15, 16] [.P, .P, .P, .P, .P, .P, .P, .R, .R, .R, .P, .P, .R, .R, .R, .P, .P] rfl rfl (by kernel_rfl) ?_
                      | refine W_draw mixed [0, 1, 5, 6, 2, 3, 4, 7, 8, 9, 10, 11] [.P, .P, .R, .R, .R, .P, .P, .R, .R, .R, .E, .P] rfl rfl (by kernel_rfl) ?_))
              have e : stepE a b s (i : Int) (k : Int) = more s ⟨(a.getD i default).path, 2⟩ := by
                have h1 : ¬ ((i : Int) < 0) := by omega
                have h2 : ¬ ((k : Int) < 0) := by omega
                simp only [stepE, if_neg h1, if_neg h2, Int.toNat_natCast]
                rw [if_neg hm]
              refine ⟨(a.length - (i + 1)) + (b.length - (k + 1)) + 1, _, _, by omega, ⟨i + 1, k + 1, more s ⟨(a.getD i default).path, 2⟩, by omega, by omega, rfl, ?_, rfl, ?_, rfl⟩, Joint.le ?_ (tokM_of rfl rfl)⟩
              · simp [more]; omega
              · rw [← hw, show a.length - i + (b.length - k) + 1 = (a.length - (i + 1) + (b.length - (k + 1)) + 1) + 1 + 1 from by omega, walkF_3 h1 h2 hl hl2, e]
                exact (walkF_more (by omega)).symm
              · refine AF.le_cons rfl (AF.le_cons rfl (AF.le_cons (sl_more s ⟨(a.getD i default).path, 2⟩) (AF.le_cons rfl (AF.le_cons rfl (AF.le_nil rfl)))))
            · rename_i hm
              have hm : (a.getD i default).info = (b.getD k default).info := by simpa using hm
              have e : stepE a b s (i : Int) (k : Int) = s := by
                have h1 : ¬ ((i : Int) < 0) := by omega
                have h2 : ¬ ((k : Int) < 0) := by omega
                simp only [stepE, if_neg h1, if_neg h2, Int.toNat_natCast]
                rw [if_pos hm]
              refine ⟨(a.length - (i + 1)) + (b.length - (k + 1)) + 1, _, _, by omega, ⟨i + 1, k + 1, s, by omega, by omega, rfl, ?_, rfl, ?_, rfl⟩, Joint.le ?_ (tokM_of rfl rfl)⟩
              · omega
              · rw [← hw, show a.length - i + (b.length - k) + 1 = (a.length - (i + 1) + (b.length - (k + 1)) + 1) + 1 + 1 from by omega, walkF_3 h1 h2 hl hl2, e]
                exact (walkF_more (by omega)).symm
              · refine AF.le_cons rfl (AF.le_cons rfl (AF.le_cons rfl (AF.le_cons rfl (AF.le_cons rfl (AF.le_nil rfl)))))
      · have d3 : decide ((k : Int) < (b.length : Int)) = false := by simp; omega
        have d4 : decide ((b.length : Int) ≤ (k : Int)) = true := by simp; omega
        repeat' (first
              | (show DW _ _ _ _ _ _ _ _; first
                | refine DW_V tabs rfl rfl rfl rfl (congrArg AV.bool d1) ?_
                | refine DW_V tabs rfl rfl rfl rfl (congrArg AV.bool d2) ?_
                | refine DW_V tabs rfl rfl rfl rfl (congrArg AV.bool d3) ?_
                | refine DW_V tabs rfl rfl rfl rfl (congrArg AV.bool d4) ?_
                | refine DW_V tabs rfl rfl rfl rfl (congrArg (AV.int _) la) ?_
                | refine DW_V tabs rfl rfl rfl rfl (congrArg (AV.int _) lb) ?_
                | refine DW_V tabs rfl rfl rfl rfl (congrArg (AV.int _) fi) ?_
                | refine DW_Q tabs rfl rfl rfl rfl ?_
                | refine DW_nil ?_
                | refine DW_R tabOK rfl rfl rfl rfl rfl ?_
                | refine DW_E tabOK rfl rfl rfl rfl rfl ?_
                | refine DW_E0 tabOK rfl rfl rfl rfl rfl ?_
                | refine DW_no rfl rfl rfl ?_
                | refine DW_no0 rfl rfl rfl ?_
                | refine DW_lits tabOK rfl rfl rfl rfl rfl rfl rfl rfl rfl rfl rfl rfl rfl ?_
                | refine DW_append_own tabOK rfl rfl rfl rfl rfl rfl rfl rfl rfl rfl rfl rfl rfl rfl rfl (by simp; omega) (by simp; omega) ?_)
              | (show W _ _ _ _ _ _; first
                | refine W_seq ?_
                | refine W_text rfl (fun _ _ _ h => h) ?_
                | refine W_block ?_
                | refine W_skip ?_
                | refine W_exit ?_
                | refine W_ret ?_
                | refine W_true rfl ?_
                | refine W_false rfl ?_
                | refine W_cond rfl (fun _ => ?_) (fun _ => ?_)
                | refine W_draw mixed [0, 1, 2, 3, 4, 5, 6, 7, 8, 9, 10, 11, 15, 16, 12, 13, 14, 17, 18, 19, 20, 21, 22] [.P, .P, .P, .P, .P, .P, .P, .P, .P, .P, .P, .P, .R, .R, .R, .P, .P, .R, .R, .R, .P, .P, .P] rfl rfl (by kernel_rfl) ?_
                | refine W_draw mixed [0, 1, 2, 3, 4, 5, 6, 10, 11, 7, 8, 9, 12, 13, 14, 15, 16] [.P, .P, .P, .P, .P, .P, .P, .R, .R, .R, .P, .P, .R, .R, .R, .P, .P] rfl rfl (by kernel_rfl) ?_
                | refine W_draw mixed [0, 1, 5, 6, 2, 3, 4, 7, 8, 9, 10, 11] [.P, .P, .R, .R, .R, .P, .P, .R, .R, .R, .E, .P] rfl rfl (by kernel_rfl) ?_))
        refine DW_index tabOK rfl rfl rfl rfl rfl rfl rfl rfl rfl rfl (Int.natCast_nonneg _) (map_get xa) ?_
        repeat' (first
              | (show DW _ _ _ _ _ _ _ _; first
                | refine DW_V tabs rfl rfl rfl rfl (congrArg AV.bool d1) ?_
                | refine DW_V tabs rfl rfl rfl rfl (congrArg AV.bool d2) ?_
                | refine DW_V tabs rfl rfl rfl rfl (congrArg AV.bool d3) ?_
                | refine DW_V tabs rfl rfl rfl rfl (congrArg AV.bool d4) ?_
                | refine DW_V tabs rfl rfl rfl rfl (congrArg (AV.int _) la) ?_
                | refine DW_V tabs rfl rfl rfl rfl (congrArg (AV.int _) lb) ?_
                | refine DW_V tabs rfl rfl rfl rfl (congrArg (AV.int _) fi) ?_
                | refine DW_Q tabs rfl rfl rfl rfl ?_
                | refine DW_nil ?_
                | refine DW_R tabOK rfl rfl rfl rfl rfl ?_
                | refine DW_E tabOK rfl rfl rfl rfl rfl ?_
                | refine DW_E0 tabOK rfl rfl rfl rfl rfl ?_
                | refine DW_no rfl rfl rfl ?_
                | refine DW_no0 rfl rfl rfl ?_
                | refine DW_lits tabOK rfl rfl rfl rfl rfl rfl rfl rfl rfl rfl rfl rfl rfl ?_
                | refine DW_append_own tabOK rfl rfl rfl rfl rfl rfl rfl rfl rfl rfl rfl rfl rfl rfl rfl (by simp; omega) (by simp; omega) ?_)
              | (show W _ _ _ _ _ _; first
                | refine W_seq ?_
                | refine W_text rfl (fun _ _ _ h => h) ?_
                | refine W_block ?_
                | refine W_skip ?_
                | refine W_exit ?_
                | refine W_ret ?_
                | refine W_true rfl ?_
                | refine W_false rfl ?_
                | refine W_cond rfl (fun _ => ?_) (fun _ => ?_)
                | refine W_draw mixed [0, 1, 2, 3, 4, 5, 6, 7, 8, 9, 10, 11, 15, 16, 12, 13, 14, 17, 18, 19, 20, 21, 22] [.P, .P, .P, .P, .P, .P, .P, .P, .P, .P, .P, .P, .R, .R, .R, .P, .P, .R, .R, .R, .P, .P, .P] rfl rfl (by kernel_rfl) ?_
                | refine W_draw mixed [0, 1, 2, 3, 4, 5, 6, 10, 11, 7, 8, 9, 12, 13, 14, 15, 16] [.P, .P, .P, .P, .P, .P, .P, .R, .R, .R, .P, .P, .R, .R, .R, .P, .P] rfl rfl (by kernel_rfl) ?_
                | refine W_draw mixed [0, 1, 5, 6, 2, 3, 4, 7, 8, 9, 10, 11] [.P, .P, .R, .R, .R, .P, .P, .R, .R, .R, .E, .P] rfl rfl (by kernel_rfl) ?_))
        have e : stepE a b s (i : Int) (-1 : Int) = more s ⟨(a.getD i default).path, 3⟩ := by
          have h1 : ¬ ((i : Int) < 0) := by omega
          have h2 : ¬ ((k : Int) < 0) := by omega
          simp only [stepE, if_neg h1, Int.toNat_natCast]; rfl
        refine ⟨(a.length - (i + 1)) + (b.length - (k)) + 1, _, _, by omega, ⟨i + 1, k, more s ⟨(a.getD i default).path, 3⟩, by omega, by omega, rfl, ?_, rfl, ?_, rfl⟩, Joint.le ?_ (tokM_of rfl rfl)⟩
        · simp [more]; omega
        · rw [← hw, show a.length - i + (b.length - k) + 1 = ((a.length - (i + 1)) + (b.length - (k)) + 1) + 1 from by omega, walkF_1 h1 (.inl (by omega)), e]
        · refine AF.le_cons rfl (AF.le_cons rfl (AF.le_cons (sl_more s ⟨(a.getD i default).path, 3⟩) (AF.le_cons rfl (AF.le_cons rfl (AF.le_nil rfl)))))
    · have d1 : decide ((i : Int) < (a.length : Int)) = false := by simp; omega
      have d2 : decide ((a.length : Int) ≤ (i : Int)) = true := by simp; omega
      by_cases h2 : k < b.length
      · have d3 : decide ((k : Int) < (b.length : Int)) = true := by simp; omega
        have d4 : decide ((b.length : Int) ≤ (k : Int)) = false := by simp; omega
        have fk := hfk h2
        have xb := gB h2
        repeat' (first
              | (show DW _ _ _ _ _ _ _ _; first
                | refine DW_V tabs rfl rfl rfl rfl (congrArg AV.bool d1) ?_
                | refine DW_V tabs rfl rfl rfl rfl (congrArg AV.bool d2) ?_
                | refine DW_V tabs rfl rfl rfl rfl (congrArg AV.bool d3) ?_
                | refine DW_V tabs rfl rfl rfl rfl (congrArg AV.bool d4) ?_
                | refine DW_V tabs rfl rfl rfl rfl (congrArg (AV.int _) la) ?_
                | refine DW_V tabs rfl rfl rfl rfl (congrArg (AV.int _) lb) ?_
                | refine DW_V tabs rfl rfl rfl rfl (congrArg (AV.int _) fk) ?_
                | refine DW_Q tabs rfl rfl rfl rfl ?_
                | refine DW_nil ?_
                | refine DW_R tabOK rfl rfl rfl rfl rfl ?_
                | refine DW_E tabOK rfl rfl rfl rfl rfl ?_
                | refine DW_E0 tabOK rfl rfl rfl rfl rfl ?_
                | refine DW_no rfl rfl rfl ?_
                | refine DW_no0 rfl rfl rfl ?_
                | refine DW_lits tabOK rfl rfl rfl rfl rfl rfl rfl rfl rfl rfl rfl rfl rfl ?_
                | refine DW_append_own tabOK rfl rfl rfl rfl rfl rfl rfl rfl rfl rfl rfl rfl rfl rfl rfl (by simp; omega) (by simp; omega) ?_)
              | (show W _ _ _ _ _ _; first
                | refine W_seq ?_
                | refine W_text rfl (fun _ _ _ h => h) ?_
                | refine W_block ?_
                | refine W_skip ?_
                | refine W_exit ?_
                | refine W_ret ?_
                | refine W_true rfl ?_
                | refine W_false rfl ?_
                | refine W_cond rfl (fun _ => ?_) (fun _ => ?_)
                | refine W_draw mixed [0, 1, 2, 3, 4, 5, 6, 7, 8, 9, 10, 11, 15, 16, 12, 13, 14, 17, 18, 19, 20, 21, 22] [.P, .P, .P, .P, .P, .P, .P, .P, .P, .P, .P, .P, .R, .R, .R, .P, .P, .R, .R, .R, .P, .P, .P] rfl rfl (by kernel_rfl) ?_
                | refine W_draw mixed [0, 1, 2, 3, 4, 5, 6, 10, 11, 7, 8, 9, 12, 13, 14, 15, 16] [.P, .P, .P, .P, .P, .P, .P, .R, .R, .R, .P, .P, .R, .R, .R, .P, .P] rfl rfl (by kernel_rfl) ?_
                | refine W_draw mixed [0, 1, 5, 6, 2, 3, 4, 7, 8, 9, 10, 11] [.P, .P, .R, .R, .R, .P, .P, .R, .R, .R, .E, .P] rfl rfl (by kernel_rfl) ?_))
        refine DW_index tabOK rfl rfl rfl rfl rfl rfl rfl rfl rfl rfl (Int.natCast_nonneg _) (map_get xb) ?_
        repeat' (first
              | (show DW _ _ _ _ _ _ _ _; first
                | refine DW_V tabs rfl rfl rfl rfl (congrArg AV.bool d1) ?_
                | refine DW_V tabs rfl rfl rfl rfl (congrArg AV.bool d2) ?_
                | refine DW_V tabs rfl rfl rfl rfl (congrArg AV.bool d3) ?_
                | refine DW_V tabs rfl rfl rfl rfl (congrArg AV.bool d4) ?_
                | refine DW_V tabs rfl rfl rfl rfl (congrArg (AV.int _) la) ?_
                | refine DW_V tabs rfl rfl rfl rfl (congrArg (AV.int _) lb) ?_
                | refine DW_V tabs rfl rfl rfl rfl (congrArg (AV.int _) fk) ?_
                | refine DW_Q tabs rfl rfl rfl rfl ?_
                | refine DW_nil ?_
                | refine DW_R tabOK rfl rfl rfl rfl rfl ?_
                | refine DW_E tabOK rfl rfl rfl rfl rfl ?_
                | refine DW_E0 tabOK rfl rfl rfl rfl rfl ?_
                | refine DW_no rfl rfl rfl ?_
                | refine DW_no0 rfl rfl rfl ?_
                | refine DW_lits tabOK rfl rfl rfl rfl rfl rfl rfl rfl rfl rfl rfl rfl rfl ?_
                | refine DW_append_own tabOK rfl rfl rfl rfl rfl rfl rfl rfl rfl rfl rfl rfl rfl rfl rfl (by simp; omega) (by simp; omega) ?_)
              | (show W _ _ _ _ _ _; first
                | refine W_seq ?_
                | refine W_text rfl (fun _ _ _ h => h) ?_
                | refine W_block ?_
                | refine W_skip ?_
                | refine W_exit ?_
                | refine W_ret ?_
                | refine W_true rfl ?_
                | refine W_false rfl ?_
                | refine W_cond rfl (fun _ => ?_) (fun _ => ?_)
                | refine W_draw mixed [0, 1, 2, 3, 4, 5, 6, 7, 8, 9, 10, 11, 15, 16, 12, 13, 14, 17, 18, 19, 20, 21, 22] [.P, .P, .P, .P, .P, .P, .P, .P, .P, .P, .P, .P, .R, .R, .R, .P, .P, .R, .R, .R, .P, .P, .P] rfl rfl (by kernel_rfl) ?_
                | refine W_draw mixed [0, 1, 2, 3, 4, 5, 6, 10, 11, 7, 8, 9, 12, 13, 14, 15, 16] [.P, .P, .P, .P, .P, .P, .P, .R, .R, .R, .P, .P, .R, .R, .R, .P, .P] rfl rfl (by kernel_rfl) ?_
                | refine W_draw mixed [0, 1, 5, 6, 2, 3, 4, 7, 8, 9, 10, 11] [.P, .P, .R, .R, .R, .P, .P, .R, .R, .R, .E, .P] rfl rfl (by kernel_rfl) ?_))
        have e : stepE a b s (-1 : Int) (k : Int) = more s ⟨(b.getD k default).path, 1⟩ := by
          have h1 : ¬ ((i : Int) < 0) := by omega
          have h2 : ¬ ((k : Int) < 0) := by omega
          simp only [stepE, Int.toNat_natCast]; rfl
        refine ⟨(a.length - (i)) + (b.length - (k + 1)) + 1, _, _, by omega, ⟨i, k + 1, more s ⟨(b.getD k default).path, 1⟩, by omega, by omega, rfl, ?_, rfl, ?_, rfl⟩, Joint.le ?_ (tokM_of rfl rfl)⟩
        · simp [more]; omega
        · rw [← hw, show a.length - i + (b.length - k) + 1 = ((a.length - (i)) + (b.length - (k + 1)) + 1) + 1 from by omega, walkF_2 h2 (fun h => absurd h h1) (.inl (by omega)), e]
        · refine AF.le_cons rfl (AF.le_cons rfl (AF.le_cons (sl_more s ⟨(b.getD k default).path, 1⟩) (AF.le_cons rfl (AF.le_cons rfl (AF.le_nil rfl)))))
      · have d3 : decide ((k : Int) < (b.length : Int)) = false := by simp; omega
        repeat' (first
              | (show DW _ _ _ _ _ _ _ _; first
                | refine DW_V tabs rfl rfl rfl rfl (congrArg AV.bool d1) ?_
                | refine DW_V tabs rfl rfl rfl rfl (congrArg AV.bool d2) ?_
                | refine DW_V tabs rfl rfl rfl rfl (congrArg AV.bool d3) ?_
                | refine DW_V tabs rfl rfl rfl rfl (congrArg (AV.int _) la) ?_
                | refine DW_V tabs rfl rfl rfl rfl (congrArg (AV.int _) lb) ?_
                | refine DW_Q tabs rfl rfl rfl rfl ?_
                | refine DW_nil ?_
                | refine DW_R tabOK rfl rfl rfl rfl rfl ?_
                | refine DW_E tabOK rfl rfl rfl rfl rfl ?_
                | refine DW_E0 tabOK rfl rfl rfl rfl rfl ?_
                | refine DW_no rfl rfl rfl ?_
                | refine DW_no0 rfl rfl rfl ?_
                | refine DW_lits tabOK rfl rfl rfl rfl rfl rfl rfl rfl rfl rfl rfl rfl rfl ?_
                | refine DW_append_own tabOK rfl rfl rfl rfl rfl rfl rfl rfl rfl rfl rfl rfl rfl rfl rfl (by simp; omega) (by simp; omega) ?_)
              | (show W _ _ _ _ _ _; first
                | refine W_seq ?_
                | refine W_text rfl (fun _ _ _ h => h) ?_
                | refine W_block ?_
                | refine W_skip ?_
                | refine W_exit ?_
                | refine W_ret ?_
                | refine W_true rfl ?_
                | refine W_false rfl ?_
                | refine W_cond rfl (fun _ => ?_) (fun _ => ?_)
                | refine W_draw mixed [0, 1, 2, 3, 4, 5, 6, 7, 8, 9, 10, 11, 15, 16, 12, 13, 14, 17, 18, 19, 20, 21, 22] [.P, .P, .P, .P, .P, .P, .P, .P, .P, .P, .P, .P, .R, .R, .R, .P, .P, .R, .R, .R, .P, .P, .P] rfl rfl (by kernel_rfl) ?_
                | refine W_draw mixed [0, 1, 2, 3, 4, 5, 6, 10, 11, 7, 8, 9, 12, 13, 14, 15, 16] [.P, .P, .P, .P, .P, .P, .P, .R, .R, .R, .P, .P, .R, .R, .R, .P, .P] rfl rfl (by kernel_rfl) ?_
                | refine W_draw mixed [0, 1, 5, 6, 2, 3, 4, 7, 8, 9, 10, 11] [.P, .P, .R, .R, .R, .P, .P, .R, .R, .R, .E, .P] rfl rfl (by kernel_rfl) ?_))
        refine ⟨rfl, _, rfl, 0, s.2, ?_⟩
        rw [← hw, walkF_end (by omega) (by omega)]
        rfl
end Go.Proofs.Yteimhnedflbkmaa
