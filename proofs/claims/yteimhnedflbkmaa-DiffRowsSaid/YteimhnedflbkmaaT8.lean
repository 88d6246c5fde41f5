/- A step of the proof that the law holds: functions of the program, each shown to compute what its text says. No further condition. -/
import Derived.Test.YteimhnedflbkmaaT7
namespace Go.Proofs.Yteimhnedflbkmaa
open Go.Ab

def backK (k : Int) : Int := if k = 1 ∨ k = 3 then 4 - k else k
def backD (d : Dl) : Dl := ⟨d.path, backK d.kind⟩

theorem back22_ok : APure Try.prog 22 [] (.agg [intA 0, intA 3, intA 2, intA 1]) := by
  refine apure_of (by simp) (closed_agg (by intro x hx; simp only [List.mem_cons, List.not_mem_nil, or_false] at hx; rcases hx with rfl | rfl | rfl | rfl <;> exact closed_int)) ?_
  refine acalls_of tabOK Try.func22 rfl (by decide) (by simp [Try.f22]) ?_
  repeat' (first
        | (show DW _ _ _ _ _ _ _ _; first
          | refine DW_Q tabs rfl rfl rfl rfl ?_
          | refine DW_nil ?_
          | refine DW_R tabOK rfl rfl rfl rfl rfl ?_
          | refine DW_E tabOK rfl rfl rfl rfl rfl ?_
          | refine DW_E0 tabOK rfl rfl rfl rfl rfl ?_
          | refine DW_no rfl rfl rfl ?_
          | refine DW_no0 rfl rfl rfl ?_
          | refine DW_lits tabOK rfl rfl rfl rfl rfl rfl rfl rfl rfl rfl rfl rfl rfl ?_
          | refine DW_append_own tabOK rfl rfl rfl rfl rfl rfl rfl rfl rfl rfl rfl rfl rfl rfl rfl (by simp; omega) (by simp; omega) ?_)
        | (show W _ _ _ _ _ _; first
          | refine W_seq ?_
          | refine W_text rfl (fun _ _ _ h => h) ?_
          | refine W_block ?_
          | refine W_skip ?_
          | refine W_exit ?_
          | refine W_ret ?_
          | refine W_true rfl ?_
          | refine W_false rfl ?_
          | refine W_cond rfl (fun _ => ?_) (fun _ => ?_)))
  exact ⟨rfl, _, rfl, rfl⟩
theorem known23_ok (k : Int) : APure Try.prog 23 [.int .i64 k] (.bool (decide (0 < k) && decide (k < 4))) := by
  intro M
  refine acalls_of tabOK Try.func23 rfl (by decide) (by simp [Try.f23]) ?_
  cases h1 : decide (0 < k)
  · repeat' (first
          | (show DW _ _ _ _ _ _ _ _; first
            | refine DW_V tabs rfl rfl rfl rfl (congrArg AV.bool h1) ?_
            | refine DW_Q tabs rfl rfl rfl rfl ?_
            | refine DW_nil ?_
            | refine DW_R tabOK rfl rfl rfl rfl rfl ?_
            | refine DW_E tabOK rfl rfl rfl rfl rfl ?_
            | refine DW_E0 tabOK rfl rfl rfl rfl rfl ?_
            | refine DW_no rfl rfl rfl ?_
            | refine DW_no0 rfl rfl rfl ?_
            | refine DW_lits tabOK rfl rfl rfl rfl rfl rfl rfl rfl rfl rfl rfl rfl rfl ?_
            | refine DW_append_own tabOK rfl rfl rfl rfl rfl rfl rfl rfl rfl rfl rfl rfl rfl rfl rfl (by simp; omega) (by simp; omega) ?_)
          | (show W _ _ _ _ _ _; first
            | refine W_seq ?_
            | refine W_text rfl (fun _ _ _ h => h) ?_
            | refine W_block ?_
            | refine W_skip ?_
            | refine W_exit ?_
            | refine W_ret ?_
            | refine W_true rfl ?_
            | refine W_false rfl ?_
            | refine W_cond rfl (fun _ => ?_) (fun _ => ?_)))
    exact ⟨rfl, _, rfl, rfl, rfl⟩
  · repeat' (first
          | (show DW _ _ _ _ _ _ _ _; first
            | refine DW_V tabs rfl rfl rfl rfl (congrArg AV.bool h1) ?_
            | refine DW_Q tabs rfl rfl rfl rfl ?_
            | refine DW_nil ?_
            | refine DW_R tabOK rfl rfl rfl rfl rfl ?_
            | refine DW_E tabOK rfl rfl rfl rfl rfl ?_
            | refine DW_E0 tabOK rfl rfl rfl rfl rfl ?_
            | refine DW_no rfl rfl rfl ?_
            | refine DW_no0 rfl rfl rfl ?_
            | refine DW_lits tabOK rfl rfl rfl rfl rfl rfl rfl rfl rfl rfl rfl rfl rfl ?_
            | refine DW_append_own tabOK rfl rfl rfl rfl rfl rfl rfl rfl rfl rfl rfl rfl rfl rfl rfl (by simp; omega) (by simp; omega) ?_)
          | (show W _ _ _ _ _ _; first
            | refine W_seq ?_
            | refine W_text rfl (fun _ _ _ h => h) ?_
            | refine W_block ?_
            | refine W_skip ?_
            | refine W_exit ?_
            | refine W_ret ?_
            | refine W_true rfl ?_
            | refine W_false rfl ?_
            | refine W_cond rfl (fun _ => ?_) (fun _ => ?_)))
    exact ⟨rfl, _, rfl, rfl, rfl⟩

def tbl : List AV := [intA 0, intA 0, intA 0, intA 0, intA 0, intA 1, intA 1, intA 0, intA 0, intA 2, intA 2, intA 3, intA 0, intA 2, intA 3, intA 3]
theorem closed_tbl : ∀ x, x ∈ tbl → Closed x := by
  intro x hx
  simp only [tbl, List.mem_cons, List.not_mem_nil, or_false] at hx
  rcases hx with rfl | rfl | rfl | rfl | rfl | rfl | rfl | rfl | rfl | rfl | rfl | rfl | rfl | rfl | rfl | rfl <;> exact closed_int
theorem behind24_ok : APure Try.prog 24 [] (.agg tbl) := by
  refine apure_of (by simp) (closed_agg closed_tbl) ?_
  refine acalls_of tabOK Try.func24 rfl (by decide) (by simp [Try.f24]) ?_
  repeat' (first
        | (show DW _ _ _ _ _ _ _ _; first
          | refine DW_Q tabs rfl rfl rfl rfl ?_
          | refine DW_nil ?_
          | refine DW_R tabOK rfl rfl rfl rfl rfl ?_
          | refine DW_E tabOK rfl rfl rfl rfl rfl ?_
          | refine DW_E0 tabOK rfl rfl rfl rfl rfl ?_
          | refine DW_no rfl rfl rfl ?_
          | refine DW_no0 rfl rfl rfl ?_
          | refine DW_lits tabOK rfl rfl rfl rfl rfl rfl rfl rfl rfl rfl rfl rfl rfl ?_
          | refine DW_append_own tabOK rfl rfl rfl rfl rfl rfl rfl rfl rfl rfl rfl rfl rfl rfl rfl (by simp; omega) (by simp; omega) ?_)
        | (show W _ _ _ _ _ _; first
          | refine W_seq ?_
          | refine W_text rfl (fun _ _ _ h => h) ?_
          | refine W_block ?_
          | refine W_skip ?_
          | refine W_exit ?_
          | refine W_ret ?_
          | refine W_true rfl ?_
          | refine W_false rfl ?_
          | refine W_cond rfl (fun _ => ?_) (fun _ => ?_)))
  exact ⟨rfl, _, rfl, rfl⟩

def backM (g : Nat) : Mem := ⟨2, [(1, .spare g), (0, .cells [intA 0, intA 3, intA 2, intA 1])]⟩

theorem joint_back {n0 : Nat} {f : AF} {M : Mem} (hn0 : n0 ≤ 2) {l : List Dl} {g n : Nat} {i : Nat} {m : List Dl} (hd : f.d = []) (h2 : 2 ≤ M.next) (hm : M.get 1 = some (.spare g)) (hc : M.get 0 = some (.cells [intA 0, intA 3, intA 2, intA 1]))
    (h3 : f.get 3 = .ptr 0 0) (h4 : f.get 4 = .sl 2 (m.map Dl.av) (.tok 1 g)) (h8 : f.get 8 = .sl 2 (l.map Dl.av) .none) (h9 : f.get 9 = .int .i64 n) (h10 : f.get 10 = .int .i64 i) :
    Joint n0 f M ⟨[(3, .ptr 0 0), (4, .sl 2 (m.map Dl.av) (.tok 1 g)), (8, .sl 2 (l.map Dl.av) .none), (9, .int .i64 n), (10, .int .i64 i)], []⟩ (backM g) := by
  refine Joint.cut hn0 h2 hd ⟨?_, ?_, ?_, ?_, ?_, trivial⟩ ⟨by decide, ?_, by decide, ?_, trivial⟩
  · rw [h3]; exact SubC.ptr rfl
  · rw [h4]; exact SubC.tok rfl (closed_dls2 _)
  · rw [h8]; exact SubC.of_closed (cl_dls _)
  · rw [h9]; exact SubC.of_closed closed_int
  · rw [h10]; exact SubC.of_closed closed_int
  · rw [hm]; exact rfl
  · rw [hc]
    refine ⟨rfl, ?_⟩
    intro j x y hx hy
    rw [hx] at hy
    cases hy
    have := List.mem_of_getElem? hx
    simp only [List.mem_cons, List.not_mem_nil, or_false] at this
    rcases this with rfl | rfl | rfl | rfl <;> exact SubC.of_closed closed_int

set_option maxHeartbeats 2000000 in
theorem back12_ok (l : List Dl) (hl : l.length < 1000000) : APure Try.prog 12 [.sl 2 (l.map Dl.av) .none] (.sl 2 ((l.map backD).map Dl.av) .none) := by
  refine pure_rows (closed1 (cl_dls l)) ?_
  refine acalls_of tabOK Try.func12 rfl (by decide) (by simp [Try.f12]) ?_
  have la : ((l.map Dl.av).length : Int) = (l.length : Int) := by simp
  repeat' (first
        | (show DW _ _ _ _ _ _ _ _; first
          | refine DW_V tabs rfl rfl rfl rfl (congrArg (AV.int _) la) ?_
          | refine DW_Q tabs rfl rfl rfl rfl ?_
          | refine DW_nil ?_
          | refine DW_R tabOK rfl rfl rfl rfl rfl ?_
          | refine DW_E tabOK rfl rfl rfl rfl rfl ?_
          | refine DW_E0 tabOK rfl rfl rfl rfl rfl ?_
          | refine DW_no rfl rfl rfl ?_
          | refine DW_no0 rfl rfl rfl ?_
          | refine DW_lits tabOK rfl rfl rfl rfl rfl rfl rfl rfl rfl rfl rfl rfl rfl ?_
          | refine DW_append_own tabOK rfl rfl rfl rfl rfl rfl rfl rfl rfl rfl rfl rfl rfl rfl rfl (by simp; omega) (by simp; omega) ?_)
        | (show W _ _ _ _ _ _; first
          | refine W_seq ?_
          | refine W_text rfl (fun _ _ _ h => h) ?_
          | refine W_block ?_
          | refine W_skip ?_
          | refine W_exit ?_
          | refine W_ret ?_
          | refine W_true rfl ?_
          | refine W_false rfl ?_
          | refine W_cond rfl (fun _ => ?_) (fun _ => ?_)))
  refine DW_pure rfl rfl rfl rfl rfl back22_ok ?_
  repeat' (first
        | (show DW _ _ _ _ _ _ _ _; first
          | refine DW_V tabs rfl rfl rfl rfl (congrArg (AV.int _) la) ?_
          | refine DW_Q tabs rfl rfl rfl rfl ?_
          | refine DW_nil ?_
          | refine DW_R tabOK rfl rfl rfl rfl rfl ?_
          | refine DW_E tabOK rfl rfl rfl rfl rfl ?_
          | refine DW_E0 tabOK rfl rfl rfl rfl rfl ?_
          | refine DW_no rfl rfl rfl ?_
          | refine DW_no0 rfl rfl rfl ?_
          | refine DW_lits tabOK rfl rfl rfl rfl rfl rfl rfl rfl rfl rfl rfl rfl rfl ?_
          | refine DW_append_own tabOK rfl rfl rfl rfl rfl rfl rfl rfl rfl rfl rfl rfl rfl rfl rfl (by simp; omega) (by simp; omega) ?_)
        | (show W _ _ _ _ _ _; first
          | refine W_seq ?_
          | refine W_text rfl (fun _ _ _ h => h) ?_
          | refine W_block ?_
          | refine W_skip ?_
          | refine W_exit ?_
          | refine W_ret ?_
          | refine W_true rfl ?_
          | refine W_false rfl ?_
          | refine W_cond rfl (fun _ => ?_) (fun _ => ?_)))
  refine W_count l.length (fun i f N => ∃ g, N = backM g ∧ f = ⟨[(3, .ptr 0 0), (4, .sl 2 (((l.take i).map backD).map Dl.av) (.tok 1 g)), (8, .sl 2 (l.map Dl.av) .none), (9, .int .i64 (l.length : Int)), (10, .int .i64 (i : Int))], []⟩) (Nat.zero_le _) ⟨0, rfl, rfl⟩
    ((Joint.tok 4 rfl (sz' := 2) (.inr rfl)).trans (Joint.le ?_ ?_)) ?_
  · skip
    repeat (refine AF.le_cons rfl ?_)
    exact AF.le_nil rfl
  · exact Mem.le_cons rfl (Mem.le_cons rfl (Mem.le_nil rfl))
  · rintro i f N hi ⟨g, rfl, rfl⟩
    have hlen : (l.take i).length ≤ i := by simp; omega
    by_cases h1 : i < l.length
    · have d1 : decide ((i : Int) < (l.length : Int)) = true := by simp; omega
      have hx : l[i]? = some l[i] := List.getElem?_eq_getElem h1
      have fi := wrap_succ (i := i) (by omega)
      have htk : (l.take (i + 1)).map backD = (l.take i).map backD ++ [backD l[i]] := by rw [take_succ hx, List.map_append]; rfl
      generalize l[i] = dd at hx htk
      obtain ⟨p, k⟩ := dd
      by_cases hk : 0 < k ∧ k < 4
      · have hk3 : k = 1 ∨ k = 2 ∨ k = 3 := by omega
        rcases hk3 with rfl | rfl | rfl
        · have hb : backD ⟨p, 1⟩ = ⟨p, 3⟩ := rfl
          rw [hb] at htk
          repeat' (first
                | (show DW _ _ _ _ _ _ _ _; first
                  | refine DW_V tabs rfl rfl rfl rfl (congrArg AV.bool d1) ?_
                  | refine DW_V tabs rfl rfl rfl rfl (congrArg (AV.int _) fi) ?_
                  | refine DW_Q tabs rfl rfl rfl rfl ?_
                  | refine DW_nil ?_
                  | refine DW_R tabOK rfl rfl rfl rfl rfl ?_
                  | refine DW_E tabOK rfl rfl rfl rfl rfl ?_
                  | refine DW_E0 tabOK rfl rfl rfl rfl rfl ?_
                  | refine DW_no rfl rfl rfl ?_
                  | refine DW_no0 rfl rfl rfl ?_
                  | refine DW_lits tabOK rfl rfl rfl rfl rfl rfl rfl rfl rfl rfl rfl rfl rfl ?_
                  | refine DW_append_own tabOK rfl rfl rfl rfl rfl rfl rfl rfl rfl rfl rfl rfl rfl rfl rfl (by simp; omega) (by simp; omega) ?_)
                | (show W _ _ _ _ _ _; first
                  | refine W_seq ?_
                  | refine W_text rfl (fun _ _ _ h => h) ?_
                  | refine W_block ?_
                  | refine W_skip ?_
                  | refine W_exit ?_
                  | refine W_ret ?_
                  | refine W_true rfl ?_
                  | refine W_false rfl ?_
                  | refine W_cond rfl (fun _ => ?_) (fun _ => ?_)))
          refine DW_index tabOK rfl rfl rfl rfl rfl rfl rfl rfl rfl rfl (Int.natCast_nonneg _) (map_get hx) ?_
          repeat' (first
                | (show DW _ _ _ _ _ _ _ _; first
                  | refine DW_V tabs rfl rfl rfl rfl (congrArg AV.bool d1) ?_
                  | refine DW_V tabs rfl rfl rfl rfl (congrArg (AV.int _) fi) ?_
                  | refine DW_Q tabs rfl rfl rfl rfl ?_
                  | refine DW_nil ?_
                  | refine DW_R tabOK rfl rfl rfl rfl rfl ?_
                  | refine DW_E tabOK rfl rfl rfl rfl rfl ?_
                  | refine DW_E0 tabOK rfl rfl rfl rfl rfl ?_
                  | refine DW_no rfl rfl rfl ?_
                  | refine DW_no0 rfl rfl rfl ?_
                  | refine DW_lits tabOK rfl rfl rfl rfl rfl rfl rfl rfl rfl rfl rfl rfl rfl ?_
                  | refine DW_append_own tabOK rfl rfl rfl rfl rfl rfl rfl rfl rfl rfl rfl rfl rfl rfl rfl (by simp; omega) (by simp; omega) ?_)
                | (show W _ _ _ _ _ _; first
                  | refine W_seq ?_
                  | refine W_text rfl (fun _ _ _ h => h) ?_
                  | refine W_block ?_
                  | refine W_skip ?_
                  | refine W_exit ?_
                  | refine W_ret ?_
                  | refine W_true rfl ?_
                  | refine W_false rfl ?_
                  | refine W_cond rfl (fun _ => ?_) (fun _ => ?_)))
          refine DW_pure rfl rfl rfl rfl rfl (known23_ok 1) ?_
          repeat' (first
                | (show DW _ _ _ _ _ _ _ _; first
                  | refine DW_V tabs rfl rfl rfl rfl (congrArg (AV.int _) fi) ?_
                  | refine DW_Q tabs rfl rfl rfl rfl ?_
                  | refine DW_nil ?_
                  | refine DW_R tabOK rfl rfl rfl rfl rfl ?_
                  | refine DW_E tabOK rfl rfl rfl rfl rfl ?_
                  | refine DW_E0 tabOK rfl rfl rfl rfl rfl ?_
                  | refine DW_no rfl rfl rfl ?_
                  | refine DW_no0 rfl rfl rfl ?_
                  | refine DW_lits tabOK rfl rfl rfl rfl rfl rfl rfl rfl rfl rfl rfl rfl rfl ?_
                  | refine DW_append_own tabOK rfl rfl rfl rfl rfl rfl rfl rfl rfl rfl rfl rfl rfl rfl rfl (by simp; omega) (by simp; omega) ?_)
                | (show W _ _ _ _ _ _; first
                  | refine W_seq ?_
                  | refine W_text rfl (fun _ _ _ h => h) ?_
                  | refine W_block ?_
                  | refine W_skip ?_
                  | refine W_exit ?_
                  | refine W_ret ?_
                  | refine W_true rfl ?_
                  | refine W_false rfl ?_
                  | refine W_cond rfl (fun _ => ?_) (fun _ => ?_)))
          refine ⟨h1, _, _, ⟨g + 1, rfl, rfl⟩, joint_back (of_decide_eq_true rfl) rfl (of_decide_eq_true rfl) rfl rfl rfl ?_ rfl rfl rfl⟩
          exact (sl_app (f := Dl.av) (l := (l.take i).map backD) (d := ⟨p, 3⟩) (sz := 2) (t := .tok 1 (g + 1))).trans (by rw [htk])
        · have hb : backD ⟨p, 2⟩ = ⟨p, 2⟩ := rfl
          rw [hb] at htk
          repeat' (first
                | (show DW _ _ _ _ _ _ _ _; first
                  | refine DW_V tabs rfl rfl rfl rfl (congrArg AV.bool d1) ?_
                  | refine DW_V tabs rfl rfl rfl rfl (congrArg (AV.int _) fi) ?_
                  | refine DW_Q tabs rfl rfl rfl rfl ?_
                  | refine DW_nil ?_
                  | refine DW_R tabOK rfl rfl rfl rfl rfl ?_
                  | refine DW_E tabOK rfl rfl rfl rfl rfl ?_
                  | refine DW_E0 tabOK rfl rfl rfl rfl rfl ?_
                  | refine DW_no rfl rfl rfl ?_
                  | refine DW_no0 rfl rfl rfl ?_
                  | refine DW_lits tabOK rfl rfl rfl rfl rfl rfl rfl rfl rfl rfl rfl rfl rfl ?_
                  | refine DW_append_own tabOK rfl rfl rfl rfl rfl rfl rfl rfl rfl rfl rfl rfl rfl rfl rfl (by simp; omega) (by simp; omega) ?_)
                | (show W _ _ _ _ _ _; first
                  | refine W_seq ?_
                  | refine W_text rfl (fun _ _ _ h => h) ?_
                  | refine W_block ?_
                  | refine W_skip ?_
                  | refine W_exit ?_
                  | refine W_ret ?_
                  | refine W_true rfl ?_
                  | refine W_false rfl ?_
                  | refine W_cond rfl (fun _ => ?_) (fun _ => ?_)))
          refine DW_index tabOK rfl rfl rfl rfl rfl rfl rfl rfl rfl rfl (Int.natCast_nonneg _) (map_get hx) ?_
          repeat' (first
                | (show DW _ _ _ _ _ _ _ _; first
                  | refine DW_V tabs rfl rfl rfl rfl (congrArg AV.bool d1) ?_
                  | refine DW_V tabs rfl rfl rfl rfl (congrArg (AV.int _) fi) ?_
                  | refine DW_Q tabs rfl rfl rfl rfl ?_
                  | refine DW_nil ?_
                  | refine DW_R tabOK rfl rfl rfl rfl rfl ?_
                  | refine DW_E tabOK rfl rfl rfl rfl rfl ?_
                  | refine DW_E0 tabOK rfl rfl rfl rfl rfl ?_
                  | refine DW_no rfl rfl rfl ?_
                  | refine DW_no0 rfl rfl rfl ?_
                  | refine DW_lits tabOK rfl rfl rfl rfl rfl rfl rfl rfl rfl rfl rfl rfl rfl ?_
                  | refine DW_append_own tabOK rfl rfl rfl rfl rfl rfl rfl rfl rfl rfl rfl rfl rfl rfl rfl (by simp; omega) (by simp; omega) ?_)
                | (show W _ _ _ _ _ _; first
                  | refine W_seq ?_
                  | refine W_text rfl (fun _ _ _ h => h) ?_
                  | refine W_block ?_
                  | refine W_skip ?_
                  | refine W_exit ?_
                  | refine W_ret ?_
                  | refine W_true rfl ?_
                  | refine W_false rfl ?_
                  | refine W_cond rfl (fun _ => ?_) (fun _ => ?_)))
          refine DW_pure rfl rfl rfl rfl rfl (known23_ok 2) ?_
          repeat' (first
                | (show DW _ _ _ _ _ _ _ _; first
                  | refine DW_V tabs rfl rfl rfl rfl (congrArg (AV.int _) fi) ?_
                  | refine DW_Q tabs rfl rfl rfl rfl ?_
                  | refine DW_nil ?_
                  | refine DW_R tabOK rfl rfl rfl rfl rfl ?_
                  | refine DW_E tabOK rfl rfl rfl rfl rfl ?_
                  | refine DW_E0 tabOK rfl rfl rfl rfl rfl ?_
                  | refine DW_no rfl rfl rfl ?_
                  | refine DW_no0 rfl rfl rfl ?_
                  | refine DW_lits tabOK rfl rfl rfl rfl rfl rfl rfl rfl rfl rfl rfl rfl rfl ?_
                  | refine DW_append_own tabOK rfl rfl rfl rfl rfl rfl rfl rfl rfl rfl rfl rfl rfl rfl rfl (by simp; omega) (by simp; omega) ?_)
                | (show W _ _ _ _ _ _; first
                  | refine W_seq ?_
                  | refine W_text rfl (fun _ _ _ h => h) ?_
                  | refine W_block ?_
                  | refine W_skip ?_
                  | refine W_exit ?_
                  | refine W_ret ?_
                  | refine W_true rfl ?_
                  | refine W_false rfl ?_
                  | refine W_cond rfl (fun _ => ?_) (fun _ => ?_)))
          refine ⟨h1, _, _, ⟨g + 1, rfl, rfl⟩, joint_back (of_decide_eq_true rfl) rfl (of_decide_eq_true rfl) rfl rfl rfl ?_ rfl rfl rfl⟩
          exact (sl_app (f := Dl.av) (l := (l.take i).map backD) (d := ⟨p, 2⟩) (sz := 2) (t := .tok 1 (g + 1))).trans (by rw [htk])
        · have hb : backD ⟨p, 3⟩ = ⟨p, 1⟩ := rfl
          rw [hb] at htk
          repeat' (first
                | (show DW _ _ _ _ _ _ _ _; first
                  | refine DW_V tabs rfl rfl rfl rfl (congrArg AV.bool d1) ?_
                  | refine DW_V tabs rfl rfl rfl rfl (congrArg (AV.int _) fi) ?_
                  | refine DW_Q tabs rfl rfl rfl rfl ?_
                  | refine DW_nil ?_
                  | refine DW_R tabOK rfl rfl rfl rfl rfl ?_
                  | refine DW_E tabOK rfl rfl rfl rfl rfl ?_
                  | refine DW_E0 tabOK rfl rfl rfl rfl rfl ?_
                  | refine DW_no rfl rfl rfl ?_
                  | refine DW_no0 rfl rfl rfl ?_
                  | refine DW_lits tabOK rfl rfl rfl rfl rfl rfl rfl rfl rfl rfl rfl rfl rfl ?_
                  | refine DW_append_own tabOK rfl rfl rfl rfl rfl rfl rfl rfl rfl rfl rfl rfl rfl rfl rfl (by simp; omega) (by simp; omega) ?_)
                | (show W _ _ _ _ _ _; first
                  | refine W_seq ?_
                  | refine W_text rfl (fun _ _ _ h => h) ?_
                  | refine W_block ?_
                  | refine W_skip ?_
                  | refine W_exit ?_
                  | refine W_ret ?_
                  | refine W_true rfl ?_
                  | refine W_false rfl ?_
                  | refine W_cond rfl (fun _ => ?_) (fun _ => ?_)))
          refine DW_index tabOK rfl rfl rfl rfl rfl rfl rfl rfl rfl rfl (Int.natCast_nonneg _) (map_get hx) ?_
          repeat' (first
                | (show DW _ _ _ _ _ _ _ _; first
                  | refine DW_V tabs rfl rfl rfl rfl (congrArg AV.bool d1) ?_
                  | refine DW_V tabs rfl rfl rfl rfl (congrArg (AV.int _) fi) ?_
                  | refine DW_Q tabs rfl rfl rfl rfl ?_
                  | refine DW_nil ?_
                  | refine DW_R tabOK rfl rfl rfl rfl rfl ?_
                  | refine DW_E tabOK rfl rfl rfl rfl rfl ?_
                  | refine DW_E0 tabOK rfl rfl rfl rfl rfl ?_
                  | refine DW_no rfl rfl rfl ?_
                  | refine DW_no0 rfl rfl rfl ?_
                  | refine DW_lits tabOK rfl rfl rfl rfl rfl rfl rfl rfl rfl rfl rfl rfl rfl ?_
                  | refine DW_append_own tabOK rfl rfl rfl rfl rfl rfl rfl rfl rfl rfl rfl rfl rfl rfl rfl (by simp; omega) (by simp; omega) ?_)
                | (show W _ _ _ _ _ _; first
                  | refine W_seq ?_
                  | refine W_text rfl (fun _ _ _ h => h) ?_
                  | refine W_block ?_
                  | refine W_skip ?_
                  | refine W_exit ?_
                  | refine W_ret ?_
                  | refine W_true rfl ?_
                  | refine W_false rfl ?_
                  | refine W_cond rfl (fun _ => ?_) (fun _ => ?_)))
          refine DW_pure rfl rfl rfl rfl rfl (known23_ok 3) ?_
          repeat' (first
                | (show DW _ _ _ _ _ _ _ _; first
                  | refine DW_V tabs rfl rfl rfl rfl (congrArg (AV.int _) fi) ?_
                  | refine DW_Q tabs rfl rfl rfl rfl ?_
                  | refine DW_nil ?_
                  | refine DW_R tabOK rfl rfl rfl rfl rfl ?_
                  | refine DW_E tabOK rfl rfl rfl rfl rfl ?_
                  | refine DW_E0 tabOK rfl rfl rfl rfl rfl ?_
                  | refine DW_no rfl rfl rfl ?_
                  | refine DW_no0 rfl rfl rfl ?_
                  | refine DW_lits tabOK rfl rfl rfl rfl rfl rfl rfl rfl rfl rfl rfl rfl rfl ?_
                  | refine DW_append_own tabOK rfl rfl rfl rfl rfl rfl rfl rfl rfl rfl rfl rfl rfl rfl rfl (by simp; omega) (by simp; omega) ?_)
                | (show W _ _ _ _ _ _; first
                  | refine W_seq ?_
                  | refine W_text rfl (fun _ _ _ h => h) ?_
                  | refine W_block ?_
                  | refine W_skip ?_
                  | refine W_exit ?_
                  | refine W_ret ?_
                  | refine W_true rfl ?_
                  | refine W_false rfl ?_
                  | refine W_cond rfl (fun _ => ?_) (fun _ => ?_)))
          refine ⟨h1, _, _, ⟨g + 1, rfl, rfl⟩, joint_back (of_decide_eq_true rfl) rfl (of_decide_eq_true rfl) rfl rfl rfl ?_ rfl rfl rfl⟩
          exact (sl_app (f := Dl.av) (l := (l.take i).map backD) (d := ⟨p, 1⟩) (sz := 2) (t := .tok 1 (g + 1))).trans (by rw [htk])
      · have hb : backD ⟨p, k⟩ = ⟨p, k⟩ := by
          simp only [backD, backK]
          rw [if_neg (by omega)]
        rw [hb] at htk
        have d2 : (decide (0 < k) && decide (k < 4)) = false := by simp; omega
        have hkn := known23_ok k
        rw [d2] at hkn
        repeat' (first
              | (show DW _ _ _ _ _ _ _ _; first
                | refine DW_V tabs rfl rfl rfl rfl (congrArg AV.bool d1) ?_
                | refine DW_V tabs rfl rfl rfl rfl (congrArg (AV.int _) fi) ?_
                | refine DW_Q tabs rfl rfl rfl rfl ?_
                | refine DW_nil ?_
                | refine DW_R tabOK rfl rfl rfl rfl rfl ?_
                | refine DW_E tabOK rfl rfl rfl rfl rfl ?_
                | refine DW_E0 tabOK rfl rfl rfl rfl rfl ?_
                | refine DW_no rfl rfl rfl ?_
                | refine DW_no0 rfl rfl rfl ?_
                | refine DW_lits tabOK rfl rfl rfl rfl rfl rfl rfl rfl rfl rfl rfl rfl rfl ?_
                | refine DW_append_own tabOK rfl rfl rfl rfl rfl rfl rfl rfl rfl rfl rfl rfl rfl rfl rfl (by simp; omega) (by simp; omega) ?_)
              | (show W _ _ _ _ _ _; first
                | refine W_seq ?_
                | refine W_text rfl (fun _ _ _ h => h) ?_
                | refine W_block ?_
                | refine W_skip ?_
                | refine W_exit ?_
                | refine W_ret ?_
                | refine W_true rfl ?_
                | refine W_false rfl ?_
                | refine W_cond rfl (fun _ => ?_) (fun _ => ?_)))
        refine DW_index tabOK rfl rfl rfl rfl rfl rfl rfl rfl rfl rfl (Int.natCast_nonneg _) (map_get hx) ?_
        repeat' (first
              | (show DW _ _ _ _ _ _ _ _; first
                | refine DW_V tabs rfl rfl rfl rfl (congrArg AV.bool d1) ?_
                | refine DW_V tabs rfl rfl rfl rfl (congrArg (AV.int _) fi) ?_
                | refine DW_Q tabs rfl rfl rfl rfl ?_
                | refine DW_nil ?_
                | refine DW_R tabOK rfl rfl rfl rfl rfl ?_
                | refine DW_E tabOK rfl rfl rfl rfl rfl ?_
                | refine DW_E0 tabOK rfl rfl rfl rfl rfl ?_
                | refine DW_no rfl rfl rfl ?_
                | refine DW_no0 rfl rfl rfl ?_
                | refine DW_lits tabOK rfl rfl rfl rfl rfl rfl rfl rfl rfl rfl rfl rfl rfl ?_
                | refine DW_append_own tabOK rfl rfl rfl rfl rfl rfl rfl rfl rfl rfl rfl rfl rfl rfl rfl (by simp; omega) (by simp; omega) ?_)
              | (show W _ _ _ _ _ _; first
                | refine W_seq ?_
                | refine W_text rfl (fun _ _ _ h => h) ?_
                | refine W_block ?_
                | refine W_skip ?_
                | refine W_exit ?_
                | refine W_ret ?_
                | refine W_true rfl ?_
                | refine W_false rfl ?_
                | refine W_cond rfl (fun _ => ?_) (fun _ => ?_)))
        refine DW_pure rfl rfl rfl rfl rfl hkn ?_
        repeat' (first
              | (show DW _ _ _ _ _ _ _ _; first
                | refine DW_V tabs rfl rfl rfl rfl (congrArg (AV.int _) fi) ?_
                | refine DW_Q tabs rfl rfl rfl rfl ?_
                | refine DW_nil ?_
                | refine DW_R tabOK rfl rfl rfl rfl rfl ?_
                | refine DW_E tabOK rfl rfl rfl rfl rfl ?_
                | refine DW_E0 tabOK rfl rfl rfl rfl rfl ?_
                | refine DW_no rfl rfl rfl ?_
                | refine DW_no0 rfl rfl rfl ?_
                | refine DW_lits tabOK rfl rfl rfl rfl rfl rfl rfl rfl rfl rfl rfl rfl rfl ?_
                | refine DW_append_own tabOK rfl rfl rfl rfl rfl rfl rfl rfl rfl rfl rfl rfl rfl rfl rfl (by simp; omega) (by simp; omega) ?_)
              | (show W _ _ _ _ _ _; first
                | refine W_seq ?_
                | refine W_text rfl (fun _ _ _ h => h) ?_
                | refine W_block ?_
                | refine W_skip ?_
                | refine W_exit ?_
                | refine W_ret ?_
                | refine W_true rfl ?_
                | refine W_false rfl ?_
                | refine W_cond rfl (fun _ => ?_) (fun _ => ?_)))
        refine ⟨h1, _, _, ⟨g + 1, rfl, rfl⟩, joint_back (of_decide_eq_true rfl) rfl (of_decide_eq_true rfl) rfl rfl rfl ?_ rfl rfl rfl⟩
        exact (sl_app (f := Dl.av) (l := (l.take i).map backD) (d := ⟨p, k⟩) (sz := 2) (t := .tok 1 (g + 1))).trans (by rw [htk])
    · have d1 : decide ((i : Int) < (l.length : Int)) = false := by simp; omega
      repeat' (first
            | (show DW _ _ _ _ _ _ _ _; first
              | refine DW_V tabs rfl rfl rfl rfl (congrArg AV.bool d1) ?_
              | refine DW_Q tabs rfl rfl rfl rfl ?_
              | refine DW_nil ?_
              | refine DW_R tabOK rfl rfl rfl rfl rfl ?_
              | refine DW_E tabOK rfl rfl rfl rfl rfl ?_
              | refine DW_E0 tabOK rfl rfl rfl rfl rfl ?_
              | refine DW_no rfl rfl rfl ?_
              | refine DW_no0 rfl rfl rfl ?_
              | refine DW_lits tabOK rfl rfl rfl rfl rfl rfl rfl rfl rfl rfl rfl rfl rfl ?_
              | refine DW_append_own tabOK rfl rfl rfl rfl rfl rfl rfl rfl rfl rfl rfl rfl rfl rfl rfl (by simp; omega) (by simp; omega) ?_)
            | (show W _ _ _ _ _ _; first
              | refine W_seq ?_
              | refine W_text rfl (fun _ _ _ h => h) ?_
              | refine W_block ?_
              | refine W_skip ?_
              | refine W_exit ?_
              | refine W_ret ?_
              | refine W_true rfl ?_
              | refine W_false rfl ?_
              | refine W_cond rfl (fun _ => ?_) (fun _ => ?_)))
      have : l.take i = l := List.take_of_length_le (by omega)
      rw [this]
      exact ⟨rfl, _, rfl, _, _, rfl⟩
end Go.Proofs.Yteimhnedflbkmaa
