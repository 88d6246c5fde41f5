/- A step of the proof that the law holds: functions of the program, each shown to compute what its text says. No further condition. -/
import Derived.Test.YteimhnedflbkmaaT8
namespace Go.Proofs.Yteimhnedflbkmaa
open Go.Ab

theorem joint_tok5 {n0 : Nat} (h0 : n0 ≤ 1) : n0 ≤ 1 := h0

set_option maxHeartbeats 2000000 in
theorem back13_ok (l : List Dl) (hl : l.length < 1000000) : APure Try.prog 13 [.sl 2 (l.map Dl.av) .none] (.sl 2 ((l.map backD).map Dl.av) .none) := by
  refine pure_rows (closed1 (cl_dls l)) ?_
  refine acalls_of tabOK Try.func13 rfl (by decide) (by simp [Try.f13]) ?_
  have la : ((l.map Dl.av).length : Int) = (l.length : Int) := by simp
  repeat' (first
        | (show DW _ _ _ _ _ _ _ _; first
          | refine DW_V tabs rfl rfl rfl rfl (congrArg (AV.int _) la) ?_
          | refine DW_Q tabs rfl rfl rfl rfl ?_
          | refine DW_nil ?_
          | refine DW_R tabOK rfl rfl rfl rfl rfl ?_
          | refine DW_E tabOK rfl rfl rfl rfl rfl ?_
          | refine DW_E0 tabOK rfl rfl rfl rfl rfl ?_
          | refine DW_no rfl rfl rfl ?_
          | refine DW_no0 rfl rfl rfl ?_
          | refine DW_lits tabOK rfl rfl rfl rfl rfl rfl rfl rfl rfl rfl rfl rfl rfl ?_
          | refine DW_append_own tabOK rfl rfl rfl rfl rfl rfl rfl rfl rfl rfl rfl rfl rfl rfl rfl (by simp; omega) (by simp; omega) ?_)
        | (show W _ _ _ _ _ _; first
          | refine W_seq ?_
          | refine W_text rfl (fun _ _ _ h => h) ?_
          | refine W_block ?_
          | refine W_skip ?_
          | refine W_exit ?_
          | refine W_ret ?_
          | refine W_true rfl ?_
          | refine W_false rfl ?_
          | refine W_cond rfl (fun _ => ?_) (fun _ => ?_)))
  refine W_count l.length (fun i f N => ∃ g, N = tokM g ∧ f = ⟨[(0, .sl 2 (l.map Dl.av) .none), (3, .sl 2 (((l.take i).map backD).map Dl.av) (.tok 0 g)), (4, .int .i64 (i : Int))], []⟩) (Nat.zero_le _) ⟨0, rfl, rfl⟩
    ((Joint.tok 3 rfl (sz' := 2) (.inr rfl)).trans (Joint.le ?_ (tokM_of rfl rfl))) ?_
  · skip
    repeat (refine AF.le_cons rfl ?_)
    exact AF.le_nil rfl
  · rintro i f N hi ⟨g, rfl, rfl⟩
    have hlen : (l.take i).length ≤ i := by simp; omega
    by_cases h1 : i < l.length
    · have d1 : decide ((i : Int) < (l.length : Int)) = true := by simp; omega
      have hx : l[i]? = some l[i] := List.getElem?_eq_getElem h1
      have fi := wrap_succ (i := i) (by omega)
      have htk : (l.take (i + 1)).map backD = (l.take i).map backD ++ [backD l[i]] := by rw [take_succ hx, List.map_append]; rfl
      generalize l[i] = dd at hx htk
      obtain ⟨p, k⟩ := dd
      by_cases hk : k = 1 ∨ k = 3
      · rcases hk with rfl | rfl
        · have hb : backD ⟨p, 1⟩ = ⟨p, 3⟩ := rfl
          have fw : IntKind.wrap .i64 (4 - 1) = 3 := rfl
          rw [hb] at htk
          repeat' (first
                | (show DW _ _ _ _ _ _ _ _; first
                  | refine DW_V tabs rfl rfl rfl rfl (congrArg AV.bool d1) ?_
                  | refine DW_V tabs rfl rfl rfl rfl (congrArg (AV.int _) la) ?_
                  | refine DW_V tabs rfl rfl rfl rfl (congrArg (AV.int _) fi) ?_
                  | refine DW_V tabs rfl rfl rfl rfl (congrArg (AV.int _) fw) ?_
                  | refine DW_Q tabs rfl rfl rfl rfl ?_
                  | refine DW_nil ?_
                  | refine DW_R tabOK rfl rfl rfl rfl rfl ?_
                  | refine DW_E tabOK rfl rfl rfl rfl rfl ?_
                  | refine DW_E0 tabOK rfl rfl rfl rfl rfl ?_
                  | refine DW_no rfl rfl rfl ?_
                  | refine DW_no0 rfl rfl rfl ?_
                  | refine DW_lits tabOK rfl rfl rfl rfl rfl rfl rfl rfl rfl rfl rfl rfl rfl ?_
                  | refine DW_append_own tabOK rfl rfl rfl rfl rfl rfl rfl rfl rfl rfl rfl rfl rfl rfl rfl (by simp; omega) (by simp; omega) ?_)
                | (show W _ _ _ _ _ _; first
                  | refine W_seq ?_
                  | refine W_text rfl (fun _ _ _ h => h) ?_
                  | refine W_block ?_
                  | refine W_skip ?_
                  | refine W_exit ?_
                  | refine W_ret ?_
                  | refine W_true rfl ?_
                  | refine W_false rfl ?_
                  | refine W_cond rfl (fun _ => ?_) (fun _ => ?_)))
          refine DW_index tabOK rfl rfl rfl rfl rfl rfl rfl rfl rfl rfl (Int.natCast_nonneg _) (map_get hx) ?_
          repeat' (first
                | (show DW _ _ _ _ _ _ _ _; first
                  | refine DW_V tabs rfl rfl rfl rfl (congrArg AV.bool d1) ?_
                  | refine DW_V tabs rfl rfl rfl rfl (congrArg (AV.int _) la) ?_
                  | refine DW_V tabs rfl rfl rfl rfl (congrArg (AV.int _) fi) ?_
                  | refine DW_V tabs rfl rfl rfl rfl (congrArg (AV.int _) fw) ?_
                  | refine DW_Q tabs rfl rfl rfl rfl ?_
                  | refine DW_nil ?_
                  | refine DW_R tabOK rfl rfl rfl rfl rfl ?_
                  | refine DW_E tabOK rfl rfl rfl rfl rfl ?_
                  | refine DW_E0 tabOK rfl rfl rfl rfl rfl ?_
                  | refine DW_no rfl rfl rfl ?_
                  | refine DW_no0 rfl rfl rfl ?_
                  | refine DW_lits tabOK rfl rfl rfl rfl rfl rfl rfl rfl rfl rfl rfl rfl rfl ?_
                  | refine DW_append_own tabOK rfl rfl rfl rfl rfl rfl rfl rfl rfl rfl rfl rfl rfl rfl rfl (by simp; omega) (by simp; omega) ?_)
                | (show W _ _ _ _ _ _; first
                  | refine W_seq ?_
                  | refine W_text rfl (fun _ _ _ h => h) ?_
                  | refine W_block ?_
                  | refine W_skip ?_
                  | refine W_exit ?_
                  | refine W_ret ?_
                  | refine W_true rfl ?_
                  | refine W_false rfl ?_
                  | refine W_cond rfl (fun _ => ?_) (fun _ => ?_)))
          refine DW_index tabOK rfl rfl rfl rfl rfl rfl rfl rfl rfl rfl (Int.natCast_nonneg _) (map_get hx) ?_
          repeat' (first
                | (show DW _ _ _ _ _ _ _ _; first
                  | refine DW_V tabs rfl rfl rfl rfl (congrArg AV.bool d1) ?_
                  | refine DW_V tabs rfl rfl rfl rfl (congrArg (AV.int _) la) ?_
                  | refine DW_V tabs rfl rfl rfl rfl (congrArg (AV.int _) fi) ?_
                  | refine DW_V tabs rfl rfl rfl rfl (congrArg (AV.int _) fw) ?_
                  | refine DW_Q tabs rfl rfl rfl rfl ?_
                  | refine DW_nil ?_
                  | refine DW_R tabOK rfl rfl rfl rfl rfl ?_
                  | refine DW_E tabOK rfl rfl rfl rfl rfl ?_
                  | refine DW_E0 tabOK rfl rfl rfl rfl rfl ?_
                  | refine DW_no rfl rfl rfl ?_
                  | refine DW_no0 rfl rfl rfl ?_
                  | refine DW_lits tabOK rfl rfl rfl rfl rfl rfl rfl rfl rfl rfl rfl rfl rfl ?_
                  | refine DW_append_own tabOK rfl rfl rfl rfl rfl rfl rfl rfl rfl rfl rfl rfl rfl rfl rfl (by simp; omega) (by simp; omega) ?_)
                | (show W _ _ _ _ _ _; first
                  | refine W_seq ?_
                  | refine W_text rfl (fun _ _ _ h => h) ?_
                  | refine W_block ?_
                  | refine W_skip ?_
                  | refine W_exit ?_
                  | refine W_ret ?_
                  | refine W_true rfl ?_
                  | refine W_false rfl ?_
                  | refine W_cond rfl (fun _ => ?_) (fun _ => ?_)))
          refine ⟨h1, _, _, ⟨g + 1, rfl, rfl⟩, Joint.le (AF.le_cons rfl (AF.le_cons ?_ (AF.le_cons rfl (AF.le_nil rfl)))) (tokM_of rfl rfl)⟩
          exact (sl_app (f := Dl.av) (l := (l.take i).map backD) (d := ⟨p, 3⟩) (sz := 2) (t := .tok 0 (g + 1))).trans (by rw [htk])
        · have hb : backD ⟨p, 3⟩ = ⟨p, 1⟩ := rfl
          have fw : IntKind.wrap .i64 (4 - 3) = 1 := rfl
          rw [hb] at htk
          repeat' (first
                | (show DW _ _ _ _ _ _ _ _; first
                  | refine DW_V tabs rfl rfl rfl rfl (congrArg AV.bool d1) ?_
                  | refine DW_V tabs rfl rfl rfl rfl (congrArg (AV.int _) la) ?_
                  | refine DW_V tabs rfl rfl rfl rfl (congrArg (AV.int _) fi) ?_
                  | refine DW_V tabs rfl rfl rfl rfl (congrArg (AV.int _) fw) ?_
                  | refine DW_Q tabs rfl rfl rfl rfl ?_
                  | refine DW_nil ?_
                  | refine DW_R tabOK rfl rfl rfl rfl rfl ?_
                  | refine DW_E tabOK rfl rfl rfl rfl rfl ?_
                  | refine DW_E0 tabOK rfl rfl rfl rfl rfl ?_
                  | refine DW_no rfl rfl rfl ?_
                  | refine DW_no0 rfl rfl rfl ?_
                  | refine DW_lits tabOK rfl rfl rfl rfl rfl rfl rfl rfl rfl rfl rfl rfl rfl ?_
                  | refine DW_append_own tabOK rfl rfl rfl rfl rfl rfl rfl rfl rfl rfl rfl rfl rfl rfl rfl (by simp; omega) (by simp; omega) ?_)
                | (show W _ _ _ _ _ _; first
                  | refine W_seq ?_
                  | refine W_text rfl (fun _ _ _ h => h) ?_
                  | refine W_block ?_
                  | refine W_skip ?_
                  | refine W_exit ?_
                  | refine W_ret ?_
                  | refine W_true rfl ?_
                  | refine W_false rfl ?_
                  | refine W_cond rfl (fun _ => ?_) (fun _ => ?_)))
          refine DW_index tabOK rfl rfl rfl rfl rfl rfl rfl rfl rfl rfl (Int.natCast_nonneg _) (map_get hx) ?_
          repeat' (first
                | (show DW _ _ _ _ _ _ _ _; first
                  | refine DW_V tabs rfl rfl rfl rfl (congrArg AV.bool d1) ?_
                  | refine DW_V tabs rfl rfl rfl rfl (congrArg (AV.int _) la) ?_
                  | refine DW_V tabs rfl rfl rfl rfl (congrArg (AV.int _) fi) ?_
                  | refine DW_V tabs rfl rfl rfl rfl (congrArg (AV.int _) fw) ?_
                  | refine DW_Q tabs rfl rfl rfl rfl ?_
                  | refine DW_nil ?_
                  | refine DW_R tabOK rfl rfl rfl rfl rfl ?_
                  | refine DW_E tabOK rfl rfl rfl rfl rfl ?_
                  | refine DW_E0 tabOK rfl rfl rfl rfl rfl ?_
                  | refine DW_no rfl rfl rfl ?_
                  | refine DW_no0 rfl rfl rfl ?_
                  | refine DW_lits tabOK rfl rfl rfl rfl rfl rfl rfl rfl rfl rfl rfl rfl rfl ?_
                  | refine DW_append_own tabOK rfl rfl rfl rfl rfl rfl rfl rfl rfl rfl rfl rfl rfl rfl rfl (by simp; omega) (by simp; omega) ?_)
                | (show W _ _ _ _ _ _; first
                  | refine W_seq ?_
                  | refine W_text rfl (fun _ _ _ h => h) ?_
                  | refine W_block ?_
                  | refine W_skip ?_
                  | refine W_exit ?_
                  | refine W_ret ?_
                  | refine W_true rfl ?_
                  | refine W_false rfl ?_
                  | refine W_cond rfl (fun _ => ?_) (fun _ => ?_)))
          refine DW_index tabOK rfl rfl rfl rfl rfl rfl rfl rfl rfl rfl (Int.natCast_nonneg _) (map_get hx) ?_
          repeat' (first
                | (show DW _ _ _ _ _ _ _ _; first
                  | refine DW_V tabs rfl rfl rfl rfl (congrArg AV.bool d1) ?_
                  | refine DW_V tabs rfl rfl rfl rfl (congrArg (AV.int _) la) ?_
                  | refine DW_V tabs rfl rfl rfl rfl (congrArg (AV.int _) fi) ?_
                  | refine DW_V tabs rfl rfl rfl rfl (congrArg (AV.int _) fw) ?_
                  | refine DW_Q tabs rfl rfl rfl rfl ?_
                  | refine DW_nil ?_
                  | refine DW_R tabOK rfl rfl rfl rfl rfl ?_
                  | refine DW_E tabOK rfl rfl rfl rfl rfl ?_
                  | refine DW_E0 tabOK rfl rfl rfl rfl rfl ?_
                  | refine DW_no rfl rfl rfl ?_
                  | refine DW_no0 rfl rfl rfl ?_
                  | refine DW_lits tabOK rfl rfl rfl rfl rfl rfl rfl rfl rfl rfl rfl rfl rfl ?_
                  | refine DW_append_own tabOK rfl rfl rfl rfl rfl rfl rfl rfl rfl rfl rfl rfl rfl rfl rfl (by simp; omega) (by simp; omega) ?_)
                | (show W _ _ _ _ _ _; first
                  | refine W_seq ?_
                  | refine W_text rfl (fun _ _ _ h => h) ?_
                  | refine W_block ?_
                  | refine W_skip ?_
                  | refine W_exit ?_
                  | refine W_ret ?_
                  | refine W_true rfl ?_
                  | refine W_false rfl ?_
                  | refine W_cond rfl (fun _ => ?_) (fun _ => ?_)))
          refine ⟨h1, _, _, ⟨g + 1, rfl, rfl⟩, Joint.le (AF.le_cons rfl (AF.le_cons ?_ (AF.le_cons rfl (AF.le_nil rfl)))) (tokM_of rfl rfl)⟩
          exact (sl_app (f := Dl.av) (l := (l.take i).map backD) (d := ⟨p, 1⟩) (sz := 2) (t := .tok 0 (g + 1))).trans (by rw [htk])
      · have hb : backD ⟨p, k⟩ = ⟨p, k⟩ := by
          simp only [backD, backK]
          rw [if_neg hk]
        rw [hb] at htk
        have d2 : decide (k = 1) = false := by simp; omega
        have d3 : decide (k = 3) = false := by simp; omega
        repeat' (first
              | (show DW _ _ _ _ _ _ _ _; first
                | refine DW_V tabs rfl rfl rfl rfl (congrArg AV.bool d1) ?_
                | refine DW_V tabs rfl rfl rfl rfl (congrArg (AV.int _) la) ?_
                | refine DW_V tabs rfl rfl rfl rfl (congrArg (AV.int _) fi) ?_
                | refine DW_Q tabs rfl rfl rfl rfl ?_
                | refine DW_nil ?_
                | refine DW_R tabOK rfl rfl rfl rfl rfl ?_
                | refine DW_E tabOK rfl rfl rfl rfl rfl ?_
                | refine DW_E0 tabOK rfl rfl rfl rfl rfl ?_
                | refine DW_no rfl rfl rfl ?_
                | refine DW_no0 rfl rfl rfl ?_
                | refine DW_lits tabOK rfl rfl rfl rfl rfl rfl rfl rfl rfl rfl rfl rfl rfl ?_
                | refine DW_append_own tabOK rfl rfl rfl rfl rfl rfl rfl rfl rfl rfl rfl rfl rfl rfl rfl (by simp; omega) (by simp; omega) ?_)
              | (show W _ _ _ _ _ _; first
                | refine W_seq ?_
                | refine W_text rfl (fun _ _ _ h => h) ?_
                | refine W_block ?_
                | refine W_skip ?_
                | refine W_exit ?_
                | refine W_ret ?_
                | refine W_true rfl ?_
                | refine W_false rfl ?_
                | refine W_cond rfl (fun _ => ?_) (fun _ => ?_)))
        refine DW_index tabOK rfl rfl rfl rfl rfl rfl rfl rfl rfl rfl (Int.natCast_nonneg _) (map_get hx) ?_
        repeat' (first
              | (show DW _ _ _ _ _ _ _ _; first
                | refine DW_V tabs rfl rfl rfl rfl (congrArg AV.bool d1) ?_
                | refine DW_V tabs rfl rfl rfl rfl (congrArg AV.bool d2) ?_
                | refine DW_V tabs rfl rfl rfl rfl (congrArg AV.bool d3) ?_
                | refine DW_V tabs rfl rfl rfl rfl (congrArg (AV.int _) la) ?_
                | refine DW_V tabs rfl rfl rfl rfl (congrArg (AV.int _) fi) ?_
                | refine DW_Q tabs rfl rfl rfl rfl ?_
                | refine DW_nil ?_
                | refine DW_R tabOK rfl rfl rfl rfl rfl ?_
                | refine DW_E tabOK rfl rfl rfl rfl rfl ?_
                | refine DW_E0 tabOK rfl rfl rfl rfl rfl ?_
                | refine DW_no rfl rfl rfl ?_
                | refine DW_no0 rfl rfl rfl ?_
                | refine DW_lits tabOK rfl rfl rfl rfl rfl rfl rfl rfl rfl rfl rfl rfl rfl ?_
                | refine DW_append_own tabOK rfl rfl rfl rfl rfl rfl rfl rfl rfl rfl rfl rfl rfl rfl rfl (by simp; omega) (by simp; omega) ?_)
              | (show W _ _ _ _ _ _; first
                | refine W_seq ?_
                | refine W_text rfl (fun _ _ _ h => h) ?_
                | refine W_block ?_
                | refine W_skip ?_
                | refine W_exit ?_
                | refine W_ret ?_
                | refine W_true rfl ?_
                | refine W_false rfl ?_
                | refine W_cond rfl (fun _ => ?_) (fun _ => ?_)))
        refine DW_index tabOK rfl rfl rfl rfl rfl rfl rfl rfl rfl rfl (Int.natCast_nonneg _) (map_get hx) ?_
        repeat' (first
              | (show DW _ _ _ _ _ _ _ _; first
                | refine DW_V tabs rfl rfl rfl rfl (congrArg AV.bool d1) ?_
                | refine DW_V tabs rfl rfl rfl rfl (congrArg AV.bool d2) ?_
                | refine DW_V tabs rfl rfl rfl rfl (congrArg AV.bool d3) ?_
                | refine DW_V tabs rfl rfl rfl rfl (congrArg (AV.int _) la) ?_
                | refine DW_V tabs rfl rfl rfl rfl (congrArg (AV.int _) fi) ?_
                | refine DW_Q tabs rfl rfl rfl rfl ?_
                | refine DW_nil ?_
                | refine DW_R tabOK rfl rfl rfl rfl rfl ?_
                | refine DW_E tabOK rfl rfl rfl rfl rfl ?_
                | refine DW_E0 tabOK rfl rfl rfl rfl rfl ?_
                | refine DW_no rfl rfl rfl ?_
                | refine DW_no0 rfl rfl rfl ?_
                | refine DW_lits tabOK rfl rfl rfl rfl rfl rfl rfl rfl rfl rfl rfl rfl rfl ?_
                | refine DW_append_own tabOK rfl rfl rfl rfl rfl rfl rfl rfl rfl rfl rfl rfl rfl rfl rfl (by simp; omega) (by simp; omega) ?_)
              | (show W _ _ _ _ _ _; first
                | refine W_seq ?_
                | refine W_text rfl (fun _ _ _ h => h) ?_
                | refine W_block ?_
                | refine W_skip ?_
                | refine W_exit ?_
                | refine W_ret ?_
                | refine W_true rfl ?_
                | refine W_false rfl ?_
                | refine W_cond rfl (fun _ => ?_) (fun _ => ?_)))
        refine ⟨h1, _, _, ⟨g + 1, rfl, rfl⟩, Joint.le (AF.le_cons rfl (AF.le_cons ?_ (AF.le_cons rfl (AF.le_nil rfl)))) (tokM_of rfl rfl)⟩
        exact (sl_app (f := Dl.av) (l := (l.take i).map backD) (d := ⟨p, k⟩) (sz := 2) (t := .tok 0 (g + 1))).trans (by rw [htk])
    · have d1 : decide ((i : Int) < (l.length : Int)) = false := by simp; omega
      repeat' (first
            | (show DW _ _ _ _ _ _ _ _; first
              | refine DW_V tabs rfl rfl rfl rfl (congrArg AV.bool d1) ?_
              | refine DW_V tabs rfl rfl rfl rfl (congrArg (AV.int _) la) ?_
              | refine DW_Q tabs rfl rfl rfl rfl ?_
              | refine DW_nil ?_
              | refine DW_R tabOK rfl rfl rfl rfl rfl ?_
              | refine DW_E tabOK rfl rfl rfl rfl rfl ?_
              | refine DW_E0 tabOK rfl rfl rfl rfl rfl ?_
              | refine DW_no rfl rfl rfl ?_
              | refine DW_no0 rfl rfl rfl ?_
              | refine DW_lits tabOK rfl rfl rfl rfl rfl rfl rfl rfl rfl rfl rfl rfl rfl ?_
              | refine DW_append_own tabOK rfl rfl rfl rfl rfl rfl rfl rfl rfl rfl rfl rfl rfl rfl rfl (by simp; omega) (by simp; omega) ?_)
            | (show W _ _ _ _ _ _; first
              | refine W_seq ?_
              | refine W_text rfl (fun _ _ _ h => h) ?_
              | refine W_block ?_
              | refine W_skip ?_
              | refine W_exit ?_
              | refine W_ret ?_
              | refine W_true rfl ?_
              | refine W_false rfl ?_
              | refine W_cond rfl (fun _ => ?_) (fun _ => ?_)))
      have : l.take i = l := List.take_of_length_le (by omega)
      rw [this]
      exact ⟨rfl, _, rfl, _, _, rfl⟩

def bothS (a b : Int) : Int := if a = 1 ∧ b = 3 then 0 else if a = 3 ∧ b = 1 then 2 else if a = 2 ∧ b = 3 then 3 else a

def goodK (k : Int) : Prop := k = 1 ∨ k = 2 ∨ k = 3
def good (l : List Dl) : Prop := l.length < 1000000 ∧ ∀ d, d ∈ l → goodK d.kind

theorem both28_ok (a b : Int) (ha : goodK a) (hb : goodK b) : APure Try.prog 28 [.int .i64 a, .int .i64 b] (.int .i64 (bothS a b)) := by
  intro M
  refine acalls_of tabOK Try.func28 rfl (by decide) (by simp [Try.f28]) ?_
  rcases ha with rfl | rfl | rfl <;> rcases hb with rfl | rfl | rfl
  · repeat' (first
          | (show DW _ _ _ _ _ _ _ _; first
            | refine DW_Q tabs rfl rfl rfl rfl ?_
            | refine DW_nil ?_
            | refine DW_R tabOK rfl rfl rfl rfl rfl ?_
            | refine DW_E tabOK rfl rfl rfl rfl rfl ?_
            | refine DW_E0 tabOK rfl rfl rfl rfl rfl ?_
            | refine DW_no rfl rfl rfl ?_
            | refine DW_no0 rfl rfl rfl ?_
            | refine DW_lits tabOK rfl rfl rfl rfl rfl rfl rfl rfl rfl rfl rfl rfl rfl ?_
            | refine DW_append_own tabOK rfl rfl rfl rfl rfl rfl rfl rfl rfl rfl rfl rfl rfl rfl rfl (by simp; omega) (by simp; omega) ?_)
          | (show W _ _ _ _ _ _; first
            | refine W_seq ?_
            | refine W_text rfl (fun _ _ _ h => h) ?_
            | refine W_block ?_
            | refine W_skip ?_
            | refine W_exit ?_
            | refine W_ret ?_
            | refine W_true rfl ?_
            | refine W_false rfl ?_
            | refine W_cond rfl (fun _ => ?_) (fun _ => ?_)))
    exact ⟨rfl, _, rfl, rfl, rfl⟩
  · repeat' (first
          | (show DW _ _ _ _ _ _ _ _; first
            | refine DW_Q tabs rfl rfl rfl rfl ?_
            | refine DW_nil ?_
            | refine DW_R tabOK rfl rfl rfl rfl rfl ?_
            | refine DW_E tabOK rfl rfl rfl rfl rfl ?_
            | refine DW_E0 tabOK rfl rfl rfl rfl rfl ?_
            | refine DW_no rfl rfl rfl ?_
            | refine DW_no0 rfl rfl rfl ?_
            | refine DW_lits tabOK rfl rfl rfl rfl rfl rfl rfl rfl rfl rfl rfl rfl rfl ?_
            | refine DW_append_own tabOK rfl rfl rfl rfl rfl rfl rfl rfl rfl rfl rfl rfl rfl rfl rfl (by simp; omega) (by simp; omega) ?_)
          | (show W _ _ _ _ _ _; first
            | refine W_seq ?_
            | refine W_text rfl (fun _ _ _ h => h) ?_
            | refine W_block ?_
            | refine W_skip ?_
            | refine W_exit ?_
            | refine W_ret ?_
            | refine W_true rfl ?_
            | refine W_false rfl ?_
            | refine W_cond rfl (fun _ => ?_) (fun _ => ?_)))
    exact ⟨rfl, _, rfl, rfl, rfl⟩
  · repeat' (first
          | (show DW _ _ _ _ _ _ _ _; first
            | refine DW_Q tabs rfl rfl rfl rfl ?_
            | refine DW_nil ?_
            | refine DW_R tabOK rfl rfl rfl rfl rfl ?_
            | refine DW_E tabOK rfl rfl rfl rfl rfl ?_
            | refine DW_E0 tabOK rfl rfl rfl rfl rfl ?_
            | refine DW_no rfl rfl rfl ?_
            | refine DW_no0 rfl rfl rfl ?_
            | refine DW_lits tabOK rfl rfl rfl rfl rfl rfl rfl rfl rfl rfl rfl rfl rfl ?_
            | refine DW_append_own tabOK rfl rfl rfl rfl rfl rfl rfl rfl rfl rfl rfl rfl rfl rfl rfl (by simp; omega) (by simp; omega) ?_)
          | (show W _ _ _ _ _ _; first
            | refine W_seq ?_
            | refine W_text rfl (fun _ _ _ h => h) ?_
            | refine W_block ?_
            | refine W_skip ?_
            | refine W_exit ?_
            | refine W_ret ?_
            | refine W_true rfl ?_
            | refine W_false rfl ?_
            | refine W_cond rfl (fun _ => ?_) (fun _ => ?_)))
    exact ⟨rfl, _, rfl, rfl, rfl⟩
  · repeat' (first
          | (show DW _ _ _ _ _ _ _ _; first
            | refine DW_Q tabs rfl rfl rfl rfl ?_
            | refine DW_nil ?_
            | refine DW_R tabOK rfl rfl rfl rfl rfl ?_
            | refine DW_E tabOK rfl rfl rfl rfl rfl ?_
            | refine DW_E0 tabOK rfl rfl rfl rfl rfl ?_
            | refine DW_no rfl rfl rfl ?_
            | refine DW_no0 rfl rfl rfl ?_
            | refine DW_lits tabOK rfl rfl rfl rfl rfl rfl rfl rfl rfl rfl rfl rfl rfl ?_
            | refine DW_append_own tabOK rfl rfl rfl rfl rfl rfl rfl rfl rfl rfl rfl rfl rfl rfl rfl (by simp; omega) (by simp; omega) ?_)
          | (show W _ _ _ _ _ _; first
            | refine W_seq ?_
            | refine W_text rfl (fun _ _ _ h => h) ?_
            | refine W_block ?_
            | refine W_skip ?_
            | refine W_exit ?_
            | refine W_ret ?_
            | refine W_true rfl ?_
            | refine W_false rfl ?_
            | refine W_cond rfl (fun _ => ?_) (fun _ => ?_)))
    exact ⟨rfl, _, rfl, rfl, rfl⟩
  · repeat' (first
          | (show DW _ _ _ _ _ _ _ _; first
            | refine DW_Q tabs rfl rfl rfl rfl ?_
            | refine DW_nil ?_
            | refine DW_R tabOK rfl rfl rfl rfl rfl ?_
            | refine DW_E tabOK rfl rfl rfl rfl rfl ?_
            | refine DW_E0 tabOK rfl rfl rfl rfl rfl ?_
            | refine DW_no rfl rfl rfl ?_
            | refine DW_no0 rfl rfl rfl ?_
            | refine DW_lits tabOK rfl rfl rfl rfl rfl rfl rfl rfl rfl rfl rfl rfl rfl ?_
            | refine DW_append_own tabOK rfl rfl rfl rfl rfl rfl rfl rfl rfl rfl rfl rfl rfl rfl rfl (by simp; omega) (by simp; omega) ?_)
          | (show W _ _ _ _ _ _; first
            | refine W_seq ?_
            | refine W_text rfl (fun _ _ _ h => h) ?_
            | refine W_block ?_
            | refine W_skip ?_
            | refine W_exit ?_
            | refine W_ret ?_
            | refine W_true rfl ?_
            | refine W_false rfl ?_
            | refine W_cond rfl (fun _ => ?_) (fun _ => ?_)))
    exact ⟨rfl, _, rfl, rfl, rfl⟩
  · repeat' (first
          | (show DW _ _ _ _ _ _ _ _; first
            | refine DW_Q tabs rfl rfl rfl rfl ?_
            | refine DW_nil ?_
            | refine DW_R tabOK rfl rfl rfl rfl rfl ?_
            | refine DW_E tabOK rfl rfl rfl rfl rfl ?_
            | refine DW_E0 tabOK rfl rfl rfl rfl rfl ?_
            | refine DW_no rfl rfl rfl ?_
            | refine DW_no0 rfl rfl rfl ?_
            | refine DW_lits tabOK rfl rfl rfl rfl rfl rfl rfl rfl rfl rfl rfl rfl rfl ?_
            | refine DW_append_own tabOK rfl rfl rfl rfl rfl rfl rfl rfl rfl rfl rfl rfl rfl rfl rfl (by simp; omega) (by simp; omega) ?_)
          | (show W _ _ _ _ _ _; first
            | refine W_seq ?_
            | refine W_text rfl (fun _ _ _ h => h) ?_
            | refine W_block ?_
            | refine W_skip ?_
            | refine W_exit ?_
            | refine W_ret ?_
            | refine W_true rfl ?_
            | refine W_false rfl ?_
            | refine W_cond rfl (fun _ => ?_) (fun _ => ?_)))
    exact ⟨rfl, _, rfl, rfl, rfl⟩
  · repeat' (first
          | (show DW _ _ _ _ _ _ _ _; first
            | refine DW_Q tabs rfl rfl rfl rfl ?_
            | refine DW_nil ?_
            | refine DW_R tabOK rfl rfl rfl rfl rfl ?_
            | refine DW_E tabOK rfl rfl rfl rfl rfl ?_
            | refine DW_E0 tabOK rfl rfl rfl rfl rfl ?_
            | refine DW_no rfl rfl rfl ?_
            | refine DW_no0 rfl rfl rfl ?_
            | refine DW_lits tabOK rfl rfl rfl rfl rfl rfl rfl rfl rfl rfl rfl rfl rfl ?_
            | refine DW_append_own tabOK rfl rfl rfl rfl rfl rfl rfl rfl rfl rfl rfl rfl rfl rfl rfl (by simp; omega) (by simp; omega) ?_)
          | (show W _ _ _ _ _ _; first
            | refine W_seq ?_
            | refine W_text rfl (fun _ _ _ h => h) ?_
            | refine W_block ?_
            | refine W_skip ?_
            | refine W_exit ?_
            | refine W_ret ?_
            | refine W_true rfl ?_
            | refine W_false rfl ?_
            | refine W_cond rfl (fun _ => ?_) (fun _ => ?_)))
    exact ⟨rfl, _, rfl, rfl, rfl⟩
  · repeat' (first
          | (show DW _ _ _ _ _ _ _ _; first
            | refine DW_Q tabs rfl rfl rfl rfl ?_
            | refine DW_nil ?_
            | refine DW_R tabOK rfl rfl rfl rfl rfl ?_
            | refine DW_E tabOK rfl rfl rfl rfl rfl ?_
            | refine DW_E0 tabOK rfl rfl rfl rfl rfl ?_
            | refine DW_no rfl rfl rfl ?_
            | refine DW_no0 rfl rfl rfl ?_
            | refine DW_lits tabOK rfl rfl rfl rfl rfl rfl rfl rfl rfl rfl rfl rfl rfl ?_
            | refine DW_append_own tabOK rfl rfl rfl rfl rfl rfl rfl rfl rfl rfl rfl rfl rfl rfl rfl (by simp; omega) (by simp; omega) ?_)
          | (show W _ _ _ _ _ _; first
            | refine W_seq ?_
            | refine W_text rfl (fun _ _ _ h => h) ?_
            | refine W_block ?_
            | refine W_skip ?_
            | refine W_exit ?_
            | refine W_ret ?_
            | refine W_true rfl ?_
            | refine W_false rfl ?_
            | refine W_cond rfl (fun _ => ?_) (fun _ => ?_)))
    exact ⟨rfl, _, rfl, rfl, rfl⟩
  · repeat' (first
          | (show DW _ _ _ _ _ _ _ _; first
            | refine DW_Q tabs rfl rfl rfl rfl ?_
            | refine DW_nil ?_
            | refine DW_R tabOK rfl rfl rfl rfl rfl ?_
            | refine DW_E tabOK rfl rfl rfl rfl rfl ?_
            | refine DW_E0 tabOK rfl rfl rfl rfl rfl ?_
            | refine DW_no rfl rfl rfl ?_
            | refine DW_no0 rfl rfl rfl ?_
            | refine DW_lits tabOK rfl rfl rfl rfl rfl rfl rfl rfl rfl rfl rfl rfl rfl ?_
            | refine DW_append_own tabOK rfl rfl rfl rfl rfl rfl rfl rfl rfl rfl rfl rfl rfl rfl rfl (by simp; omega) (by simp; omega) ?_)
          | (show W _ _ _ _ _ _; first
            | refine W_seq ?_
            | refine W_text rfl (fun _ _ _ h => h) ?_
            | refine W_block ?_
            | refine W_skip ?_
            | refine W_exit ?_
            | refine W_ret ?_
            | refine W_true rfl ?_
            | refine W_false rfl ?_
            | refine W_cond rfl (fun _ => ?_) (fun _ => ?_)))
    exact ⟨rfl, _, rfl, rfl, rfl⟩

def rowsT (s : List Dl × Nat) : Mem := ⟨3, [(1, .cells [.sl 2 (s.1.map Dl.av) (.tok 2 s.2)]), (2, .spare s.2), (0, .cells tbl)]⟩
theorem rowsT_of {s : List Dl × Nat} {d : Dl} {M : Mem} (hn : 3 = M.next) (h0 : M.get 1 = some (.cells [.sl 2 (s.1.map Dl.av ++ [Dl.av d]) (.tok 2 (s.2 + 1))])) (h1 : M.get 2 = some (.spare (s.2 + 1))) (h2 : M.get 0 = some (.cells tbl)) : (rowsT (more s d)).le M :=
  Mem.le_cons (h0.trans cells_app) (Mem.le_cons h1 (Mem.le_cons h2 (Mem.le_nil hn)))

def stepT (a b : List Dl) (s : List Dl × Nat) (i k : Int) : List Dl × Nat :=
  if i < 0 then more s (b.getD k.toNat default)
  else if k < 0 then more s (a.getD i.toNat default)
  else if bothS (a.getD i.toNat default).kind (b.getD k.toNat default).kind = 0 then s else more s ⟨(a.getD i.toNat default).path, bothS (a.getD i.toNat default).kind (b.getD k.toNat default).kind⟩

theorem seen27_b (a b : List Dl) (ta tb : Tag) (k : Nat) (e : Dl) (he : b[k]? = some e) (s : List Dl × Nat) (hs : s.1.length < 1000000000) :
    ACalls Try.prog 27 [.int .i64 (-1), .int .i64 k, .ptr 1 0, .ref [.sl 2 (b.map Dl.av) tb], .ref [.sl 2 (a.map Dl.av) ta], .ptr 0 0] (rowsT s) (fun r M => r = .ret (.tup []) ∧ (rowsT (more s e)).le M) := by
  refine acalls_of tabOK Try.func27 rfl (by decide) (by simp [Try.f27]) ?_
  repeat' (first
        | (show DW _ _ _ _ _ _ _ _; first
          | refine DW_Q tabs rfl rfl rfl rfl ?_
          | refine DW_nil ?_
          | refine DW_R tabOK rfl rfl rfl rfl rfl ?_
          | refine DW_E tabOK rfl rfl rfl rfl rfl ?_
          | refine DW_E0 tabOK rfl rfl rfl rfl rfl ?_
          | refine DW_no rfl rfl rfl ?_
          | refine DW_no0 rfl rfl rfl ?_
          | refine DW_lits tabOK rfl rfl rfl rfl rfl rfl rfl rfl rfl rfl rfl rfl rfl ?_
          | refine DW_append_own tabOK rfl rfl rfl rfl rfl rfl rfl rfl rfl rfl rfl rfl rfl rfl rfl (by simp; omega) (by simp; omega) ?_)
        | (show W _ _ _ _ _ _; first
          | refine W_seq ?_
          | refine W_text rfl (fun _ _ _ h => h) ?_
          | refine W_block ?_
          | refine W_skip ?_
          | refine W_exit ?_
          | refine W_ret ?_
          | refine W_true rfl ?_
          | refine W_false rfl ?_
          | refine W_cond rfl (fun _ => ?_) (fun _ => ?_)
          | refine W_draw mixed [2, 0, 1, 3, 4, 5, 6, 7] [.R, .R, .P, .R, .R, .P, .E, .E] rfl rfl (by kernel_rfl) ?_
          | refine W_draw mixed [1, 6, 0, 2, 3, 4, 5, 7, 8, 9, 10, 11, 12, 13, 14] [.R, .P, .R, .R, .R, .R, .P, .R, .R, .R, .R, .R, .R, .P, .P] rfl rfl (by kernel_rfl) ?_
          | refine W_draw mixed [2, 7, 12, 0, 1, 3, 4, 5, 6, 8, 9, 10, 11, 13, 14, 15, 16, 17, 18, 19, 20, 21, 22] [.R, .R, .P, .R, .R, .R, .R, .P, .R, .R, .R, .R, .P, .R, .R, .R, .R, .R, .R, .P, .P, .E, .E] rfl rfl (by kernel_rfl) ?_))
  refine DW_index tabOK rfl rfl rfl rfl rfl rfl rfl rfl rfl rfl (Int.natCast_nonneg _) (map_get he) ?_
  repeat' (first
        | (show DW _ _ _ _ _ _ _ _; first
          | refine DW_Q tabs rfl rfl rfl rfl ?_
          | refine DW_nil ?_
          | refine DW_R tabOK rfl rfl rfl rfl rfl ?_
          | refine DW_E tabOK rfl rfl rfl rfl rfl ?_
          | refine DW_E0 tabOK rfl rfl rfl rfl rfl ?_
          | refine DW_no rfl rfl rfl ?_
          | refine DW_no0 rfl rfl rfl ?_
          | refine DW_lits tabOK rfl rfl rfl rfl rfl rfl rfl rfl rfl rfl rfl rfl rfl ?_
          | refine DW_append_own tabOK rfl rfl rfl rfl rfl rfl rfl rfl rfl rfl rfl rfl rfl rfl rfl (by simp; omega) (by simp; omega) ?_)
        | (show W _ _ _ _ _ _; first
          | refine W_seq ?_
          | refine W_text rfl (fun _ _ _ h => h) ?_
          | refine W_block ?_
          | refine W_skip ?_
          | refine W_exit ?_
          | refine W_ret ?_
          | refine W_true rfl ?_
          | refine W_false rfl ?_
          | refine W_cond rfl (fun _ => ?_) (fun _ => ?_)
          | refine W_draw mixed [2, 0, 1, 3, 4, 5, 6, 7] [.R, .R, .P, .R, .R, .P, .E, .E] rfl rfl (by kernel_rfl) ?_
          | refine W_draw mixed [1, 6, 0, 2, 3, 4, 5, 7, 8, 9, 10, 11, 12, 13, 14] [.R, .P, .R, .R, .R, .R, .P, .R, .R, .R, .R, .R, .R, .P, .P] rfl rfl (by kernel_rfl) ?_
          | refine W_draw mixed [2, 7, 12, 0, 1, 3, 4, 5, 6, 8, 9, 10, 11, 13, 14, 15, 16, 17, 18, 19, 20, 21, 22] [.R, .R, .P, .R, .R, .R, .R, .P, .R, .R, .R, .R, .P, .R, .R, .R, .R, .R, .R, .P, .P, .E, .E] rfl rfl (by kernel_rfl) ?_))
  exact ⟨rfl, _, rfl, rfl, rowsT_of rfl rfl rfl rfl⟩
theorem seen27_a (a b : List Dl) (ta tb : Tag) (i : Nat) (e : Dl) (he : a[i]? = some e) (s : List Dl × Nat) (hs : s.1.length < 1000000000) :
    ACalls Try.prog 27 [.int .i64 i, .int .i64 (-1), .ptr 1 0, .ref [.sl 2 (b.map Dl.av) tb], .ref [.sl 2 (a.map Dl.av) ta], .ptr 0 0] (rowsT s) (fun r M => r = .ret (.tup []) ∧ (rowsT (more s e)).le M) := by
  refine acalls_of tabOK Try.func27 rfl (by decide) (by simp [Try.f27]) ?_
  have d1 : decide ((i : Int) < 0) = false := by simp
  repeat' (first
        | (show DW _ _ _ _ _ _ _ _; first
          | refine DW_V tabs rfl rfl rfl rfl (congrArg AV.bool d1) ?_
          | refine DW_Q tabs rfl rfl rfl rfl ?_
          | refine DW_nil ?_
          | refine DW_R tabOK rfl rfl rfl rfl rfl ?_
          | refine DW_E tabOK rfl rfl rfl rfl rfl ?_
          | refine DW_E0 tabOK rfl rfl rfl rfl rfl ?_
          | refine DW_no rfl rfl rfl ?_
          | refine DW_no0 rfl rfl rfl ?_
          | refine DW_lits tabOK rfl rfl rfl rfl rfl rfl rfl rfl rfl rfl rfl rfl rfl ?_
          | refine DW_append_own tabOK rfl rfl rfl rfl rfl rfl rfl rfl rfl rfl rfl rfl rfl rfl rfl (by simp; omega) (by simp; omega) ?_)
        | (show W _ _ _ _ _ _; first
          | refine W_seq ?_
          | refine W_text rfl (fun _ _ _ h => h) ?_
          | refine W_block ?_
          | refine W_skip ?_
          | refine W_exit ?_
          | refine W_ret ?_
          | refine W_true rfl ?_
          | refine W_false rfl ?_
          | refine W_cond rfl (fun _ => ?_) (fun _ => ?_)
          | refine W_draw mixed [2, 0, 1, 3, 4, 5, 6, 7] [.R, .R, .P, .R, .R, .P, .E, .E] rfl rfl (by kernel_rfl) ?_
          | refine W_draw mixed [1, 6, 0, 2, 3, 4, 5, 7, 8, 9, 10, 11, 12, 13, 14] [.R, .P, .R, .R, .R, .R, .P, .R, .R, .R, .R, .R, .R, .P, .P] rfl rfl (by kernel_rfl) ?_
          | refine W_draw mixed [2, 7, 12, 0, 1, 3, 4, 5, 6, 8, 9, 10, 11, 13, 14, 15, 16, 17, 18, 19, 20, 21, 22] [.R, .R, .P, .R, .R, .R, .R, .P, .R, .R, .R, .R, .P, .R, .R, .R, .R, .R, .R, .P, .P, .E, .E] rfl rfl (by kernel_rfl) ?_))
  refine DW_index tabOK rfl rfl rfl rfl rfl rfl rfl rfl rfl rfl (Int.natCast_nonneg _) (map_get he) ?_
  repeat' (first
        | (show DW _ _ _ _ _ _ _ _; first
          | refine DW_Q tabs rfl rfl rfl rfl ?_
          | refine DW_nil ?_
          | refine DW_R tabOK rfl rfl rfl rfl rfl ?_
          | refine DW_E tabOK rfl rfl rfl rfl rfl ?_
          | refine DW_E0 tabOK rfl rfl rfl rfl rfl ?_
          | refine DW_no rfl rfl rfl ?_
          | refine DW_no0 rfl rfl rfl ?_
          | refine DW_lits tabOK rfl rfl rfl rfl rfl rfl rfl rfl rfl rfl rfl rfl rfl ?_
          | refine DW_append_own tabOK rfl rfl rfl rfl rfl rfl rfl rfl rfl rfl rfl rfl rfl rfl rfl (by simp; omega) (by simp; omega) ?_)
        | (show W _ _ _ _ _ _; first
          | refine W_seq ?_
          | refine W_text rfl (fun _ _ _ h => h) ?_
          | refine W_block ?_
          | refine W_skip ?_
          | refine W_exit ?_
          | refine W_ret ?_
          | refine W_true rfl ?_
          | refine W_false rfl ?_
          | refine W_cond rfl (fun _ => ?_) (fun _ => ?_)
          | refine W_draw mixed [2, 0, 1, 3, 4, 5, 6, 7] [.R, .R, .P, .R, .R, .P, .E, .E] rfl rfl (by kernel_rfl) ?_
          | refine W_draw mixed [1, 6, 0, 2, 3, 4, 5, 7, 8, 9, 10, 11, 12, 13, 14] [.R, .P, .R, .R, .R, .R, .P, .R, .R, .R, .R, .R, .R, .P, .P] rfl rfl (by kernel_rfl) ?_
          | refine W_draw mixed [2, 7, 12, 0, 1, 3, 4, 5, 6, 8, 9, 10, 11, 13, 14, 15, 16, 17, 18, 19, 20, 21, 22] [.R, .R, .P, .R, .R, .R, .R, .P, .R, .R, .R, .R, .P, .R, .R, .R, .R, .R, .R, .P, .P, .E, .E] rfl rfl (by kernel_rfl) ?_))
  exact ⟨rfl, _, rfl, rfl, rowsT_of rfl rfl rfl rfl⟩
set_option maxHeartbeats 1000000 in
theorem seen27_11 (a b : List Dl) (ta tb : Tag) (i k : Nat) (p q : Bytes) (he : a[i]? = some ⟨p, 1⟩) (he2 : b[k]? = some ⟨q, 1⟩) (s : List Dl × Nat) (hs : s.1.length < 1000000000) :
    ACalls Try.prog 27 [.int .i64 i, .int .i64 k, .ptr 1 0, .ref [.sl 2 (b.map Dl.av) tb], .ref [.sl 2 (a.map Dl.av) ta], .ptr 0 0] (rowsT s) (fun r M => r = .ret (.tup []) ∧ (rowsT (more s ⟨p, 1⟩)).le M) := by
  refine acalls_of tabOK Try.func27 rfl (by decide) (by simp [Try.f27]) ?_
  have d1 : decide ((i : Int) < 0) = false := by simp
  have d2 : decide ((k : Int) < 0) = false := by simp
  repeat' (first
        | (show DW _ _ _ _ _ _ _ _; first
          | refine DW_V tabs rfl rfl rfl rfl (congrArg AV.bool d1) ?_
          | refine DW_V tabs rfl rfl rfl rfl (congrArg AV.bool d2) ?_
          | refine DW_Q tabs rfl rfl rfl rfl ?_
          | refine DW_nil ?_
          | refine DW_R tabOK rfl rfl rfl rfl rfl ?_
          | refine DW_E tabOK rfl rfl rfl rfl rfl ?_
          | refine DW_E0 tabOK rfl rfl rfl rfl rfl ?_
          | refine DW_no rfl rfl rfl ?_
          | refine DW_no0 rfl rfl rfl ?_
          | refine DW_lits tabOK rfl rfl rfl rfl rfl rfl rfl rfl rfl rfl rfl rfl rfl ?_
          | refine DW_append_own tabOK rfl rfl rfl rfl rfl rfl rfl rfl rfl rfl rfl rfl rfl rfl rfl (by simp; omega) (by simp; omega) ?_)
        | (show W _ _ _ _ _ _; first
          | refine W_seq ?_
          | refine W_text rfl (fun _ _ _ h => h) ?_
          | refine W_block ?_
          | refine W_skip ?_
          | refine W_exit ?_
          | refine W_ret ?_
          | refine W_true rfl ?_
          | refine W_false rfl ?_
          | refine W_cond rfl (fun _ => ?_) (fun _ => ?_)
          | refine W_draw mixed [2, 0, 1, 3, 4, 5, 6, 7] [.R, .R, .P, .R, .R, .P, .E, .E] rfl rfl (by kernel_rfl) ?_
          | refine W_draw mixed [1, 6, 0, 2, 3, 4, 5, 7, 8, 9, 10, 11, 12, 13, 14] [.R, .P, .R, .R, .R, .R, .P, .R, .R, .R, .R, .R, .R, .P, .P] rfl rfl (by kernel_rfl) ?_
          | refine W_draw mixed [2, 7, 12, 0, 1, 3, 4, 5, 6, 8, 9, 10, 11, 13, 14, 15, 16, 17, 18, 19, 20, 21, 22] [.R, .R, .P, .R, .R, .R, .R, .P, .R, .R, .R, .R, .P, .R, .R, .R, .R, .R, .R, .P, .P, .E, .E] rfl rfl (by kernel_rfl) ?_))
  refine DW_index tabOK rfl rfl rfl rfl rfl rfl rfl rfl rfl rfl (Int.natCast_nonneg _) (map_get he) ?_
  repeat (first
        | refine DW_Q tabs rfl rfl rfl rfl ?_
        | refine DW_R tabOK rfl rfl rfl rfl rfl ?_
        | refine DW_E tabOK rfl rfl rfl rfl rfl ?_
        | refine DW_E0 tabOK rfl rfl rfl rfl rfl ?_
        | refine DW_no rfl rfl rfl ?_
        | refine DW_no0 rfl rfl rfl ?_)
  refine DW_pure rfl rfl rfl rfl rfl (known23_ok 1) ?_
  repeat (first
        | refine DW_Q tabs rfl rfl rfl rfl ?_
        | refine DW_R tabOK rfl rfl rfl rfl rfl ?_
        | refine DW_E tabOK rfl rfl rfl rfl rfl ?_
        | refine DW_E0 tabOK rfl rfl rfl rfl rfl ?_
        | refine DW_no rfl rfl rfl ?_
        | refine DW_no0 rfl rfl rfl ?_)
  refine DW_index tabOK rfl rfl rfl rfl rfl rfl rfl rfl rfl rfl (Int.natCast_nonneg _) (map_get he2) ?_
  repeat (first
        | refine DW_Q tabs rfl rfl rfl rfl ?_
        | refine DW_R tabOK rfl rfl rfl rfl rfl ?_
        | refine DW_E tabOK rfl rfl rfl rfl rfl ?_
        | refine DW_E0 tabOK rfl rfl rfl rfl rfl ?_
        | refine DW_no rfl rfl rfl ?_
        | refine DW_no0 rfl rfl rfl ?_)
  refine DW_pure rfl rfl rfl rfl rfl (known23_ok 1) ?_
  repeat' (first
        | (show DW _ _ _ _ _ _ _ _; first
          | refine DW_Q tabs rfl rfl rfl rfl ?_
          | refine DW_nil ?_
          | refine DW_R tabOK rfl rfl rfl rfl rfl ?_
          | refine DW_E tabOK rfl rfl rfl rfl rfl ?_
          | refine DW_E0 tabOK rfl rfl rfl rfl rfl ?_
          | refine DW_no rfl rfl rfl ?_
          | refine DW_no0 rfl rfl rfl ?_
          | refine DW_lits tabOK rfl rfl rfl rfl rfl rfl rfl rfl rfl rfl rfl rfl rfl ?_
          | refine DW_append_own tabOK rfl rfl rfl rfl rfl rfl rfl rfl rfl rfl rfl rfl rfl rfl rfl (by simp; omega) (by simp; omega) ?_)
        | (show W _ _ _ _ _ _; first
          | refine W_seq ?_
          | refine W_text rfl (fun _ _ _ h => h) ?_
          | refine W_block ?_
          | refine W_skip ?_
          | refine W_exit ?_
          | refine W_ret ?_
          | refine W_true rfl ?_
          | refine W_false rfl ?_
          | refine W_cond rfl (fun _ => ?_) (fun _ => ?_)
          | refine W_draw mixed [2, 0, 1, 3, 4, 5, 6, 7] [.R, .R, .P, .R, .R, .P, .E, .E] rfl rfl (by kernel_rfl) ?_
          | refine W_draw mixed [1, 6, 0, 2, 3, 4, 5, 7, 8, 9, 10, 11, 12, 13, 14] [.R, .P, .R, .R, .R, .R, .P, .R, .R, .R, .R, .R, .R, .P, .P] rfl rfl (by kernel_rfl) ?_
          | refine W_draw mixed [2, 7, 12, 0, 1, 3, 4, 5, 6, 8, 9, 10, 11, 13, 14, 15, 16, 17, 18, 19, 20, 21, 22] [.R, .R, .P, .R, .R, .R, .R, .P, .R, .R, .R, .R, .P, .R, .R, .R, .R, .R, .R, .P, .P, .E, .E] rfl rfl (by kernel_rfl) ?_))
  refine DW_index tabOK rfl rfl rfl rfl rfl rfl rfl rfl rfl rfl (Int.natCast_nonneg _) (map_get he) ?_
  repeat (first
        | refine DW_Q tabs rfl rfl rfl rfl ?_
        | refine DW_R tabOK rfl rfl rfl rfl rfl ?_
        | refine DW_E tabOK rfl rfl rfl rfl rfl ?_
        | refine DW_E0 tabOK rfl rfl rfl rfl rfl ?_
        | refine DW_no rfl rfl rfl ?_
        | refine DW_no0 rfl rfl rfl ?_)
  refine DW_index tabOK rfl rfl rfl rfl rfl rfl rfl rfl rfl rfl (Int.natCast_nonneg _) (map_get he2) ?_
  repeat' (first
        | (show DW _ _ _ _ _ _ _ _; first
          | refine DW_Q tabs rfl rfl rfl rfl ?_
          | refine DW_nil ?_
          | refine DW_R tabOK rfl rfl rfl rfl rfl ?_
          | refine DW_E tabOK rfl rfl rfl rfl rfl ?_
          | refine DW_E0 tabOK rfl rfl rfl rfl rfl ?_
          | refine DW_no rfl rfl rfl ?_
          | refine DW_no0 rfl rfl rfl ?_
          | refine DW_lits tabOK rfl rfl rfl rfl rfl rfl rfl rfl rfl rfl rfl rfl rfl ?_
          | refine DW_append_own tabOK rfl rfl rfl rfl rfl rfl rfl rfl rfl rfl rfl rfl rfl rfl rfl (by simp; omega) (by simp; omega) ?_)
        | (show W _ _ _ _ _ _; first
          | refine W_seq ?_
          | refine W_text rfl (fun _ _ _ h => h) ?_
          | refine W_block ?_
          | refine W_skip ?_
          | refine W_exit ?_
          | refine W_ret ?_
          | refine W_true rfl ?_
          | refine W_false rfl ?_
          | refine W_cond rfl (fun _ => ?_) (fun _ => ?_)
          | refine W_draw mixed [2, 0, 1, 3, 4, 5, 6, 7] [.R, .R, .P, .R, .R, .P, .E, .E] rfl rfl (by kernel_rfl) ?_
          | refine W_draw mixed [1, 6, 0, 2, 3, 4, 5, 7, 8, 9, 10, 11, 12, 13, 14] [.R, .P, .R, .R, .R, .R, .P, .R, .R, .R, .R, .R, .R, .P, .P] rfl rfl (by kernel_rfl) ?_
          | refine W_draw mixed [2, 7, 12, 0, 1, 3, 4, 5, 6, 8, 9, 10, 11, 13, 14, 15, 16, 17, 18, 19, 20, 21, 22] [.R, .R, .P, .R, .R, .R, .R, .P, .R, .R, .R, .R, .P, .R, .R, .R, .R, .R, .R, .P, .P, .E, .E] rfl rfl (by kernel_rfl) ?_))
  refine DW_index tabOK rfl rfl rfl rfl rfl rfl rfl rfl rfl rfl (Int.natCast_nonneg _) (map_get he) ?_
  repeat (first
        | refine DW_Q tabs rfl rfl rfl rfl ?_
        | refine DW_R tabOK rfl rfl rfl rfl rfl ?_
        | refine DW_E tabOK rfl rfl rfl rfl rfl ?_
        | refine DW_E0 tabOK rfl rfl rfl rfl rfl ?_
        | refine DW_no rfl rfl rfl ?_
        | refine DW_no0 rfl rfl rfl ?_)
  refine DW_index tabOK rfl rfl rfl rfl rfl rfl rfl rfl rfl rfl (Int.natCast_nonneg _) (map_get he) ?_
  repeat (first
        | refine DW_Q tabs rfl rfl rfl rfl ?_
        | refine DW_R tabOK rfl rfl rfl rfl rfl ?_
        | refine DW_E tabOK rfl rfl rfl rfl rfl ?_
        | refine DW_E0 tabOK rfl rfl rfl rfl rfl ?_
        | refine DW_no rfl rfl rfl ?_
        | refine DW_no0 rfl rfl rfl ?_)
  refine DW_index tabOK rfl rfl rfl rfl rfl rfl rfl rfl rfl rfl (Int.natCast_nonneg _) (map_get he2) ?_
  repeat' (first
        | (show DW _ _ _ _ _ _ _ _; first
          | refine DW_Q tabs rfl rfl rfl rfl ?_
          | refine DW_nil ?_
          | refine DW_R tabOK rfl rfl rfl rfl rfl ?_
          | refine DW_E tabOK rfl rfl rfl rfl rfl ?_
          | refine DW_E0 tabOK rfl rfl rfl rfl rfl ?_
          | refine DW_no rfl rfl rfl ?_
          | refine DW_no0 rfl rfl rfl ?_
          | refine DW_lits tabOK rfl rfl rfl rfl rfl rfl rfl rfl rfl rfl rfl rfl rfl ?_
          | refine DW_append_own tabOK rfl rfl rfl rfl rfl rfl rfl rfl rfl rfl rfl rfl rfl rfl rfl (by simp; omega) (by simp; omega) ?_)
        | (show W _ _ _ _ _ _; first
          | refine W_seq ?_
          | refine W_text rfl (fun _ _ _ h => h) ?_
          | refine W_block ?_
          | refine W_skip ?_
          | refine W_exit ?_
          | refine W_ret ?_
          | refine W_true rfl ?_
          | refine W_false rfl ?_
          | refine W_cond rfl (fun _ => ?_) (fun _ => ?_)
          | refine W_draw mixed [2, 0, 1, 3, 4, 5, 6, 7] [.R, .R, .P, .R, .R, .P, .E, .E] rfl rfl (by kernel_rfl) ?_
          | refine W_draw mixed [1, 6, 0, 2, 3, 4, 5, 7, 8, 9, 10, 11, 12, 13, 14] [.R, .P, .R, .R, .R, .R, .P, .R, .R, .R, .R, .R, .R, .P, .P] rfl rfl (by kernel_rfl) ?_
          | refine W_draw mixed [2, 7, 12, 0, 1, 3, 4, 5, 6, 8, 9, 10, 11, 13, 14, 15, 16, 17, 18, 19, 20, 21, 22] [.R, .R, .P, .R, .R, .R, .R, .P, .R, .R, .R, .R, .P, .R, .R, .R, .R, .R, .R, .P, .P, .E, .E] rfl rfl (by kernel_rfl) ?_))
  exact ⟨rfl, _, rfl, rfl, rowsT_of rfl rfl rfl rfl⟩
set_option maxHeartbeats 1000000 in
theorem seen27_12 (a b : List Dl) (ta tb : Tag) (i k : Nat) (p q : Bytes) (he : a[i]? = some ⟨p, 1⟩) (he2 : b[k]? = some ⟨q, 2⟩) (s : List Dl × Nat) (hs : s.1.length < 1000000000) :
    ACalls Try.prog 27 [.int .i64 i, .int .i64 k, .ptr 1 0, .ref [.sl 2 (b.map Dl.av) tb], .ref [.sl 2 (a.map Dl.av) ta], .ptr 0 0] (rowsT s) (fun r M => r = .ret (.tup []) ∧ (rowsT (more s ⟨p, 1⟩)).le M) := by
  refine acalls_of tabOK Try.func27 rfl (by decide) (by simp [Try.f27]) ?_
  have d1 : decide ((i : Int) < 0) = false := by simp
  have d2 : decide ((k : Int) < 0) = false := by simp
  repeat' (first
        | (show DW _ _ _ _ _ _ _ _; first
          | refine DW_V tabs rfl rfl rfl rfl (congrArg AV.bool d1) ?_
          | refine DW_V tabs rfl rfl rfl rfl (congrArg AV.bool d2) ?_
          | refine DW_Q tabs rfl rfl rfl rfl ?_
          | refine DW_nil ?_
          | refine DW_R tabOK rfl rfl rfl rfl rfl ?_
          | refine DW_E tabOK rfl rfl rfl rfl rfl ?_
          | refine DW_E0 tabOK rfl rfl rfl rfl rfl ?_
          | refine DW_no rfl rfl rfl ?_
          | refine DW_no0 rfl rfl rfl ?_
          | refine DW_lits tabOK rfl rfl rfl rfl rfl rfl rfl rfl rfl rfl rfl rfl rfl ?_
          | refine DW_append_own tabOK rfl rfl rfl rfl rfl rfl rfl rfl rfl rfl rfl rfl rfl rfl rfl (by simp; omega) (by simp; omega) ?_)
        | (show W _ _ _ _ _ _; first
          | refine W_seq ?_
          | refine W_text rfl (fun _ _ _ h => h) ?_
          | refine W_block ?_
          | refine W_skip ?_
          | refine W_exit ?_
          | refine W_ret ?_
          | refine W_true rfl ?_
          | refine W_false rfl ?_
          | refine W_cond rfl (fun _ => ?_) (fun _ => ?_)
          | refine W_draw mixed [2, 0, 1, 3, 4, 5, 6, 7] [.R, .R, .P, .R, .R, .P, .E, .E] rfl rfl (by kernel_rfl) ?_
          | refine W_draw mixed [1, 6, 0, 2, 3, 4, 5, 7, 8, 9, 10, 11, 12, 13, 14] [.R, .P, .R, .R, .R, .R, .P, .R, .R, .R, .R, .R, .R, .P, .P] rfl rfl (by kernel_rfl) ?_
          | refine W_draw mixed [2, 7, 12, 0, 1, 3, 4, 5, 6, 8, 9, 10, 11, 13, 14, 15, 16, 17, 18, 19, 20, 21, 22] [.R, .R, .P, .R, .R, .R, .R, .P, .R, .R, .R, .R, .P, .R, .R, .R, .R, .R, .R, .P, .P, .E, .E] rfl rfl (by kernel_rfl) ?_))
  refine DW_index tabOK rfl rfl rfl rfl rfl rfl rfl rfl rfl rfl (Int.natCast_nonneg _) (map_get he) ?_
  repeat (first
        | refine DW_Q tabs rfl rfl rfl rfl ?_
        | refine DW_R tabOK rfl rfl rfl rfl rfl ?_
        | refine DW_E tabOK rfl rfl rfl rfl rfl ?_
        | refine DW_E0 tabOK rfl rfl rfl rfl rfl ?_
        | refine DW_no rfl rfl rfl ?_
        | refine DW_no0 rfl rfl rfl ?_)
  refine DW_pure rfl rfl rfl rfl rfl (known23_ok 1) ?_
  repeat (first
        | refine DW_Q tabs rfl rfl rfl rfl ?_
        | refine DW_R tabOK rfl rfl rfl rfl rfl ?_
        | refine DW_E tabOK rfl rfl rfl rfl rfl ?_
        | refine DW_E0 tabOK rfl rfl rfl rfl rfl ?_
        | refine DW_no rfl rfl rfl ?_
        | refine DW_no0 rfl rfl rfl ?_)
  refine DW_index tabOK rfl rfl rfl rfl rfl rfl rfl rfl rfl rfl (Int.natCast_nonneg _) (map_get he2) ?_
  repeat (first
        | refine DW_Q tabs rfl rfl rfl rfl ?_
        | refine DW_R tabOK rfl rfl rfl rfl rfl ?_
        | refine DW_E tabOK rfl rfl rfl rfl rfl ?_
        | refine DW_E0 tabOK rfl rfl rfl rfl rfl ?_
        | refine DW_no rfl rfl rfl ?_
        | refine DW_no0 rfl rfl rfl ?_)
  refine DW_pure rfl rfl rfl rfl rfl (known23_ok 2) ?_
  repeat' (first
        | (show DW _ _ _ _ _ _ _ _; first
          | refine DW_Q tabs rfl rfl rfl rfl ?_
          | refine DW_nil ?_
          | refine DW_R tabOK rfl rfl rfl rfl rfl ?_
          | refine DW_E tabOK rfl rfl rfl rfl rfl ?_
          | refine DW_E0 tabOK rfl rfl rfl rfl rfl ?_
          | refine DW_no rfl rfl rfl ?_
          | refine DW_no0 rfl rfl rfl ?_
          | refine DW_lits tabOK rfl rfl rfl rfl rfl rfl rfl rfl rfl rfl rfl rfl rfl ?_
          | refine DW_append_own tabOK rfl rfl rfl rfl rfl rfl rfl rfl rfl rfl rfl rfl rfl rfl rfl (by simp; omega) (by simp; omega) ?_)
        | (show W _ _ _ _ _ _; first
          | refine W_seq ?_
          | refine W_text rfl (fun _ _ _ h => h) ?_
          | refine W_block ?_
          | refine W_skip ?_
          | refine W_exit ?_
          | refine W_ret ?_
          | refine W_true rfl ?_
          | refine W_false rfl ?_
          | refine W_cond rfl (fun _ => ?_) (fun _ => ?_)
          | refine W_draw mixed [2, 0, 1, 3, 4, 5, 6, 7] [.R, .R, .P, .R, .R, .P, .E, .E] rfl rfl (by kernel_rfl) ?_
          | refine W_draw mixed [1, 6, 0, 2, 3, 4, 5, 7, 8, 9, 10, 11, 12, 13, 14] [.R, .P, .R, .R, .R, .R, .P, .R, .R, .R, .R, .R, .R, .P, .P] rfl rfl (by kernel_rfl) ?_
          | refine W_draw mixed [2, 7, 12, 0, 1, 3, 4, 5, 6, 8, 9, 10, 11, 13, 14, 15, 16, 17, 18, 19, 20, 21, 22] [.R, .R, .P, .R, .R, .R, .R, .P, .R, .R, .R, .R, .P, .R, .R, .R, .R, .R, .R, .P, .P, .E, .E] rfl rfl (by kernel_rfl) ?_))
  refine DW_index tabOK rfl rfl rfl rfl rfl rfl rfl rfl rfl rfl (Int.natCast_nonneg _) (map_get he) ?_
  repeat (first
        | refine DW_Q tabs rfl rfl rfl rfl ?_
        | refine DW_R tabOK rfl rfl rfl rfl rfl ?_
        | refine DW_E tabOK rfl rfl rfl rfl rfl ?_
        | refine DW_E0 tabOK rfl rfl rfl rfl rfl ?_
        | refine DW_no rfl rfl rfl ?_
        | refine DW_no0 rfl rfl rfl ?_)
  refine DW_index tabOK rfl rfl rfl rfl rfl rfl rfl rfl rfl rfl (Int.natCast_nonneg _) (map_get he2) ?_
  repeat' (first
        | (show DW _ _ _ _ _ _ _ _; first
          | refine DW_Q tabs rfl rfl rfl rfl ?_
          | refine DW_nil ?_
          | refine DW_R tabOK rfl rfl rfl rfl rfl ?_
          | refine DW_E tabOK rfl rfl rfl rfl rfl ?_
          | refine DW_E0 tabOK rfl rfl rfl rfl rfl ?_
          | refine DW_no rfl rfl rfl ?_
          | refine DW_no0 rfl rfl rfl ?_
          | refine DW_lits tabOK rfl rfl rfl rfl rfl rfl rfl rfl rfl rfl rfl rfl rfl ?_
          | refine DW_append_own tabOK rfl rfl rfl rfl rfl rfl rfl rfl rfl rfl rfl rfl rfl rfl rfl (by simp; omega) (by simp; omega) ?_)
        | (show W _ _ _ _ _ _; first
          | refine W_seq ?_
          | refine W_text rfl (fun _ _ _ h => h) ?_
          | refine W_block ?_
          | refine W_skip ?_
          | refine W_exit ?_
          | refine W_ret ?_
          | refine W_true rfl ?_
          | refine W_false rfl ?_
          | refine W_cond rfl (fun _ => ?_) (fun _ => ?_)
          | refine W_draw mixed [2, 0, 1, 3, 4, 5, 6, 7] [.R, .R, .P, .R, .R, .P, .E, .E] rfl rfl (by kernel_rfl) ?_
          | refine W_draw mixed [1, 6, 0, 2, 3, 4, 5, 7, 8, 9, 10, 11, 12, 13, 14] [.R, .P, .R, .R, .R, .R, .P, .R, .R, .R, .R, .R, .R, .P, .P] rfl rfl (by kernel_rfl) ?_
          | refine W_draw mixed [2, 7, 12, 0, 1, 3, 4, 5, 6, 8, 9, 10, 11, 13, 14, 15, 16, 17, 18, 19, 20, 21, 22] [.R, .R, .P, .R, .R, .R, .R, .P, .R, .R, .R, .R, .P, .R, .R, .R, .R, .R, .R, .P, .P, .E, .E] rfl rfl (by kernel_rfl) ?_))
  refine DW_index tabOK rfl rfl rfl rfl rfl rfl rfl rfl rfl rfl (Int.natCast_nonneg _) (map_get he) ?_
  repeat (first
        | refine DW_Q tabs rfl rfl rfl rfl ?_
        | refine DW_R tabOK rfl rfl rfl rfl rfl ?_
        | refine DW_E tabOK rfl rfl rfl rfl rfl ?_
        | refine DW_E0 tabOK rfl rfl rfl rfl rfl ?_
        | refine DW_no rfl rfl rfl ?_
        | refine DW_no0 rfl rfl rfl ?_)
  refine DW_index tabOK rfl rfl rfl rfl rfl rfl rfl rfl rfl rfl (Int.natCast_nonneg _) (map_get he) ?_
  repeat (first
        | refine DW_Q tabs rfl rfl rfl rfl ?_
        | refine DW_R tabOK rfl rfl rfl rfl rfl ?_
        | refine DW_E tabOK rfl rfl rfl rfl rfl ?_
        | refine DW_E0 tabOK rfl rfl rfl rfl rfl ?_
        | refine DW_no rfl rfl rfl ?_
        | refine DW_no0 rfl rfl rfl ?_)
  refine DW_index tabOK rfl rfl rfl rfl rfl rfl rfl rfl rfl rfl (Int.natCast_nonneg _) (map_get he2) ?_
  repeat' (first
        | (show DW _ _ _ _ _ _ _ _; first
          | refine DW_Q tabs rfl rfl rfl rfl ?_
          | refine DW_nil ?_
          | refine DW_R tabOK rfl rfl rfl rfl rfl ?_
          | refine DW_E tabOK rfl rfl rfl rfl rfl ?_
          | refine DW_E0 tabOK rfl rfl rfl rfl rfl ?_
          | refine DW_no rfl rfl rfl ?_
          | refine DW_no0 rfl rfl rfl ?_
          | refine DW_lits tabOK rfl rfl rfl rfl rfl rfl rfl rfl rfl rfl rfl rfl rfl ?_
          | refine DW_append_own tabOK rfl rfl rfl rfl rfl rfl rfl rfl rfl rfl rfl rfl rfl rfl rfl (by simp; omega) (by simp; omega) ?_)
        | (show W _ _ _ _ _ _; first
          | refine W_seq ?_
          | refine W_text rfl (fun _ _ _ h => h) ?_
          | refine W_block ?_
          | refine W_skip ?_
          | refine W_exit ?_
          | refine W_ret ?_
          | refine W_true rfl ?_
          | refine W_false rfl ?_
          | refine W_cond rfl (fun _ => ?_) (fun _ => ?_)
          | refine W_draw mixed [2, 0, 1, 3, 4, 5, 6, 7] [.R, .R, .P, .R, .R, .P, .E, .E] rfl rfl (by kernel_rfl) ?_
          | refine W_draw mixed [1, 6, 0, 2, 3, 4, 5, 7, 8, 9, 10, 11, 12, 13, 14] [.R, .P, .R, .R, .R, .R, .P, .R, .R, .R, .R, .R, .R, .P, .P] rfl rfl (by kernel_rfl) ?_
          | refine W_draw mixed [2, 7, 12, 0, 1, 3, 4, 5, 6, 8, 9, 10, 11, 13, 14, 15, 16, 17, 18, 19, 20, 21, 22] [.R, .R, .P, .R, .R, .R, .R, .P, .R, .R, .R, .R, .P, .R, .R, .R, .R, .R, .R, .P, .P, .E, .E] rfl rfl (by kernel_rfl) ?_))
  exact ⟨rfl, _, rfl, rfl, rowsT_of rfl rfl rfl rfl⟩
set_option maxHeartbeats 1000000 in
theorem seen27_13 (a b : List Dl) (ta tb : Tag) (i k : Nat) (p q : Bytes) (he : a[i]? = some ⟨p, 1⟩) (he2 : b[k]? = some ⟨q, 3⟩) (s : List Dl × Nat) (hs : s.1.length < 1000000000) :
    ACalls Try.prog 27 [.int .i64 i, .int .i64 k, .ptr 1 0, .ref [.sl 2 (b.map Dl.av) tb], .ref [.sl 2 (a.map Dl.av) ta], .ptr 0 0] (rowsT s) (fun r M => r = .ret (.tup []) ∧ (rowsT (s)).le M) := by
  refine acalls_of tabOK Try.func27 rfl (by decide) (by simp [Try.f27]) ?_
  have d1 : decide ((i : Int) < 0) = false := by simp
  have d2 : decide ((k : Int) < 0) = false := by simp
  repeat' (first
        | (show DW _ _ _ _ _ _ _ _; first
          | refine DW_V tabs rfl rfl rfl rfl (congrArg AV.bool d1) ?_
          | refine DW_V tabs rfl rfl rfl rfl (congrArg AV.bool d2) ?_
          | refine DW_Q tabs rfl rfl rfl rfl ?_
          | refine DW_nil ?_
          | refine DW_R tabOK rfl rfl rfl rfl rfl ?_
          | refine DW_E tabOK rfl rfl rfl rfl rfl ?_
          | refine DW_E0 tabOK rfl rfl rfl rfl rfl ?_
          | refine DW_no rfl rfl rfl ?_
          | refine DW_no0 rfl rfl rfl ?_
          | refine DW_lits tabOK rfl rfl rfl rfl rfl rfl rfl rfl rfl rfl rfl rfl rfl ?_
          | refine DW_append_own tabOK rfl rfl rfl rfl rfl rfl rfl rfl rfl rfl rfl rfl rfl rfl rfl (by simp; omega) (by simp; omega) ?_)
        | (show W _ _ _ _ _ _; first
          | refine W_seq ?_
          | refine W_text rfl (fun _ _ _ h => h) ?_
          | refine W_block ?_
          | refine W_skip ?_
          | refine W_exit ?_
          | refine W_ret ?_
          | refine W_true rfl ?_
          | refine W_false rfl ?_
          | refine W_cond rfl (fun _ => ?_) (fun _ => ?_)
          | refine W_draw mixed [2, 0, 1, 3, 4, 5, 6, 7] [.R, .R, .P, .R, .R, .P, .E, .E] rfl rfl (by kernel_rfl) ?_
          | refine W_draw mixed [1, 6, 0, 2, 3, 4, 5, 7, 8, 9, 10, 11, 12, 13, 14] [.R, .P, .R, .R, .R, .R, .P, .R, .R, .R, .R, .R, .R, .P, .P] rfl rfl (by kernel_rfl) ?_
          | refine W_draw mixed [2, 7, 12, 0, 1, 3, 4, 5, 6, 8, 9, 10, 11, 13, 14, 15, 16, 17, 18, 19, 20, 21, 22] [.R, .R, .P, .R, .R, .R, .R, .P, .R, .R, .R, .R, .P, .R, .R, .R, .R, .R, .R, .P, .P, .E, .E] rfl rfl (by kernel_rfl) ?_))
  refine DW_index tabOK rfl rfl rfl rfl rfl rfl rfl rfl rfl rfl (Int.natCast_nonneg _) (map_get he) ?_
  repeat (first
        | refine DW_Q tabs rfl rfl rfl rfl ?_
        | refine DW_R tabOK rfl rfl rfl rfl rfl ?_
        | refine DW_E tabOK rfl rfl rfl rfl rfl ?_
        | refine DW_E0 tabOK rfl rfl rfl rfl rfl ?_
        | refine DW_no rfl rfl rfl ?_
        | refine DW_no0 rfl rfl rfl ?_)
  refine DW_pure rfl rfl rfl rfl rfl (known23_ok 1) ?_
  repeat (first
        | refine DW_Q tabs rfl rfl rfl rfl ?_
        | refine DW_R tabOK rfl rfl rfl rfl rfl ?_
        | refine DW_E tabOK rfl rfl rfl rfl rfl ?_
        | refine DW_E0 tabOK rfl rfl rfl rfl rfl ?_
        | refine DW_no rfl rfl rfl ?_
        | refine DW_no0 rfl rfl rfl ?_)
  refine DW_index tabOK rfl rfl rfl rfl rfl rfl rfl rfl rfl rfl (Int.natCast_nonneg _) (map_get he2) ?_
  repeat (first
        | refine DW_Q tabs rfl rfl rfl rfl ?_
        | refine DW_R tabOK rfl rfl rfl rfl rfl ?_
        | refine DW_E tabOK rfl rfl rfl rfl rfl ?_
        | refine DW_E0 tabOK rfl rfl rfl rfl rfl ?_
        | refine DW_no rfl rfl rfl ?_
        | refine DW_no0 rfl rfl rfl ?_)
  refine DW_pure rfl rfl rfl rfl rfl (known23_ok 3) ?_
  repeat' (first
        | (show DW _ _ _ _ _ _ _ _; first
          | refine DW_Q tabs rfl rfl rfl rfl ?_
          | refine DW_nil ?_
          | refine DW_R tabOK rfl rfl rfl rfl rfl ?_
          | refine DW_E tabOK rfl rfl rfl rfl rfl ?_
          | refine DW_E0 tabOK rfl rfl rfl rfl rfl ?_
          | refine DW_no rfl rfl rfl ?_
          | refine DW_no0 rfl rfl rfl ?_
          | refine DW_lits tabOK rfl rfl rfl rfl rfl rfl rfl rfl rfl rfl rfl rfl rfl ?_
          | refine DW_append_own tabOK rfl rfl rfl rfl rfl rfl rfl rfl rfl rfl rfl rfl rfl rfl rfl (by simp; omega) (by simp; omega) ?_)
        | (show W _ _ _ _ _ _; first
          | refine W_seq ?_
          | refine W_text rfl (fun _ _ _ h => h) ?_
          | refine W_block ?_
          | refine W_skip ?_
          | refine W_exit ?_
          | refine W_ret ?_
          | refine W_true rfl ?_
          | refine W_false rfl ?_
          | refine W_cond rfl (fun _ => ?_) (fun _ => ?_)
          | refine W_draw mixed [2, 0, 1, 3, 4, 5, 6, 7] [.R, .R, .P, .R, .R, .P, .E, .E] rfl rfl (by kernel_rfl) ?_
          | refine W_draw mixed [1, 6, 0, 2, 3, 4, 5, 7, 8, 9, 10, 11, 12, 13, 14] [.R, .P, .R, .R, .R, .R, .P, .R, .R, .R, .R, .R, .R, .P, .P] rfl rfl (by kernel_rfl) ?_
          | refine W_draw mixed [2, 7, 12, 0, 1, 3, 4, 5, 6, 8, 9, 10, 11, 13, 14, 15, 16, 17, 18, 19, 20, 21, 22] [.R, .R, .P, .R, .R, .R, .R, .P, .R, .R, .R, .R, .P, .R, .R, .R, .R, .R, .R, .P, .P, .E, .E] rfl rfl (by kernel_rfl) ?_))
  refine DW_index tabOK rfl rfl rfl rfl rfl rfl rfl rfl rfl rfl (Int.natCast_nonneg _) (map_get he) ?_
  repeat (first
        | refine DW_Q tabs rfl rfl rfl rfl ?_
        | refine DW_R tabOK rfl rfl rfl rfl rfl ?_
        | refine DW_E tabOK rfl rfl rfl rfl rfl ?_
        | refine DW_E0 tabOK rfl rfl rfl rfl rfl ?_
        | refine DW_no rfl rfl rfl ?_
        | refine DW_no0 rfl rfl rfl ?_)
  refine DW_index tabOK rfl rfl rfl rfl rfl rfl rfl rfl rfl rfl (Int.natCast_nonneg _) (map_get he2) ?_
  repeat' (first
        | (show DW _ _ _ _ _ _ _ _; first
          | refine DW_Q tabs rfl rfl rfl rfl ?_
          | refine DW_nil ?_
          | refine DW_R tabOK rfl rfl rfl rfl rfl ?_
          | refine DW_E tabOK rfl rfl rfl rfl rfl ?_
          | refine DW_E0 tabOK rfl rfl rfl rfl rfl ?_
          | refine DW_no rfl rfl rfl ?_
          | refine DW_no0 rfl rfl rfl ?_
          | refine DW_lits tabOK rfl rfl rfl rfl rfl rfl rfl rfl rfl rfl rfl rfl rfl ?_
          | refine DW_append_own tabOK rfl rfl rfl rfl rfl rfl rfl rfl rfl rfl rfl rfl rfl rfl rfl (by simp; omega) (by simp; omega) ?_)
        | (show W _ _ _ _ _ _; first
          | refine W_seq ?_
          | refine W_text rfl (fun _ _ _ h => h) ?_
          | refine W_block ?_
          | refine W_skip ?_
          | refine W_exit ?_
          | refine W_ret ?_
          | refine W_true rfl ?_
          | refine W_false rfl ?_
          | refine W_cond rfl (fun _ => ?_) (fun _ => ?_)
          | refine W_draw mixed [2, 0, 1, 3, 4, 5, 6, 7] [.R, .R, .P, .R, .R, .P, .E, .E] rfl rfl (by kernel_rfl) ?_
          | refine W_draw mixed [1, 6, 0, 2, 3, 4, 5, 7, 8, 9, 10, 11, 12, 13, 14] [.R, .P, .R, .R, .R, .R, .P, .R, .R, .R, .R, .R, .R, .P, .P] rfl rfl (by kernel_rfl) ?_
          | refine W_draw mixed [2, 7, 12, 0, 1, 3, 4, 5, 6, 8, 9, 10, 11, 13, 14, 15, 16, 17, 18, 19, 20, 21, 22] [.R, .R, .P, .R, .R, .R, .R, .P, .R, .R, .R, .R, .P, .R, .R, .R, .R, .R, .R, .P, .P, .E, .E] rfl rfl (by kernel_rfl) ?_))
  exact ⟨rfl, _, rfl, rfl, Mem.le_refl _⟩
set_option maxHeartbeats 1000000 in
theorem seen27_21 (a b : List Dl) (ta tb : Tag) (i k : Nat) (p q : Bytes) (he : a[i]? = some ⟨p, 2⟩) (he2 : b[k]? = some ⟨q, 1⟩) (s : List Dl × Nat) (hs : s.1.length < 1000000000) :
    ACalls Try.prog 27 [.int .i64 i, .int .i64 k, .ptr 1 0, .ref [.sl 2 (b.map Dl.av) tb], .ref [.sl 2 (a.map Dl.av) ta], .ptr 0 0] (rowsT s) (fun r M => r = .ret (.tup []) ∧ (rowsT (more s ⟨p, 2⟩)).le M) := by
  refine acalls_of tabOK Try.func27 rfl (by decide) (by simp [Try.f27]) ?_
  have d1 : decide ((i : Int) < 0) = false := by simp
  have d2 : decide ((k : Int) < 0) = false := by simp
  repeat' (first
        | (show DW _ _ _ _ _ _ _ _; first
          | refine DW_V tabs rfl rfl rfl rfl (congrArg AV.bool d1) ?_
          | refine DW_V tabs rfl rfl rfl rfl (congrArg AV.bool d2) ?_
          | refine DW_Q tabs rfl rfl rfl rfl ?_
          | refine DW_nil ?_
          | refine DW_R tabOK rfl rfl rfl rfl rfl ?_
          | refine DW_E tabOK rfl rfl rfl rfl rfl ?_
          | refine DW_E0 tabOK rfl rfl rfl rfl rfl ?_
          | refine DW_no rfl rfl rfl ?_
          | refine DW_no0 rfl rfl rfl ?_
          | refine DW_lits tabOK rfl rfl rfl rfl rfl rfl rfl rfl rfl rfl rfl rfl rfl ?_
          | refine DW_append_own tabOK rfl rfl rfl rfl rfl rfl rfl rfl rfl rfl rfl rfl rfl rfl rfl (by simp; omega) (by simp; omega) ?_)
        | (show W _ _ _ _ _ _; first
          | refine W_seq ?_
          | refine W_text rfl (fun _ _ _ h => h) ?_
          | refine W_block ?_
          | refine W_skip ?_
          | refine W_exit ?_
          | refine W_ret ?_
          | refine W_true rfl ?_
          | refine W_false rfl ?_
          | refine W_cond rfl (fun _ => ?_) (fun _ => ?_)
          | refine W_draw mixed [2, 0, 1, 3, 4, 5, 6, 7] [.R, .R, .P, .R, .R, .P, .E, .E] rfl rfl (by kernel_rfl) ?_
          | refine W_draw mixed [1, 6, 0, 2, 3, 4, 5, 7, 8, 9, 10, 11, 12, 13, 14] [.R, .P, .R, .R, .R, .R, .P, .R, .R, .R, .R, .R, .R, .P, .P] rfl rfl (by kernel_rfl) ?_
          | refine W_draw mixed [2, 7, 12, 0, 1, 3, 4, 5, 6, 8, 9, 10, 11, 13, 14, 15, 16, 17, 18, 19, 20, 21, 22] [.R, .R, .P, .R, .R, .R, .R, .P, .R, .R, .R, .R, .P, .R, .R, .R, .R, .R, .R, .P, .P, .E, .E] rfl rfl (by kernel_rfl) ?_))
  refine DW_index tabOK rfl rfl rfl rfl rfl rfl rfl rfl rfl rfl (Int.natCast_nonneg _) (map_get he) ?_
  repeat (first
        | refine DW_Q tabs rfl rfl rfl rfl ?_
        | refine DW_R tabOK rfl rfl rfl rfl rfl ?_
        | refine DW_E tabOK rfl rfl rfl rfl rfl ?_
        | refine DW_E0 tabOK rfl rfl rfl rfl rfl ?_
        | refine DW_no rfl rfl rfl ?_
        | refine DW_no0 rfl rfl rfl ?_)
  refine DW_pure rfl rfl rfl rfl rfl (known23_ok 2) ?_
  repeat (first
        | refine DW_Q tabs rfl rfl rfl rfl ?_
        | refine DW_R tabOK rfl rfl rfl rfl rfl ?_
        | refine DW_E tabOK rfl rfl rfl rfl rfl ?_
        | refine DW_E0 tabOK rfl rfl rfl rfl rfl ?_
        | refine DW_no rfl rfl rfl ?_
        | refine DW_no0 rfl rfl rfl ?_)
  refine DW_index tabOK rfl rfl rfl rfl rfl rfl rfl rfl rfl rfl (Int.natCast_nonneg _) (map_get he2) ?_
  repeat (first
        | refine DW_Q tabs rfl rfl rfl rfl ?_
        | refine DW_R tabOK rfl rfl rfl rfl rfl ?_
        | refine DW_E tabOK rfl rfl rfl rfl rfl ?_
        | refine DW_E0 tabOK rfl rfl rfl rfl rfl ?_
        | refine DW_no rfl rfl rfl ?_
        | refine DW_no0 rfl rfl rfl ?_)
  refine DW_pure rfl rfl rfl rfl rfl (known23_ok 1) ?_
  repeat' (first
        | (show DW _ _ _ _ _ _ _ _; first
          | refine DW_Q tabs rfl rfl rfl rfl ?_
          | refine DW_nil ?_
          | refine DW_R tabOK rfl rfl rfl rfl rfl ?_
          | refine DW_E tabOK rfl rfl rfl rfl rfl ?_
          | refine DW_E0 tabOK rfl rfl rfl rfl rfl ?_
          | refine DW_no rfl rfl rfl ?_
          | refine DW_no0 rfl rfl rfl ?_
          | refine DW_lits tabOK rfl rfl rfl rfl rfl rfl rfl rfl rfl rfl rfl rfl rfl ?_
          | refine DW_append_own tabOK rfl rfl rfl rfl rfl rfl rfl rfl rfl rfl rfl rfl rfl rfl rfl (by simp; omega) (by simp; omega) ?_)
        | (show W _ _ _ _ _ _; first
          | refine W_seq ?_
          | refine W_text rfl (fun _ _ _ h => h) ?_
          | refine W_block ?_
          | refine W_skip ?_
          | refine W_exit ?_
          | refine W_ret ?_
          | refine W_true rfl ?_
          | refine W_false rfl ?_
          | refine W_cond rfl (fun _ => ?_) (fun _ => ?_)
          | refine W_draw mixed [2, 0, 1, 3, 4, 5, 6, 7] [.R, .R, .P, .R, .R, .P, .E, .E] rfl rfl (by kernel_rfl) ?_
          | refine W_draw mixed [1, 6, 0, 2, 3, 4, 5, 7, 8, 9, 10, 11, 12, 13, 14] [.R, .P, .R, .R, .R, .R, .P, .R, .R, .R, .R, .R, .R, .P, .P] rfl rfl (by kernel_rfl) ?_
          | refine W_draw mixed [2, 7, 12, 0, 1, 3, 4, 5, 6, 8, 9, 10, 11, 13, 14, 15, 16, 17, 18, 19, 20, 21, 22] [.R, .R, .P, .R, .R, .R, .R, .P, .R, .R, .R, .R, .P, .R, .R, .R, .R, .R, .R, .P, .P, .E, .E] rfl rfl (by kernel_rfl) ?_))
  refine DW_index tabOK rfl rfl rfl rfl rfl rfl rfl rfl rfl rfl (Int.natCast_nonneg _) (map_get he) ?_
  repeat (first
        | refine DW_Q tabs rfl rfl rfl rfl ?_
        | refine DW_R tabOK rfl rfl rfl rfl rfl ?_
        | refine DW_E tabOK rfl rfl rfl rfl rfl ?_
        | refine DW_E0 tabOK rfl rfl rfl rfl rfl ?_
        | refine DW_no rfl rfl rfl ?_
        | refine DW_no0 rfl rfl rfl ?_)
  refine DW_index tabOK rfl rfl rfl rfl rfl rfl rfl rfl rfl rfl (Int.natCast_nonneg _) (map_get he2) ?_
  repeat' (first
        | (show DW _ _ _ _ _ _ _ _; first
          | refine DW_Q tabs rfl rfl rfl rfl ?_
          | refine DW_nil ?_
          | refine DW_R tabOK rfl rfl rfl rfl rfl ?_
          | refine DW_E tabOK rfl rfl rfl rfl rfl ?_
          | refine DW_E0 tabOK rfl rfl rfl rfl rfl ?_
          | refine DW_no rfl rfl rfl ?_
          | refine DW_no0 rfl rfl rfl ?_
          | refine DW_lits tabOK rfl rfl rfl rfl rfl rfl rfl rfl rfl rfl rfl rfl rfl ?_
          | refine DW_append_own tabOK rfl rfl rfl rfl rfl rfl rfl rfl rfl rfl rfl rfl rfl rfl rfl (by simp; omega) (by simp; omega) ?_)
        | (show W _ _ _ _ _ _; first
          | refine W_seq ?_
          | refine W_text rfl (fun _ _ _ h => h) ?_
          | refine W_block ?_
          | refine W_skip ?_
          | refine W_exit ?_
          | refine W_ret ?_
          | refine W_true rfl ?_
          | refine W_false rfl ?_
          | refine W_cond rfl (fun _ => ?_) (fun _ => ?_)
          | refine W_draw mixed [2, 0, 1, 3, 4, 5, 6, 7] [.R, .R, .P, .R, .R, .P, .E, .E] rfl rfl (by kernel_rfl) ?_
          | refine W_draw mixed [1, 6, 0, 2, 3, 4, 5, 7, 8, 9, 10, 11, 12, 13, 14] [.R, .P, .R, .R, .R, .R, .P, .R, .R, .R, .R, .R, .R, .P, .P] rfl rfl (by kernel_rfl) ?_
          | refine W_draw mixed [2, 7, 12, 0, 1, 3, 4, 5, 6, 8, 9, 10, 11, 13, 14, 15, 16, 17, 18, 19, 20, 21, 22] [.R, .R, .P, .R, .R, .R, .R, .P, .R, .R, .R, .R, .P, .R, .R, .R, .R, .R, .R, .P, .P, .E, .E] rfl rfl (by kernel_rfl) ?_))
  refine DW_index tabOK rfl rfl rfl rfl rfl rfl rfl rfl rfl rfl (Int.natCast_nonneg _) (map_get he) ?_
  repeat (first
        | refine DW_Q tabs rfl rfl rfl rfl ?_
        | refine DW_R tabOK rfl rfl rfl rfl rfl ?_
        | refine DW_E tabOK rfl rfl rfl rfl rfl ?_
        | refine DW_E0 tabOK rfl rfl rfl rfl rfl ?_
        | refine DW_no rfl rfl rfl ?_
        | refine DW_no0 rfl rfl rfl ?_)
  refine DW_index tabOK rfl rfl rfl rfl rfl rfl rfl rfl rfl rfl (Int.natCast_nonneg _) (map_get he) ?_
  repeat (first
        | refine DW_Q tabs rfl rfl rfl rfl ?_
        | refine DW_R tabOK rfl rfl rfl rfl rfl ?_
        | refine DW_E tabOK rfl rfl rfl rfl rfl ?_
        | refine DW_E0 tabOK rfl rfl rfl rfl rfl ?_
        | refine DW_no rfl rfl rfl ?_
        | refine DW_no0 rfl rfl rfl ?_)
  refine DW_index tabOK rfl rfl rfl rfl rfl rfl rfl rfl rfl rfl (Int.natCast_nonneg _) (map_get he2) ?_
  repeat' (first
        | (show DW _ _ _ _ _ _ _ _; first
          | refine DW_Q tabs rfl rfl rfl rfl ?_
          | refine DW_nil ?_
          | refine DW_R tabOK rfl rfl rfl rfl rfl ?_
          | refine DW_E tabOK rfl rfl rfl rfl rfl ?_
          | refine DW_E0 tabOK rfl rfl rfl rfl rfl ?_
          | refine DW_no rfl rfl rfl ?_
          | refine DW_no0 rfl rfl rfl ?_
          | refine DW_lits tabOK rfl rfl rfl rfl rfl rfl rfl rfl rfl rfl rfl rfl rfl ?_
          | refine DW_append_own tabOK rfl rfl rfl rfl rfl rfl rfl rfl rfl rfl rfl rfl rfl rfl rfl (by simp; omega) (by simp; omega) ?_)
        | (show W _ _ _ _ _ _; first
          | refine W_seq ?_
          | refine W_text rfl (fun _ _ _ h => h) ?_
          | refine W_block ?_
          | refine W_skip ?_
          | refine W_exit ?_
          | refine W_ret ?_
          | refine W_true rfl ?_
          | refine W_false rfl ?_
          | refine W_cond rfl (fun _ => ?_) (fun _ => ?_)
          | refine W_draw mixed [2, 0, 1, 3, 4, 5, 6, 7] [.R, .R, .P, .R, .R, .P, .E, .E] rfl rfl (by kernel_rfl) ?_
          | refine W_draw mixed [1, 6, 0, 2, 3, 4, 5, 7, 8, 9, 10, 11, 12, 13, 14] [.R, .P, .R, .R, .R, .R, .P, .R, .R, .R, .R, .R, .R, .P, .P] rfl rfl (by kernel_rfl) ?_
          | refine W_draw mixed [2, 7, 12, 0, 1, 3, 4, 5, 6, 8, 9, 10, 11, 13, 14, 15, 16, 17, 18, 19, 20, 21, 22] [.R, .R, .P, .R, .R, .R, .R, .P, .R, .R, .R, .R, .P, .R, .R, .R, .R, .R, .R, .P, .P, .E, .E] rfl rfl (by kernel_rfl) ?_))
  exact ⟨rfl, _, rfl, rfl, rowsT_of rfl rfl rfl rfl⟩
set_option maxHeartbeats 1000000 in
theorem seen27_22 (a b : List Dl) (ta tb : Tag) (i k : Nat) (p q : Bytes) (he : a[i]? = some ⟨p, 2⟩) (he2 : b[k]? = some ⟨q, 2⟩) (s : List Dl × Nat) (hs : s.1.length < 1000000000) :
    ACalls Try.prog 27 [.int .i64 i, .int .i64 k, .ptr 1 0, .ref [.sl 2 (b.map Dl.av) tb], .ref [.sl 2 (a.map Dl.av) ta], .ptr 0 0] (rowsT s) (fun r M => r = .ret (.tup []) ∧ (rowsT (more s ⟨p, 2⟩)).le M) := by
  refine acalls_of tabOK Try.func27 rfl (by decide) (by simp [Try.f27]) ?_
  have d1 : decide ((i : Int) < 0) = false := by simp
  have d2 : decide ((k : Int) < 0) = false := by simp
  repeat' (first
        | (show DW _ _ _ _ _ _ _ _; first
          | refine DW_V tabs rfl rfl rfl rfl (congrArg AV.bool d1) ?_
          | refine DW_V tabs rfl rfl rfl rfl (congrArg AV.bool d2) ?_
          | refine DW_Q tabs rfl rfl rfl rfl ?_
          | refine DW_nil ?_
          | refine DW_R tabOK rfl rfl rfl rfl rfl ?_
          | refine DW_E tabOK rfl rfl rfl rfl rfl ?_
          | refine DW_E0 tabOK rfl rfl rfl rfl rfl ?_
          | refine DW_no rfl rfl rfl ?_
          | refine DW_no0 rfl rfl rfl ?_
          | refine DW_lits tabOK rfl rfl rfl rfl rfl rfl rfl rfl rfl rfl rfl rfl rfl ?_
          | refine DW_append_own tabOK rfl rfl rfl rfl rfl rfl rfl rfl rfl rfl rfl rfl rfl rfl rfl (by simp; omega) (by simp; omega) ?_)
        | (show W _ _ _ _ _ _; first
          | refine W_seq ?_
          | refine W_text rfl (fun _ _ _ h => h) ?_
          | refine W_block ?_
          | refine W_skip ?_
          | refine W_exit ?_
          | refine W_ret ?_
          | refine W_true rfl ?_
          | refine W_false rfl ?_
          | refine W_cond rfl (fun _ => ?_) (fun _ => ?_)
          | refine W_draw mixed [2, 0, 1, 3, 4, 5, 6, 7] [.R, .R, .P, .R, .R, .P, .E, .E] rfl rfl (by kernel_rfl) ?_
          | refine W_draw mixed [1, 6, 0, 2, 3, 4, 5, 7, 8, 9, 10, 11, 12, 13, 14] [.R, .P, .R, .R, .R, .R, .P, .R, .R, .R, .R, .R, .R, .P, .P] rfl rfl (by kernel_rfl) ?_
          | refine W_draw mixed [2, 7, 12, 0, 1, 3, 4, 5, 6, 8, 9, 10, 11, 13, 14, 15, 16, 17, 18, 19, 20, 21, 22] [.R, .R, .P, .R, .R, .R, .R, .P, .R, .R, .R, .R, .P, .R, .R, .R, .R, .R, .R, .P, .P, .E, .E] rfl rfl (by kernel_rfl) ?_))
  refine DW_index tabOK rfl rfl rfl rfl rfl rfl rfl rfl rfl rfl (Int.natCast_nonneg _) (map_get he) ?_
  repeat (first
        | refine DW_Q tabs rfl rfl rfl rfl ?_
        | refine DW_R tabOK rfl rfl rfl rfl rfl ?_
        | refine DW_E tabOK rfl rfl rfl rfl rfl ?_
        | refine DW_E0 tabOK rfl rfl rfl rfl rfl ?_
        | refine DW_no rfl rfl rfl ?_
        | refine DW_no0 rfl rfl rfl ?_)
  refine DW_pure rfl rfl rfl rfl rfl (known23_ok 2) ?_
  repeat (first
        | refine DW_Q tabs rfl rfl rfl rfl ?_
        | refine DW_R tabOK rfl rfl rfl rfl rfl ?_
        | refine DW_E tabOK rfl rfl rfl rfl rfl ?_
        | refine DW_E0 tabOK rfl rfl rfl rfl rfl ?_
        | refine DW_no rfl rfl rfl ?_
        | refine DW_no0 rfl rfl rfl ?_)
  refine DW_index tabOK rfl rfl rfl rfl rfl rfl rfl rfl rfl rfl (Int.natCast_nonneg _) (map_get he2) ?_
  repeat (first
        | refine DW_Q tabs rfl rfl rfl rfl ?_
        | refine DW_R tabOK rfl rfl rfl rfl rfl ?_
        | refine DW_E tabOK rfl rfl rfl rfl rfl ?_
        | refine DW_E0 tabOK rfl rfl rfl rfl rfl ?_
        | refine DW_no rfl rfl rfl ?_
        | refine DW_no0 rfl rfl rfl ?_)
  refine DW_pure rfl rfl rfl rfl rfl (known23_ok 2) ?_
  repeat' (first
        | (show DW _ _ _ _ _ _ _ _; first
          | refine DW_Q tabs rfl rfl rfl rfl ?_
          | refine DW_nil ?_
          | refine DW_R tabOK rfl rfl rfl rfl rfl ?_
          | refine DW_E tabOK rfl rfl rfl rfl rfl ?_
          | refine DW_E0 tabOK rfl rfl rfl rfl rfl ?_
          | refine DW_no rfl rfl rfl ?_
          | refine DW_no0 rfl rfl rfl ?_
          | refine DW_lits tabOK rfl rfl rfl rfl rfl rfl rfl rfl rfl rfl rfl rfl rfl ?_
          | refine DW_append_own tabOK rfl rfl rfl rfl rfl rfl rfl rfl rfl rfl rfl rfl rfl rfl rfl (by simp; omega) (by simp; omega) ?_)
        | (show W _ _ _ _ _ _; first
          | refine W_seq ?_
          | refine W_text rfl (fun _ _ _ h => h) ?_
          | refine W_block ?_
          | refine W_skip ?_
          | refine W_exit ?_
          | refine W_ret ?_
          | refine W_true rfl ?_
          | refine W_false rfl ?_
          | refine W_cond rfl (fun _ => ?_) (fun _ => ?_)
          | refine W_draw mixed [2, 0, 1, 3, 4, 5, 6, 7] [.R, .R, .P, .R, .R, .P, .E, .E] rfl rfl (by kernel_rfl) ?_
          | refine W_draw mixed [1, 6, 0, 2, 3, 4, 5, 7, 8, 9, 10, 11, 12, 13, 14] [.R, .P, .R, .R, .R, .R, .P, .R, .R, .R, .R, .R, .R, .P, .P] rfl rfl (by kernel_rfl) ?_
          | refine W_draw mixed [2, 7, 12, 0, 1, 3, 4, 5, 6, 8, 9, 10, 11, 13, 14, 15, 16, 17, 18, 19, 20, 21, 22] [.R, .R, .P, .R, .R, .R, .R, .P, .R, .R, .R, .R, .P, .R, .R, .R, .R, .R, .R, .P, .P, .E, .E] rfl rfl (by kernel_rfl) ?_))
  refine DW_index tabOK rfl rfl rfl rfl rfl rfl rfl rfl rfl rfl (Int.natCast_nonneg _) (map_get he) ?_
  repeat (first
        | refine DW_Q tabs rfl rfl rfl rfl ?_
        | refine DW_R tabOK rfl rfl rfl rfl rfl ?_
        | refine DW_E tabOK rfl rfl rfl rfl rfl ?_
        | refine DW_E0 tabOK rfl rfl rfl rfl rfl ?_
        | refine DW_no rfl rfl rfl ?_
        | refine DW_no0 rfl rfl rfl ?_)
  refine DW_index tabOK rfl rfl rfl rfl rfl rfl rfl rfl rfl rfl (Int.natCast_nonneg _) (map_get he2) ?_
  repeat' (first
        | (show DW _ _ _ _ _ _ _ _; first
          | refine DW_Q tabs rfl rfl rfl rfl ?_
          | refine DW_nil ?_
          | refine DW_R tabOK rfl rfl rfl rfl rfl ?_
          | refine DW_E tabOK rfl rfl rfl rfl rfl ?_
          | refine DW_E0 tabOK rfl rfl rfl rfl rfl ?_
          | refine DW_no rfl rfl rfl ?_
          | refine DW_no0 rfl rfl rfl ?_
          | refine DW_lits tabOK rfl rfl rfl rfl rfl rfl rfl rfl rfl rfl rfl rfl rfl ?_
          | refine DW_append_own tabOK rfl rfl rfl rfl rfl rfl rfl rfl rfl rfl rfl rfl rfl rfl rfl (by simp; omega) (by simp; omega) ?_)
        | (show W _ _ _ _ _ _; first
          | refine W_seq ?_
          | refine W_text rfl (fun _ _ _ h => h) ?_
          | refine W_block ?_
          | refine W_skip ?_
          | refine W_exit ?_
          | refine W_ret ?_
          | refine W_true rfl ?_
          | refine W_false rfl ?_
          | refine W_cond rfl (fun _ => ?_) (fun _ => ?_)
          | refine W_draw mixed [2, 0, 1, 3, 4, 5, 6, 7] [.R, .R, .P, .R, .R, .P, .E, .E] rfl rfl (by kernel_rfl) ?_
          | refine W_draw mixed [1, 6, 0, 2, 3, 4, 5, 7, 8, 9, 10, 11, 12, 13, 14] [.R, .P, .R, .R, .R, .R, .P, .R, .R, .R, .R, .R, .R, .P, .P] rfl rfl (by kernel_rfl) ?_
          | refine W_draw mixed [2, 7, 12, 0, 1, 3, 4, 5, 6, 8, 9, 10, 11, 13, 14, 15, 16, 17, 18, 19, 20, 21, 22] [.R, .R, .P, .R, .R, .R, .R, .P, .R, .R, .R, .R, .P, .R, .R, .R, .R, .R, .R, .P, .P, .E, .E] rfl rfl (by kernel_rfl) ?_))
  refine DW_index tabOK rfl rfl rfl rfl rfl rfl rfl rfl rfl rfl (Int.natCast_nonneg _) (map_get he) ?_
  repeat (first
        | refine DW_Q tabs rfl rfl rfl rfl ?_
        | refine DW_R tabOK rfl rfl rfl rfl rfl ?_
        | refine DW_E tabOK rfl rfl rfl rfl rfl ?_
        | refine DW_E0 tabOK rfl rfl rfl rfl rfl ?_
        | refine DW_no rfl rfl rfl ?_
        | refine DW_no0 rfl rfl rfl ?_)
  refine DW_index tabOK rfl rfl rfl rfl rfl rfl rfl rfl rfl rfl (Int.natCast_nonneg _) (map_get he) ?_
  repeat (first
        | refine DW_Q tabs rfl rfl rfl rfl ?_
        | refine DW_R tabOK rfl rfl rfl rfl rfl ?_
        | refine DW_E tabOK rfl rfl rfl rfl rfl ?_
        | refine DW_E0 tabOK rfl rfl rfl rfl rfl ?_
        | refine DW_no rfl rfl rfl ?_
        | refine DW_no0 rfl rfl rfl ?_)
  refine DW_index tabOK rfl rfl rfl rfl rfl rfl rfl rfl rfl rfl (Int.natCast_nonneg _) (map_get he2) ?_
  repeat' (first
        | (show DW _ _ _ _ _ _ _ _; first
          | refine DW_Q tabs rfl rfl rfl rfl ?_
          | refine DW_nil ?_
          | refine DW_R tabOK rfl rfl rfl rfl rfl ?_
          | refine DW_E tabOK rfl rfl rfl rfl rfl ?_
          | refine DW_E0 tabOK rfl rfl rfl rfl rfl ?_
          | refine DW_no rfl rfl rfl ?_
          | refine DW_no0 rfl rfl rfl ?_
          | refine DW_lits tabOK rfl rfl rfl rfl rfl rfl rfl rfl rfl rfl rfl rfl rfl ?_
          | refine DW_append_own tabOK rfl rfl rfl rfl rfl rfl rfl rfl rfl rfl rfl rfl rfl rfl rfl (by simp; omega) (by simp; omega) ?_)
        | (show W _ _ _ _ _ _; first
          | refine W_seq ?_
          | refine W_text rfl (fun _ _ _ h => h) ?_
          | refine W_block ?_
          | refine W_skip ?_
          | refine W_exit ?_
          | refine W_ret ?_
          | refine W_true rfl ?_
          | refine W_false rfl ?_
          | refine W_cond rfl (fun _ => ?_) (fun _ => ?_)
          | refine W_draw mixed [2, 0, 1, 3, 4, 5, 6, 7] [.R, .R, .P, .R, .R, .P, .E, .E] rfl rfl (by kernel_rfl) ?_
          | refine W_draw mixed [1, 6, 0, 2, 3, 4, 5, 7, 8, 9, 10, 11, 12, 13, 14] [.R, .P, .R, .R, .R, .R, .P, .R, .R, .R, .R, .R, .R, .P, .P] rfl rfl (by kernel_rfl) ?_
          | refine W_draw mixed [2, 7, 12, 0, 1, 3, 4, 5, 6, 8, 9, 10, 11, 13, 14, 15, 16, 17, 18, 19, 20, 21, 22] [.R, .R, .P, .R, .R, .R, .R, .P, .R, .R, .R, .R, .P, .R, .R, .R, .R, .R, .R, .P, .P, .E, .E] rfl rfl (by kernel_rfl) ?_))
  exact ⟨rfl, _, rfl, rfl, rowsT_of rfl rfl rfl rfl⟩
set_option maxHeartbeats 1000000 in
theorem seen27_23 (a b : List Dl) (ta tb : Tag) (i k : Nat) (p q : Bytes) (he : a[i]? = some ⟨p, 2⟩) (he2 : b[k]? = some ⟨q, 3⟩) (s : List Dl × Nat) (hs : s.1.length < 1000000000) :
    ACalls Try.prog 27 [.int .i64 i, .int .i64 k, .ptr 1 0, .ref [.sl 2 (b.map Dl.av) tb], .ref [.sl 2 (a.map Dl.av) ta], .ptr 0 0] (rowsT s) (fun r M => r = .ret (.tup []) ∧ (rowsT (more s ⟨p, 3⟩)).le M) := by
  refine acalls_of tabOK Try.func27 rfl (by decide) (by simp [Try.f27]) ?_
  have d1 : decide ((i : Int) < 0) = false := by simp
  have d2 : decide ((k : Int) < 0) = false := by simp
  repeat' (first
        | (show DW _ _ _ _ _ _ _ _; first
          | refine DW_V tabs rfl rfl rfl rfl (congrArg AV.bool d1) ?_
          | refine DW_V tabs rfl rfl rfl rfl (congrArg AV.bool d2) ?_
          | refine DW_Q tabs rfl rfl rfl rfl ?_
          | refine DW_nil ?_
          | refine DW_R tabOK rfl rfl rfl rfl rfl ?_
          | refine DW_E tabOK rfl rfl rfl rfl rfl ?_
          | refine DW_E0 tabOK rfl rfl rfl rfl rfl ?_
          | refine DW_no rfl rfl rfl ?_
          | refine DW_no0 rfl rfl rfl ?_
          | refine DW_lits tabOK rfl rfl rfl rfl rfl rfl rfl rfl rfl rfl rfl rfl rfl ?_
          | refine DW_append_own tabOK rfl rfl rfl rfl rfl rfl rfl rfl rfl rfl rfl rfl rfl rfl rfl (by simp; omega) (by simp; omega) ?_)
        | (show W _ _ _ _ _ _; first
          | refine W_seq ?_
          | refine W_text rfl (fun _ _ _ h => h) ?_
          | refine W_block ?_
          | refine W_skip ?_
          | refine W_exit ?_
          | refine W_ret ?_
          | refine W_true rfl ?_
          | refine W_false rfl ?_
          | refine W_cond rfl (fun _ => ?_) (fun _ => ?_)
          | refine W_draw mixed [2, 0, 1, 3, 4, 5, 6, 7] [.R, .R, .P, .R, .R, .P, .E, .E] rfl rfl (by kernel_rfl) ?_
          | refine W_draw mixed [1, 6, 0, 2, 3, 4, 5, 7, 8, 9, 10, 11, 12, 13, 14] [.R, .P, .R, .R, .R, .R, .P, .R, .R, .R, .R, .R, .R, .P, .P] rfl rfl (by kernel_rfl) ?_
          | refine W_draw mixed [2, 7, 12, 0, 1, 3, 4, 5, 6, 8, 9, 10, 11, 13, 14, 15, 16, 17, 18, 19, 20, 21, 22] [.R, .R, .P, .R, .R, .R, .R, .P, .R, .R, .R, .R, .P, .R, .R, .R, .R, .R, .R, .P, .P, .E, .E] rfl rfl (by kernel_rfl) ?_))
  refine DW_index tabOK rfl rfl rfl rfl rfl rfl rfl rfl rfl rfl (Int.natCast_nonneg _) (map_get he) ?_
  repeat (first
        | refine DW_Q tabs rfl rfl rfl rfl ?_
        | refine DW_R tabOK rfl rfl rfl rfl rfl ?_
        | refine DW_E tabOK rfl rfl rfl rfl rfl ?_
        | refine DW_E0 tabOK rfl rfl rfl rfl rfl ?_
        | refine DW_no rfl rfl rfl ?_
        | refine DW_no0 rfl rfl rfl ?_)
  refine DW_pure rfl rfl rfl rfl rfl (known23_ok 2) ?_
  repeat (first
        | refine DW_Q tabs rfl rfl rfl rfl ?_
        | refine DW_R tabOK rfl rfl rfl rfl rfl ?_
        | refine DW_E tabOK rfl rfl rfl rfl rfl ?_
        | refine DW_E0 tabOK rfl rfl rfl rfl rfl ?_
        | refine DW_no rfl rfl rfl ?_
        | refine DW_no0 rfl rfl rfl ?_)
  refine DW_index tabOK rfl rfl rfl rfl rfl rfl rfl rfl rfl rfl (Int.natCast_nonneg _) (map_get he2) ?_
  repeat (first
        | refine DW_Q tabs rfl rfl rfl rfl ?_
        | refine DW_R tabOK rfl rfl rfl rfl rfl ?_
        | refine DW_E tabOK rfl rfl rfl rfl rfl ?_
        | refine DW_E0 tabOK rfl rfl rfl rfl rfl ?_
        | refine DW_no rfl rfl rfl ?_
        | refine DW_no0 rfl rfl rfl ?_)
  refine DW_pure rfl rfl rfl rfl rfl (known23_ok 3) ?_
  repeat' (first
        | (show DW _ _ _ _ _ _ _ _; first
          | refine DW_Q tabs rfl rfl rfl rfl ?_
          | refine DW_nil ?_
          | refine DW_R tabOK rfl rfl rfl rfl rfl ?_
          | refine DW_E tabOK rfl rfl rfl rfl rfl ?_
          | refine DW_E0 tabOK rfl rfl rfl rfl rfl ?_
          | refine DW_no rfl rfl rfl ?_
          | refine DW_no0 rfl rfl rfl ?_
          | refine DW_lits tabOK rfl rfl rfl rfl rfl rfl rfl rfl rfl rfl rfl rfl rfl ?_
          | refine DW_append_own tabOK rfl rfl rfl rfl rfl rfl rfl rfl rfl rfl rfl rfl rfl rfl rfl (by simp; omega) (by simp; omega) ?_)
        | (show W _ _ _ _ _ _; first
          | refine W_seq ?_
          | refine W_text rfl (fun _ _ _ h => h) ?_
          | refine W_block ?_
          | refine W_skip ?_
          | refine W_exit ?_
          | refine W_ret ?_
          | refine W_true rfl ?_
          | refine W_false rfl ?_
          | refine W_cond rfl (fun _ => ?_) (fun _ => ?_)
          | refine W_draw mixed [2, 0, 1, 3, 4, 5, 6, 7] [.R, .R, .P, .R, .R, .P, .E, .E] rfl rfl (by kernel_rfl) ?_
          | refine W_draw mixed [1, 6, 0, 2, 3, 4, 5, 7, 8, 9, 10, 11, 12, 13, 14] [.R, .P, .R, .R, .R, .R, .P, .R, .R, .R, .R, .R, .R, .P, .P] rfl rfl (by kernel_rfl) ?_
          | refine W_draw mixed [2, 7, 12, 0, 1, 3, 4, 5, 6, 8, 9, 10, 11, 13, 14, 15, 16, 17, 18, 19, 20, 21, 22] [.R, .R, .P, .R, .R, .R, .R, .P, .R, .R, .R, .R, .P, .R, .R, .R, .R, .R, .R, .P, .P, .E, .E] rfl rfl (by kernel_rfl) ?_))
  refine DW_index tabOK rfl rfl rfl rfl rfl rfl rfl rfl rfl rfl (Int.natCast_nonneg _) (map_get he) ?_
  repeat (first
        | refine DW_Q tabs rfl rfl rfl rfl ?_
        | refine DW_R tabOK rfl rfl rfl rfl rfl ?_
        | refine DW_E tabOK rfl rfl rfl rfl rfl ?_
        | refine DW_E0 tabOK rfl rfl rfl rfl rfl ?_
        | refine DW_no rfl rfl rfl ?_
        | refine DW_no0 rfl rfl rfl ?_)
  refine DW_index tabOK rfl rfl rfl rfl rfl rfl rfl rfl rfl rfl (Int.natCast_nonneg _) (map_get he2) ?_
  repeat' (first
        | (show DW _ _ _ _ _ _ _ _; first
          | refine DW_Q tabs rfl rfl rfl rfl ?_
          | refine DW_nil ?_
          | refine DW_R tabOK rfl rfl rfl rfl rfl ?_
          | refine DW_E tabOK rfl rfl rfl rfl rfl ?_
          | refine DW_E0 tabOK rfl rfl rfl rfl rfl ?_
          | refine DW_no rfl rfl rfl ?_
          | refine DW_no0 rfl rfl rfl ?_
          | refine DW_lits tabOK rfl rfl rfl rfl rfl rfl rfl rfl rfl rfl rfl rfl rfl ?_
          | refine DW_append_own tabOK rfl rfl rfl rfl rfl rfl rfl rfl rfl rfl rfl rfl rfl rfl rfl (by simp; omega) (by simp; omega) ?_)
        | (show W _ _ _ _ _ _; first
          | refine W_seq ?_
          | refine W_text rfl (fun _ _ _ h => h) ?_
          | refine W_block ?_
          | refine W_skip ?_
          | refine W_exit ?_
          | refine W_ret ?_
          | refine W_true rfl ?_
          | refine W_false rfl ?_
          | refine W_cond rfl (fun _ => ?_) (fun _ => ?_)
          | refine W_draw mixed [2, 0, 1, 3, 4, 5, 6, 7] [.R, .R, .P, .R, .R, .P, .E, .E] rfl rfl (by kernel_rfl) ?_
          | refine W_draw mixed [1, 6, 0, 2, 3, 4, 5, 7, 8, 9, 10, 11, 12, 13, 14] [.R, .P, .R, .R, .R, .R, .P, .R, .R, .R, .R, .R, .R, .P, .P] rfl rfl (by kernel_rfl) ?_
          | refine W_draw mixed [2, 7, 12, 0, 1, 3, 4, 5, 6, 8, 9, 10, 11, 13, 14, 15, 16, 17, 18, 19, 20, 21, 22] [.R, .R, .P, .R, .R, .R, .R, .P, .R, .R, .R, .R, .P, .R, .R, .R, .R, .R, .R, .P, .P, .E, .E] rfl rfl (by kernel_rfl) ?_))
  refine DW_index tabOK rfl rfl rfl rfl rfl rfl rfl rfl rfl rfl (Int.natCast_nonneg _) (map_get he) ?_
  repeat (first
        | refine DW_Q tabs rfl rfl rfl rfl ?_
        | refine DW_R tabOK rfl rfl rfl rfl rfl ?_
        | refine DW_E tabOK rfl rfl rfl rfl rfl ?_
        | refine DW_E0 tabOK rfl rfl rfl rfl rfl ?_
        | refine DW_no rfl rfl rfl ?_
        | refine DW_no0 rfl rfl rfl ?_)
  refine DW_index tabOK rfl rfl rfl rfl rfl rfl rfl rfl rfl rfl (Int.natCast_nonneg _) (map_get he) ?_
  repeat (first
        | refine DW_Q tabs rfl rfl rfl rfl ?_
        | refine DW_R tabOK rfl rfl rfl rfl rfl ?_
        | refine DW_E tabOK rfl rfl rfl rfl rfl ?_
        | refine DW_E0 tabOK rfl rfl rfl rfl rfl ?_
        | refine DW_no rfl rfl rfl ?_
        | refine DW_no0 rfl rfl rfl ?_)
  refine DW_index tabOK rfl rfl rfl rfl rfl rfl rfl rfl rfl rfl (Int.natCast_nonneg _) (map_get he2) ?_
  repeat' (first
        | (show DW _ _ _ _ _ _ _ _; first
          | refine DW_Q tabs rfl rfl rfl rfl ?_
          | refine DW_nil ?_
          | refine DW_R tabOK rfl rfl rfl rfl rfl ?_
          | refine DW_E tabOK rfl rfl rfl rfl rfl ?_
          | refine DW_E0 tabOK rfl rfl rfl rfl rfl ?_
          | refine DW_no rfl rfl rfl ?_
          | refine DW_no0 rfl rfl rfl ?_
          | refine DW_lits tabOK rfl rfl rfl rfl rfl rfl rfl rfl rfl rfl rfl rfl rfl ?_
          | refine DW_append_own tabOK rfl rfl rfl rfl rfl rfl rfl rfl rfl rfl rfl rfl rfl rfl rfl (by simp; omega) (by simp; omega) ?_)
        | (show W _ _ _ _ _ _; first
          | refine W_seq ?_
          | refine W_text rfl (fun _ _ _ h => h) ?_
          | refine W_block ?_
          | refine W_skip ?_
          | refine W_exit ?_
          | refine W_ret ?_
          | refine W_true rfl ?_
          | refine W_false rfl ?_
          | refine W_cond rfl (fun _ => ?_) (fun _ => ?_)
          | refine W_draw mixed [2, 0, 1, 3, 4, 5, 6, 7] [.R, .R, .P, .R, .R, .P, .E, .E] rfl rfl (by kernel_rfl) ?_
          | refine W_draw mixed [1, 6, 0, 2, 3, 4, 5, 7, 8, 9, 10, 11, 12, 13, 14] [.R, .P, .R, .R, .R, .R, .P, .R, .R, .R, .R, .R, .R, .P, .P] rfl rfl (by kernel_rfl) ?_
          | refine W_draw mixed [2, 7, 12, 0, 1, 3, 4, 5, 6, 8, 9, 10, 11, 13, 14, 15, 16, 17, 18, 19, 20, 21, 22] [.R, .R, .P, .R, .R, .R, .R, .P, .R, .R, .R, .R, .P, .R, .R, .R, .R, .R, .R, .P, .P, .E, .E] rfl rfl (by kernel_rfl) ?_))
  exact ⟨rfl, _, rfl, rfl, rowsT_of rfl rfl rfl rfl⟩
set_option maxHeartbeats 1000000 in
theorem seen27_31 (a b : List Dl) (ta tb : Tag) (i k : Nat) (p q : Bytes) (he : a[i]? = some ⟨p, 3⟩) (he2 : b[k]? = some ⟨q, 1⟩) (s : List Dl × Nat) (hs : s.1.length < 1000000000) :
    ACalls Try.prog 27 [.int .i64 i, .int .i64 k, .ptr 1 0, .ref [.sl 2 (b.map Dl.av) tb], .ref [.sl 2 (a.map Dl.av) ta], .ptr 0 0] (rowsT s) (fun r M => r = .ret (.tup []) ∧ (rowsT (more s ⟨p, 2⟩)).le M) := by
  refine acalls_of tabOK Try.func27 rfl (by decide) (by simp [Try.f27]) ?_
  have d1 : decide ((i : Int) < 0) = false := by simp
  have d2 : decide ((k : Int) < 0) = false := by simp
  repeat' (first
        | (show DW _ _ _ _ _ _ _ _; first
          | refine DW_V tabs rfl rfl rfl rfl (congrArg AV.bool d1) ?_
          | refine DW_V tabs rfl rfl rfl rfl (congrArg AV.bool d2) ?_
          | refine DW_Q tabs rfl rfl rfl rfl ?_
          | refine DW_nil ?_
          | refine DW_R tabOK rfl rfl rfl rfl rfl ?_
          | refine DW_E tabOK rfl rfl rfl rfl rfl ?_
          | refine DW_E0 tabOK rfl rfl rfl rfl rfl ?_
          | refine DW_no rfl rfl rfl ?_
          | refine DW_no0 rfl rfl rfl ?_
          | refine DW_lits tabOK rfl rfl rfl rfl rfl rfl rfl rfl rfl rfl rfl rfl rfl ?_
          | refine DW_append_own tabOK rfl rfl rfl rfl rfl rfl rfl rfl rfl rfl rfl rfl rfl rfl rfl (by simp; omega) (by simp; omega) ?_)
        | (show W _ _ _ _ _ _; first
          | refine W_seq ?_
          | refine W_text rfl (fun _ _ _ h => h) ?_
          | refine W_block ?_
          | refine W_skip ?_
          | refine W_exit ?_
          | refine W_ret ?_
          | refine W_true rfl ?_
          | refine W_false rfl ?_
          | refine W_cond rfl (fun _ => ?_) (fun _ => ?_)
          | refine W_draw mixed [2, 0, 1, 3, 4, 5, 6, 7] [.R, .R, .P, .R, .R, .P, .E, .E] rfl rfl (by kernel_rfl) ?_
          | refine W_draw mixed [1, 6, 0, 2, 3, 4, 5, 7, 8, 9, 10, 11, 12, 13, 14] [.R, .P, .R, .R, .R, .R, .P, .R, .R, .R, .R, .R, .R, .P, .P] rfl rfl (by kernel_rfl) ?_
          | refine W_draw mixed [2, 7, 12, 0, 1, 3, 4, 5, 6, 8, 9, 10, 11, 13, 14, 15, 16, 17, 18, 19, 20, 21, 22] [.R, .R, .P, .R, .R, .R, .R, .P, .R, .R, .R, .R, .P, .R, .R, .R, .R, .R, .R, .P, .P, .E, .E] rfl rfl (by kernel_rfl) ?_))
  refine DW_index tabOK rfl rfl rfl rfl rfl rfl rfl rfl rfl rfl (Int.natCast_nonneg _) (map_get he) ?_
  repeat (first
        | refine DW_Q tabs rfl rfl rfl rfl ?_
        | refine DW_R tabOK rfl rfl rfl rfl rfl ?_
        | refine DW_E tabOK rfl rfl rfl rfl rfl ?_
        | refine DW_E0 tabOK rfl rfl rfl rfl rfl ?_
        | refine DW_no rfl rfl rfl ?_
        | refine DW_no0 rfl rfl rfl ?_)
  refine DW_pure rfl rfl rfl rfl rfl (known23_ok 3) ?_
  repeat (first
        | refine DW_Q tabs rfl rfl rfl rfl ?_
        | refine DW_R tabOK rfl rfl rfl rfl rfl ?_
        | refine DW_E tabOK rfl rfl rfl rfl rfl ?_
        | refine DW_E0 tabOK rfl rfl rfl rfl rfl ?_
        | refine DW_no rfl rfl rfl ?_
        | refine DW_no0 rfl rfl rfl ?_)
  refine DW_index tabOK rfl rfl rfl rfl rfl rfl rfl rfl rfl rfl (Int.natCast_nonneg _) (map_get he2) ?_
  repeat (first
        | refine DW_Q tabs rfl rfl rfl rfl ?_
        | refine DW_R tabOK rfl rfl rfl rfl rfl ?_
        | refine DW_E tabOK rfl rfl rfl rfl rfl ?_
        | refine DW_E0 tabOK rfl rfl rfl rfl rfl ?_
        | refine DW_no rfl rfl rfl ?_
        | refine DW_no0 rfl rfl rfl ?_)
  refine DW_pure rfl rfl rfl rfl rfl (known23_ok 1) ?_
  repeat' (first
        | (show DW _ _ _ _ _ _ _ _; first
          | refine DW_Q tabs rfl rfl rfl rfl ?_
          | refine DW_nil ?_
          | refine DW_R tabOK rfl rfl rfl rfl rfl ?_
          | refine DW_E tabOK rfl rfl rfl rfl rfl ?_
          | refine DW_E0 tabOK rfl rfl rfl rfl rfl ?_
          | refine DW_no rfl rfl rfl ?_
          | refine DW_no0 rfl rfl rfl ?_
          | refine DW_lits tabOK rfl rfl rfl rfl rfl rfl rfl rfl rfl rfl rfl rfl rfl ?_
          | refine DW_append_own tabOK rfl rfl rfl rfl rfl rfl rfl rfl rfl rfl rfl rfl rfl rfl rfl (by simp; omega) (by simp; omega) ?_)
        | (show W _ _ _ _ _ _; first
          | refine W_seq ?_
          | refine W_text rfl (fun _ _ _ h => h) ?_
          | refine W_block ?_
          | refine W_skip ?_
          | refine W_exit ?_
          | refine W_ret ?_
          | refine W_true rfl ?_
          | refine W_false rfl ?_
          | refine W_cond rfl (fun _ => ?_) (fun _ => ?_)
          | refine W_draw mixed [2, 0, 1, 3, 4, 5, 6, 7] [.R, .R, .P, .R, .R, .P, .E, .E] rfl rfl (by kernel_rfl) ?_
          | refine W_draw mixed [1, 6, 0, 2, 3, 4, 5, 7, 8, 9, 10, 11, 12, 13, 14] [.R, .P, .R, .R, .R, .R, .P, .R, .R, .R, .R, .R, .R, .P, .P] rfl rfl (by kernel_rfl) ?_
          | refine W_draw mixed [2, 7, 12, 0, 1, 3, 4, 5, 6, 8, 9, 10, 11, 13, 14, 15, 16, 17, 18, 19, 20, 21, 22] [.R, .R, .P, .R, .R, .R, .R, .P, .R, .R, .R, .R, .P, .R, .R, .R, .R, .R, .R, .P, .P, .E, .E] rfl rfl (by kernel_rfl) ?_))
  refine DW_index tabOK rfl rfl rfl rfl rfl rfl rfl rfl rfl rfl (Int.natCast_nonneg _) (map_get he) ?_
  repeat (first
        | refine DW_Q tabs rfl rfl rfl rfl ?_
        | refine DW_R tabOK rfl rfl rfl rfl rfl ?_
        | refine DW_E tabOK rfl rfl rfl rfl rfl ?_
        | refine DW_E0 tabOK rfl rfl rfl rfl rfl ?_
        | refine DW_no rfl rfl rfl ?_
        | refine DW_no0 rfl rfl rfl ?_)
  refine DW_index tabOK rfl rfl rfl rfl rfl rfl rfl rfl rfl rfl (Int.natCast_nonneg _) (map_get he2) ?_
  repeat' (first
        | (show DW _ _ _ _ _ _ _ _; first
          | refine DW_Q tabs rfl rfl rfl rfl ?_
          | refine DW_nil ?_
          | refine DW_R tabOK rfl rfl rfl rfl rfl ?_
          | refine DW_E tabOK rfl rfl rfl rfl rfl ?_
          | refine DW_E0 tabOK rfl rfl rfl rfl rfl ?_
          | refine DW_no rfl rfl rfl ?_
          | refine DW_no0 rfl rfl rfl ?_
          | refine DW_lits tabOK rfl rfl rfl rfl rfl rfl rfl rfl rfl rfl rfl rfl rfl ?_
          | refine DW_append_own tabOK rfl rfl rfl rfl rfl rfl rfl rfl rfl rfl rfl rfl rfl rfl rfl (by simp; omega) (by simp; omega) ?_)
        | (show W _ _ _ _ _ _; first
          | refine W_seq ?_
          | refine W_text rfl (fun _ _ _ h => h) ?_
          | refine W_block ?_
          | refine W_skip ?_
          | refine W_exit ?_
          | refine W_ret ?_
          | refine W_true rfl ?_
          | refine W_false rfl ?_
          | refine W_cond rfl (fun _ => ?_) (fun _ => ?_)
          | refine W_draw mixed [2, 0, 1, 3, 4, 5, 6, 7] [.R, .R, .P, .R, .R, .P, .E, .E] rfl rfl (by kernel_rfl) ?_
          | refine W_draw mixed [1, 6, 0, 2, 3, 4, 5, 7, 8, 9, 10, 11, 12, 13, 14] [.R, .P, .R, .R, .R, .R, .P, .R, .R, .R, .R, .R, .R, .P, .P] rfl rfl (by kernel_rfl) ?_
          | refine W_draw mixed [2, 7, 12, 0, 1, 3, 4, 5, 6, 8, 9, 10, 11, 13, 14, 15, 16, 17, 18, 19, 20, 21, 22] [.R, .R, .P, .R, .R, .R, .R, .P, .R, .R, .R, .R, .P, .R, .R, .R, .R, .R, .R, .P, .P, .E, .E] rfl rfl (by kernel_rfl) ?_))
  refine DW_index tabOK rfl rfl rfl rfl rfl rfl rfl rfl rfl rfl (Int.natCast_nonneg _) (map_get he) ?_
  repeat (first
        | refine DW_Q tabs rfl rfl rfl rfl ?_
        | refine DW_R tabOK rfl rfl rfl rfl rfl ?_
        | refine DW_E tabOK rfl rfl rfl rfl rfl ?_
        | refine DW_E0 tabOK rfl rfl rfl rfl rfl ?_
        | refine DW_no rfl rfl rfl ?_
        | refine DW_no0 rfl rfl rfl ?_)
  refine DW_index tabOK rfl rfl rfl rfl rfl rfl rfl rfl rfl rfl (Int.natCast_nonneg _) (map_get he) ?_
  repeat (first
        | refine DW_Q tabs rfl rfl rfl rfl ?_
        | refine DW_R tabOK rfl rfl rfl rfl rfl ?_
        | refine DW_E tabOK rfl rfl rfl rfl rfl ?_
        | refine DW_E0 tabOK rfl rfl rfl rfl rfl ?_
        | refine DW_no rfl rfl rfl ?_
        | refine DW_no0 rfl rfl rfl ?_)
  refine DW_index tabOK rfl rfl rfl rfl rfl rfl rfl rfl rfl rfl (Int.natCast_nonneg _) (map_get he2) ?_
  repeat' (first
        | (show DW _ _ _ _ _ _ _ _; first
          | refine DW_Q tabs rfl rfl rfl rfl ?_
          | refine DW_nil ?_
          | refine DW_R tabOK rfl rfl rfl rfl rfl ?_
          | refine DW_E tabOK rfl rfl rfl rfl rfl ?_
          | refine DW_E0 tabOK rfl rfl rfl rfl rfl ?_
          | refine DW_no rfl rfl rfl ?_
          | refine DW_no0 rfl rfl rfl ?_
          | refine DW_lits tabOK rfl rfl rfl rfl rfl rfl rfl rfl rfl rfl rfl rfl rfl ?_
          | refine DW_append_own tabOK rfl rfl rfl rfl rfl rfl rfl rfl rfl rfl rfl rfl rfl rfl rfl (by simp; omega) (by simp; omega) ?_)
        | (show W _ _ _ _ _ _; first
          | refine W_seq ?_
          | refine W_text rfl (fun _ _ _ h => h) ?_
          | refine W_block ?_
          | refine W_skip ?_
          | refine W_exit ?_
          | refine W_ret ?_
          | refine W_true rfl ?_
          | refine W_false rfl ?_
          | refine W_cond rfl (fun _ => ?_) (fun _ => ?_)
          | refine W_draw mixed [2, 0, 1, 3, 4, 5, 6, 7] [.R, .R, .P, .R, .R, .P, .E, .E] rfl rfl (by kernel_rfl) ?_
          | refine W_draw mixed [1, 6, 0, 2, 3, 4, 5, 7, 8, 9, 10, 11, 12, 13, 14] [.R, .P, .R, .R, .R, .R, .P, .R, .R, .R, .R, .R, .R, .P, .P] rfl rfl (by kernel_rfl) ?_
          | refine W_draw mixed [2, 7, 12, 0, 1, 3, 4, 5, 6, 8, 9, 10, 11, 13, 14, 15, 16, 17, 18, 19, 20, 21, 22] [.R, .R, .P, .R, .R, .R, .R, .P, .R, .R, .R, .R, .P, .R, .R, .R, .R, .R, .R, .P, .P, .E, .E] rfl rfl (by kernel_rfl) ?_))
  exact ⟨rfl, _, rfl, rfl, rowsT_of rfl rfl rfl rfl⟩
set_option maxHeartbeats 1000000 in
theorem seen27_32 (a b : List Dl) (ta tb : Tag) (i k : Nat) (p q : Bytes) (he : a[i]? = some ⟨p, 3⟩) (he2 : b[k]? = some ⟨q, 2⟩) (s : List Dl × Nat) (hs : s.1.length < 1000000000) :
    ACalls Try.prog 27 [.int .i64 i, .int .i64 k, .ptr 1 0, .ref [.sl 2 (b.map Dl.av) tb], .ref [.sl 2 (a.map Dl.av) ta], .ptr 0 0] (rowsT s) (fun r M => r = .ret (.tup []) ∧ (rowsT (more s ⟨p, 3⟩)).le M) := by
  refine acalls_of tabOK Try.func27 rfl (by decide) (by simp [Try.f27]) ?_
  have d1 : decide ((i : Int) < 0) = false := by simp
  have d2 : decide ((k : Int) < 0) = false := by simp
  repeat' (first
        | (show DW _ _ _ _ _ _ _ _; first
          | refine DW_V tabs rfl rfl rfl rfl (congrArg AV.bool d1) ?_
          | refine DW_V tabs rfl rfl rfl rfl (congrArg AV.bool d2) ?_
          | refine DW_Q tabs rfl rfl rfl rfl ?_
          | refine DW_nil ?_
          | refine DW_R tabOK rfl rfl rfl rfl rfl ?_
          | refine DW_E tabOK rfl rfl rfl rfl rfl ?_
          | refine DW_E0 tabOK rfl rfl rfl rfl rfl ?_
          | refine DW_no rfl rfl rfl ?_
          | refine DW_no0 rfl rfl rfl ?_
          | refine DW_lits tabOK rfl rfl rfl rfl rfl rfl rfl rfl rfl rfl rfl rfl rfl ?_
          | refine DW_append_own tabOK rfl rfl rfl rfl rfl rfl rfl rfl rfl rfl rfl rfl rfl rfl rfl (by simp; omega) (by simp; omega) ?_)
        | (show W _ _ _ _ _ _; first
          | refine W_seq ?_
          | refine W_text rfl (fun _ _ _ h => h) ?_
          | refine W_block ?_
          | refine W_skip ?_
          | refine W_exit ?_
          | refine W_ret ?_
          | refine W_true rfl ?_
          | refine W_false rfl ?_
          | refine W_cond rfl (fun _ => ?_) (fun _ => ?_)
          | refine W_draw mixed [2, 0, 1, 3, 4, 5, 6, 7] [.R, .R, .P, .R, .R, .P, .E, .E] rfl rfl (by kernel_rfl) ?_
          | refine W_draw mixed [1, 6, 0, 2, 3, 4, 5, 7, 8, 9, 10, 11, 12, 13, 14] [.R, .P, .R, .R, .R, .R, .P, .R, .R, .R, .R, .R, .R, .P, .P] rfl rfl (by kernel_rfl) ?_
          | refine W_draw mixed [2, 7, 12, 0, 1, 3, 4, 5, 6, 8, 9, 10, 11, 13, 14, 15, 16, 17, 18, 19, 20, 21, 22] [.R, .R, .P, .R, .R, .R, .R, .P, .R, .R, .R, .R, .P, .R, .R, .R, .R, .R, .R, .P, .P, .E, .E] rfl rfl (by kernel_rfl) ?_))
  refine DW_index tabOK rfl rfl rfl rfl rfl rfl rfl rfl rfl rfl (Int.natCast_nonneg _) (map_get he) ?_
  repeat (first
        | refine DW_Q tabs rfl rfl rfl rfl ?_
        | refine DW_R tabOK rfl rfl rfl rfl rfl ?_
        | refine DW_E tabOK rfl rfl rfl rfl rfl ?_
        | refine DW_E0 tabOK rfl rfl rfl rfl rfl ?_
        | refine DW_no rfl rfl rfl ?_
        | refine DW_no0 rfl rfl rfl ?_)
  refine DW_pure rfl rfl rfl rfl rfl (known23_ok 3) ?_
  repeat (first
        | refine DW_Q tabs rfl rfl rfl rfl ?_
        | refine DW_R tabOK rfl rfl rfl rfl rfl ?_
        | refine DW_E tabOK rfl rfl rfl rfl rfl ?_
        | refine DW_E0 tabOK rfl rfl rfl rfl rfl ?_
        | refine DW_no rfl rfl rfl ?_
        | refine DW_no0 rfl rfl rfl ?_)
  refine DW_index tabOK rfl rfl rfl rfl rfl rfl rfl rfl rfl rfl (Int.natCast_nonneg _) (map_get he2) ?_
  repeat (first
        | refine DW_Q tabs rfl rfl rfl rfl ?_
        | refine DW_R tabOK rfl rfl rfl rfl rfl ?_
        | refine DW_E tabOK rfl rfl rfl rfl rfl ?_
        | refine DW_E0 tabOK rfl rfl rfl rfl rfl ?_
        | refine DW_no rfl rfl rfl ?_
        | refine DW_no0 rfl rfl rfl ?_)
  refine DW_pure rfl rfl rfl rfl rfl (known23_ok 2) ?_
  repeat' (first
        | (show DW _ _ _ _ _ _ _ _; first
          | refine DW_Q tabs rfl rfl rfl rfl ?_
          | refine DW_nil ?_
          | refine DW_R tabOK rfl rfl rfl rfl rfl ?_
          | refine DW_E tabOK rfl rfl rfl rfl rfl ?_
          | refine DW_E0 tabOK rfl rfl rfl rfl rfl ?_
          | refine DW_no rfl rfl rfl ?_
          | refine DW_no0 rfl rfl rfl ?_
          | refine DW_lits tabOK rfl rfl rfl rfl rfl rfl rfl rfl rfl rfl rfl rfl rfl ?_
          | refine DW_append_own tabOK rfl rfl rfl rfl rfl rfl rfl rfl rfl rfl rfl rfl rfl rfl rfl (by simp; omega) (by simp; omega) ?_)
        | (show W _ _ _ _ _ _; first
          | refine W_seq ?_
          | refine W_text rfl (fun _ _ _ h => h) ?_
          | refine W_block ?_
          | refine W_skip ?_
          | refine W_exit ?_
          | refine W_ret ?_
          | refine W_true rfl ?_
          | refine W_false rfl ?_
          | refine W_cond rfl (fun _ => ?_) (fun _ => ?_)
          | refine W_draw mixed [2, 0, 1, 3, 4, 5, 6, 7] [.R, .R, .P, .R, .R, .P, .E, .E] rfl rfl (by kernel_rfl) ?_
          | refine W_draw mixed [1, 6, 0, 2, 3, 4, 5, 7, 8, 9, 10, 11, 12, 13, 14] [.R, .P, .R, .R, .R, .R, .P, .R, .R, .R, .R, .R, .R, .P, .P] rfl rfl (by kernel_rfl) ?_
          | refine W_draw mixed [2, 7, 12, 0, 1, 3, 4, 5, 6, 8, 9, 10, 11, 13, 14, 15, 16, 17, 18, 19, 20, 21, 22] [.R, .R, .P, .R, .R, .R, .R, .P, .R, .R, .R, .R, .P, .R, .R, .R, .R, .R, .R, .P, .P, .E, .E] rfl rfl (by kernel_rfl) ?_))
  refine DW_index tabOK rfl rfl rfl rfl rfl rfl rfl rfl rfl rfl (Int.natCast_nonneg _) (map_get he) ?_
  repeat (first
        | refine DW_Q tabs rfl rfl rfl rfl ?_
        | refine DW_R tabOK rfl rfl rfl rfl rfl ?_
        | refine DW_E tabOK rfl rfl rfl rfl rfl ?_
        | refine DW_E0 tabOK rfl rfl rfl rfl rfl ?_
        | refine DW_no rfl rfl rfl ?_
        | refine DW_no0 rfl rfl rfl ?_)
  refine DW_index tabOK rfl rfl rfl rfl rfl rfl rfl rfl rfl rfl (Int.natCast_nonneg _) (map_get he2) ?_
  repeat' (first
        | (show DW _ _ _ _ _ _ _ _; first
          | refine DW_Q tabs rfl rfl rfl rfl ?_
          | refine DW_nil ?_
          | refine DW_R tabOK rfl rfl rfl rfl rfl ?_
          | refine DW_E tabOK rfl rfl rfl rfl rfl ?_
          | refine DW_E0 tabOK rfl rfl rfl rfl rfl ?_
          | refine DW_no rfl rfl rfl ?_
          | refine DW_no0 rfl rfl rfl ?_
          | refine DW_lits tabOK rfl rfl rfl rfl rfl rfl rfl rfl rfl rfl rfl rfl rfl ?_
          | refine DW_append_own tabOK rfl rfl rfl rfl rfl rfl rfl rfl rfl rfl rfl rfl rfl rfl rfl (by simp; omega) (by simp; omega) ?_)
        | (show W _ _ _ _ _ _; first
          | refine W_seq ?_
          | refine W_text rfl (fun _ _ _ h => h) ?_
          | refine W_block ?_
          | refine W_skip ?_
          | refine W_exit ?_
          | refine W_ret ?_
          | refine W_true rfl ?_
          | refine W_false rfl ?_
          | refine W_cond rfl (fun _ => ?_) (fun _ => ?_)
          | refine W_draw mixed [2, 0, 1, 3, 4, 5, 6, 7] [.R, .R, .P, .R, .R, .P, .E, .E] rfl rfl (by kernel_rfl) ?_
          | refine W_draw mixed [1, 6, 0, 2, 3, 4, 5, 7, 8, 9, 10, 11, 12, 13, 14] [.R, .P, .R, .R, .R, .R, .P, .R, .R, .R, .R, .R, .R, .P, .P] rfl rfl (by kernel_rfl) ?_
          | refine W_draw mixed [2, 7, 12, 0, 1, 3, 4, 5, 6, 8, 9, 10, 11, 13, 14, 15, 16, 17, 18, 19, 20, 21, 22] [.R, .R, .P, .R, .R, .R, .R, .P, .R, .R, .R, .R, .P, .R, .R, .R, .R, .R, .R, .P, .P, .E, .E] rfl rfl (by kernel_rfl) ?_))
  refine DW_index tabOK rfl rfl rfl rfl rfl rfl rfl rfl rfl rfl (Int.natCast_nonneg _) (map_get he) ?_
  repeat (first
        | refine DW_Q tabs rfl rfl rfl rfl ?_
        | refine DW_R tabOK rfl rfl rfl rfl rfl ?_
        | refine DW_E tabOK rfl rfl rfl rfl rfl ?_
        | refine DW_E0 tabOK rfl rfl rfl rfl rfl ?_
        | refine DW_no rfl rfl rfl ?_
        | refine DW_no0 rfl rfl rfl ?_)
  refine DW_index tabOK rfl rfl rfl rfl rfl rfl rfl rfl rfl rfl (Int.natCast_nonneg _) (map_get he) ?_
  repeat (first
        | refine DW_Q tabs rfl rfl rfl rfl ?_
        | refine DW_R tabOK rfl rfl rfl rfl rfl ?_
        | refine DW_E tabOK rfl rfl rfl rfl rfl ?_
        | refine DW_E0 tabOK rfl rfl rfl rfl rfl ?_
        | refine DW_no rfl rfl rfl ?_
        | refine DW_no0 rfl rfl rfl ?_)
  refine DW_index tabOK rfl rfl rfl rfl rfl rfl rfl rfl rfl rfl (Int.natCast_nonneg _) (map_get he2) ?_
  repeat' (first
        | (show DW _ _ _ _ _ _ _ _; first
          | refine DW_Q tabs rfl rfl rfl rfl ?_
          | refine DW_nil ?_
          | refine DW_R tabOK rfl rfl rfl rfl rfl ?_
          | refine DW_E tabOK rfl rfl rfl rfl rfl ?_
          | refine DW_E0 tabOK rfl rfl rfl rfl rfl ?_
          | refine DW_no rfl rfl rfl ?_
          | refine DW_no0 rfl rfl rfl ?_
          | refine DW_lits tabOK rfl rfl rfl rfl rfl rfl rfl rfl rfl rfl rfl rfl rfl ?_
          | refine DW_append_own tabOK rfl rfl rfl rfl rfl rfl rfl rfl rfl rfl rfl rfl rfl rfl rfl (by simp; omega) (by simp; omega) ?_)
        | (show W _ _ _ _ _ _; first
          | refine W_seq ?_
          | refine W_text rfl (fun _ _ _ h => h) ?_
          | refine W_block ?_
          | refine W_skip ?_
          | refine W_exit ?_
          | refine W_ret ?_
          | refine W_true rfl ?_
          | refine W_false rfl ?_
          | refine W_cond rfl (fun _ => ?_) (fun _ => ?_)
          | refine W_draw mixed [2, 0, 1, 3, 4, 5, 6, 7] [.R, .R, .P, .R, .R, .P, .E, .E] rfl rfl (by kernel_rfl) ?_
          | refine W_draw mixed [1, 6, 0, 2, 3, 4, 5, 7, 8, 9, 10, 11, 12, 13, 14] [.R, .P, .R, .R, .R, .R, .P, .R, .R, .R, .R, .R, .R, .P, .P] rfl rfl (by kernel_rfl) ?_
          | refine W_draw mixed [2, 7, 12, 0, 1, 3, 4, 5, 6, 8, 9, 10, 11, 13, 14, 15, 16, 17, 18, 19, 20, 21, 22] [.R, .R, .P, .R, .R, .R, .R, .P, .R, .R, .R, .R, .P, .R, .R, .R, .R, .R, .R, .P, .P, .E, .E] rfl rfl (by kernel_rfl) ?_))
  exact ⟨rfl, _, rfl, rfl, rowsT_of rfl rfl rfl rfl⟩
set_option maxHeartbeats 1000000 in
theorem seen27_33 (a b : List Dl) (ta tb : Tag) (i k : Nat) (p q : Bytes) (he : a[i]? = some ⟨p, 3⟩) (he2 : b[k]? = some ⟨q, 3⟩) (s : List Dl × Nat) (hs : s.1.length < 1000000000) :
    ACalls Try.prog 27 [.int .i64 i, .int .i64 k, .ptr 1 0, .ref [.sl 2 (b.map Dl.av) tb], .ref [.sl 2 (a.map Dl.av) ta], .ptr 0 0] (rowsT s) (fun r M => r = .ret (.tup []) ∧ (rowsT (more s ⟨p, 3⟩)).le M) := by
  refine acalls_of tabOK Try.func27 rfl (by decide) (by simp [Try.f27]) ?_
  have d1 : decide ((i : Int) < 0) = false := by simp
  have d2 : decide ((k : Int) < 0) = false := by simp
  repeat' (first
        | (show DW _ _ _ _ _ _ _ _; first
          | refine DW_V tabs rfl rfl rfl rfl (congrArg AV.bool d1) ?_
          | refine DW_V tabs rfl rfl rfl rfl (congrArg AV.bool d2) ?_
          | refine DW_Q tabs rfl rfl rfl rfl ?_
          | refine DW_nil ?_
          | refine DW_R tabOK rfl rfl rfl rfl rfl ?_
          | refine DW_E tabOK rfl rfl rfl rfl rfl ?_
          | refine DW_E0 tabOK rfl rfl rfl rfl rfl ?_
          | refine DW_no rfl rfl rfl ?_
          | refine DW_no0 rfl rfl rfl ?_
          | refine DW_lits tabOK rfl rfl rfl rfl rfl rfl rfl rfl rfl rfl rfl rfl rfl ?_
          | refine DW_append_own tabOK rfl rfl rfl rfl rfl rfl rfl rfl rfl rfl rfl rfl rfl rfl rfl (by simp; omega) (by simp; omega) ?_)
        | (show W _ _ _ _ _ _; first
          | refine W_seq ?_
          | refine W_text rfl (fun _ _ _ h => h) ?_
          | refine W_block ?_
          | refine W_skip ?_
          | refine W_exit ?_
          | refine W_ret ?_
          | refine W_true rfl ?_
          | refine W_false rfl ?_
          | refine W_cond rfl (fun _ => ?_) (fun _ => ?_)
          | refine W_draw mixed [2, 0, 1, 3, 4, 5, 6, 7] [.R, .R, .P, .R, .R, .P, .E, .E] rfl rfl (by kernel_rfl) ?_
          | refine W_draw mixed [1, 6, 0, 2, 3, 4, 5, 7, 8, 9, 10, 11, 12, 13, 14] [.R, .P, .R, .R, .R, .R, .P, .R, .R, .R, .R, .R, .R, .P, .P] rfl rfl (by kernel_rfl) ?_
          | refine W_draw mixed [2, 7, 12, 0, 1, 3, 4, 5, 6, 8, 9, 10, 11, 13, 14, 15, 16, 17, 18, 19, 20, 21, 22] [.R, .R, .P, .R, .R, .R, .R, .P, .R, .R, .R, .R, .P, .R, .R, .R, .R, .R, .R, .P, .P, .E, .E] rfl rfl (by kernel_rfl) ?_))
  refine DW_index tabOK rfl rfl rfl rfl rfl rfl rfl rfl rfl rfl (Int.natCast_nonneg _) (map_get he) ?_
  repeat (first
        | refine DW_Q tabs rfl rfl rfl rfl ?_
        | refine DW_R tabOK rfl rfl rfl rfl rfl ?_
        | refine DW_E tabOK rfl rfl rfl rfl rfl ?_
        | refine DW_E0 tabOK rfl rfl rfl rfl rfl ?_
        | refine DW_no rfl rfl rfl ?_
        | refine DW_no0 rfl rfl rfl ?_)
  refine DW_pure rfl rfl rfl rfl rfl (known23_ok 3) ?_
  repeat (first
        | refine DW_Q tabs rfl rfl rfl rfl ?_
        | refine DW_R tabOK rfl rfl rfl rfl rfl ?_
        | refine DW_E tabOK rfl rfl rfl rfl rfl ?_
        | refine DW_E0 tabOK rfl rfl rfl rfl rfl ?_
        | refine DW_no rfl rfl rfl ?_
        | refine DW_no0 rfl rfl rfl ?_)
  refine DW_index tabOK rfl rfl rfl rfl rfl rfl rfl rfl rfl rfl (Int.natCast_nonneg _) (map_get he2) ?_
  repeat (first
        | refine DW_Q tabs rfl rfl rfl rfl ?_
        | refine DW_R tabOK rfl rfl rfl rfl rfl ?_
        | refine DW_E tabOK rfl rfl rfl rfl rfl ?_
        | refine DW_E0 tabOK rfl rfl rfl rfl rfl ?_
        | refine DW_no rfl rfl rfl ?_
        | refine DW_no0 rfl rfl rfl ?_)
  refine DW_pure rfl rfl rfl rfl rfl (known23_ok 3) ?_
  repeat' (first
        | (show DW _ _ _ _ _ _ _ _; first
          | refine DW_Q tabs rfl rfl rfl rfl ?_
          | refine DW_nil ?_
          | refine DW_R tabOK rfl rfl rfl rfl rfl ?_
          | refine DW_E tabOK rfl rfl rfl rfl rfl ?_
          | refine DW_E0 tabOK rfl rfl rfl rfl rfl ?_
          | refine DW_no rfl rfl rfl ?_
          | refine DW_no0 rfl rfl rfl ?_
          | refine DW_lits tabOK rfl rfl rfl rfl rfl rfl rfl rfl rfl rfl rfl rfl rfl ?_
          | refine DW_append_own tabOK rfl rfl rfl rfl rfl rfl rfl rfl rfl rfl rfl rfl rfl rfl rfl (by simp; omega) (by simp; omega) ?_)
        | (show W _ _ _ _ _ _; first
          | refine W_seq ?_
          | refine W_text rfl (fun _ _ _ h => h) ?_
          | refine W_block ?_
          | refine W_skip ?_
          | refine W_exit ?_
          | refine W_ret ?_
          | refine W_true rfl ?_
          | refine W_false rfl ?_
          | refine W_cond rfl (fun _ => ?_) (fun _ => ?_)
          | refine W_draw mixed [2, 0, 1, 3, 4, 5, 6, 7] [.R, .R, .P, .R, .R, .P, .E, .E] rfl rfl (by kernel_rfl) ?_
          | refine W_draw mixed [1, 6, 0, 2, 3, 4, 5, 7, 8, 9, 10, 11, 12, 13, 14] [.R, .P, .R, .R, .R, .R, .P, .R, .R, .R, .R, .R, .R, .P, .P] rfl rfl (by kernel_rfl) ?_
          | refine W_draw mixed [2, 7, 12, 0, 1, 3, 4, 5, 6, 8, 9, 10, 11, 13, 14, 15, 16, 17, 18, 19, 20, 21, 22] [.R, .R, .P, .R, .R, .R, .R, .P, .R, .R, .R, .R, .P, .R, .R, .R, .R, .R, .R, .P, .P, .E, .E] rfl rfl (by kernel_rfl) ?_))
  refine DW_index tabOK rfl rfl rfl rfl rfl rfl rfl rfl rfl rfl (Int.natCast_nonneg _) (map_get he) ?_
  repeat (first
        | refine DW_Q tabs rfl rfl rfl rfl ?_
        | refine DW_R tabOK rfl rfl rfl rfl rfl ?_
        | refine DW_E tabOK rfl rfl rfl rfl rfl ?_
        | refine DW_E0 tabOK rfl rfl rfl rfl rfl ?_
        | refine DW_no rfl rfl rfl ?_
        | refine DW_no0 rfl rfl rfl ?_)
  refine DW_index tabOK rfl rfl rfl rfl rfl rfl rfl rfl rfl rfl (Int.natCast_nonneg _) (map_get he2) ?_
  repeat' (first
        | (show DW _ _ _ _ _ _ _ _; first
          | refine DW_Q tabs rfl rfl rfl rfl ?_
          | refine DW_nil ?_
          | refine DW_R tabOK rfl rfl rfl rfl rfl ?_
          | refine DW_E tabOK rfl rfl rfl rfl rfl ?_
          | refine DW_E0 tabOK rfl rfl rfl rfl rfl ?_
          | refine DW_no rfl rfl rfl ?_
          | refine DW_no0 rfl rfl rfl ?_
          | refine DW_lits tabOK rfl rfl rfl rfl rfl rfl rfl rfl rfl rfl rfl rfl rfl ?_
          | refine DW_append_own tabOK rfl rfl rfl rfl rfl rfl rfl rfl rfl rfl rfl rfl rfl rfl rfl (by simp; omega) (by simp; omega) ?_)
        | (show W _ _ _ _ _ _; first
          | refine W_seq ?_
          | refine W_text rfl (fun _ _ _ h => h) ?_
          | refine W_block ?_
          | refine W_skip ?_
          | refine W_exit ?_
          | refine W_ret ?_
          | refine W_true rfl ?_
          | refine W_false rfl ?_
          | refine W_cond rfl (fun _ => ?_) (fun _ => ?_)
          | refine W_draw mixed [2, 0, 1, 3, 4, 5, 6, 7] [.R, .R, .P, .R, .R, .P, .E, .E] rfl rfl (by kernel_rfl) ?_
          | refine W_draw mixed [1, 6, 0, 2, 3, 4, 5, 7, 8, 9, 10, 11, 12, 13, 14] [.R, .P, .R, .R, .R, .R, .P, .R, .R, .R, .R, .R, .R, .P, .P] rfl rfl (by kernel_rfl) ?_
          | refine W_draw mixed [2, 7, 12, 0, 1, 3, 4, 5, 6, 8, 9, 10, 11, 13, 14, 15, 16, 17, 18, 19, 20, 21, 22] [.R, .R, .P, .R, .R, .R, .R, .P, .R, .R, .R, .R, .P, .R, .R, .R, .R, .R, .R, .P, .P, .E, .E] rfl rfl (by kernel_rfl) ?_))
  refine DW_index tabOK rfl rfl rfl rfl rfl rfl rfl rfl rfl rfl (Int.natCast_nonneg _) (map_get he) ?_
  repeat (first
        | refine DW_Q tabs rfl rfl rfl rfl ?_
        | refine DW_R tabOK rfl rfl rfl rfl rfl ?_
        | refine DW_E tabOK rfl rfl rfl rfl rfl ?_
        | refine DW_E0 tabOK rfl rfl rfl rfl rfl ?_
        | refine DW_no rfl rfl rfl ?_
        | refine DW_no0 rfl rfl rfl ?_)
  refine DW_index tabOK rfl rfl rfl rfl rfl rfl rfl rfl rfl rfl (Int.natCast_nonneg _) (map_get he) ?_
  repeat (first
        | refine DW_Q tabs rfl rfl rfl rfl ?_
        | refine DW_R tabOK rfl rfl rfl rfl rfl ?_
        | refine DW_E tabOK rfl rfl rfl rfl rfl ?_
        | refine DW_E0 tabOK rfl rfl rfl rfl rfl ?_
        | refine DW_no rfl rfl rfl ?_
        | refine DW_no0 rfl rfl rfl ?_)
  refine DW_index tabOK rfl rfl rfl rfl rfl rfl rfl rfl rfl rfl (Int.natCast_nonneg _) (map_get he2) ?_
  repeat' (first
        | (show DW _ _ _ _ _ _ _ _; first
          | refine DW_Q tabs rfl rfl rfl rfl ?_
          | refine DW_nil ?_
          | refine DW_R tabOK rfl rfl rfl rfl rfl ?_
          | refine DW_E tabOK rfl rfl rfl rfl rfl ?_
          | refine DW_E0 tabOK rfl rfl rfl rfl rfl ?_
          | refine DW_no rfl rfl rfl ?_
          | refine DW_no0 rfl rfl rfl ?_
          | refine DW_lits tabOK rfl rfl rfl rfl rfl rfl rfl rfl rfl rfl rfl rfl rfl ?_
          | refine DW_append_own tabOK rfl rfl rfl rfl rfl rfl rfl rfl rfl rfl rfl rfl rfl rfl rfl (by simp; omega) (by simp; omega) ?_)
        | (show W _ _ _ _ _ _; first
          | refine W_seq ?_
          | refine W_text rfl (fun _ _ _ h => h) ?_
          | refine W_block ?_
          | refine W_skip ?_
          | refine W_exit ?_
          | refine W_ret ?_
          | refine W_true rfl ?_
          | refine W_false rfl ?_
          | refine W_cond rfl (fun _ => ?_) (fun _ => ?_)
          | refine W_draw mixed [2, 0, 1, 3, 4, 5, 6, 7] [.R, .R, .P, .R, .R, .P, .E, .E] rfl rfl (by kernel_rfl) ?_
          | refine W_draw mixed [1, 6, 0, 2, 3, 4, 5, 7, 8, 9, 10, 11, 12, 13, 14] [.R, .P, .R, .R, .R, .R, .P, .R, .R, .R, .R, .R, .R, .P, .P] rfl rfl (by kernel_rfl) ?_
          | refine W_draw mixed [2, 7, 12, 0, 1, 3, 4, 5, 6, 8, 9, 10, 11, 13, 14, 15, 16, 17, 18, 19, 20, 21, 22] [.R, .R, .P, .R, .R, .R, .R, .P, .R, .R, .R, .R, .P, .R, .R, .R, .R, .R, .R, .P, .P, .E, .E] rfl rfl (by kernel_rfl) ?_))
  exact ⟨rfl, _, rfl, rfl, rowsT_of rfl rfl rfl rfl⟩
end Go.Proofs.Yteimhnedflbkmaa
