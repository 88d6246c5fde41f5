/- A step of the proof that the law holds: functions of the program, each shown to compute what its text says. No further condition. -/
import Derived.Test.YteimhnedflbkmaaT10
namespace Go.Proofs.Yteimhnedflbkmaa
open Go.Ab

theorem wrap_pred {i : Nat} (h : 1 ≤ i) (h2 : i < 9223372036854775807) : IntKind.wrap .i64 ((i : Int) - 1) = ((i - 1 : Nat) : Int) := by
  have e : (i : Int) - 1 = ((i - 1 : Nat) : Int) := by omega
  rw [e]
  refine Go.Ab.wrap_small ?_ ?_ <;> omega

def farE (e : En) : Bool := decide (200 < e.path.length) || decide (30 < e.info.chunks.length)
def farS (l : List En) : Bool := if 60 < l.length then true else l.any farE

set_option maxHeartbeats 1000000 in
theorem far4_ok (l : List En) : APure Try.prog 4 [.sl 5 (l.map En.av) .none] (.bool (farS l)) := by
  intro M
  refine acalls_of tabOK Try.func4 rfl (by decide) (by simp [Try.f4]) ?_
  have la : ((l.map En.av).length : Int) = (l.length : Int) := by simp
  by_cases hbig : 60 < l.length
  · have hf : farS l = true := by simp [farS, hbig]
    rw [hf]
    have d1 : decide ((l.length : Int) ≤ 60) = false := by simp; omega
    have d2 : decide ((60 : Int) < (l.length : Int)) = true := by simp; omega
    have d3 : decide ((0 : Int) < (l.length : Int)) = true := by simp; omega
    repeat' (first
          | (show DW _ _ _ _ _ _ _ _; first
            | refine DW_V tabs rfl rfl rfl rfl (congrArg (AV.int _) la) ?_
            | refine DW_Q tabs rfl rfl rfl rfl ?_
            | refine DW_nil ?_
            | refine DW_R tabOK rfl rfl rfl rfl rfl ?_
            | refine DW_E tabOK rfl rfl rfl rfl rfl ?_
            | refine DW_E0 tabOK rfl rfl rfl rfl rfl ?_
            | refine DW_no rfl rfl rfl ?_
            | refine DW_no0 rfl rfl rfl ?_
            | refine DW_lits tabOK rfl rfl rfl rfl rfl rfl rfl rfl rfl rfl rfl rfl rfl ?_
            | refine DW_append_own tabOK rfl rfl rfl rfl rfl rfl rfl rfl rfl rfl rfl rfl rfl rfl rfl (by simp; omega) (by simp; omega) ?_)
          | (show W _ _ _ _ _ _; first
            | refine W_seq ?_
            | refine W_text rfl (fun _ _ _ h => h) ?_
            | refine W_block ?_
            | refine W_skip ?_
            | refine W_exit ?_
            | refine W_ret ?_
            | refine W_true rfl ?_
            | refine W_false rfl ?_
            | refine W_cond rfl (fun _ => ?_) (fun _ => ?_)))
    refine W_loop (fun m f N => N = M ∧ f = ⟨[(0, .sl 5 (l.map En.av) .none), (3, .int .i64 0)], []⟩) (k := 0) ⟨rfl, rfl⟩ (Joint.le ?_ (Mem.le_refl _)) ?_
    · skip
      repeat (refine AF.le_cons rfl ?_)
      exact AF.le_nil rfl
    · rintro m f N ⟨rfl, rfl⟩
      repeat' (first
            | (show DW _ _ _ _ _ _ _ _; first
              | refine DW_V tabs rfl rfl rfl rfl (congrArg AV.bool d1) ?_
              | refine DW_V tabs rfl rfl rfl rfl (congrArg AV.bool d2) ?_
              | refine DW_V tabs rfl rfl rfl rfl (congrArg AV.bool d3) ?_
              | refine DW_V tabs rfl rfl rfl rfl (congrArg (AV.int _) la) ?_
              | refine DW_Q tabs rfl rfl rfl rfl ?_
              | refine DW_nil ?_
              | refine DW_R tabOK rfl rfl rfl rfl rfl ?_
              | refine DW_E tabOK rfl rfl rfl rfl rfl ?_
              | refine DW_E0 tabOK rfl rfl rfl rfl rfl ?_
              | refine DW_no rfl rfl rfl ?_
              | refine DW_no0 rfl rfl rfl ?_
              | refine DW_lits tabOK rfl rfl rfl rfl rfl rfl rfl rfl rfl rfl rfl rfl rfl ?_
              | refine DW_append_own tabOK rfl rfl rfl rfl rfl rfl rfl rfl rfl rfl rfl rfl rfl rfl rfl (by simp; omega) (by simp; omega) ?_)
            | (show W _ _ _ _ _ _; first
              | refine W_seq ?_
              | refine W_text rfl (fun _ _ _ h => h) ?_
              | refine W_block ?_
              | refine W_skip ?_
              | refine W_exit ?_
              | refine W_ret ?_
              | refine W_true rfl ?_
              | refine W_false rfl ?_
              | refine W_cond rfl (fun _ => ?_) (fun _ => ?_)))
      exact ⟨rfl, _, rfl, rfl, rfl⟩
  · have hf : farS l = l.any farE := by simp [farS, hbig]
    rw [hf]
    have d1 : decide ((l.length : Int) ≤ 60) = true := by simp; omega
    have d2 : decide ((60 : Int) < (l.length : Int)) = false := by simp; omega
    repeat' (first
          | (show DW _ _ _ _ _ _ _ _; first
            | refine DW_V tabs rfl rfl rfl rfl (congrArg (AV.int _) la) ?_
            | refine DW_Q tabs rfl rfl rfl rfl ?_
            | refine DW_nil ?_
            | refine DW_R tabOK rfl rfl rfl rfl rfl ?_
            | refine DW_E tabOK rfl rfl rfl rfl rfl ?_
            | refine DW_E0 tabOK rfl rfl rfl rfl rfl ?_
            | refine DW_no rfl rfl rfl ?_
            | refine DW_no0 rfl rfl rfl ?_
            | refine DW_lits tabOK rfl rfl rfl rfl rfl rfl rfl rfl rfl rfl rfl rfl rfl ?_
            | refine DW_append_own tabOK rfl rfl rfl rfl rfl rfl rfl rfl rfl rfl rfl rfl rfl rfl rfl (by simp; omega) (by simp; omega) ?_)
          | (show W _ _ _ _ _ _; first
            | refine W_seq ?_
            | refine W_text rfl (fun _ _ _ h => h) ?_
            | refine W_block ?_
            | refine W_skip ?_
            | refine W_exit ?_
            | refine W_ret ?_
            | refine W_true rfl ?_
            | refine W_false rfl ?_
            | refine W_cond rfl (fun _ => ?_) (fun _ => ?_)))
    refine W_count l.length (fun i f N => N = M ∧ (l.take i).any farE = false ∧ f = ⟨[(0, .sl 5 (l.map En.av) .none), (3, .int .i64 (i : Int))], []⟩) (Nat.zero_le _) ⟨rfl, by simp, rfl⟩ (Joint.le ?_ (Mem.le_refl _)) ?_
    · skip
      repeat (refine AF.le_cons rfl ?_)
      exact AF.le_nil rfl
    · rintro i f N hi ⟨rfl, hpre, rfl⟩
      by_cases h1 : i < l.length
      · have d3 : decide ((i : Int) < (l.length : Int)) = true := by simp; omega
        have hx : l[i]? = some l[i] := List.getElem?_eq_getElem h1
        have fi := wrap_succ (i := i) (by omega)
        have ht := take_succ hx
        generalize l[i] = e at hx ht
        have any_of : farE e = true → l.any farE = true := fun h => List.any_eq_true.2 ⟨e, List.mem_of_getElem? hx, h⟩
        have lp : ((e.path.length : Nat) : Int) = (e.path.length : Int) := rfl
        have lc : ((e.info.chunks.map intA).length : Int) = (e.info.chunks.length : Int) := by simp
        by_cases h2 : 200 < e.path.length
        · have d4 : decide ((200 : Int) < (e.path.length : Int)) = true := by simp; omega
          rw [any_of (by simp [farE, h2])]
          repeat' (first
                | (show DW _ _ _ _ _ _ _ _; first
                  | refine DW_V tabs rfl rfl rfl rfl (congrArg AV.bool d1) ?_
                  | refine DW_V tabs rfl rfl rfl rfl (congrArg AV.bool d2) ?_
                  | refine DW_V tabs rfl rfl rfl rfl (congrArg AV.bool d3) ?_
                  | refine DW_V tabs rfl rfl rfl rfl (congrArg AV.bool d4) ?_
                  | refine DW_V tabs rfl rfl rfl rfl (congrArg (AV.int _) la) ?_
                  | refine DW_Q tabs rfl rfl rfl rfl ?_
                  | refine DW_nil ?_
                  | refine DW_R tabOK rfl rfl rfl rfl rfl ?_
                  | refine DW_E tabOK rfl rfl rfl rfl rfl ?_
                  | refine DW_E0 tabOK rfl rfl rfl rfl rfl ?_
                  | refine DW_no rfl rfl rfl ?_
                  | refine DW_no0 rfl rfl rfl ?_
                  | refine DW_lits tabOK rfl rfl rfl rfl rfl rfl rfl rfl rfl rfl rfl rfl rfl ?_
                  | refine DW_append_own tabOK rfl rfl rfl rfl rfl rfl rfl rfl rfl rfl rfl rfl rfl rfl rfl (by simp; omega) (by simp; omega) ?_)
                | (show W _ _ _ _ _ _; first
                  | refine W_seq ?_
                  | refine W_text rfl (fun _ _ _ h => h) ?_
                  | refine W_block ?_
                  | refine W_skip ?_
                  | refine W_exit ?_
                  | refine W_ret ?_
                  | refine W_true rfl ?_
                  | refine W_false rfl ?_
                  | refine W_cond rfl (fun _ => ?_) (fun _ => ?_)))
          refine DW_index tabOK rfl rfl rfl rfl rfl rfl rfl rfl rfl rfl (Int.natCast_nonneg _) (map_get hx) ?_
          repeat' (first
                | (show DW _ _ _ _ _ _ _ _; first
                  | refine DW_V tabs rfl rfl rfl rfl (congrArg AV.bool d1) ?_
                  | refine DW_V tabs rfl rfl rfl rfl (congrArg AV.bool d2) ?_
                  | refine DW_V tabs rfl rfl rfl rfl (congrArg AV.bool d3) ?_
                  | refine DW_V tabs rfl rfl rfl rfl (congrArg AV.bool d4) ?_
                  | refine DW_V tabs rfl rfl rfl rfl (congrArg (AV.int _) la) ?_
                  | refine DW_Q tabs rfl rfl rfl rfl ?_
                  | refine DW_nil ?_
                  | refine DW_R tabOK rfl rfl rfl rfl rfl ?_
                  | refine DW_E tabOK rfl rfl rfl rfl rfl ?_
                  | refine DW_E0 tabOK rfl rfl rfl rfl rfl ?_
                  | refine DW_no rfl rfl rfl ?_
                  | refine DW_no0 rfl rfl rfl ?_
                  | refine DW_lits tabOK rfl rfl rfl rfl rfl rfl rfl rfl rfl rfl rfl rfl rfl ?_
                  | refine DW_append_own tabOK rfl rfl rfl rfl rfl rfl rfl rfl rfl rfl rfl rfl rfl rfl rfl (by simp; omega) (by simp; omega) ?_)
                | (show W _ _ _ _ _ _; first
                  | refine W_seq ?_
                  | refine W_text rfl (fun _ _ _ h => h) ?_
                  | refine W_block ?_
                  | refine W_skip ?_
                  | refine W_exit ?_
                  | refine W_ret ?_
                  | refine W_true rfl ?_
                  | refine W_false rfl ?_
                  | refine W_cond rfl (fun _ => ?_) (fun _ => ?_)))
          exact ⟨rfl, _, rfl, rfl, rfl⟩
        · have d4 : decide ((200 : Int) < (e.path.length : Int)) = false := by simp; omega
          by_cases h3 : 30 < e.info.chunks.length
          · have d5 : decide ((30 : Int) < (e.info.chunks.length : Int)) = true := by simp; omega
            rw [any_of (by simp [farE, h3])]
            repeat' (first
                  | (show DW _ _ _ _ _ _ _ _; first
                    | refine DW_V tabs rfl rfl rfl rfl (congrArg AV.bool d1) ?_
                    | refine DW_V tabs rfl rfl rfl rfl (congrArg AV.bool d2) ?_
                    | refine DW_V tabs rfl rfl rfl rfl (congrArg AV.bool d3) ?_
                    | refine DW_V tabs rfl rfl rfl rfl (congrArg AV.bool d4) ?_
                    | refine DW_V tabs rfl rfl rfl rfl (congrArg (AV.int _) la) ?_
                    | refine DW_Q tabs rfl rfl rfl rfl ?_
                    | refine DW_nil ?_
                    | refine DW_R tabOK rfl rfl rfl rfl rfl ?_
                    | refine DW_E tabOK rfl rfl rfl rfl rfl ?_
                    | refine DW_E0 tabOK rfl rfl rfl rfl rfl ?_
                    | refine DW_no rfl rfl rfl ?_
                    | refine DW_no0 rfl rfl rfl ?_
                    | refine DW_lits tabOK rfl rfl rfl rfl rfl rfl rfl rfl rfl rfl rfl rfl rfl ?_
                    | refine DW_append_own tabOK rfl rfl rfl rfl rfl rfl rfl rfl rfl rfl rfl rfl rfl rfl rfl (by simp; omega) (by simp; omega) ?_)
                  | (show W _ _ _ _ _ _; first
                    | refine W_seq ?_
                    | refine W_text rfl (fun _ _ _ h => h) ?_
                    | refine W_block ?_
                    | refine W_skip ?_
                    | refine W_exit ?_
                    | refine W_ret ?_
                    | refine W_true rfl ?_
                    | refine W_false rfl ?_
                    | refine W_cond rfl (fun _ => ?_) (fun _ => ?_)))
            refine DW_index tabOK rfl rfl rfl rfl rfl rfl rfl rfl rfl rfl (Int.natCast_nonneg _) (map_get hx) ?_
            repeat' (first
                  | (show DW _ _ _ _ _ _ _ _; first
                    | refine DW_V tabs rfl rfl rfl rfl (congrArg AV.bool d1) ?_
                    | refine DW_V tabs rfl rfl rfl rfl (congrArg AV.bool d2) ?_
                    | refine DW_V tabs rfl rfl rfl rfl (congrArg AV.bool d3) ?_
                    | refine DW_V tabs rfl rfl rfl rfl (congrArg AV.bool d4) ?_
                    | refine DW_V tabs rfl rfl rfl rfl (congrArg (AV.int _) la) ?_
                    | refine DW_Q tabs rfl rfl rfl rfl ?_
                    | refine DW_nil ?_
                    | refine DW_R tabOK rfl rfl rfl rfl rfl ?_
                    | refine DW_E tabOK rfl rfl rfl rfl rfl ?_
                    | refine DW_E0 tabOK rfl rfl rfl rfl rfl ?_
                    | refine DW_no rfl rfl rfl ?_
                    | refine DW_no0 rfl rfl rfl ?_
                    | refine DW_lits tabOK rfl rfl rfl rfl rfl rfl rfl rfl rfl rfl rfl rfl rfl ?_
                    | refine DW_append_own tabOK rfl rfl rfl rfl rfl rfl rfl rfl rfl rfl rfl rfl rfl rfl rfl (by simp; omega) (by simp; omega) ?_)
                  | (show W _ _ _ _ _ _; first
                    | refine W_seq ?_
                    | refine W_text rfl (fun _ _ _ h => h) ?_
                    | refine W_block ?_
                    | refine W_skip ?_
                    | refine W_exit ?_
                    | refine W_ret ?_
                    | refine W_true rfl ?_
                    | refine W_false rfl ?_
                    | refine W_cond rfl (fun _ => ?_) (fun _ => ?_)))
            refine DW_index tabOK rfl rfl rfl rfl rfl rfl rfl rfl rfl rfl (Int.natCast_nonneg _) (map_get hx) ?_
            repeat' (first
                  | (show DW _ _ _ _ _ _ _ _; first
                    | refine DW_V tabs rfl rfl rfl rfl (congrArg AV.bool d1) ?_
                    | refine DW_V tabs rfl rfl rfl rfl (congrArg AV.bool d2) ?_
                    | refine DW_V tabs rfl rfl rfl rfl (congrArg AV.bool d3) ?_
                    | refine DW_V tabs rfl rfl rfl rfl (congrArg AV.bool d4) ?_
                    | refine DW_V tabs rfl rfl rfl rfl (congrArg AV.bool d5) ?_
                    | refine DW_V tabs rfl rfl rfl rfl (congrArg (AV.int _) la) ?_
                    | refine DW_V tabs rfl rfl rfl rfl (congrArg (AV.int _) lc) ?_
                    | refine DW_Q tabs rfl rfl rfl rfl ?_
                    | refine DW_nil ?_
                    | refine DW_R tabOK rfl rfl rfl rfl rfl ?_
                    | refine DW_E tabOK rfl rfl rfl rfl rfl ?_
                    | refine DW_E0 tabOK rfl rfl rfl rfl rfl ?_
                    | refine DW_no rfl rfl rfl ?_
                    | refine DW_no0 rfl rfl rfl ?_
                    | refine DW_lits tabOK rfl rfl rfl rfl rfl rfl rfl rfl rfl rfl rfl rfl rfl ?_
                    | refine DW_append_own tabOK rfl rfl rfl rfl rfl rfl rfl rfl rfl rfl rfl rfl rfl rfl rfl (by simp; omega) (by simp; omega) ?_)
                  | (show W _ _ _ _ _ _; first
                    | refine W_seq ?_
                    | refine W_text rfl (fun _ _ _ h => h) ?_
                    | refine W_block ?_
                    | refine W_skip ?_
                    | refine W_exit ?_
                    | refine W_ret ?_
                    | refine W_true rfl ?_
                    | refine W_false rfl ?_
                    | refine W_cond rfl (fun _ => ?_) (fun _ => ?_)))
            exact ⟨rfl, _, rfl, rfl, rfl⟩
          · have d5 : decide ((30 : Int) < (e.info.chunks.length : Int)) = false := by simp; omega
            repeat' (first
                  | (show DW _ _ _ _ _ _ _ _; first
                    | refine DW_V tabs rfl rfl rfl rfl (congrArg AV.bool d1) ?_
                    | refine DW_V tabs rfl rfl rfl rfl (congrArg AV.bool d2) ?_
                    | refine DW_V tabs rfl rfl rfl rfl (congrArg AV.bool d3) ?_
                    | refine DW_V tabs rfl rfl rfl rfl (congrArg AV.bool d4) ?_
                    | refine DW_V tabs rfl rfl rfl rfl (congrArg (AV.int _) la) ?_
                    | refine DW_Q tabs rfl rfl rfl rfl ?_
                    | refine DW_nil ?_
                    | refine DW_R tabOK rfl rfl rfl rfl rfl ?_
                    | refine DW_E tabOK rfl rfl rfl rfl rfl ?_
                    | refine DW_E0 tabOK rfl rfl rfl rfl rfl ?_
                    | refine DW_no rfl rfl rfl ?_
                    | refine DW_no0 rfl rfl rfl ?_
                    | refine DW_lits tabOK rfl rfl rfl rfl rfl rfl rfl rfl rfl rfl rfl rfl rfl ?_
                    | refine DW_append_own tabOK rfl rfl rfl rfl rfl rfl rfl rfl rfl rfl rfl rfl rfl rfl rfl (by simp; omega) (by simp; omega) ?_)
                  | (show W _ _ _ _ _ _; first
                    | refine W_seq ?_
                    | refine W_text rfl (fun _ _ _ h => h) ?_
                    | refine W_block ?_
                    | refine W_skip ?_
                    | refine W_exit ?_
                    | refine W_ret ?_
                    | refine W_true rfl ?_
                    | refine W_false rfl ?_
                    | refine W_cond rfl (fun _ => ?_) (fun _ => ?_)))
            refine DW_index tabOK rfl rfl rfl rfl rfl rfl rfl rfl rfl rfl (Int.natCast_nonneg _) (map_get hx) ?_
            repeat' (first
                  | (show DW _ _ _ _ _ _ _ _; first
                    | refine DW_V tabs rfl rfl rfl rfl (congrArg AV.bool d1) ?_
                    | refine DW_V tabs rfl rfl rfl rfl (congrArg AV.bool d2) ?_
                    | refine DW_V tabs rfl rfl rfl rfl (congrArg AV.bool d3) ?_
                    | refine DW_V tabs rfl rfl rfl rfl (congrArg AV.bool d4) ?_
                    | refine DW_V tabs rfl rfl rfl rfl (congrArg (AV.int _) la) ?_
                    | refine DW_Q tabs rfl rfl rfl rfl ?_
                    | refine DW_nil ?_
                    | refine DW_R tabOK rfl rfl rfl rfl rfl ?_
                    | refine DW_E tabOK rfl rfl rfl rfl rfl ?_
                    | refine DW_E0 tabOK rfl rfl rfl rfl rfl ?_
                    | refine DW_no rfl rfl rfl ?_
                    | refine DW_no0 rfl rfl rfl ?_
                    | refine DW_lits tabOK rfl rfl rfl rfl rfl rfl rfl rfl rfl rfl rfl rfl rfl ?_
                    | refine DW_append_own tabOK rfl rfl rfl rfl rfl rfl rfl rfl rfl rfl rfl rfl rfl rfl rfl (by simp; omega) (by simp; omega) ?_)
                  | (show W _ _ _ _ _ _; first
                    | refine W_seq ?_
                    | refine W_text rfl (fun _ _ _ h => h) ?_
                    | refine W_block ?_
                    | refine W_skip ?_
                    | refine W_exit ?_
                    | refine W_ret ?_
                    | refine W_true rfl ?_
                    | refine W_false rfl ?_
                    | refine W_cond rfl (fun _ => ?_) (fun _ => ?_)))
            refine DW_index tabOK rfl rfl rfl rfl rfl rfl rfl rfl rfl rfl (Int.natCast_nonneg _) (map_get hx) ?_
            repeat' (first
                  | (show DW _ _ _ _ _ _ _ _; first
                    | refine DW_V tabs rfl rfl rfl rfl (congrArg AV.bool d1) ?_
                    | refine DW_V tabs rfl rfl rfl rfl (congrArg AV.bool d2) ?_
                    | refine DW_V tabs rfl rfl rfl rfl (congrArg AV.bool d3) ?_
                    | refine DW_V tabs rfl rfl rfl rfl (congrArg AV.bool d4) ?_
                    | refine DW_V tabs rfl rfl rfl rfl (congrArg AV.bool d5) ?_
                    | refine DW_V tabs rfl rfl rfl rfl (congrArg (AV.int _) la) ?_
                    | refine DW_V tabs rfl rfl rfl rfl (congrArg (AV.int _) lc) ?_
                    | refine DW_V tabs rfl rfl rfl rfl (congrArg (AV.int _) fi) ?_
                    | refine DW_Q tabs rfl rfl rfl rfl ?_
                    | refine DW_nil ?_
                    | refine DW_R tabOK rfl rfl rfl rfl rfl ?_
                    | refine DW_E tabOK rfl rfl rfl rfl rfl ?_
                    | refine DW_E0 tabOK rfl rfl rfl rfl rfl ?_
                    | refine DW_no rfl rfl rfl ?_
                    | refine DW_no0 rfl rfl rfl ?_
                    | refine DW_lits tabOK rfl rfl rfl rfl rfl rfl rfl rfl rfl rfl rfl rfl rfl ?_
                    | refine DW_append_own tabOK rfl rfl rfl rfl rfl rfl rfl rfl rfl rfl rfl rfl rfl rfl rfl (by simp; omega) (by simp; omega) ?_)
                  | (show W _ _ _ _ _ _; first
                    | refine W_seq ?_
                    | refine W_text rfl (fun _ _ _ h => h) ?_
                    | refine W_block ?_
                    | refine W_skip ?_
                    | refine W_exit ?_
                    | refine W_ret ?_
                    | refine W_true rfl ?_
                    | refine W_false rfl ?_
                    | refine W_cond rfl (fun _ => ?_) (fun _ => ?_)))
            refine ⟨h1, _, _, ⟨rfl, ?_, rfl⟩, Joint.le ?_ (Mem.le_refl _)⟩
            · rw [ht, List.any_append, hpre]
              simp [farE]
              omega
            · skip
              repeat (refine AF.le_cons rfl ?_)
              exact AF.le_nil rfl
      · have d3 : decide ((i : Int) < (l.length : Int)) = false := by simp; omega
        have hl : l.take i = l := List.take_of_length_le (by omega)
        rw [hl] at hpre
        rw [hpre]
        repeat' (first
              | (show DW _ _ _ _ _ _ _ _; first
                | refine DW_V tabs rfl rfl rfl rfl (congrArg AV.bool d1) ?_
                | refine DW_V tabs rfl rfl rfl rfl (congrArg AV.bool d2) ?_
                | refine DW_V tabs rfl rfl rfl rfl (congrArg AV.bool d3) ?_
                | refine DW_V tabs rfl rfl rfl rfl (congrArg (AV.int _) la) ?_
                | refine DW_Q tabs rfl rfl rfl rfl ?_
                | refine DW_nil ?_
                | refine DW_R tabOK rfl rfl rfl rfl rfl ?_
                | refine DW_E tabOK rfl rfl rfl rfl rfl ?_
                | refine DW_E0 tabOK rfl rfl rfl rfl rfl ?_
                | refine DW_no rfl rfl rfl ?_
                | refine DW_no0 rfl rfl rfl ?_
                | refine DW_lits tabOK rfl rfl rfl rfl rfl rfl rfl rfl rfl rfl rfl rfl rfl ?_
                | refine DW_append_own tabOK rfl rfl rfl rfl rfl rfl rfl rfl rfl rfl rfl rfl rfl rfl rfl (by simp; omega) (by simp; omega) ?_)
              | (show W _ _ _ _ _ _; first
                | refine W_seq ?_
                | refine W_text rfl (fun _ _ _ h => h) ?_
                | refine W_block ?_
                | refine W_skip ?_
                | refine W_exit ?_
                | refine W_ret ?_
                | refine W_true rfl ?_
                | refine W_false rfl ?_
                | refine W_cond rfl (fun _ => ?_) (fun _ => ?_)))
        exact ⟨rfl, _, rfl, rfl, rfl⟩

theorem rising5_ok (l : List En) (hl : l.length < 1000000) (M : Mem) : ACalls Try.prog 5 [.sl 5 (l.map En.av) .none] M (fun e M' => (∃ r, e = .ret (.bool r)) ∧ M' = M) := by
  refine acalls_of tabOK Try.func5 rfl (by decide) (by simp [Try.f5]) ?_
  have la : ((l.map En.av).length : Int) = (l.length : Int) := by simp
  repeat' (first
        | (show DW _ _ _ _ _ _ _ _; first
          | refine DW_V tabs rfl rfl rfl rfl (congrArg (AV.int _) la) ?_
          | refine DW_Q tabs rfl rfl rfl rfl ?_
          | refine DW_nil ?_
          | refine DW_R tabOK rfl rfl rfl rfl rfl ?_
          | refine DW_E tabOK rfl rfl rfl rfl rfl ?_
          | refine DW_E0 tabOK rfl rfl rfl rfl rfl ?_
          | refine DW_no rfl rfl rfl ?_
          | refine DW_no0 rfl rfl rfl ?_
          | refine DW_lits tabOK rfl rfl rfl rfl rfl rfl rfl rfl rfl rfl rfl rfl rfl ?_
          | refine DW_append_own tabOK rfl rfl rfl rfl rfl rfl rfl rfl rfl rfl rfl rfl rfl rfl rfl (by simp; omega) (by simp; omega) ?_)
        | (show W _ _ _ _ _ _; first
          | refine W_seq ?_
          | refine W_text rfl (fun _ _ _ h => h) ?_
          | refine W_block ?_
          | refine W_skip ?_
          | refine W_exit ?_
          | refine W_ret ?_
          | refine W_true rfl ?_
          | refine W_false rfl ?_
          | refine W_cond rfl (fun _ => ?_) (fun _ => ?_)
          | refine W_draw mixed [0, 1, 2, 6, 7, 3, 4, 5, 8, 9, 10, 11] [.P, .P, .P, .R, .R, .R, .P, .P, .R, .R, .R, .P] rfl rfl (by kernel_rfl) ?_))
  refine W_count (l.length + 1) (fun i f N => N = M ∧ 1 ≤ i ∧ f = ⟨[(0, .sl 5 (l.map En.av) .none), (3, .int .i64 (i : Int))], []⟩) (i0 := 1) (by omega) ⟨rfl, by omega, rfl⟩ (Joint.le ?_ (Mem.le_refl _)) ?_
  · skip
    repeat (refine AF.le_cons rfl ?_)
    exact AF.le_nil rfl
  · rintro i f N hi ⟨rfl, h0, rfl⟩
    by_cases h1 : i < l.length
    · have d3 : decide ((i : Int) < (l.length : Int)) = true := by simp; omega
      have hx : l[i]? = some l[i] := List.getElem?_eq_getElem h1
      have hy : l[i - 1]? = some l[i - 1] := List.getElem?_eq_getElem (by omega)
      have fi := wrap_succ (i := i) (by omega)
      have fs : IntKind.wrap .i64 ((i : Int) - 1) = ((i - 1 : Nat) : Int) := wrap_pred h0 (by omega)
      repeat' (first
            | (show DW _ _ _ _ _ _ _ _; first
              | refine DW_V tabs rfl rfl rfl rfl (congrArg AV.bool d3) ?_
              | refine DW_V tabs rfl rfl rfl rfl (congrArg (AV.int _) la) ?_
              | refine DW_V tabs rfl rfl rfl rfl (congrArg (AV.int _) fi) ?_
              | refine DW_V tabs rfl rfl rfl rfl (congrArg (AV.int _) fs) ?_
              | refine DW_Q tabs rfl rfl rfl rfl ?_
              | refine DW_nil ?_
              | refine DW_R tabOK rfl rfl rfl rfl rfl ?_
              | refine DW_E tabOK rfl rfl rfl rfl rfl ?_
              | refine DW_E0 tabOK rfl rfl rfl rfl rfl ?_
              | refine DW_no rfl rfl rfl ?_
              | refine DW_no0 rfl rfl rfl ?_
              | refine DW_lits tabOK rfl rfl rfl rfl rfl rfl rfl rfl rfl rfl rfl rfl rfl ?_
              | refine DW_append_own tabOK rfl rfl rfl rfl rfl rfl rfl rfl rfl rfl rfl rfl rfl rfl rfl (by simp; omega) (by simp; omega) ?_)
            | (show W _ _ _ _ _ _; first
              | refine W_seq ?_
              | refine W_text rfl (fun _ _ _ h => h) ?_
              | refine W_block ?_
              | refine W_skip ?_
              | refine W_exit ?_
              | refine W_ret ?_
              | refine W_true rfl ?_
              | refine W_false rfl ?_
              | refine W_cond rfl (fun _ => ?_) (fun _ => ?_)
              | refine W_draw mixed [0, 1, 2, 6, 7, 3, 4, 5, 8, 9, 10, 11] [.P, .P, .P, .R, .R, .R, .P, .P, .R, .R, .R, .P] rfl rfl (by kernel_rfl) ?_))
      refine DW_index tabOK rfl rfl rfl rfl rfl rfl rfl rfl rfl rfl (Int.natCast_nonneg _) (map_get hy) ?_
      repeat (first
            | refine DW_Q tabs rfl rfl rfl rfl ?_
            | refine DW_R tabOK rfl rfl rfl rfl rfl ?_
            | refine DW_E tabOK rfl rfl rfl rfl rfl ?_
            | refine DW_E0 tabOK rfl rfl rfl rfl rfl ?_
            | refine DW_no rfl rfl rfl ?_
            | refine DW_no0 rfl rfl rfl ?_)
      refine DW_index tabOK rfl rfl rfl rfl rfl rfl rfl rfl rfl rfl (Int.natCast_nonneg _) (map_get hx) ?_
      repeat' (first
            | (show DW _ _ _ _ _ _ _ _; first
              | refine DW_V tabs rfl rfl rfl rfl (congrArg (AV.int _) fi) ?_
              | refine DW_Q tabs rfl rfl rfl rfl ?_
              | refine DW_nil ?_
              | refine DW_R tabOK rfl rfl rfl rfl rfl ?_
              | refine DW_E tabOK rfl rfl rfl rfl rfl ?_
              | refine DW_E0 tabOK rfl rfl rfl rfl rfl ?_
              | refine DW_no rfl rfl rfl ?_
              | refine DW_no0 rfl rfl rfl ?_
              | refine DW_lits tabOK rfl rfl rfl rfl rfl rfl rfl rfl rfl rfl rfl rfl rfl ?_
              | refine DW_append_own tabOK rfl rfl rfl rfl rfl rfl rfl rfl rfl rfl rfl rfl rfl rfl rfl (by simp; omega) (by simp; omega) ?_)
            | (show W _ _ _ _ _ _; first
              | refine W_seq ?_
              | refine W_text rfl (fun _ _ _ h => h) ?_
              | refine W_block ?_
              | refine W_skip ?_
              | refine W_exit ?_
              | refine W_ret ?_
              | refine W_true rfl ?_
              | refine W_false rfl ?_
              | refine W_cond rfl (fun _ => ?_) (fun _ => ?_)
              | refine W_draw mixed [0, 1, 2, 6, 7, 3, 4, 5, 8, 9, 10, 11] [.P, .P, .P, .R, .R, .R, .P, .P, .R, .R, .R, .P] rfl rfl (by kernel_rfl) ?_))
      · exact ⟨rfl, _, rfl, ⟨_, rfl⟩, rfl⟩
      · refine ⟨by omega, _, _, ⟨rfl, by omega, rfl⟩, Joint.le ?_ (Mem.le_refl _)⟩
        repeat (refine AF.le_cons rfl ?_)
        exact AF.le_nil rfl
    · have d3 : decide ((i : Int) < (l.length : Int)) = false := by simp; omega
      repeat' (first
            | (show DW _ _ _ _ _ _ _ _; first
              | refine DW_V tabs rfl rfl rfl rfl (congrArg AV.bool d3) ?_
              | refine DW_V tabs rfl rfl rfl rfl (congrArg (AV.int _) la) ?_
              | refine DW_Q tabs rfl rfl rfl rfl ?_
              | refine DW_nil ?_
              | refine DW_R tabOK rfl rfl rfl rfl rfl ?_
              | refine DW_E tabOK rfl rfl rfl rfl rfl ?_
              | refine DW_E0 tabOK rfl rfl rfl rfl rfl ?_
              | refine DW_no rfl rfl rfl ?_
              | refine DW_no0 rfl rfl rfl ?_
              | refine DW_lits tabOK rfl rfl rfl rfl rfl rfl rfl rfl rfl rfl rfl rfl rfl ?_
              | refine DW_append_own tabOK rfl rfl rfl rfl rfl rfl rfl rfl rfl rfl rfl rfl rfl rfl rfl (by simp; omega) (by simp; omega) ?_)
            | (show W _ _ _ _ _ _; first
              | refine W_seq ?_
              | refine W_text rfl (fun _ _ _ h => h) ?_
              | refine W_block ?_
              | refine W_skip ?_
              | refine W_exit ?_
              | refine W_ret ?_
              | refine W_true rfl ?_
              | refine W_false rfl ?_
              | refine W_cond rfl (fun _ => ?_) (fun _ => ?_)
              | refine W_draw mixed [0, 1, 2, 6, 7, 3, 4, 5, 8, 9, 10, 11] [.P, .P, .P, .R, .R, .R, .P, .P, .R, .R, .R, .P] rfl rfl (by kernel_rfl) ?_))
      exact ⟨rfl, _, rfl, ⟨_, rfl⟩, rfl⟩

theorem own8_ok (l : List Dl) (hl : l.length < 1000000) : APure Try.prog 8 [.sl 2 (l.map Dl.av) .none] (.sl 2 (l.map Dl.av) .none) := by
  refine pure_rows (closed1 (cl_dls l)) ?_
  refine acalls_of tabOK Try.func8 rfl (by decide) (by simp [Try.f8]) ?_
  repeat' (first
        | (show DW _ _ _ _ _ _ _ _; first
          | refine DW_Q tabs rfl rfl rfl rfl ?_
          | refine DW_nil ?_
          | refine DW_R tabOK rfl rfl rfl rfl rfl ?_
          | refine DW_E tabOK rfl rfl rfl rfl rfl ?_
          | refine DW_E0 tabOK rfl rfl rfl rfl rfl ?_
          | refine DW_no rfl rfl rfl ?_
          | refine DW_no0 rfl rfl rfl ?_
          | refine DW_lits tabOK rfl rfl rfl rfl rfl rfl rfl rfl rfl rfl rfl rfl rfl ?_
          | refine DW_append_own tabOK rfl rfl rfl rfl rfl rfl rfl rfl rfl rfl rfl rfl rfl rfl rfl (by simp; omega) (by simp; omega) ?_)
        | (show W _ _ _ _ _ _; first
          | refine W_seq ?_
          | refine W_text rfl (fun _ _ _ h => h) ?_
          | refine W_block ?_
          | refine W_skip ?_
          | refine W_exit ?_
          | refine W_ret ?_
          | refine W_true rfl ?_
          | refine W_false rfl ?_
          | refine W_cond rfl (fun _ => ?_) (fun _ => ?_)))
  refine DW_append tabOK rfl rfl rfl rfl rfl rfl rfl rfl rfl rfl rfl rfl rfl (.inr rfl) (by simp; omega) (by simp; omega) ?_
  repeat' (first
        | (show DW _ _ _ _ _ _ _ _; first
          | refine DW_Q tabs rfl rfl rfl rfl ?_
          | refine DW_nil ?_
          | refine DW_R tabOK rfl rfl rfl rfl rfl ?_
          | refine DW_E tabOK rfl rfl rfl rfl rfl ?_
          | refine DW_E0 tabOK rfl rfl rfl rfl rfl ?_
          | refine DW_no rfl rfl rfl ?_
          | refine DW_no0 rfl rfl rfl ?_
          | refine DW_lits tabOK rfl rfl rfl rfl rfl rfl rfl rfl rfl rfl rfl rfl rfl ?_
          | refine DW_append_own tabOK rfl rfl rfl rfl rfl rfl rfl rfl rfl rfl rfl rfl rfl rfl rfl (by simp; omega) (by simp; omega) ?_)
        | (show W _ _ _ _ _ _; first
          | refine W_seq ?_
          | refine W_text rfl (fun _ _ _ h => h) ?_
          | refine W_block ?_
          | refine W_skip ?_
          | refine W_exit ?_
          | refine W_ret ?_
          | refine W_true rfl ?_
          | refine W_false rfl ?_
          | refine W_cond rfl (fun _ => ?_) (fun _ => ?_)))
  exact ⟨rfl, _, rfl, _, _, rfl⟩

set_option maxHeartbeats 1000000 in
theorem rd6_ok (l : List Dl) (hl : l.length < 1000000) (M : Mem) : ACalls Try.prog 6 [.sl 2 (l.map Dl.av) .none] M (fun e M' => (∃ r, e = .ret (.bool r) ∧ (r = true → ∀ d, d ∈ l → goodK d.kind)) ∧ M' = M) := by
  refine acalls_of tabOK Try.func6 rfl (by decide) (by simp [Try.f6]) ?_
  have la : ((l.map Dl.av).length : Int) = (l.length : Int) := by simp
  repeat' (first
        | (show DW _ _ _ _ _ _ _ _; first
          | refine DW_V tabs rfl rfl rfl rfl (congrArg (AV.int _) la) ?_
          | refine DW_Q tabs rfl rfl rfl rfl ?_
          | refine DW_nil ?_
          | refine DW_R tabOK rfl rfl rfl rfl rfl ?_
          | refine DW_E tabOK rfl rfl rfl rfl rfl ?_
          | refine DW_E0 tabOK rfl rfl rfl rfl rfl ?_
          | refine DW_no rfl rfl rfl ?_
          | refine DW_no0 rfl rfl rfl ?_
          | refine DW_lits tabOK rfl rfl rfl rfl rfl rfl rfl rfl rfl rfl rfl rfl rfl ?_
          | refine DW_append_own tabOK rfl rfl rfl rfl rfl rfl rfl rfl rfl rfl rfl rfl rfl rfl rfl (by simp; omega) (by simp; omega) ?_)
        | (show W _ _ _ _ _ _; first
          | refine W_seq ?_
          | refine W_text rfl (fun _ _ _ h => h) ?_
          | refine W_block ?_
          | refine W_skip ?_
          | refine W_exit ?_
          | refine W_ret ?_
          | refine W_true rfl ?_
          | refine W_false rfl ?_
          | refine W_cond rfl (fun _ => ?_) (fun _ => ?_)
          | refine W_draw mixed [0, 1, 2, 3, 4, 5, 6, 7, 8, 9, 10, 11, 12, 13, 14, 15, 16, 17, 18, 19, 20, 24, 25, 21, 22, 23, 26, 27, 28, 29, 30, 31] [.P, .P, .R, .R, .R, .P, .P, .P, .P, .R, .R, .R, .P, .P, .P, .P, .P, .P, .P, .P, .P, .R, .R, .R, .P, .P, .R, .R, .R, .P, .P, .P] rfl rfl (by kernel_rfl) ?_))
  refine W_count l.length (fun i f N => N = M ∧ (∀ d, d ∈ l.take i → goodK d.kind) ∧ f = ⟨[(0, .sl 2 (l.map Dl.av) .none), (3, .int .i64 (i : Int))], []⟩) (Nat.zero_le _) ⟨rfl, by simp, rfl⟩ (Joint.le ?_ (Mem.le_refl _)) ?_
  · skip
    repeat (refine AF.le_cons rfl ?_)
    exact AF.le_nil rfl
  · rintro i f N hi ⟨rfl, hpre, rfl⟩
    by_cases h1 : i < l.length
    · have d3 : decide ((i : Int) < (l.length : Int)) = true := by simp; omega
      have hx : l[i]? = some l[i] := List.getElem?_eq_getElem h1
      have fi := wrap_succ (i := i) (by omega)
      have ht := take_succ hx
      generalize l[i] = e at hx ht
      by_cases h2 : e.kind < 1
      · have d4 : decide (e.kind < 1) = true := by simp; omega
        repeat' (first
              | (show DW _ _ _ _ _ _ _ _; first
                | refine DW_V tabs rfl rfl rfl rfl (congrArg AV.bool d3) ?_
                | refine DW_V tabs rfl rfl rfl rfl (congrArg (AV.int _) la) ?_
                | refine DW_Q tabs rfl rfl rfl rfl ?_
                | refine DW_nil ?_
                | refine DW_R tabOK rfl rfl rfl rfl rfl ?_
                | refine DW_E tabOK rfl rfl rfl rfl rfl ?_
                | refine DW_E0 tabOK rfl rfl rfl rfl rfl ?_
                | refine DW_no rfl rfl rfl ?_
                | refine DW_no0 rfl rfl rfl ?_
                | refine DW_lits tabOK rfl rfl rfl rfl rfl rfl rfl rfl rfl rfl rfl rfl rfl ?_
                | refine DW_append_own tabOK rfl rfl rfl rfl rfl rfl rfl rfl rfl rfl rfl rfl rfl rfl rfl (by simp; omega) (by simp; omega) ?_)
              | (show W _ _ _ _ _ _; first
                | refine W_seq ?_
                | refine W_text rfl (fun _ _ _ h => h) ?_
                | refine W_block ?_
                | refine W_skip ?_
                | refine W_exit ?_
                | refine W_ret ?_
                | refine W_true rfl ?_
                | refine W_false rfl ?_
                | refine W_cond rfl (fun _ => ?_) (fun _ => ?_)
                | refine W_draw mixed [0, 1, 2, 3, 4, 5, 6, 7, 8, 9, 10, 11, 12, 13, 14, 15, 16, 17, 18, 19, 20, 24, 25, 21, 22, 23, 26, 27, 28, 29, 30, 31] [.P, .P, .R, .R, .R, .P, .P, .P, .P, .R, .R, .R, .P, .P, .P, .P, .P, .P, .P, .P, .P, .R, .R, .R, .P, .P, .R, .R, .R, .P, .P, .P] rfl rfl (by kernel_rfl) ?_))
        refine DW_index tabOK rfl rfl rfl rfl rfl rfl rfl rfl rfl rfl (Int.natCast_nonneg _) (map_get hx) ?_
        repeat' (first
              | (show DW _ _ _ _ _ _ _ _; first
                | refine DW_V tabs rfl rfl rfl rfl (congrArg AV.bool d3) ?_
                | refine DW_V tabs rfl rfl rfl rfl (congrArg AV.bool d4) ?_
                | refine DW_V tabs rfl rfl rfl rfl (congrArg (AV.int _) la) ?_
                | refine DW_Q tabs rfl rfl rfl rfl ?_
                | refine DW_nil ?_
                | refine DW_R tabOK rfl rfl rfl rfl rfl ?_
                | refine DW_E tabOK rfl rfl rfl rfl rfl ?_
                | refine DW_E0 tabOK rfl rfl rfl rfl rfl ?_
                | refine DW_no rfl rfl rfl ?_
                | refine DW_no0 rfl rfl rfl ?_
                | refine DW_lits tabOK rfl rfl rfl rfl rfl rfl rfl rfl rfl rfl rfl rfl rfl ?_
                | refine DW_append_own tabOK rfl rfl rfl rfl rfl rfl rfl rfl rfl rfl rfl rfl rfl rfl rfl (by simp; omega) (by simp; omega) ?_)
              | (show W _ _ _ _ _ _; first
                | refine W_seq ?_
                | refine W_text rfl (fun _ _ _ h => h) ?_
                | refine W_block ?_
                | refine W_skip ?_
                | refine W_exit ?_
                | refine W_ret ?_
                | refine W_true rfl ?_
                | refine W_false rfl ?_
                | refine W_cond rfl (fun _ => ?_) (fun _ => ?_)
                | refine W_draw mixed [0, 1, 2, 3, 4, 5, 6, 7, 8, 9, 10, 11, 12, 13, 14, 15, 16, 17, 18, 19, 20, 24, 25, 21, 22, 23, 26, 27, 28, 29, 30, 31] [.P, .P, .R, .R, .R, .P, .P, .P, .P, .R, .R, .R, .P, .P, .P, .P, .P, .P, .P, .P, .P, .R, .R, .R, .P, .P, .R, .R, .R, .P, .P, .P] rfl rfl (by kernel_rfl) ?_))
        exact ⟨rfl, _, rfl, ⟨_, rfl, fun h => by cases h⟩, rfl⟩
      · have d4 : decide (e.kind < 1) = false := by simp; omega
        by_cases h3 : 3 < e.kind
        · have d5 : decide (3 < e.kind) = true := by simp; omega
          repeat' (first
                | (show DW _ _ _ _ _ _ _ _; first
                  | refine DW_V tabs rfl rfl rfl rfl (congrArg AV.bool d3) ?_
                  | refine DW_V tabs rfl rfl rfl rfl (congrArg (AV.int _) la) ?_
                  | refine DW_Q tabs rfl rfl rfl rfl ?_
                  | refine DW_nil ?_
                  | refine DW_R tabOK rfl rfl rfl rfl rfl ?_
                  | refine DW_E tabOK rfl rfl rfl rfl rfl ?_
                  | refine DW_E0 tabOK rfl rfl rfl rfl rfl ?_
                  | refine DW_no rfl rfl rfl ?_
                  | refine DW_no0 rfl rfl rfl ?_
                  | refine DW_lits tabOK rfl rfl rfl rfl rfl rfl rfl rfl rfl rfl rfl rfl rfl ?_
                  | refine DW_append_own tabOK rfl rfl rfl rfl rfl rfl rfl rfl rfl rfl rfl rfl rfl rfl rfl (by simp; omega) (by simp; omega) ?_)
                | (show W _ _ _ _ _ _; first
                  | refine W_seq ?_
                  | refine W_text rfl (fun _ _ _ h => h) ?_
                  | refine W_block ?_
                  | refine W_skip ?_
                  | refine W_exit ?_
                  | refine W_ret ?_
                  | refine W_true rfl ?_
                  | refine W_false rfl ?_
                  | refine W_cond rfl (fun _ => ?_) (fun _ => ?_)
                  | refine W_draw mixed [0, 1, 2, 3, 4, 5, 6, 7, 8, 9, 10, 11, 12, 13, 14, 15, 16, 17, 18, 19, 20, 24, 25, 21, 22, 23, 26, 27, 28, 29, 30, 31] [.P, .P, .R, .R, .R, .P, .P, .P, .P, .R, .R, .R, .P, .P, .P, .P, .P, .P, .P, .P, .P, .R, .R, .R, .P, .P, .R, .R, .R, .P, .P, .P] rfl rfl (by kernel_rfl) ?_))
          refine DW_index tabOK rfl rfl rfl rfl rfl rfl rfl rfl rfl rfl (Int.natCast_nonneg _) (map_get hx) ?_
          repeat' (first
                | (show DW _ _ _ _ _ _ _ _; first
                  | refine DW_V tabs rfl rfl rfl rfl (congrArg AV.bool d3) ?_
                  | refine DW_V tabs rfl rfl rfl rfl (congrArg AV.bool d4) ?_
                  | refine DW_V tabs rfl rfl rfl rfl (congrArg (AV.int _) la) ?_
                  | refine DW_Q tabs rfl rfl rfl rfl ?_
                  | refine DW_nil ?_
                  | refine DW_R tabOK rfl rfl rfl rfl rfl ?_
                  | refine DW_E tabOK rfl rfl rfl rfl rfl ?_
                  | refine DW_E0 tabOK rfl rfl rfl rfl rfl ?_
                  | refine DW_no rfl rfl rfl ?_
                  | refine DW_no0 rfl rfl rfl ?_
                  | refine DW_lits tabOK rfl rfl rfl rfl rfl rfl rfl rfl rfl rfl rfl rfl rfl ?_
                  | refine DW_append_own tabOK rfl rfl rfl rfl rfl rfl rfl rfl rfl rfl rfl rfl rfl rfl rfl (by simp; omega) (by simp; omega) ?_)
                | (show W _ _ _ _ _ _; first
                  | refine W_seq ?_
                  | refine W_text rfl (fun _ _ _ h => h) ?_
                  | refine W_block ?_
                  | refine W_skip ?_
                  | refine W_exit ?_
                  | refine W_ret ?_
                  | refine W_true rfl ?_
                  | refine W_false rfl ?_
                  | refine W_cond rfl (fun _ => ?_) (fun _ => ?_)
                  | refine W_draw mixed [0, 1, 2, 3, 4, 5, 6, 7, 8, 9, 10, 11, 12, 13, 14, 15, 16, 17, 18, 19, 20, 24, 25, 21, 22, 23, 26, 27, 28, 29, 30, 31] [.P, .P, .R, .R, .R, .P, .P, .P, .P, .R, .R, .R, .P, .P, .P, .P, .P, .P, .P, .P, .P, .R, .R, .R, .P, .P, .R, .R, .R, .P, .P, .P] rfl rfl (by kernel_rfl) ?_))
          refine DW_index tabOK rfl rfl rfl rfl rfl rfl rfl rfl rfl rfl (Int.natCast_nonneg _) (map_get hx) ?_
          repeat' (first
                | (show DW _ _ _ _ _ _ _ _; first
                  | refine DW_V tabs rfl rfl rfl rfl (congrArg AV.bool d3) ?_
                  | refine DW_V tabs rfl rfl rfl rfl (congrArg AV.bool d4) ?_
                  | refine DW_V tabs rfl rfl rfl rfl (congrArg AV.bool d5) ?_
                  | refine DW_V tabs rfl rfl rfl rfl (congrArg (AV.int _) la) ?_
                  | refine DW_Q tabs rfl rfl rfl rfl ?_
                  | refine DW_nil ?_
                  | refine DW_R tabOK rfl rfl rfl rfl rfl ?_
                  | refine DW_E tabOK rfl rfl rfl rfl rfl ?_
                  | refine DW_E0 tabOK rfl rfl rfl rfl rfl ?_
                  | refine DW_no rfl rfl rfl ?_
                  | refine DW_no0 rfl rfl rfl ?_
                  | refine DW_lits tabOK rfl rfl rfl rfl rfl rfl rfl rfl rfl rfl rfl rfl rfl ?_
                  | refine DW_append_own tabOK rfl rfl rfl rfl rfl rfl rfl rfl rfl rfl rfl rfl rfl rfl rfl (by simp; omega) (by simp; omega) ?_)
                | (show W _ _ _ _ _ _; first
                  | refine W_seq ?_
                  | refine W_text rfl (fun _ _ _ h => h) ?_
                  | refine W_block ?_
                  | refine W_skip ?_
                  | refine W_exit ?_
                  | refine W_ret ?_
                  | refine W_true rfl ?_
                  | refine W_false rfl ?_
                  | refine W_cond rfl (fun _ => ?_) (fun _ => ?_)
                  | refine W_draw mixed [0, 1, 2, 3, 4, 5, 6, 7, 8, 9, 10, 11, 12, 13, 14, 15, 16, 17, 18, 19, 20, 24, 25, 21, 22, 23, 26, 27, 28, 29, 30, 31] [.P, .P, .R, .R, .R, .P, .P, .P, .P, .R, .R, .R, .P, .P, .P, .P, .P, .P, .P, .P, .P, .R, .R, .R, .P, .P, .R, .R, .R, .P, .P, .P] rfl rfl (by kernel_rfl) ?_))
          exact ⟨rfl, _, rfl, ⟨_, rfl, fun h => by cases h⟩, rfl⟩
        · have d5 : decide (3 < e.kind) = false := by simp; omega
          have hg : ∀ d, d ∈ l.take (i + 1) → goodK d.kind := by
            intro d hd
            rw [ht] at hd
            rcases List.mem_append.1 hd with hd | hd
            · exact hpre d hd
            · simp only [List.mem_singleton] at hd
              subst hd
              unfold goodK
              omega
          by_cases h0 : 1 ≤ i
          · have d6 : decide ((0 : Int) < (i : Int)) = true := by simp; omega
            have hy : l[i - 1]? = some l[i - 1] := List.getElem?_eq_getElem (by omega)
            have fs := wrap_pred h0 (by omega)
            repeat' (first
                  | (show DW _ _ _ _ _ _ _ _; first
                    | refine DW_V tabs rfl rfl rfl rfl (congrArg AV.bool d3) ?_
                    | refine DW_V tabs rfl rfl rfl rfl (congrArg (AV.int _) la) ?_
                    | refine DW_Q tabs rfl rfl rfl rfl ?_
                    | refine DW_nil ?_
                    | refine DW_R tabOK rfl rfl rfl rfl rfl ?_
                    | refine DW_E tabOK rfl rfl rfl rfl rfl ?_
                    | refine DW_E0 tabOK rfl rfl rfl rfl rfl ?_
                    | refine DW_no rfl rfl rfl ?_
                    | refine DW_no0 rfl rfl rfl ?_
                    | refine DW_lits tabOK rfl rfl rfl rfl rfl rfl rfl rfl rfl rfl rfl rfl rfl ?_
                    | refine DW_append_own tabOK rfl rfl rfl rfl rfl rfl rfl rfl rfl rfl rfl rfl rfl rfl rfl (by simp; omega) (by simp; omega) ?_)
                  | (show W _ _ _ _ _ _; first
                    | refine W_seq ?_
                    | refine W_text rfl (fun _ _ _ h => h) ?_
                    | refine W_block ?_
                    | refine W_skip ?_
                    | refine W_exit ?_
                    | refine W_ret ?_
                    | refine W_true rfl ?_
                    | refine W_false rfl ?_
                    | refine W_cond rfl (fun _ => ?_) (fun _ => ?_)
                    | refine W_draw mixed [0, 1, 2, 3, 4, 5, 6, 7, 8, 9, 10, 11, 12, 13, 14, 15, 16, 17, 18, 19, 20, 24, 25, 21, 22, 23, 26, 27, 28, 29, 30, 31] [.P, .P, .R, .R, .R, .P, .P, .P, .P, .R, .R, .R, .P, .P, .P, .P, .P, .P, .P, .P, .P, .R, .R, .R, .P, .P, .R, .R, .R, .P, .P, .P] rfl rfl (by kernel_rfl) ?_))
            refine DW_index tabOK rfl rfl rfl rfl rfl rfl rfl rfl rfl rfl (Int.natCast_nonneg _) (map_get hx) ?_
            repeat' (first
                  | (show DW _ _ _ _ _ _ _ _; first
                    | refine DW_V tabs rfl rfl rfl rfl (congrArg AV.bool d3) ?_
                    | refine DW_V tabs rfl rfl rfl rfl (congrArg AV.bool d4) ?_
                    | refine DW_V tabs rfl rfl rfl rfl (congrArg (AV.int _) la) ?_
                    | refine DW_Q tabs rfl rfl rfl rfl ?_
                    | refine DW_nil ?_
                    | refine DW_R tabOK rfl rfl rfl rfl rfl ?_
                    | refine DW_E tabOK rfl rfl rfl rfl rfl ?_
                    | refine DW_E0 tabOK rfl rfl rfl rfl rfl ?_
                    | refine DW_no rfl rfl rfl ?_
                    | refine DW_no0 rfl rfl rfl ?_
                    | refine DW_lits tabOK rfl rfl rfl rfl rfl rfl rfl rfl rfl rfl rfl rfl rfl ?_
                    | refine DW_append_own tabOK rfl rfl rfl rfl rfl rfl rfl rfl rfl rfl rfl rfl rfl rfl rfl (by simp; omega) (by simp; omega) ?_)
                  | (show W _ _ _ _ _ _; first
                    | refine W_seq ?_
                    | refine W_text rfl (fun _ _ _ h => h) ?_
                    | refine W_block ?_
                    | refine W_skip ?_
                    | refine W_exit ?_
                    | refine W_ret ?_
                    | refine W_true rfl ?_
                    | refine W_false rfl ?_
                    | refine W_cond rfl (fun _ => ?_) (fun _ => ?_)
                    | refine W_draw mixed [0, 1, 2, 3, 4, 5, 6, 7, 8, 9, 10, 11, 12, 13, 14, 15, 16, 17, 18, 19, 20, 24, 25, 21, 22, 23, 26, 27, 28, 29, 30, 31] [.P, .P, .R, .R, .R, .P, .P, .P, .P, .R, .R, .R, .P, .P, .P, .P, .P, .P, .P, .P, .P, .R, .R, .R, .P, .P, .R, .R, .R, .P, .P, .P] rfl rfl (by kernel_rfl) ?_))
            refine DW_index tabOK rfl rfl rfl rfl rfl rfl rfl rfl rfl rfl (Int.natCast_nonneg _) (map_get hx) ?_
            repeat' (first
                  | (show DW _ _ _ _ _ _ _ _; first
                    | refine DW_V tabs rfl rfl rfl rfl (congrArg AV.bool d3) ?_
                    | refine DW_V tabs rfl rfl rfl rfl (congrArg AV.bool d4) ?_
                    | refine DW_V tabs rfl rfl rfl rfl (congrArg AV.bool d5) ?_
                    | refine DW_V tabs rfl rfl rfl rfl (congrArg AV.bool d6) ?_
                    | refine DW_V tabs rfl rfl rfl rfl (congrArg (AV.int _) la) ?_
                    | refine DW_V tabs rfl rfl rfl rfl (congrArg (AV.int _) fs) ?_
                    | refine DW_Q tabs rfl rfl rfl rfl ?_
                    | refine DW_nil ?_
                    | refine DW_R tabOK rfl rfl rfl rfl rfl ?_
                    | refine DW_E tabOK rfl rfl rfl rfl rfl ?_
                    | refine DW_E0 tabOK rfl rfl rfl rfl rfl ?_
                    | refine DW_no rfl rfl rfl ?_
                    | refine DW_no0 rfl rfl rfl ?_
                    | refine DW_lits tabOK rfl rfl rfl rfl rfl rfl rfl rfl rfl rfl rfl rfl rfl ?_
                    | refine DW_append_own tabOK rfl rfl rfl rfl rfl rfl rfl rfl rfl rfl rfl rfl rfl rfl rfl (by simp; omega) (by simp; omega) ?_)
                  | (show W _ _ _ _ _ _; first
                    | refine W_seq ?_
                    | refine W_text rfl (fun _ _ _ h => h) ?_
                    | refine W_block ?_
                    | refine W_skip ?_
                    | refine W_exit ?_
                    | refine W_ret ?_
                    | refine W_true rfl ?_
                    | refine W_false rfl ?_
                    | refine W_cond rfl (fun _ => ?_) (fun _ => ?_)
                    | refine W_draw mixed [0, 1, 2, 3, 4, 5, 6, 7, 8, 9, 10, 11, 12, 13, 14, 15, 16, 17, 18, 19, 20, 24, 25, 21, 22, 23, 26, 27, 28, 29, 30, 31] [.P, .P, .R, .R, .R, .P, .P, .P, .P, .R, .R, .R, .P, .P, .P, .P, .P, .P, .P, .P, .P, .R, .R, .R, .P, .P, .R, .R, .R, .P, .P, .P] rfl rfl (by kernel_rfl) ?_))
            refine DW_index tabOK rfl rfl rfl rfl rfl rfl rfl rfl rfl rfl (Int.natCast_nonneg _) (map_get hy) ?_
            repeat (first
                  | refine DW_Q tabs rfl rfl rfl rfl ?_
                  | refine DW_R tabOK rfl rfl rfl rfl rfl ?_
                  | refine DW_E tabOK rfl rfl rfl rfl rfl ?_
                  | refine DW_E0 tabOK rfl rfl rfl rfl rfl ?_
                  | refine DW_no rfl rfl rfl ?_
                  | refine DW_no0 rfl rfl rfl ?_)
            refine DW_index tabOK rfl rfl rfl rfl rfl rfl rfl rfl rfl rfl (Int.natCast_nonneg _) (map_get hx) ?_
            repeat' (first
                  | (show DW _ _ _ _ _ _ _ _; first
                    | refine DW_V tabs rfl rfl rfl rfl (congrArg AV.bool d3) ?_
                    | refine DW_V tabs rfl rfl rfl rfl (congrArg AV.bool d4) ?_
                    | refine DW_V tabs rfl rfl rfl rfl (congrArg AV.bool d5) ?_
                    | refine DW_V tabs rfl rfl rfl rfl (congrArg AV.bool d6) ?_
                    | refine DW_V tabs rfl rfl rfl rfl (congrArg (AV.int _) la) ?_
                    | refine DW_V tabs rfl rfl rfl rfl (congrArg (AV.int _) fi) ?_
                    | refine DW_V tabs rfl rfl rfl rfl (congrArg (AV.int _) fs) ?_
                    | refine DW_Q tabs rfl rfl rfl rfl ?_
                    | refine DW_nil ?_
                    | refine DW_R tabOK rfl rfl rfl rfl rfl ?_
                    | refine DW_E tabOK rfl rfl rfl rfl rfl ?_
                    | refine DW_E0 tabOK rfl rfl rfl rfl rfl ?_
                    | refine DW_no rfl rfl rfl ?_
                    | refine DW_no0 rfl rfl rfl ?_
                    | refine DW_lits tabOK rfl rfl rfl rfl rfl rfl rfl rfl rfl rfl rfl rfl rfl ?_
                    | refine DW_append_own tabOK rfl rfl rfl rfl rfl rfl rfl rfl rfl rfl rfl rfl rfl rfl rfl (by simp; omega) (by simp; omega) ?_)
                  | (show W _ _ _ _ _ _; first
                    | refine W_seq ?_
                    | refine W_text rfl (fun _ _ _ h => h) ?_
                    | refine W_block ?_
                    | refine W_skip ?_
                    | refine W_exit ?_
                    | refine W_ret ?_
                    | refine W_true rfl ?_
                    | refine W_false rfl ?_
                    | refine W_cond rfl (fun _ => ?_) (fun _ => ?_)
                    | refine W_draw mixed [0, 1, 2, 3, 4, 5, 6, 7, 8, 9, 10, 11, 12, 13, 14, 15, 16, 17, 18, 19, 20, 24, 25, 21, 22, 23, 26, 27, 28, 29, 30, 31] [.P, .P, .R, .R, .R, .P, .P, .P, .P, .R, .R, .R, .P, .P, .P, .P, .P, .P, .P, .P, .P, .R, .R, .R, .P, .P, .R, .R, .R, .P, .P, .P] rfl rfl (by kernel_rfl) ?_))
            · exact ⟨rfl, _, rfl, ⟨_, rfl, fun h => by cases h⟩, rfl⟩
            · refine ⟨h1, _, _, ⟨rfl, hg, rfl⟩, Joint.le ?_ (Mem.le_refl _)⟩
              repeat (refine AF.le_cons rfl ?_)
              exact AF.le_nil rfl
          · have d6 : decide ((0 : Int) < (i : Int)) = false := by simp; omega
            repeat' (first
                  | (show DW _ _ _ _ _ _ _ _; first
                    | refine DW_V tabs rfl rfl rfl rfl (congrArg AV.bool d3) ?_
                    | refine DW_V tabs rfl rfl rfl rfl (congrArg (AV.int _) la) ?_
                    | refine DW_Q tabs rfl rfl rfl rfl ?_
                    | refine DW_nil ?_
                    | refine DW_R tabOK rfl rfl rfl rfl rfl ?_
                    | refine DW_E tabOK rfl rfl rfl rfl rfl ?_
                    | refine DW_E0 tabOK rfl rfl rfl rfl rfl ?_
                    | refine DW_no rfl rfl rfl ?_
                    | refine DW_no0 rfl rfl rfl ?_
                    | refine DW_lits tabOK rfl rfl rfl rfl rfl rfl rfl rfl rfl rfl rfl rfl rfl ?_
                    | refine DW_append_own tabOK rfl rfl rfl rfl rfl rfl rfl rfl rfl rfl rfl rfl rfl rfl rfl (by simp; omega) (by simp; omega) ?_)
                  | (show W _ _ _ _ _ _; first
                    | refine W_seq ?_
                    | refine W_text rfl (fun _ _ _ h => h) ?_
                    | refine W_block ?_
                    | refine W_skip ?_
                    | refine W_exit ?_
                    | refine W_ret ?_
                    | refine W_true rfl ?_
                    | refine W_false rfl ?_
                    | refine W_cond rfl (fun _ => ?_) (fun _ => ?_)
                    | refine W_draw mixed [0, 1, 2, 3, 4, 5, 6, 7, 8, 9, 10, 11, 12, 13, 14, 15, 16, 17, 18, 19, 20, 24, 25, 21, 22, 23, 26, 27, 28, 29, 30, 31] [.P, .P, .R, .R, .R, .P, .P, .P, .P, .R, .R, .R, .P, .P, .P, .P, .P, .P, .P, .P, .P, .R, .R, .R, .P, .P, .R, .R, .R, .P, .P, .P] rfl rfl (by kernel_rfl) ?_))
            refine DW_index tabOK rfl rfl rfl rfl rfl rfl rfl rfl rfl rfl (Int.natCast_nonneg _) (map_get hx) ?_
            repeat' (first
                  | (show DW _ _ _ _ _ _ _ _; first
                    | refine DW_V tabs rfl rfl rfl rfl (congrArg AV.bool d3) ?_
                    | refine DW_V tabs rfl rfl rfl rfl (congrArg AV.bool d4) ?_
                    | refine DW_V tabs rfl rfl rfl rfl (congrArg (AV.int _) la) ?_
                    | refine DW_Q tabs rfl rfl rfl rfl ?_
                    | refine DW_nil ?_
                    | refine DW_R tabOK rfl rfl rfl rfl rfl ?_
                    | refine DW_E tabOK rfl rfl rfl rfl rfl ?_
                    | refine DW_E0 tabOK rfl rfl rfl rfl rfl ?_
                    | refine DW_no rfl rfl rfl ?_
                    | refine DW_no0 rfl rfl rfl ?_
                    | refine DW_lits tabOK rfl rfl rfl rfl rfl rfl rfl rfl rfl rfl rfl rfl rfl ?_
                    | refine DW_append_own tabOK rfl rfl rfl rfl rfl rfl rfl rfl rfl rfl rfl rfl rfl rfl rfl (by simp; omega) (by simp; omega) ?_)
                  | (show W _ _ _ _ _ _; first
                    | refine W_seq ?_
                    | refine W_text rfl (fun _ _ _ h => h) ?_
                    | refine W_block ?_
                    | refine W_skip ?_
                    | refine W_exit ?_
                    | refine W_ret ?_
                    | refine W_true rfl ?_
                    | refine W_false rfl ?_
                    | refine W_cond rfl (fun _ => ?_) (fun _ => ?_)
                    | refine W_draw mixed [0, 1, 2, 3, 4, 5, 6, 7, 8, 9, 10, 11, 12, 13, 14, 15, 16, 17, 18, 19, 20, 24, 25, 21, 22, 23, 26, 27, 28, 29, 30, 31] [.P, .P, .R, .R, .R, .P, .P, .P, .P, .R, .R, .R, .P, .P, .P, .P, .P, .P, .P, .P, .P, .R, .R, .R, .P, .P, .R, .R, .R, .P, .P, .P] rfl rfl (by kernel_rfl) ?_))
            refine DW_index tabOK rfl rfl rfl rfl rfl rfl rfl rfl rfl rfl (Int.natCast_nonneg _) (map_get hx) ?_
            repeat' (first
                  | (show DW _ _ _ _ _ _ _ _; first
                    | refine DW_V tabs rfl rfl rfl rfl (congrArg AV.bool d3) ?_
                    | refine DW_V tabs rfl rfl rfl rfl (congrArg AV.bool d4) ?_
                    | refine DW_V tabs rfl rfl rfl rfl (congrArg AV.bool d5) ?_
                    | refine DW_V tabs rfl rfl rfl rfl (congrArg AV.bool d6) ?_
                    | refine DW_V tabs rfl rfl rfl rfl (congrArg (AV.int _) la) ?_
                    | refine DW_V tabs rfl rfl rfl rfl (congrArg (AV.int _) fi) ?_
                    | refine DW_Q tabs rfl rfl rfl rfl ?_
                    | refine DW_nil ?_
                    | refine DW_R tabOK rfl rfl rfl rfl rfl ?_
                    | refine DW_E tabOK rfl rfl rfl rfl rfl ?_
                    | refine DW_E0 tabOK rfl rfl rfl rfl rfl ?_
                    | refine DW_no rfl rfl rfl ?_
                    | refine DW_no0 rfl rfl rfl ?_
                    | refine DW_lits tabOK rfl rfl rfl rfl rfl rfl rfl rfl rfl rfl rfl rfl rfl ?_
                    | refine DW_append_own tabOK rfl rfl rfl rfl rfl rfl rfl rfl rfl rfl rfl rfl rfl rfl rfl (by simp; omega) (by simp; omega) ?_)
                  | (show W _ _ _ _ _ _; first
                    | refine W_seq ?_
                    | refine W_text rfl (fun _ _ _ h => h) ?_
                    | refine W_block ?_
                    | refine W_skip ?_
                    | refine W_exit ?_
                    | refine W_ret ?_
                    | refine W_true rfl ?_
                    | refine W_false rfl ?_
                    | refine W_cond rfl (fun _ => ?_) (fun _ => ?_)
                    | refine W_draw mixed [0, 1, 2, 3, 4, 5, 6, 7, 8, 9, 10, 11, 12, 13, 14, 15, 16, 17, 18, 19, 20, 24, 25, 21, 22, 23, 26, 27, 28, 29, 30, 31] [.P, .P, .R, .R, .R, .P, .P, .P, .P, .R, .R, .R, .P, .P, .P, .P, .P, .P, .P, .P, .P, .R, .R, .R, .P, .P, .R, .R, .R, .P, .P, .P] rfl rfl (by kernel_rfl) ?_))
            refine ⟨h1, _, _, ⟨rfl, hg, rfl⟩, Joint.le ?_ (Mem.le_refl _)⟩
            repeat (refine AF.le_cons rfl ?_)
            exact AF.le_nil rfl
    · have d3 : decide ((i : Int) < (l.length : Int)) = false := by simp; omega
      have hl2 : l.take i = l := List.take_of_length_le (by omega)
      rw [hl2] at hpre
      repeat' (first
            | (show DW _ _ _ _ _ _ _ _; first
              | refine DW_V tabs rfl rfl rfl rfl (congrArg AV.bool d3) ?_
              | refine DW_V tabs rfl rfl rfl rfl (congrArg (AV.int _) la) ?_
              | refine DW_Q tabs rfl rfl rfl rfl ?_
              | refine DW_nil ?_
              | refine DW_R tabOK rfl rfl rfl rfl rfl ?_
              | refine DW_E tabOK rfl rfl rfl rfl rfl ?_
              | refine DW_E0 tabOK rfl rfl rfl rfl rfl ?_
              | refine DW_no rfl rfl rfl ?_
              | refine DW_no0 rfl rfl rfl ?_
              | refine DW_lits tabOK rfl rfl rfl rfl rfl rfl rfl rfl rfl rfl rfl rfl rfl ?_
              | refine DW_append_own tabOK rfl rfl rfl rfl rfl rfl rfl rfl rfl rfl rfl rfl rfl rfl rfl (by simp; omega) (by simp; omega) ?_)
            | (show W _ _ _ _ _ _; first
              | refine W_seq ?_
              | refine W_text rfl (fun _ _ _ h => h) ?_
              | refine W_block ?_
              | refine W_skip ?_
              | refine W_exit ?_
              | refine W_ret ?_
              | refine W_true rfl ?_
              | refine W_false rfl ?_
              | refine W_cond rfl (fun _ => ?_) (fun _ => ?_)
              | refine W_draw mixed [0, 1, 2, 3, 4, 5, 6, 7, 8, 9, 10, 11, 12, 13, 14, 15, 16, 17, 18, 19, 20, 24, 25, 21, 22, 23, 26, 27, 28, 29, 30, 31] [.P, .P, .R, .R, .R, .P, .P, .P, .P, .R, .R, .R, .P, .P, .P, .P, .P, .P, .P, .P, .P, .R, .R, .R, .P, .P, .R, .R, .R, .P, .P, .P] rfl rfl (by kernel_rfl) ?_))
      exact ⟨rfl, _, rfl, ⟨_, rfl, fun _ => hpre⟩, rfl⟩
end Go.Proofs.Yteimhnedflbkmaa
