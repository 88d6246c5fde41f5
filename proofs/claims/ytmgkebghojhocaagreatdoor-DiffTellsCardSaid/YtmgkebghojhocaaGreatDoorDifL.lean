/- What the deltas tell of a path. No further condition. -/
import Derived.Test.YtmgkebghojhocaaGreatDoorDifK
set_option linter.unusedVariables false
set_option linter.unusedSimpArgs false
namespace Go.Proofs.YtmgkebghojhocaaGreatDoor
open Go.Ab

theorem getP_list {l : List Pr} (hr : Rise l) (ht : okT l) {p : Bytes} (hp : isPathB p = true) (w : Int) : getP En.path (listL l [] w) p = atL l p w := by
  cases ha : atL l p w with
  | none =>
    refine getP_none fun e he hq => ?_
    have h := ((list_mem hr ht [] w e).1 he).2
    rw [hq, ha] at h
    cases h
  | some e =>
    have hq := (at_is hr ht ha).1
    have hm : e ∈ listL l [] w := (list_mem hr ht [] w e).2 ⟨by rw [under_root, hq]; exact hp, by rw [hq]; exact ha⟩
    have h := getP_mem (pth := En.path) (list_rise hr ht [] w) hm
    rw [hq] at h
    exact h
set_option maxRecDepth 100000 in
set_option maxHeartbeats 8000000 in
theorem diffTells_ok (l : List Ld) (p : Bytes) (u v : Int) (hl : ldsB l) : APure Tryz.prog 11 [ldA l .none, .str p, .int .i64 u, .int .i64 v] (.bool true) := by
  refine pure_sub (closedL_cons (closed_lds l (.inl rfl)) (closed3 closed_str closed_int closed_int)) (closed_bool) ?_
  refine acalls_of tabOK Tryz.func11 rfl (by decide) (by simp [Tryz.f11]) ?_
  have kb := bigL_ok l .none hl.1 hl.2
  cases h : bigL l
  · rw [h] at kb
    by_cases hp : 300 < p.length
    · have d1 : decide ((300 : Int) < (p.length : Int)) = true := decide_eq_true (by omega)
      unfold ldA at *
      repeat' (first | refine DW_VB tabs rfl d1 ?_ | refine DW_box 12 tabOK rfl ?_ | refine DW_box 15 tabOK rfl ?_ | refine DW_olenA tabOK rfl ?_ | refine DW_A tabs rfl ?_ | refine DW_nil ?_ | refine W_A rfl ?_ | refine DW_C rfl kb ?_)
      exact ⟨rfl, _, rfl, _, rfl, SubC.of_closed closed_bool⟩
    · have d1 : decide ((300 : Int) < (p.length : Int)) = false := decide_eq_false (by omega)
      obtain ⟨hs, h20⟩ := bigL_no h |>.symm
      obtain ⟨hi, ho, _, _⟩ := laid_all_inv hs h20
      have km := dlaid_ok l .none (.inl rfl) h20 hs
      have kd := diffs_ok
      have hvs := ho.vals
      have hln : (laidS l).1.all.length ≤ 500 := ho.1
      have hst : isSt (laidS l).1.all = true := hi.st
      clear hi ho
      generalize (laidS l).1 = T at *
      have hr := T.rise
      change Rise T.all at hr
      have ht := isSt_okT hst
      have o1 := of16_ok T (by omega) hvs [] (by decide) u v
      have a1 := asOf_ok T (by omega) hvs p (by omega) u
      have a2 := asOf_ok T (by omega) hvs p (by omega) v
      have c1 := of_cases (l := T.all) [] u v
      have n1 := ofD_len T.all [] u v
      have kf := fun hq => find_ok (ofD T.all [] u v).1 .none hq p
      have f1 := kf (by omega)
      by_cases h1 : (ofD T.all [] u v).2 = 0
      · by_cases h2 : (asOf T.all p u).2 = 0
        · by_cases h3 : (asOf T.all p v).2 = 0
          · have g2 : openE T.all p u = 0 := by
              unfold asOf at h2
              split at h2
              · assumption
              · exact h2
            have g3 : openE T.all p v = 0 := by
              unfold asOf at h3
              split at h3
              · assumption
              · exact h3
            obtain ⟨_, hpp, _⟩ := openE_parts g2
            obtain ⟨_, x0, y0, e⟩ := c1.resolve_right (fun q => q.1 h1)
            have x1 : openE T.all [] u = 0 := by
              unfold listO at x0
              split at x0
              · assumption
              · exact x0
            have y1 : openE T.all [] v = 0 := by
              unfold listO at y0
              split at y0
              · assumption
              · exact y0
            have ex : (listO T.all [] u).1 = listL T.all [] u := by unfold listO; rw [if_pos x1]
            have ey : (listO T.all [] v).1 = listL T.all [] v := by unfold listO; rw [if_pos y1]
            have hk : kindOf (ofD T.all [] u v).1 p = fE (atL T.all p u) (atL T.all p v) := by
              rw [e, ex, ey, (ents_ok (list_rise hr ht [] u) (list_rise hr ht [] v)).2.2, getP_list hr ht hpp, getP_list hr ht hpp]
            have e1 : (asOf T.all p u).1 = atL T.all p u := by unfold asOf; rw [if_pos g2]
            have e2 : (asOf T.all p v).1 = atL T.all p v := by unfold asOf; rw [if_pos g3]
            rw [hk] at f1
            unfold dlO at o1
            unfold asA at a1 a2
            rw [h1] at o1
            rw [h2, e1] at a1
            rw [h3, e2] at a2
            clear kf c1 e ex ey hk e1 e2
            generalize (ofD T.all [] u v).1 = d at *
            unfold ldA dlA at *
            unfold Tr.av at km o1 a1 a2
            generalize atL T.all p u = x at *
            generalize atL T.all p v = y at *
            cases x with
            | none =>
              cases y with
              | none =>
                repeat' (first | refine DW_VB tabs rfl d1 ?_ | refine DW_box 12 tabOK rfl ?_ | refine DW_box 15 tabOK rfl ?_ | refine DW_olenA tabOK rfl ?_ | refine DW_A tabs rfl ?_ | refine DW_nil ?_ | refine W_A rfl ?_ | refine DW_C rfl kb ?_ | refine DW_C rfl km ?_ | refine DW_C rfl o1 ?_ | refine DW_C rfl a1 ?_ | refine DW_C rfl a2 ?_ | refine DW_C rfl kd ?_ | refine DW_C rfl f1 ?_)
                exact ⟨rfl, _, rfl, _, rfl, SubC.of_closed closed_bool⟩
              | some y =>
                repeat' (first | refine DW_VB tabs rfl d1 ?_ | refine DW_box 12 tabOK rfl ?_ | refine DW_box 15 tabOK rfl ?_ | refine DW_olenA tabOK rfl ?_ | refine DW_A tabs rfl ?_ | refine DW_nil ?_ | refine W_A rfl ?_ | refine DW_C rfl kb ?_ | refine DW_C rfl km ?_ | refine DW_C rfl o1 ?_ | refine DW_C rfl a1 ?_ | refine DW_C rfl a2 ?_ | refine DW_C rfl kd ?_ | refine DW_C rfl f1 ?_)
                exact ⟨rfl, _, rfl, _, rfl, SubC.of_closed closed_bool⟩
            | some x =>
              cases y with
              | none =>
                repeat' (first | refine DW_VB tabs rfl d1 ?_ | refine DW_box 12 tabOK rfl ?_ | refine DW_box 15 tabOK rfl ?_ | refine DW_olenA tabOK rfl ?_ | refine DW_A tabs rfl ?_ | refine DW_nil ?_ | refine W_A rfl ?_ | refine DW_C rfl kb ?_ | refine DW_C rfl km ?_ | refine DW_C rfl o1 ?_ | refine DW_C rfl a1 ?_ | refine DW_C rfl a2 ?_ | refine DW_C rfl kd ?_ | refine DW_C rfl f1 ?_)
                exact ⟨rfl, _, rfl, _, rfl, SubC.of_closed closed_bool⟩
              | some y =>
                by_cases hm : x.meta_ = y.meta_
                · rw [show fE (some x) (some y) = 0 by simp [fE, hm]] at f1
                  repeat' (first | refine DW_VB tabs rfl d1 ?_ | refine DW_box 12 tabOK rfl ?_ | refine DW_box 15 tabOK rfl ?_ | refine DW_olenA tabOK rfl ?_ | refine DW_A tabs rfl ?_ | refine DW_nil ?_ | refine W_A rfl ?_ | refine DW_C rfl kb ?_ | refine DW_C rfl km ?_ | refine DW_C rfl o1 ?_ | refine DW_C rfl a1 ?_ | refine DW_C rfl a2 ?_ | refine DW_C rfl kd ?_ | refine DW_C rfl f1 ?_)
                  exact ⟨rfl, _, rfl, _, rfl, SubC.of_closed closed_bool⟩
                · rw [show fE (some x) (some y) = 2 by simp [fE, hm]] at f1
                  repeat' (first | refine DW_VB tabs rfl d1 ?_ | refine DW_box 12 tabOK rfl ?_ | refine DW_box 15 tabOK rfl ?_ | refine DW_olenA tabOK rfl ?_ | refine DW_A tabs rfl ?_ | refine DW_nil ?_ | refine W_A rfl ?_ | refine DW_C rfl kb ?_ | refine DW_C rfl km ?_ | refine DW_C rfl o1 ?_ | refine DW_C rfl a1 ?_ | refine DW_C rfl a2 ?_ | refine DW_C rfl kd ?_ | refine DW_C rfl f1 ?_)
                  exact ⟨rfl, _, rfl, _, rfl, SubC.of_closed closed_bool⟩
          · have d2 : (!decide ((asOf T.all p v).2 = 0)) = true := by simp [h3]
            unfold dlO at o1
            unfold asA at a1 a2
            rw [h1] at o1
            rw [h2] at a1
            unfold ldA dlA at *
            unfold Tr.av at km o1 a1 a2
            repeat' (first | refine DW_VB tabs rfl (by first | exact d1 | exact d2) ?_ | refine DW_box 12 tabOK rfl ?_ | refine DW_box 15 tabOK rfl ?_ | refine DW_olenA tabOK rfl ?_ | refine DW_A tabs rfl ?_ | refine DW_nil ?_ | refine W_A rfl ?_ | refine DW_C rfl kb ?_ | refine DW_C rfl km ?_ | refine DW_C rfl o1 ?_ | refine DW_C rfl a1 ?_ | refine DW_C rfl a2 ?_ | refine DW_C rfl kd ?_)
            exact ⟨rfl, _, rfl, _, rfl, SubC.of_closed closed_bool⟩
        · have d2 : (!decide ((asOf T.all p u).2 = 0)) = true := by simp [h2]
          unfold dlO at o1
          unfold asA at a1 a2
          rw [h1] at o1
          unfold ldA dlA at *
          unfold Tr.av at km o1 a1 a2
          repeat' (first | refine DW_VB tabs rfl (by first | exact d1 | exact d2) ?_ | refine DW_box 12 tabOK rfl ?_ | refine DW_box 15 tabOK rfl ?_ | refine DW_olenA tabOK rfl ?_ | refine DW_A tabs rfl ?_ | refine DW_nil ?_ | refine W_A rfl ?_ | refine DW_C rfl kb ?_ | refine DW_C rfl km ?_ | refine DW_C rfl o1 ?_ | refine DW_C rfl a1 ?_ | refine DW_C rfl a2 ?_ | refine DW_C rfl kd ?_)
          exact ⟨rfl, _, rfl, _, rfl, SubC.of_closed closed_bool⟩
      · have d2 : (!decide ((ofD T.all [] u v).2 = 0)) = true := by simp [h1]
        unfold dlO at o1
        unfold asA at a1 a2
        unfold ldA dlA at *
        unfold Tr.av at km o1 a1 a2
        repeat' (first | refine DW_VB tabs rfl (by first | exact d1 | exact d2) ?_ | refine DW_box 12 tabOK rfl ?_ | refine DW_box 15 tabOK rfl ?_ | refine DW_olenA tabOK rfl ?_ | refine DW_A tabs rfl ?_ | refine DW_nil ?_ | refine W_A rfl ?_ | refine DW_C rfl kb ?_ | refine DW_C rfl km ?_ | refine DW_C rfl o1 ?_ | refine DW_C rfl a1 ?_ | refine DW_C rfl a2 ?_ | refine DW_C rfl kd ?_)
        exact ⟨rfl, _, rfl, _, rfl, SubC.of_closed closed_bool⟩
  · rw [h] at kb
    unfold ldA at *
    repeat' (first | refine DW_box 12 tabOK rfl ?_ | refine DW_box 15 tabOK rfl ?_ | refine DW_olenA tabOK rfl ?_ | refine DW_A tabs rfl ?_ | refine DW_nil ?_ | refine W_A rfl ?_ | refine DW_C rfl kb ?_)
    exact ⟨rfl, _, rfl, _, rfl, SubC.of_closed closed_bool⟩
end Go.Proofs.YtmgkebghojhocaaGreatDoor
