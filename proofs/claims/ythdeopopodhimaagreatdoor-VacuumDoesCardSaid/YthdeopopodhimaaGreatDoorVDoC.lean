/- Of, Run and Live are as the document says. No further condition. -/
import Derived.Test.YthdeopopodhimaaGreatDoorVDoB
set_option linter.unusedVariables false
set_option linter.unusedSimpArgs false
namespace Go.Proofs.YthdeopopodhimaaGreatDoor
open Go.Ab

set_option maxRecDepth 100000 in
set_option maxHeartbeats 8000000 in
theorem vacuumDoes_ok (l : List Pr) (w : Int) (hl : l.length < 4611686018427387904) : APure Tryz.prog 3 [.sl 3 (l.map Pr.av) .none, .int .i64 w] (.bool true) := by
  intro M
  refine acalls_of tabOK Tryz.func3 rfl (by decide) (by simp [Tryz.f3]) ?_
  have kb := big_ok l .none hl
  cases h : bigB l
  · rw [h] at kb
    have hl2 := (bigB_no h).1
    have ks := made_small h
    have km := made_ok l .none (by omega)
    have kw := swept_ok
    generalize laidT l = T at *
    have hr := T.rise
    change Rise T.all at hr
    have hn := ks.1
    have ka := tAll_ok T (by omega)
    have sT := same_ok T.all T.all .none .none (by omega) (by omega)
    rw [decide_eq_true rfl] at sT
    have o1 := of_ok T (by omega) ks.2 w
    have o2 := rOf_ok T.all w (by omega) ks.2 hr
    have r1 := run_ok T (by omega) ks.2 w
    have r2 := rRun_ok T.all w (by omega) ks.2 hr
    have l1 := live_ok T (by omega) ks.2 w
    have l2 := rLive_ok T.all w (by omega) ks.2 hr
    unfold liveA at l1 l2
    unfold runA at r1
    unfold rrA at r2
    cases hv : vOk T.all w
    · rw [ofO_no hv] at o1 o2
      rw [if_neg (by simp [hv])] at l1 l2 r1 r2
      have kk := keys_ok [] [] .none .none (by decide) (by decide)
      rw [decide_eq_true rfl] at kk
      unfold ofA at o1 o2
      unfold prA at *
      unfold Tr.av at km ka o1 r1 l1
      repeat' (first | refine DW_A tabs rfl ?_ | refine DW_nil ?_ | refine W_A rfl ?_ | refine DW_C rfl kb ?_ | refine DW_C rfl km ?_ | refine DW_C rfl ka ?_ | refine DW_C rfl o1 ?_ | refine DW_C rfl o2 ?_ | refine DW_C rfl r1 ?_ | refine DW_C rfl r2 ?_ | refine DW_C rfl l1 ?_ | refine DW_C rfl l2 ?_ | refine DW_C rfl kw ?_ | refine DW_C rfl kk ?_ | refine DW_C rfl sT ?_)
      exact ⟨rfl, _, rfl, rfl, rfl⟩
    · rw [ofO_yes hv] at o1 o2
      rw [if_pos hv] at l1 l2 r1 r2
      have hU := runT_all (t := T) (by omega) w
      have hn := run_len hr w
      have hsl := scan_len w T.all hr
      have kk := keys_ok (scanD w T.all).2 (scanD w T.all).2 .none .none (by omega) (by omega)
      rw [decide_eq_true rfl] at kk
      generalize runT T w = U at *
      have ku := tAll_ok U (by rw [hU]; omega)
      have sU := same_ok U.all (runL T.all w) .none .none (by rw [hU]; omega) (by omega)
      rw [decide_eq_true hU] at sU
      generalize (scanD w T.all).2 = D at *
      generalize runL T.all w = R at *
      generalize (T.all.length : Int) - (D.length : Int) = c at *
      have d1 : decide (c = c) = true := by simp
      have d2 : decide ((D.length : Int) = (D.length : Int)) = true := by simp
      unfold ofA at o1 o2
      unfold prA at *
      unfold Tr.av at km ka ku o1 r1 l1
      repeat' (first | refine DW_VB tabs rfl (by first | exact d1 | exact d2) ?_ | refine DW_A tabs rfl ?_ | refine DW_nil ?_ | refine W_A rfl ?_ | refine DW_C rfl kb ?_ | refine DW_C rfl km ?_ | refine DW_C rfl ka ?_ | refine DW_C rfl o1 ?_ | refine DW_C rfl o2 ?_ | refine DW_C rfl r1 ?_ | refine DW_C rfl r2 ?_ | refine DW_C rfl l1 ?_ | refine DW_C rfl l2 ?_ | refine DW_C rfl kw ?_ | refine DW_C rfl kk ?_ | refine DW_C rfl ku ?_ | refine DW_C rfl sU ?_ | refine DW_C rfl sT ?_)
      exact ⟨rfl, _, rfl, rfl, rfl⟩
  · rw [h] at kb
    repeat' (first | refine DW_A tabs rfl ?_ | refine DW_nil ?_ | refine W_A rfl ?_ | refine DW_C rfl kb ?_)
    exact ⟨rfl, _, rfl, rfl, rfl⟩
end Go.Proofs.YthdeopopodhimaaGreatDoor
