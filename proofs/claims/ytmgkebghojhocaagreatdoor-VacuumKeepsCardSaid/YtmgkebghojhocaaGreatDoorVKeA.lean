/- What is told of any time from w on stays, when the dead versions up to w are gone. No further condition. -/
import Derived.Test.YtmgkebghojhocaaGreatDoorV27
import Derived.Test.YtmgkebghojhocaaGreatDoorV24
set_option linter.unusedVariables false
set_option linter.unusedSimpArgs false
namespace Go.Proofs.YtmgkebghojhocaaGreatDoor
open Go.Ab

theorem ky_ext {a b : Ky} (h1 : a.path = b.path) (h2 : a.time = b.time) : a = b := by
  cases a
  cases b
  simp only at h1 h2
  rw [h1, h2]
theorem run_at {l : List Pr} (hr : Rise l) (ht : okT l) {w v : Int} (h : w ≤ v) (p : Bytes) : atL (runL l w) p v = atL l p v := by
  have hr' := run_rise hr w
  have ht' : okT (runL l w) := fun y hy => ht y (run_mem.1 hy).1
  rcases at_cases hr ht p v with ⟨x, hx, e⟩ | ⟨hn, e⟩
  · rw [e]
    by_cases hd : Dead l w x
    · obtain ⟨h1, h2⟩ := hd
      have hg : isGone x = true := by
        rcases h2 with ⟨y, hy, h3, h4, h5⟩ | h2
        · have := hx.top y hy (h3.trans hx.path) (by omega)
          omega
        · exact h2
      have e2 : atP p x = none := by
        unfold atP
        rw [if_neg]
        rintro ⟨_, h3⟩
        unfold isGone at hg
        rw [hg] at h3
        cases h3
      rw [e2]
      refine at_none hr' ht' fun y hy hp hv => ?_
      obtain ⟨h3, h4⟩ := run_mem.1 hy
      have h5 := hx.top y h3 hp hv
      by_cases h6 : y.key.time = x.key.time
      · have : y = x := rise_inj hr h3 hx.mem (ky_ext (hp.trans hx.path.symm) h6)
        subst this
        exact h4 ⟨h1, .inr hg⟩
      · exact h4 ⟨by omega, .inl ⟨x, hx.mem, hx.path.trans hp.symm, by omega, h1⟩⟩
    · exact at_best hr' ht' ⟨run_mem.2 ⟨hx.mem, hd⟩, hx.path, hx.le, fun y hy => hx.top y (run_mem.1 hy).1⟩
  · rw [e]
    exact at_none hr' ht' fun y hy => hn y (run_mem.1 hy).1
theorem asOf_congr {l m : List Pr} (h : isSt l = true) (h' : isSt m = true) {w : Int} (hh : ∀ p, atL l p w = atL m p w) (p : Bytes) : asOf l p w = asOf m p w := by
  unfold asOf
  rw [openE_st h, openE_st h', hh]
theorem asOf_short {l : List Pr} (hr : Rise l) (p : Bytes) (w : Int) : shortE ((asOf l p w).1.getD zeroEn) := by
  unfold asOf
  split
  · rename_i h
    have ht := isSt_okT (openE_parts h).1
    cases ha : atL l p w with
    | none => unfold shortE; decide
    | some e =>
      obtain ⟨_, _, x, _, _, _, hm⟩ := at_is hr ht ha
      show shortE e
      unfold shortE
      rw [hm]
      have := readM_ch x.val
      omega
  · exact (show zeroEn.meta_.ch.length < 1000000 by decide)
set_option maxRecDepth 100000 in
set_option maxHeartbeats 8000000 in
theorem vacuumKeeps_ok (l : List Ld) (dir : Bytes) (w v : Int) (hl : ldsB l) : APure Tryz.prog 12 [ldA l .none, .str dir, .int .i64 w, .int .i64 v] (.bool true) := by
  refine pure_sub (closedL_cons (closed_lds l (.inl rfl)) (closed3 closed_str closed_int closed_int)) (closed_bool) ?_
  refine acalls_of tabOK Tryz.func12 rfl (by decide) (by simp [Tryz.f12]) ?_
  have kb := bigL_ok l .none hl.1 hl.2
  cases h : bigL l
  · rw [h] at kb
    by_cases hp : 300 < dir.length
    · have d1 : decide ((300 : Int) < (dir.length : Int)) = true := decide_eq_true (by omega)
      unfold ldA at *
      repeat' (first | refine DW_VB tabs rfl d1 ?_ | refine DW_A tabs rfl ?_ | refine DW_nil ?_ | refine W_A rfl ?_ | refine DW_C rfl kb ?_)
      exact ⟨rfl, _, rfl, _, rfl, SubC.of_closed closed_bool⟩
    · have d1 : decide ((300 : Int) < (dir.length : Int)) = false := decide_eq_false (by omega)
      by_cases hm : v < w
      · have d0 : decide (v < w) = true := by simp [hm]
        unfold ldA at *
        repeat' (first | refine DW_VB tabs rfl (by first | exact d0 | exact d1) ?_ | refine DW_A tabs rfl ?_ | refine DW_nil ?_ | refine W_A rfl ?_ | refine DW_C rfl kb ?_)
        exact ⟨rfl, _, rfl, _, rfl, SubC.of_closed closed_bool⟩
      · have d0 : decide (v < w) = false := by simp; omega
        obtain ⟨hs, h20⟩ := bigL_no h |>.symm
        obtain ⟨hi, ho, _, _⟩ := laid_all_inv hs h20
        have km := vlaid_ok l .none (.inl rfl) h20 hs
        have kw := swept_ok
        have hst := hi.st
        have hvs := ho.vals
        have hln : (laidS l).1.all.length ≤ 500 := ho.1
        clear hi ho
        generalize (laidS l).1 = T at *
        have hr := T.rise
        change Rise T.all at hr
        have r1 := run_ok T (by omega) hvs w
        unfold runA at r1
        have ev : ∀ x : Int, vOk T.all x = !decide (x < 0) := fun x => by unfold vOk; rw [hst]; rfl
        by_cases hw : w < 0
        · have d2 : decide (w < 0) = true := by simp [hw]
          rw [if_neg (by rw [ev]; simp [hw])] at r1
          unfold ldA at *
          unfold Tr.av at km r1
          repeat' (first | refine DW_VB tabs rfl (by first | exact d0 | exact d1 | exact d2) ?_ | refine DW_A tabs rfl ?_ | refine DW_nil ?_ | refine W_A rfl ?_ | refine DW_C rfl kb ?_ | refine DW_C rfl km ?_ | refine DW_C rfl r1 ?_ | refine DW_C rfl kw ?_)
          exact ⟨rfl, _, rfl, _, rfl, SubC.of_closed closed_bool⟩
        · have d2 : decide (w < 0) = false := by simp [hw]
          rw [if_pos (by rw [ev]; simp [hw])] at r1
          have hA := runT_all (t := T) (by omega) w
          have n1 := run_len hr w
          have hAv := run_vals hvs w
          have hAr := run_rise hr w
          have hAs := run_st hst w
          have hh := fun p => run_at hr (isSt_okT hst) (v := v) (w := w) (by omega) p
          rw [← hA] at n1 hAv hAr hAs hh
          generalize runT T w = A at *
          have a1 := list_ok T (by omega) hvs dir (by omega) v
          have a2 := list_ok A (by omega) hAv dir (by omega) v
          have b1 := asOf_ok T (by omega) hvs dir (by omega) v
          have b2 := asOf_ok A (by omega) hAv dir (by omega) v
          have c1 := isStore_ok A (by omega) hAv
          rw [hAs] at c1
          rw [listO_congr hAr hAs hr hst hh] at a2
          rw [asOf_congr hAs hst hh] at b2
          obtain ⟨s1, s2⟩ := listO_short hr hst dir v
          have s3 := asOf_short hr dir v
          generalize listO T.all dir v = L at *
          generalize asOf T.all dir v = E at *
          have g1 := sameEs_ok L.1 L.1 .none .none (by omega) (by omega) s2 s2
          have g2 := sameEn_ok _ _ s3 s3
          rw [decide_eq_true rfl] at g1 g2
          have d3 : decide (L.2 = L.2) = true := by simp
          have d4 : decide (E.2 = E.2) = true := by simp
          have d5 : (E.1.isSome == E.1.isSome) = true := by simp
          unfold asA at b1 b2
          unfold lsA at a1 a2
          generalize (scanD w T.all).2 = p1 at *
          unfold ldA ensA at *
          unfold Tr.av at km r1 a1 a2 b1 b2 c1
          repeat' (first | refine DW_VB tabs rfl (by first | exact d0 | exact d1 | exact d2 | exact d3 | exact d4 | exact d5) ?_ | refine DW_A tabs rfl ?_ | refine DW_nil ?_ | refine W_A rfl ?_ | refine DW_C rfl kb ?_ | refine DW_C rfl km ?_ | refine DW_C rfl r1 ?_ | refine DW_C rfl kw ?_ | refine DW_C rfl a1 ?_ | refine DW_C rfl a2 ?_ | refine DW_C rfl b1 ?_ | refine DW_C rfl b2 ?_ | refine DW_C rfl c1 ?_ | refine DW_C rfl g1 ?_ | refine DW_C rfl g2 ?_)
          exact ⟨rfl, _, rfl, _, rfl, SubC.of_closed closed_bool⟩
  · rw [h] at kb
    unfold ldA at *
    repeat' (first | refine DW_A tabs rfl ?_ | refine DW_nil ?_ | refine W_A rfl ?_ | refine DW_C rfl kb ?_)
    exact ⟨rfl, _, rfl, _, rfl, SubC.of_closed closed_bool⟩
end Go.Proofs.YtmgkebghojhocaaGreatDoor
