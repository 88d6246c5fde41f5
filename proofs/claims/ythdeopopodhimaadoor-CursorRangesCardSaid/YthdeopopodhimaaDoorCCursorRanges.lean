/- The statement CursorRanges holds, and so does its tied card. No further condition. -/
import Derived.Test.YthdeopopodhimaaDoorM14
import Derived.Test.YthdeopopodhimaaDoorM19
set_option linter.unusedVariables false
set_option linter.unusedSimpArgs false
namespace Go.Proofs.YthdeopopodhimaaDoor
open Go.Ab Go.RowKit Go.ChangeShapes Go.WideShapes Go.ChangeAt

set_option maxRecDepth 100000 in
theorem cursorRanges_lifted (os : Os) (started : os.Started) (H : Type) (enc : TypeId × Value → H) :
    ReturnsInHanded {} Tryd.checked os 5 .any (fun w args => (Rows.cursorRangesSpec.pre enc Tryd.prog Tryd.f5 Rows.cursorRangesRow.domain false w args ∧ laidMetH Tryd.prog Rows.cursorRangesRow.laid w) ∧ sizedMet enc Tryd.prog Tryd.f5 (OpenSpec.ofChange Rows.cursorRangesSpec) false w args)
      (Rows.cursorRangesSpec.post enc Tryd.prog Tryd.f5 false true false false) := by
  refine returnsInHanded_of_change_and (C := Tryd.checked) (X := fun w _ => laidMetH Tryd.prog Rows.cursorRangesRow.laid w) (fun _ _ _ hh h => h.of_heap hh) Tryd.own started (by kernel_rfl) Tryd.func5
    (ChangeSpec.witness_shaped (enc := enc) (C := Tryd.checked) (os := os) (X := fun w _ => laidMetH Tryd.prog Rows.cursorRangesRow.laid w) false (World.laidAll Tryd.prog os Rows.cursorRangesRow.laid) #[.slice none 0 0, .agg #[.string ⟨#[]⟩, .int .i64 0], .agg #[.string ⟨#[]⟩, .int .i64 0], .string ⟨#[]⟩] 8 (World.laidAll_os _ _ _)
      (World.shaped_of_ZipB (by kernel_rfl) (by kernel_rfl)) (by kernel_rfl) (by kernel_rfl) (by kernel_rfl)
      (by rw [MakeChecks.laidMetH_plain _ _ _ (by kernel_rfl)]; exact laidMet_laidAll _ (by kernel_rfl) (by kernel_rfl))) ?_
  intro W base args ds gs before hval0 hW _ hsz _ _
  have hval : ∀ (j : Nat) t v, Tryd.f5.params[j]? = some t → args[j]? = some v → Value.okWide Tryd.prog W .any base t v := hval0
  have hW' := hW
  obtain ⟨p, q, hA0, hV, rfl, _, _⟩ := hW
  have hA : DataW.TrodAll enc Tryd.prog W 0 (fun _ => true) true Tryd.f5.params.toList args.toList ds p := hA0
  rw [Tryd.params5] at hA hval
  obtain ⟨v0, vs0, d0, ds0, p0, q0, hargs, rfl, rfl, h0, r0⟩ := trodAll_cons hA
  obtain ⟨v1, vs1, d1, ds1, p1, q1, rfl, rfl, rfl, h1, r1⟩ := trodAll_cons r0
  obtain ⟨v2, vs2, d2, ds2, p2, q2, rfl, rfl, rfl, h2, r2⟩ := trodAll_cons r1
  obtain ⟨v3, vs3, d3, ds3, p3, q3, rfl, rfl, rfl, h3, r3⟩ := trodAll_cons r2
  obtain ⟨rfl, rfl, rfl⟩ := trodAll_nil r3
  obtain rfl : args = #[v0, v1, v2, v3] := by cases args; simp_all
  obtain ⟨rfl, rfl⟩ := trodVars_none hV
  rw [Tryd.params5] at hsz
  obtain ⟨x0, R0, s0⟩ := arg_one tabOK (n := 8) rfl h0 (weightsEach_get hsz (i := 0) rfl rfl) (one_slice Tryd.underlying22 (hval 0 22 v0 rfl rfl))
  obtain ⟨a0, e0, b0⟩ := prs_of s0
  subst e0
  obtain ⟨c1, rfl, _⟩ := okWide_struct Tryd.underlying24 (hval 1 24 v1 rfl rfl)
  obtain ⟨x1, R1, s1⟩ := arg_agg tabOK (n := 8) rfl h1 (weightsEach_get hsz (i := 1) rfl rfl)
  obtain ⟨a1, e1, b1⟩ := key_of s1
  rw [e1] at R1
  obtain ⟨c2, rfl, _⟩ := okWide_struct Tryd.underlying24 (hval 2 24 v2 rfl rfl)
  obtain ⟨x2, R2, s2⟩ := arg_agg tabOK (n := 8) rfl h2 (weightsEach_get hsz (i := 2) rfl rfl)
  obtain ⟨a2, e2, b2⟩ := key_of s2
  rw [e2] at R2
  obtain ⟨x3, R3, s3⟩ := arg_one tabOK (n := 8) rfl h3 (weightsEach_get hsz (i := 3) rfl rfl) (one_str Tryd.underlying9 (hval 3 9 v3 rfl rfl))
  obtain ⟨a3, rfl, b3⟩ := str_of s3 rfl
  have hv := (RepL.cons R0).app ((RepL.cons R1).app ((RepL.cons R2).app (RepL.cons R3)))
  refine (law_calls (cursorRanges_ok a0 a1 a2 a3 (Nat.lt_of_le_of_lt b0 (by decide)) (Nat.lt_of_le_of_lt b1 (by decide)) (Nat.lt_of_le_of_lt b2 (by decide))) hv).mono fun e W' ⟨he, hb⟩ => ?_
  subst he
  refine ⟨_, rfl, ?_⟩
  exact law_post Tryd.laidOut rfl Tryd.underlying4 rfl (by rw [Tryd.params5]; intro t ht; simp only [List.mem_cons, List.not_mem_nil, or_false] at ht; rcases ht with rfl | rfl | rfl | rfl <;> exact ⟨by kernel_rfl, by decide +kernel⟩) hW' hb rfl rfl rfl

theorem cursorRanges_holds : Rows.CursorRangesSaid :=
  OpenClaim.holds_of_wide 5 Tryd.f5 rfl rfl rfl rfl rfl rfl rfl ⟨rfl, rfl, rfl, rfl, rfl⟩ rfl rfl rfl rfl rfl (by kernel_rfl) Tryd.func5 (by kernel_rfl)
    (of_decide_eq_true (by kernel_rfl)) (by unfold Func.isWrapper; first | (rw [if_pos (by decide +kernel)]; kernel_rfl) | (rw [if_neg (by decide +kernel)]; exact ⟨rfl, rfl⟩))
    (fun os started H enc _ => cursorRanges_lifted os started H enc)

theorem cursorRanges_card : Rows.CursorRangesCardSaid :=
  Claim7.holds_tied_plain_at .later [] [.data, .pinned] true (true, "93556c2c7081b94ddb7087cffd9b360ebd858440598b5d0b5c8ae91b5f1e5cd7") false
    cursorRanges_holds (fun _ h => by cases h) (by kernel_rfl) (fun _ h => by cases h) cursorRanges_row_tie rfl ⟨rfl, rfl⟩ (by kernel_rfl) rfl
    (fun f fn hf hfn => by
      obtain rfl : f = 5 := Option.some.inj ((show Tryd.prog.funcNamed Rows.cursorRangesRow.func = some 5 by kernel_rfl).symm.trans hf) |>.symm
      obtain rfl : fn = Tryd.f5 := (Option.some.inj (Tryd.func5.symm.trans hfn)).symm
      exact ⟨by kernel_rfl, fun j t ht => by
        rw [Tryd.params5] at ht
        have hm : t ∈ [22, 24, 24, 9] := by simpa using Array.mem_of_getElem? ht
        have hall : ([22, 24, 24, 9].all fun u => !Tryd.prog.wantsStandIn u) = true := by kernel_rfl
        exact (show Tryd.prog.wantsStandIn t = false by simpa using List.all_eq_true.1 hall t hm)⟩)
    (by kernel_rfl)
#print axioms cursorRanges_card
end Go.Proofs.YthdeopopodhimaaDoor
