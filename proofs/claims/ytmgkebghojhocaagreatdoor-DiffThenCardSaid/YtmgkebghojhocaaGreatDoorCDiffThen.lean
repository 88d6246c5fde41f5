/- The statement DiffThen holds, and so does its tied card. No further condition. -/
import Derived.Test.YtmgkebghojhocaaGreatDoorDifK
import Derived.Test.YtmgkebghojhocaaGreatDoorV31
set_option linter.unusedVariables false
set_option linter.unusedSimpArgs false
namespace Go.Proofs.YtmgkebghojhocaaGreatDoor
open Go.Ab Go.RowKit Go.ChangeShapes Go.WideShapes Go.ChangeAt

set_option maxRecDepth 100000 in
set_option maxHeartbeats 4000000 in
theorem diffThen_lifted (os : Os) (started : os.Started) (H : Type) (enc : TypeId × Value → H) :
    ReturnsInHanded {} Tryz.checked os 10 .any (fun w args => (Rows.diffThenSpec.pre enc Tryz.prog Tryz.f10 Rows.diffThenRow.domain false w args ∧ laidMetH Tryz.prog Rows.diffThenRow.laid w) ∧ sizedMet enc Tryz.prog Tryz.f10 (OpenSpec.ofChange Rows.diffThenSpec) false w args)
      (Rows.diffThenSpec.post enc Tryz.prog Tryz.f10 false true false false) := by
  refine returnsInHanded_of_change_and (C := Tryz.checked) (X := fun w _ => laidMetH Tryz.prog Rows.diffThenRow.laid w) (fun _ _ _ hh h => h.of_heap hh) Tryz.own started (by kernel_rfl) Tryz.func10
    (ChangeSpec.witness_shaped (enc := enc) (C := Tryz.checked) (os := os) (X := fun w _ => laidMetH Tryz.prog Rows.diffThenRow.laid w) false (World.laidAll Tryz.prog os Rows.diffThenRow.laid) #[.slice none 0 0, .string ⟨#[]⟩, .int .i64 0, .int .i64 0, .int .i64 0] 8 (World.laidAll_os _ _ _)
      (World.shaped_of_ZipB (by kernel_rfl) (by kernel_rfl)) (by kernel_rfl) (by kernel_rfl) (by kernel_rfl)
      (by rw [MakeChecks.laidMetH_plain _ _ _ (by kernel_rfl)]; exact laidMet_laidAll _ (by kernel_rfl) (by kernel_rfl))) ?_
  intro W base args ds gs before hval0 hW _ hsz _ _
  have hval : ∀ (j : Nat) t v, Tryz.f10.params[j]? = some t → args[j]? = some v → Value.okWide Tryz.prog W .any base t v := hval0
  have hW' := hW
  obtain ⟨p, q, hA0, hV, rfl, _, _⟩ := hW
  have hA : DataW.TrodAll enc Tryz.prog W 0 (fun _ => true) true Tryz.f10.params.toList args.toList ds p := hA0
  rw [Tryz.params10] at hA hval
  obtain ⟨v0, vs0, d0, ds0, p0, q0, hargs, rfl, rfl, h0, r0⟩ := trodAll_cons hA
  obtain ⟨v1, vs1, d1, ds1, p1, q1, rfl, rfl, rfl, h1, r1⟩ := trodAll_cons r0
  obtain ⟨v2, vs2, d2, ds2, p2, q2, rfl, rfl, rfl, h2, r2⟩ := trodAll_cons r1
  obtain ⟨v3, vs3, d3, ds3, p3, q3, rfl, rfl, rfl, h3, r3⟩ := trodAll_cons r2
  obtain ⟨v4, vs4, d4, ds4, p4, q4, rfl, rfl, rfl, h4, r4⟩ := trodAll_cons r3
  obtain ⟨rfl, rfl, rfl⟩ := trodAll_nil r4
  obtain rfl : args = #[v0, v1, v2, v3, v4] := by cases args; simp_all
  obtain ⟨rfl, rfl⟩ := trodVars_none hV
  rw [Tryz.params10] at hsz
  obtain ⟨x0, R0, s0⟩ := arg_one tabOK (n := 8) rfl h0 (weightsEach_get hsz (i := 0) rfl rfl) (one_slice Tryz.underlying42 (hval 0 42 v0 rfl rfl))
  obtain ⟨a0, e0, b0⟩ := lds_of s0
  subst e0
  obtain ⟨x1, R1, s1⟩ := arg_one tabOK (n := 8) rfl h1 (weightsEach_get hsz (i := 1) rfl rfl) (one_str Tryz.underlying9 (hval 1 9 v1 rfl rfl))
  obtain ⟨a1, rfl, b1⟩ := str_of s1 rfl
  obtain ⟨x2, R2, s2⟩ := arg_one tabOK (n := 8) rfl h2 (weightsEach_get hsz (i := 2) rfl rfl) (one_int Tryz.underlying3 (hval 2 3 v2 rfl rfl))
  obtain ⟨a2, rfl, b2⟩ := int_of s2 rfl
  obtain ⟨x3, R3, s3⟩ := arg_one tabOK (n := 8) rfl h3 (weightsEach_get hsz (i := 3) rfl rfl) (one_int Tryz.underlying3 (hval 3 3 v3 rfl rfl))
  obtain ⟨a3, rfl, b3⟩ := int_of s3 rfl
  obtain ⟨x4, R4, s4⟩ := arg_one tabOK (n := 8) rfl h4 (weightsEach_get hsz (i := 4) rfl rfl) (one_int Tryz.underlying3 (hval 4 3 v4 rfl rfl))
  obtain ⟨a4, rfl, b4⟩ := int_of s4 rfl
  have hv := (RepL.cons R0).app ((RepL.cons R1).app ((RepL.cons R2).app ((RepL.cons R3).app (RepL.cons R4))))
  refine (law_calls (diffThen_ok a0 a1 a2 a3 a4 b0) hv).mono fun e W' ⟨he, hb⟩ => ?_
  subst he
  refine ⟨_, rfl, ?_⟩
  exact law_post Tryz.laidOut rfl Tryz.underlying4 rfl (by rw [Tryz.params10]; intro t ht; simp only [List.mem_cons, List.not_mem_nil, or_false] at ht; rcases ht with rfl | rfl | rfl | rfl | rfl <;> exact ⟨by kernel_rfl, by decide +kernel⟩) hW' hb rfl rfl rfl

theorem diffThen_holds : Rows.DiffThenSaid :=
  OpenClaim.holds_of_wide 10 Tryz.f10 rfl rfl rfl rfl rfl rfl rfl ⟨rfl, rfl, rfl, rfl, rfl⟩ rfl rfl rfl rfl rfl (by kernel_rfl) Tryz.func10 (by kernel_rfl)
    (of_decide_eq_true (by kernel_rfl)) (by unfold Func.isWrapper; first | (rw [if_pos (by decide +kernel)]; kernel_rfl) | (rw [if_neg (by decide +kernel)]; exact ⟨rfl, rfl⟩))
    (fun os started H enc _ => diffThen_lifted os started H enc)

theorem diffThen_card : Rows.DiffThenCardSaid :=
  Claim7.holds_tied_plain_at .later [] [.data, .pinned] true (true, "7c505dcca8bb9b5b3d4f582b53ea9b6eed9cc2848cce0fedc365e79be8476e2c") true
    diffThen_holds (fun _ h => by cases h) (by kernel_rfl) (fun _ h => by cases h) diffThen_row_tie rfl ⟨rfl, rfl⟩ (by kernel_rfl) rfl
    (fun f fn hf hfn => by
      obtain rfl : f = 10 := Option.some.inj ((show Tryz.prog.funcNamed Rows.diffThenRow.func = some 10 by kernel_rfl).symm.trans hf) |>.symm
      obtain rfl : fn = Tryz.f10 := (Option.some.inj (Tryz.func10.symm.trans hfn)).symm
      exact ⟨by kernel_rfl, fun j t ht => by
        rw [Tryz.params10] at ht
        have hm : t ∈ [42, 9, 3, 3, 3] := by simpa using Array.mem_of_getElem? ht
        have hall : ([42, 9, 3, 3, 3].all fun u => !Tryz.prog.wantsStandIn u) = true := by kernel_rfl
        exact (show Tryz.prog.wantsStandIn t = false by simpa using List.all_eq_true.1 hall t hm)⟩)
    (by kernel_rfl)
#print axioms diffThen_card
end Go.Proofs.YtmgkebghojhocaaGreatDoor
