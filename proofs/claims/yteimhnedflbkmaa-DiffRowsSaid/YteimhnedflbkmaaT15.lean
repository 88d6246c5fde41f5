/- A step of the proof that the law holds: functions of the program, each shown to compute what its text says. No further condition. -/
import Derived.Test.YteimhnedflbkmaaT14
import Derived.Test.YteimhnedflbkmaaAbR2
import Derived.Test.YteimhnedflbkmaaRows
namespace Go.Proofs.Yteimhnedflbkmaa
open Go.Ab Go.RowKit Go.ChangeShapes Go.WideShapes Go.ChangeAt

theorem Try.own : ownKnob Try.prog.godebug = none := by kernel_rfl
theorem Try.laidOut : laidOutB Try.prog = true := by kernel_rfl

theorem ints_of {xs : List AV} (h : ∀ x, x ∈ xs → ∃ c, x = elA tab 3 c ∧ Go.Ab.shape tab 4 3 c) : ∃ l, xs = List.map intA l := by
  refine list_of fun x hx => ?_
  obtain ⟨c, rfl, m, rfl, _⟩ := h x hx
  exact ⟨m, rfl⟩

theorem ens_of {x : AV} (h : Go.Ab.shape tab 8 22 [x]) : ∃ l : List En, x = .sl 5 (l.map En.av) .none := by
  obtain ⟨xs, hx, _, hall⟩ := h
  cases hx
  obtain ⟨l, rfl⟩ := list_of (f := En.av) (xs := xs) fun y hy => by
    obtain ⟨c, rfl, a, b, rfl, ⟨p, rfl, _⟩, a2, b2, rfl, ⟨t, rfl, _⟩, a3, b3, rfl, ⟨c1, d1, rfl, ⟨s, rfl, _⟩, c2, d2, rfl, ⟨m, rfl, _⟩, c3, d3, rfl, ⟨zs, rfl, _, hz⟩, rfl⟩, rfl⟩ := hall y hy
    obtain ⟨l, rfl⟩ := ints_of hz
    exact ⟨⟨p, t, ⟨s, m, l⟩⟩, rfl⟩
  exact ⟨l, rfl⟩

theorem dls_of {x : AV} (h : Go.Ab.shape tab 8 23 [x]) : ∃ l : List Dl, x = .sl 2 (l.map Dl.av) .none := by
  obtain ⟨xs, hx, _, hall⟩ := h
  cases hx
  obtain ⟨l, rfl⟩ := list_of (f := Dl.av) (xs := xs) fun y hy => by
    obtain ⟨c, rfl, a, b, rfl, ⟨p, rfl, _⟩, a2, b2, rfl, ⟨t, rfl, _⟩, rfl⟩ := hall y hy
    exact ⟨⟨p, t⟩, rfl⟩
  exact ⟨l, rfl⟩

theorem one_slice {e t : TypeId} {W : World} {base : Nat} {v : Value} (ht : Try.prog.underlying t = some (.slice e)) (h : Value.okWide Try.prog W .any base t v) : v.cells.toList = [v] := by
  obtain ⟨a, l, c, rfl⟩ := okWide_slice ht h
  rfl

set_option maxRecDepth 100000 in
theorem diffRows_lifted (os : Os) (started : os.Started) (H : Type) (enc : TypeId × Value → H) :
    ReturnsInHanded {} Try.checked os 3 .any (Rows.diffRowsSpec.pre6 enc Try.prog Try.f3 Rows.diffRowsRow.domain false) (Rows.diffRowsSpec.post enc Try.prog Try.f3 false true false false) := by
  refine returnsInHanded_of_change (C := Try.checked) Try.own started (by kernel_rfl) Try.func3
    (ChangeSpec.witness6 (enc := enc) (C := Try.checked) false ⟨#[], #[.slice none 0 0, .slice none 0 0, .slice none 0 0, .slice none 0 0], []⟩ 8 (by kernel_rfl) (by kernel_rfl) (by kernel_rfl) (by kernel_rfl)) ?_
  intro W base args ds gs before hval0 hW hcnd _
  have hval : ∀ (j : Nat) t v, Try.f3.params[j]? = some t → args[j]? = some v → Value.okWide Try.prog W .any base t v := hval0
  have hW' := hW
  obtain ⟨p, q, hA0, hV, rfl, hfz, hnd⟩ := hW
  have hA : DataW.TrodAll enc Try.prog W 0 (fun _ => true) true Try.f3.params.toList args.toList ds p := hA0
  rw [Try.params3] at hA hval
  obtain ⟨v0, vs0, d0, ds0, p0, q0, hargs, rfl, rfl, h0, r0⟩ := trodAll_cons hA
  obtain ⟨v1, vs1, d1, ds1, p1, q1, rfl, rfl, rfl, h1, r1⟩ := trodAll_cons r0
  obtain ⟨v2, vs2, d2, ds2, p2, q2, rfl, rfl, rfl, h2, r2⟩ := trodAll_cons r1
  obtain ⟨v3, vs3, d3, ds3, p3, q3, rfl, rfl, rfl, h3, r3⟩ := trodAll_cons r2
  obtain ⟨rfl, rfl, rfl⟩ := trodAll_nil r3
  obtain rfl : args = #[v0, v1, v2, v3] := by cases args; simp_all
  obtain ⟨rfl, rfl⟩ := trodVars_none hV
  obtain ⟨x0, R0, s0⟩ := arg_one tabOK (n := 8) rfl h0 (one_slice Try.underlying22 (hval 0 22 v0 rfl rfl))
  obtain ⟨x1, R1, s1⟩ := arg_one tabOK (n := 8) rfl h1 (one_slice Try.underlying22 (hval 1 22 v1 rfl rfl))
  obtain ⟨x2, R2, s2⟩ := arg_one tabOK (n := 8) rfl h2 (one_slice Try.underlying23 (hval 2 23 v2 rfl rfl))
  obtain ⟨x3, R3, s3⟩ := arg_one tabOK (n := 8) rfl h3 (one_slice Try.underlying23 (hval 3 23 v3 rfl rfl))
  obtain ⟨a, rfl⟩ := ens_of s0
  obtain ⟨b, rfl⟩ := ens_of s1
  obtain ⟨x, rfl⟩ := dls_of s2
  obtain ⟨y, rfl⟩ := dls_of s3
  have hv : RepL mu0 fr0 W [.sl 5 (a.map En.av) .none, .sl 5 (b.map En.av) .none, .sl 2 (x.map Dl.av) .none, .sl 2 (y.map Dl.av) .none] #[v0, v1, v2, v3] :=
    ((RepL.cons R0).app ((RepL.cons R1).app ((RepL.cons R2).app (RepL.cons R3))))
  refine (law_calls (diffRows_ok a b x y) hv).mono fun e W' ⟨he, hb⟩ => ?_
  subst he
  refine ⟨_, rfl, ?_⟩
  exact law_post Try.laidOut rfl Try.underlying4 rfl (by rw [Try.params3]; intro t ht; simp only [List.mem_cons, List.not_mem_nil, or_false] at ht; rcases ht with rfl | rfl | rfl | rfl <;> exact ⟨by kernel_rfl, by decide +kernel⟩) hW' hb rfl rfl rfl

theorem diffRows_holds : Rows.DiffRowsSaid :=
  OpenClaim.holds_of_wide 3 Try.f3 rfl rfl rfl rfl rfl rfl rfl ⟨rfl, rfl, rfl, rfl, rfl⟩ rfl rfl rfl rfl rfl (by kernel_rfl) Try.func3 (by kernel_rfl)
    (of_decide_eq_true (by kernel_rfl)) (by unfold Func.isWrapper; first | (rw [if_pos (by decide +kernel)]; kernel_rfl) | (rw [if_neg (by decide +kernel)]; exact ⟨rfl, rfl⟩))
    (fun os started H enc _ => diffRows_lifted os started H enc)
#print axioms diffRows_holds
end Go.Proofs.Yteimhnedflbkmaa
