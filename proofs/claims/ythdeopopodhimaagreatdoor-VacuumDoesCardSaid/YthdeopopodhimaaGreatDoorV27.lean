/- Parts of the proof, one behind the other: Row4, RowS. No further condition. -/
import Derived.Test.YthdeopopodhimaaGreatDoorTie
import Derived.Test.YthdeopopodhimaaGreatDoorCards
import Derived.Test.YthdeopopodhimaaGreatDoorV26
import Derived.Test.YthdeopopodhimaaGreatDoorV19
import Derived.ProofKit
import Derived.OpenShut
import Derived.LaidMore
import Derived.Lay
import Derived.SevenTiedAt
import Derived.Stop.Joined
import Derived.Test.YthdeopopodhimaaGreatDoorV25
set_option linter.unusedVariables false
set_option linter.unusedSimpArgs false
/- Helps for the rows: arguments read as values. No further condition. -/
set_option linter.unusedVariables false
set_option linter.unusedSimpArgs false
namespace Go.Proofs.YthdeopopodhimaaGreatDoor
open Go.Ab Go.RowKit Go.ChangeShapes Go.WideShapes Go.ChangeAt

theorem Tryz.own : ownKnob Tryz.prog.godebug = none := by kernel_rfl
theorem Tryz.laidOut : laidOutB Tryz.prog = true := by kernel_rfl

set_option maxRecDepth 100000 in
theorem one_str {t : TypeId} {W : World} {base : Nat} {v : Value} (ht : Tryz.prog.underlying t = some .string) (h : Value.okWide Tryz.prog W .any base t v) : v.cells.toList = [v] := by
  obtain ⟨s, rfl⟩ := okWide_string ht h
  rfl
set_option maxRecDepth 100000 in
theorem one_int {t : TypeId} {k : IntKind} {W : World} {base : Nat} {v : Value} (ht : Tryz.prog.underlying t = some (.int k)) (h : Value.okWide Tryz.prog W .any base t v) : v.cells.toList = [v] := by
  obtain ⟨n, rfl⟩ := okWide_int ht h
  rfl
set_option maxRecDepth 100000 in
theorem one_slice {e t : TypeId} {W : World} {base : Nat} {v : Value} (ht : Tryz.prog.underlying t = some (.slice e)) (h : Value.okWide Tryz.prog W .any base t v) : v.cells.toList = [v] := by
  obtain ⟨a, l, c, rfl⟩ := okWide_slice ht h
  rfl
theorem str_of {n : Nat} {t : TypeId} {x : AV} (h : Go.Ab.shape tab n t [x]) (hk : (lookup tab t).map (·.k) = some .str) : ∃ s : Bytes, x = .str s ∧ s.length ≤ reachBytes := by
  cases n with
  | zero => exact h.elim
  | succ n =>
    simp only [Go.Ab.shape] at h
    cases hl : lookup tab t with
    | none => rw [hl] at h; exact h.elim
    | some i =>
      rw [hl] at h hk
      simp only [Option.map_some, Option.some.injEq] at hk
      simp only [hk] at h
      obtain ⟨s, hs, hb⟩ := h
      cases hs
      exact ⟨s, rfl, hb⟩
theorem int_of {n : Nat} {t : TypeId} {k : IntKind} {x : AV} (h : Go.Ab.shape tab n t [x]) (hk : (lookup tab t).map (·.k) = some (.int k)) : ∃ m : Int, x = .int k m ∧ (Lit.int k m).wf = true := by
  cases n with
  | zero => exact h.elim
  | succ n =>
    simp only [Go.Ab.shape] at h
    cases hl : lookup tab t with
    | none => rw [hl] at h; exact h.elim
    | some i =>
      rw [hl] at h hk
      simp only [Option.map_some, Option.some.injEq] at hk
      simp only [hk] at h
      obtain ⟨s, hs, hb⟩ := h
      cases hs
      exact ⟨s, rfl, hb⟩
theorem i64_of {m : Int} (h : (Lit.int .i64 m).wf = true) : -9223372036854775808 ≤ m ∧ m < 9223372036854775808 := by
  simp [Lit.wf, IntKind.min, IntKind.max, IntKind.signed, IntKind.bits] at h
  omega

theorem key_of {l : List AV} (h : Go.Ab.shape tab 8 94 l) : ∃ k : Ky, AV.agg l = k.av ∧ k.path.length ≤ reachBytes := by
  obtain ⟨a, b, rfl, ⟨p, rfl, hb⟩, a2, b2, rfl, ⟨t, rfl, _⟩, rfl⟩ := h
  exact ⟨⟨p, t⟩, rfl, hb⟩
theorem prs_of {x : AV} (h : Go.Ab.shape tab 8 22 [x]) : ∃ l : List Pr, x = .sl 3 (l.map Pr.av) .none ∧ l.length ≤ reachBytes := by
  obtain ⟨xs, hx, hb, hall⟩ := h
  cases hx
  obtain ⟨l, rfl⟩ := list_of (f := Pr.av) (xs := xs) fun y hy => by
    obtain ⟨c, rfl, a, b, rfl, ⟨c1, d1, rfl, ⟨p, rfl, _⟩, c2, d2, rfl, ⟨t, rfl, _⟩, rfl⟩, a2, b2, rfl, ⟨v, rfl, _⟩, rfl⟩ := hall y hy
    exact ⟨⟨⟨p, t⟩, v⟩, rfl⟩
  exact ⟨l, rfl, by simpa using hb⟩
end Go.Proofs.YthdeopopodhimaaGreatDoor

/- Batches as arguments, read as values. No further condition. -/
set_option linter.unusedVariables false
set_option linter.unusedSimpArgs false
namespace Go.Proofs.YthdeopopodhimaaGreatDoor
open Go.Ab Go.RowKit Go.ChangeShapes Go.WideShapes Go.ChangeAt
theorem list_of2 {α : Type} {f : α → AV} {q : α → Prop} : ∀ {xs : List AV}, (∀ y, y ∈ xs → ∃ a, y = f a ∧ q a) → ∃ l : List α, xs = l.map f ∧ ∀ a, a ∈ l → q a
  | [], _ => ⟨[], rfl, by simp⟩
  | x :: r, h => by
    obtain ⟨a, rfl, ha⟩ := h x (by simp)
    obtain ⟨l, rfl, hl⟩ := list_of2 (f := f) (q := q) (xs := r) (fun y hy => h y (by simp [hy]))
    refine ⟨a :: l, rfl, fun b hb => ?_⟩
    rcases List.mem_cons.1 hb with rfl | hb
    · exact ha
    · exact hl b hb
theorem lds_of {x : AV} (h : Go.Ab.shape tab 8 55 [x]) : ∃ l : List Ld, x = ldA l .none ∧ ldsB l := by
  obtain ⟨xs, hx, hb, hall⟩ := h
  cases hx
  obtain ⟨l, rfl, hl⟩ := list_of2 (f := Ld.av) (q := fun x => x.batch.length < 4611686018427387904) (xs := xs) fun y hy => by
    obtain ⟨c, rfl, a, b, rfl, ⟨t, rfl, _⟩, a2, b2, rfl, ⟨ys, rfl, hb2, hall2⟩, rfl⟩ := hall y hy
    obtain ⟨m, rfl, _⟩ := list_of2 (f := Ch.av) (q := fun _ => True) (xs := ys) fun z hz => by
      obtain ⟨c, rfl, a, b, rfl, ⟨p, rfl, _⟩, a2, b2, rfl, ⟨g, rfl⟩, a3, b3, rfl, ⟨d1, e1, rfl, ⟨s, rfl, _⟩, d2, e2, rfl, ⟨m, rfl, _⟩, d3, e3, rfl, ⟨ns, rfl, _, hn⟩, rfl⟩, rfl⟩ := hall2 z hz
      obtain ⟨k, rfl, _⟩ := list_of2 (f := fun n : Int => AV.int .i64 n) (q := fun _ => True) (xs := ns) fun u hu => by
        obtain ⟨c, rfl, n, rfl, _⟩ := hn u hu
        exact ⟨n, rfl, trivial⟩
      exact ⟨⟨p, g, ⟨s, m, k⟩⟩, rfl, trivial⟩
    exact ⟨⟨t, m⟩, rfl, Nat.lt_of_le_of_lt (by simpa using hb2) (by decide)⟩
  exact ⟨l, rfl, Nat.lt_of_le_of_lt (by simpa using hb) (by decide), hl⟩
theorem chs_of {x : AV} (h : Go.Ab.shape tab 8 51 [x]) : ∃ l : List Ch, x = chA l .none ∧ l.length ≤ reachBytes := by
  obtain ⟨ys, hx, hb2, hall2⟩ := h
  cases hx
  obtain ⟨m, rfl, _⟩ := list_of2 (f := Ch.av) (q := fun _ => True) (xs := ys) fun z hz => by
    obtain ⟨c, rfl, a, b, rfl, ⟨p, rfl, _⟩, a2, b2, rfl, ⟨g, rfl⟩, a3, b3, rfl, ⟨d1, e1, rfl, ⟨s, rfl, _⟩, d2, e2, rfl, ⟨m, rfl, _⟩, d3, e3, rfl, ⟨ns, rfl, _, hn⟩, rfl⟩, rfl⟩ := hall2 z hz
    obtain ⟨k, rfl, _⟩ := list_of2 (f := fun n : Int => AV.int .i64 n) (q := fun _ => True) (xs := ns) fun u hu => by
      obtain ⟨c, rfl, n, rfl, _⟩ := hn u hu
      exact ⟨n, rfl, trivial⟩
    exact ⟨⟨p, g, ⟨s, m, k⟩⟩, rfl, trivial⟩
  exact ⟨m, rfl, by simpa using hb2⟩
end Go.Proofs.YthdeopopodhimaaGreatDoor
