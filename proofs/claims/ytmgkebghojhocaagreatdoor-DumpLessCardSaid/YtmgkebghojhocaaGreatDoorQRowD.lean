/- States and texts as arguments, read as values. No further condition. -/
import Derived.Test.YtmgkebghojhocaaGreatDoorQV31
import Derived.Test.YtmgkebghojhocaaGreatDoorQDmpD
set_option linter.unusedVariables false
set_option linter.unusedSimpArgs false
namespace Go.Proofs.YtmgkebghojhocaaGreatDoor
open Go.Ab Go.RowKit Go.ChangeShapes Go.WideShapes Go.ChangeAt
theorem sg_of {l : List AV} (h : Go.Ab.shape tab 8 26 l) : ∃ s : Sg, AV.agg l = s.av ∧ s.pairs.length ≤ reachBytes := by
 obtain ⟨a, b, rfl, ⟨m1, rfl, _⟩, a2, b2, rfl, ⟨m2, rfl, _⟩, a3, b3, rfl, ⟨xs, rfl, hb, hx⟩, a4, b4, rfl, ⟨ys, rfl, _, hy⟩, a5, b5, rfl, ⟨zs, rfl, _, hz⟩, rfl⟩ := h
 obtain ⟨p, rfl, _⟩ := list_of2 (f := Pr.av) (q := fun _ => True) (xs := xs) fun y hy => by
  obtain ⟨c, rfl, a, b, rfl, ⟨c1, d1, rfl, ⟨p, rfl, _⟩, c2, d2, rfl, ⟨t, rfl, _⟩, rfl⟩, a2, b2, rfl, ⟨v, rfl, _⟩, rfl⟩ := hx y hy
  exact ⟨⟨⟨p, t⟩, v⟩, rfl, trivial⟩
 obtain ⟨q, rfl, _⟩ := list_of2 (f := Pn.av) (q := fun _ => True) (xs := ys) fun y hyy => by
  obtain ⟨c, rfl, c1, d1, rfl, ⟨s, rfl, _⟩, c2, d2, rfl, ⟨t, rfl, _⟩, rfl⟩ := hy y hyy
  exact ⟨⟨s, t⟩, rfl, trivial⟩
 obtain ⟨u, rfl, _⟩ := list_of2 (f := Sn.av) (q := fun _ => True) (xs := zs) fun y hyy => by
  obtain ⟨c, rfl, c1, d1, rfl, ⟨s, rfl, _⟩, c2, d2, rfl, ⟨t, rfl, _⟩, c3, d3, rfl, ⟨e1, g1, rfl, ⟨k, rfl, _⟩, e2, g2, rfl, ⟨n, rfl, _⟩, rfl⟩, rfl⟩ := hz y hyy
  exact ⟨⟨s, t, k, n⟩, rfl, trivial⟩
 exact ⟨⟨m1, m2, p, q, u⟩, rfl, by simpa using hb⟩
theorem txs_of {x : AV} (h : Go.Ab.shape tab 8 29 [x]) : ∃ l : List Bytes, x = txA l .none ∧ l.length ≤ reachBytes := by
 obtain ⟨xs, hx, hb, hall⟩ := h
 cases hx
 obtain ⟨l, rfl, _⟩ := list_of2 (f := AV.str) (q := fun _ => True) (xs := xs) fun y hy => by
  obtain ⟨c, rfl, s, rfl, _⟩ := hall y hy
  exact ⟨s, rfl, trivial⟩
 exact ⟨l, rfl, by simpa using hb⟩
end Go.Proofs.YtmgkebghojhocaaGreatDoor
