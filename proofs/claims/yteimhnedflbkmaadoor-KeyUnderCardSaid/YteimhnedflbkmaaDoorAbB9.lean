/- Calls that hand back what they made: the objects are forgotten at the end. -/
import Derived.Test.YteimhnedflbkmaaDoorAbB8
set_option linter.unusedVariables false
set_option linter.unusedSimpArgs false
namespace Go.Ab
open Go.RowKit

theorem closed1 {x : AV} (hx : Closed x) : ∀ z, z ∈ [x] → Closed z := by
  intro z hz
  simp only [List.mem_cons, List.not_mem_nil, or_false] at hz
  subst hz
  exact hx
theorem closed2 {x y : AV} (hx : Closed x) (hy : Closed y) : ∀ z, z ∈ [x, y] → Closed z := by
  intro z hz
  simp only [List.mem_cons, List.not_mem_nil, or_false] at hz
  rcases hz with rfl | rfl
  · exact hx
  · exact hy
theorem closed3 {x y u : AV} (hx : Closed x) (hy : Closed y) (hu : Closed u) : ∀ z, z ∈ [x, y, u] → Closed z := by
  intro z hz
  simp only [List.mem_cons, List.not_mem_nil, or_false] at hz
  rcases hz with rfl | rfl | rfl
  · exact hx
  · exact hy
  · exact hu

theorem SubC.tup2 {k : Nat} {a b c d : AV} (h1 : SubC k a c) (h2 : SubC k b d) : SubC k (.tup [a, b]) (.tup [c, d]) := by
  intro μ F w v hr
  obtain ⟨r, rfl, hs, hv⟩ := hr.tup_inv
  refine .tup _ _ hs ?_
  intro i x u hx hu
  match i with
  | 0 => simp at hx; subst hx; exact h1 μ F w u (hv 0 a u rfl hu)
  | 1 => simp at hx; subst hx; exact h2 μ F w u (hv 1 b u rfl hu)
  | i + 2 => simp at hx
theorem SubC.tup3 {k : Nat} {a b c a' b' c' : AV} (h1 : SubC k a a') (h2 : SubC k b b') (h3 : SubC k c c') : SubC k (.tup [a, b, c]) (.tup [a', b', c']) := by
  intro μ F w v hr
  obtain ⟨r, rfl, hs, hv⟩ := hr.tup_inv
  refine .tup _ _ hs ?_
  intro i x u hx hu
  match i with
  | 0 => simp at hx; subst hx; exact h1 μ F w u (hv 0 a u rfl hu)
  | 1 => simp at hx; subst hx; exact h2 μ F w u (hv 1 b u rfl hu)
  | 2 => simp at hx; subst hx; exact h3 μ F w u (hv 2 c u rfl hu)
  | i + 3 => simp at hx
theorem Sub.tup2 {a b c d : AV} (h1 : Sub a c) (h2 : Sub b d) : Sub (.tup [a, b]) (.tup [c, d]) := by
  intro μ F w v hr
  obtain ⟨r, rfl, hs, hv⟩ := hr.tup_inv
  refine .tup _ _ hs ?_
  intro i x u hx hu
  match i with
  | 0 => simp at hx; subst hx; exact h1 μ F w u (hv 0 a u rfl hu)
  | 1 => simp at hx; subst hx; exact h2 μ F w u (hv 1 b u rfl hu)
  | i + 2 => simp at hx

theorem closed_slmap {α : Type} {f : α → AV} {sz : Nat} {l : List α} (h : ∀ a, Closed (f a)) (hc : ∀ a, ∀ c, c ∈ (f a).cells → Closed c) : Closed (.sl sz (l.map f) .none) := by
  refine closed_sl (.inl rfl) ?_ ?_
  · intro x hx
    obtain ⟨a, _, rfl⟩ := List.mem_map.1 hx
    exact h a
  · intro x hx
    obtain ⟨a, _, rfl⟩ := List.mem_map.1 hx
    exact hc a
theorem closed_strs {l : List (List UInt8)} : Closed (.sl 1 (l.map .str) .none) :=
  closed_slmap (fun _ => closed_str) (fun a c hc => by simp [AV.cells] at hc; subst hc; exact closed_str)
theorem closed_bytes {l : List UInt8} {f : UInt8 → AV} (hf : ∀ b, ∃ n, f b = .int .u8 n) : Closed (.sl 1 (l.map f) .none) :=
  closed_slmap (fun b => by obtain ⟨n, h⟩ := hf b; rw [h]; exact closed_int) (fun b c hc => by
    obtain ⟨n, h⟩ := hf b
    rw [h] at hc
    simp [AV.cells] at hc
    subst hc
    exact closed_int)

/-- A slice's tag is forgotten, and the objects too. -/
theorem SubC.untag {k sz : Nat} {xs : List AV} {t : Tag} (h : Closed (.sl sz xs .none)) : SubC k (.sl sz xs t) (.sl sz xs .none) := SubC.pre Sub.untag (SubC.of_closed h)

theorem SubC.nil {k sz sz' : Nat} {t : Tag} : SubC k (.sl sz [] t) (.sl sz' [] .none) :=
  SubC.pre (y := .sl sz' [] .none) (fun μ F w v h => Sub.empty (.inl rfl) μ F w v (rep_untag h)) (SubC.of_closed (closed_sl (.inl rfl) (by simp) (by simp)))

/-- A call that hands back a value of its own making. -/
theorem pure_sub {P : Program} {g : FuncId} {args : List AV} {y : AV} (ha : ∀ x, x ∈ args → Closed x) (hy : Closed y) (h : ACalls P g args ⟨0, []⟩ (fun e _ => ∃ x, e = .ret x ∧ SubC 0 x y)) : APure P g args y := by
  refine apure_of ha hy ?_
  refine ACalls.mono (h.joint (R' := fun e _ => e = .ret y) ?_ ?_) (fun e M he => he)
  · rintro x M' ⟨z, e, hs⟩
    cases e
    exact ⟨_, ⟨0, []⟩, rfl, Joint.cut (Nat.le_refl _) (Nat.zero_le _) rfl ⟨hs, trivial⟩ trivial⟩
  · rintro x M' ⟨z, e, _⟩
    cases e

def tokM (g : Nat) : Mem := ⟨1, [(0, .spare g)]⟩
theorem tokM_of {g : Nat} {M : Mem} (hn : 1 = M.next) (h1 : M.get 0 = some (.spare g)) : (tokM g).le M := Mem.le_cons h1 (Mem.le_nil hn)
end Go.Ab
