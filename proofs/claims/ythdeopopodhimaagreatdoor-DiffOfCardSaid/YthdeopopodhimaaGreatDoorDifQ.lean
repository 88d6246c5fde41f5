/- Plain facts on rows of deltas: back, and one behind the other. No further condition. -/
import Derived.Test.YthdeopopodhimaaGreatDoorDifP
set_option linter.unusedVariables false
set_option linter.unusedSimpArgs false
namespace Go.Proofs.YthdeopopodhimaaGreatDoor
open Go.Ab

def backK (k : Int) : Int := if k = 1 ∨ k = 3 then 4 - k else k
def backD (d : Dl) : Dl := ⟨d.path, backK d.kind⟩
def bothS (a b : Int) : Int := if a = 1 ∧ b = 3 then 0 else if a = 3 ∧ b = 1 then 2 else if a = 2 ∧ b = 3 then 3 else a
def goodK (k : Int) : Prop := k = 1 ∨ k = 2 ∨ k = 3
def good (l : List Dl) : Prop := l.length < 1000000 ∧ ∀ d, d ∈ l → goodK d.kind
def stepT (a b : List Dl) (s : List Dl × Nat) (i k : Int) : List Dl × Nat :=
  if i < 0 then more s (b.getD k.toNat default)
  else if k < 0 then more s (a.getD i.toNat default)
  else if bothS (a.getD i.toNat default).kind (b.getD k.toNat default).kind = 0 then s else more s ⟨(a.getD i.toNat default).path, bothS (a.getD i.toNat default).kind (b.getD k.toNat default).kind⟩
def thenS (a b : List Dl) (s : List Dl × Nat) : List Dl × Nat :=
  walkF a.length b.length (fun i => (a.getD i default).path) (fun i => (b.getD i default).path) (stepT a b) (a.length + b.length + 1) 0 0 s
def thens (a b : List Dl) : List Dl := (thenS a b ([], 0)).1

/-! ### Back -/
theorem getP_back (l : List Dl) (p : Bytes) : getP Dl.path (l.map backD) p = (getP Dl.path l p).map backD := by
  induction l with
  | nil => rfl
  | cons x r ih =>
    rw [List.map_cons, getP_cons, getP_cons, ih]
    show (if x.path = p then _ else _) = _
    split <;> rfl
theorem kindOf_back (l : List Dl) (p : Bytes) : kindOf (l.map backD) p = backK (kindOf l p) := by
  unfold kindOf
  rw [getP_back]
  cases getP Dl.path l p <;> rfl
theorem fE_back (u v : Option En) : backK (fE u v) = fE v u := by
  cases u <;> cases v <;> simp [fE, backK]
  rename_i x y
  by_cases h : x.meta_ = y.meta_
  · simp [h]
  · have h2 : ¬ y.meta_ = x.meta_ := fun e => h e.symm
    simp [h, h2]
theorem ents_back {a b : List En} (ha : RiseE a) (hb : RiseE b) : (ents a b).map backD = ents b a := by
  obtain ⟨h1, h2, h3⟩ := ents_ok ha hb
  obtain ⟨g1, g2, g3⟩ := ents_ok hb ha
  refine kinds_eq ?_ g1 ?_ g2 fun p => ?_
  · exact List.pairwise_map.2 h1
  · intro d hd
    obtain ⟨x, hx, rfl⟩ := List.mem_map.1 hd
    have := ents_kind ha hb hx
    show backK x.kind ≠ 0
    rcases this with e | e | e <;> rw [e] <;> decide
  · rw [kindOf_back, h3, g3, fE_back]

/-! ### Then -/
def fT : Option Dl → Option Dl → Int
  | some x, some y => bothS x.kind y.kind
  | some x, none => x.kind
  | none, some y => y.kind
  | none, none => 0
def tK (j k : Int) : Int := if j = 0 then k else if k = 0 then j else bothS j k
theorem one_self {d : Dl} (h : d.kind ≠ 0) : one d.path d.kind = [d] := by
  unfold one
  rw [if_neg h]
theorem thens_mrg {a b : List Dl} (ha : ∀ d, d ∈ a → d.kind ≠ 0) (hb : ∀ d, d ∈ b → d.kind ≠ 0) : thens a b = mrg Dl.path fT (a.length + b.length + 1) a b := by
  have gA : ∀ i, i < a.length → (a.getD i default).kind ≠ 0 := fun i h => ha _ (List.mem_of_getElem? (i := i) (by simp [List.getD, h]))
  have gB : ∀ i, i < b.length → (b.getD i default).kind ≠ 0 := fun i h => hb _ (List.mem_of_getElem? (i := i) (by simp [List.getD, h]))
  have h := walk_mrg (pth := Dl.path) (f := fT) (a := a) (b := b) (step := stepT a b) ?_ ?_ ?_ (a.length + b.length + 1) 0 0 ([], 0)
  · exact h
  · intro s i hi
    have h0 : ¬ ((i : Int) < 0) := by omega
    simp only [stepT, if_neg h0, Int.toNat_natCast]
    show s.1 ++ [_] = s.1 ++ one _ _
    rw [show fT (some (a.getD i default)) none = (a.getD i default).kind from rfl, one_self (gA i hi)]
  · intro s k hk
    show s.1 ++ [_] = s.1 ++ one _ _
    rw [show fT none (some (b.getD k default)) = (b.getD k default).kind from rfl, one_self (gB k hk)]
    rfl
  · intro s i k _ _
    have h1 : ¬ ((i : Int) < 0) := by omega
    have h2 : ¬ ((k : Int) < 0) := by omega
    simp only [stepT, if_neg h1, if_neg h2, Int.toNat_natCast]
    show (if bothS _ _ = 0 then _ else _ : List Dl × Nat).1 = s.1 ++ one _ (bothS _ _)
    split
    · rename_i h
      rw [h]
      simp [one]
    · rename_i h
      unfold one
      rw [if_neg h]
      rfl
theorem thens_ok {a b : List Dl} (ha : RiseP Dl.path a) (hb : RiseP Dl.path b) (na : ∀ d, d ∈ a → d.kind ≠ 0) (nb : ∀ d, d ∈ b → d.kind ≠ 0) : RiseP Dl.path (thens a b) ∧ (∀ d, d ∈ thens a b → d.kind ≠ 0) ∧ ∀ p, kindOf (thens a b) p = tK (kindOf a p) (kindOf b p) := by
  rw [thens_mrg na nb]
  obtain ⟨h1, h2⟩ := mrg_ok (pth := Dl.path) (f := fT) (n := a.length + b.length + 1) (Nat.le_succ _) ha hb
  refine ⟨h1, fun d hd => (mrg_mem hd).1, fun p => ?_⟩
  rw [h2]
  unfold kindOf tK
  cases hu : getP Dl.path a p with
  | none =>
    cases hv : getP Dl.path b p with
    | none => rfl
    | some y => rfl
  | some x =>
    have hx := na x (getP_some hu).1
    cases hv : getP Dl.path b p with
    | none => simp [kk, fT]
    | some y =>
      have hy := nb y (getP_some hv).1
      simp [kk, fT, hx, hy]
theorem then_tri (a b c : Option En) : (fE a c ≠ 0 → tK (fE a b) (fE b c) = fE a c) ∧ (tK (fE a b) (fE b c) ≠ 0 → fE a c = tK (fE a b) (fE b c) ∨ (fE a c = 0 ∧ tK (fE a b) (fE b c) = 2)) ∧ goodK (tK (fE a b) (fE b c)) ∨ (tK (fE a b) (fE b c) = 0 ∧ fE a c = 0) := by
  cases a <;> cases b <;> cases c
  · exact .inr ⟨rfl, rfl⟩
  · exact .inl (by simp [fE, tK, goodK])
  · exact .inr (by simp [fE, tK, bothS])
  · rename_i y z
    left
    by_cases h : y.meta_ = z.meta_ <;> simp [fE, tK, bothS, goodK, h]
  · exact .inl (by simp [fE, tK, goodK])
  · rename_i x z
    left
    by_cases h : x.meta_ = z.meta_ <;> simp [fE, tK, bothS, goodK, h]
  · rename_i x y
    left
    by_cases h : x.meta_ = y.meta_ <;> simp [fE, tK, bothS, goodK, h]
  · rename_i x y z
    by_cases h1 : x.meta_ = y.meta_
    · by_cases h2 : y.meta_ = z.meta_
      · exact .inr (by simp [fE, tK, h1, h2])
      · exact .inl (by simp [fE, tK, goodK, h1, h2])
    · by_cases h2 : y.meta_ = z.meta_
      · exact .inl (by simp [fE, tK, goodK, h1, ← h2])
      · left
        by_cases h3 : x.meta_ = z.meta_ <;> simp [fE, tK, bothS, goodK, h1, h2, h3]
end Go.Proofs.YthdeopopodhimaaGreatDoor
