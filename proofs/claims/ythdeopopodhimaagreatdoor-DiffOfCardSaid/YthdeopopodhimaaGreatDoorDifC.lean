/- Rows of deltas: Entries of the code. No further condition. -/
import Derived.Test.YthdeopopodhimaaGreatDoorDifB
set_option linter.unusedVariables false
set_option linter.unusedSimpArgs false
namespace Go.Proofs.YthdeopopodhimaaGreatDoor
open Go.Ab

def stepE (a b : List En) (s : List Dl × Nat) (i k : Int) : List Dl × Nat :=
  if i < 0 then more s ⟨(b.getD k.toNat default).path, 1⟩
  else if k < 0 then more s ⟨(a.getD i.toNat default).path, 3⟩
  else if (a.getD i.toNat default).meta_ = (b.getD k.toNat default).meta_ then s else more s ⟨(a.getD i.toNat default).path, 2⟩
/-- The deltas of two rows. -/
def entriesS (a b : List En) (s : List Dl × Nat) : List Dl × Nat :=
  walkF a.length b.length (fun i => (a.getD i default).path) (fun i => (b.getD i default).path) (stepE a b) (a.length + b.length + 1) 0 0 s
theorem getD_of {α : Type} {l : List α} {i : Nat} {e d : α} (h : l[i]? = some e) : l.getD i d = e := by simp [List.getD, h]
theorem jret {P : Program} {g : FuncId} {args : List AV} {M N : Mem} (h : ACalls P g args M (fun r M' => r = .ret (.tup []) ∧ N.le M')) : ACalls P g args M (fun r M' => r = .ret (.tup []) ∧ M' = N) := by
  refine h.joint ?_ ?_
  · rintro x M' ⟨e, hle⟩
    cases e
    exact ⟨_, N, ⟨rfl, rfl⟩, Joint.le ⟨rfl, fun _ => Sub.refl⟩ hle⟩
  · rintro x M' ⟨e, _⟩
    cases e
def smallE (l : List En) : Prop := l.length < 1000000 ∧ ∀ e, e ∈ l → e.meta_.ch.length < 1000000
theorem walkE_ok (a b : List En) (ha : smallE a) (hb : smallE b) : ACalls Tryz.prog 92 [.int .i64 (a.length : Int), .int .i64 (b.length : Int), .fn (.func 93) [] [.ref [ensA a .none]], .fn (.func 94) [] [.ref [ensA b .none]], .fn (.func 95) [] [.ptr 0 0, .ref [ensA b .none], .ref [ensA a .none]]] (rows ([], 0)) (fun e M => e = .ret (.tup []) ∧ M = rows (entriesS a b ([], 0))) := by
  have gA : ∀ i, i < a.length → a[i]? = some (a.getD i default) := fun i h => by simp [List.getD, h]
  have gB : ∀ i, i < b.length → b[i]? = some (b.getD i default) := fun i h => by simp [List.getD, h]
  refine walk_ok rows (fun s i k => s.1.length ≤ i + k ∧ i ≤ a.length ∧ k ≤ b.length) (stepE a b) a.length b.length (by have := ha.1; omega) (by have := hb.1; omega) (fun i => (a.getD i default).path) (fun i => (b.getD i default).path) 93 94 95 [.ref [ensA a .none]] [.ref [ensA b .none]] [.ptr 0 0, .ref [ensA b .none], .ref [ensA a .none]] (fun i hi => path1_ok a _ i _ (gA i hi)) (fun i hi => path2_ok b _ i _ (gB i hi)) ?_ ?_ ?_ ([], 0) ⟨by simp, by simp, by simp⟩
  · intro s i k hJ hi
    have := ha.1
    have := hb.1
    have h0 : ¬ ((i : Int) < 0) := by omega
    have e : stepE a b s i (-1) = more s ⟨(a.getD i default).path, 3⟩ := by simp only [stepE, if_neg h0, Int.toNat_natCast]; rfl
    rw [e]
    exact ⟨jret (seen_a a b _ _ i _ (gA i hi) s (by omega)), by simp [more]; omega, by omega, by omega⟩
  · intro s i k hJ hk
    have := ha.1
    have := hb.1
    have e : stepE a b s (-1) k = more s ⟨(b.getD k default).path, 1⟩ := by simp [stepE]
    rw [e]
    exact ⟨jret (seen_b a b _ _ k _ (gB k hk) s (by omega)), by simp [more]; omega, by omega, by omega⟩
  · intro s i k hJ hi hk
    have := ha.1
    have := hb.1
    have e : stepE a b s i k = if (a.getD i default).meta_ = (b.getD k default).meta_ then s else more s ⟨(a.getD i default).path, 2⟩ := by
      have h1 : ¬ ((i : Int) < 0) := by omega
      have h2 : ¬ ((k : Int) < 0) := by omega
      simp only [stepE, if_neg h1, if_neg h2, Int.toNat_natCast]
    rw [e]
    refine ⟨jret (seen_ab a b _ _ i k _ _ (gA i hi) (gB k hk) (ha.2 _ (List.mem_of_getElem? (gA i hi))) (hb.2 _ (List.mem_of_getElem? (gB k hk))) s (by omega)), ?_, by omega, by omega⟩
    split
    · omega
    · simp [more]; omega
end Go.Proofs.YthdeopopodhimaaGreatDoor
