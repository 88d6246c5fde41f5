/- Trees: Get. No further condition. -/
import Derived.Test.YtmgkebghojhocaaGreatDoorV19
set_option linter.unusedVariables false
set_option linter.unusedSimpArgs false
namespace Go.Proofs.YtmgkebghojhocaaGreatDoor
open Go.Ab

def getH : Option Pr → Ky → Bytes × Bool
  | some x, k => if x.key = k then (x.val, true) else ([], false)
  | none, _ => ([], false)
def getT (l : List Pr) (k : Ky) : Bytes × Bool := getH (fromP l k).head? k
def gtA (x : Bytes × Bool) : AV := .tup [.str x.1, .bool x.2]
theorem ky_neq (p q : Ky) : (!((p.path == q.path) && ((decide (p.time = q.time)) && true))) = !decide (p = q) := by
  obtain ⟨a, b⟩ := p
  obtain ⟨d, e⟩ := q
  congr 1
  rw [Bool.eq_iff_iff]
  simp
set_option maxRecDepth 100000 in
set_option maxHeartbeats 8000000 in
theorem getT_ok (t : Tr) (hs : t.all.length < 10000000) (k : Ky) : APure Tryz.prog 32 [t.av, k.av] (gtA (getT t.all k)) := by
  intro M
  refine acalls_of tabOK Tryz.func32 rfl (by decide) (by simp [Tryz.f32]) ?_
  have kt := tFrom_ok t hs k 1
  have hle : (fromP t.all k).length ≤ t.all.length := (List.dropWhile_sublist _).length_le
  unfold getT
  generalize fromP t.all k = L at *
  have hk := ky_neq
  unfold Ky.av at kt ⊢
  unfold Tr.av at kt ⊢
  cases L with
  | nil =>
    rw [List.take_nil] at kt
    repeat' (first | refine DW_A tabs rfl ?_ | refine DW_nil ?_ | refine W_A rfl ?_ | refine DW_C rfl kt ?_ | refine W_draw mixed [0, 1, 2, 3, 4, 5, 6, 7, 8, 9, 10] [.P, .P, .P, .P, .P, .R, .R, .R, .R, .P, .P] rfl rfl (by kernel_rfl) ?_)
    exact ⟨rfl, _, rfl, rfl, rfl⟩
  | cons x r =>
    have e : (x :: r).take (min (1 : Int).toNat t.all.length) = [x] := by
      rw [show min (1 : Int).toNat t.all.length = 1 by simp at hle; omega]
      rfl
    rw [e] at kt
    by_cases hx : x.key = k
    · have d1 := (hk x.key k).trans (show (!decide (x.key = k)) = false by simp [hx])
      have e2 : getH (List.head? (x :: r)) k = (x.val, true) := if_pos hx
      rw [e2]
      repeat' (first | refine DW_VB tabs rfl d1 ?_ | refine DW_A tabs rfl ?_ | refine DW_nil ?_ | refine W_A rfl ?_ | refine DW_C rfl kt ?_ | refine DW_ix tabOK rfl (⟨Int.le_refl 0, rfl⟩) ?_ | refine W_draw mixed [0, 1, 2, 3, 4, 5, 6, 7, 8, 9, 10] [.P, .P, .P, .P, .P, .R, .R, .R, .R, .P, .P] rfl rfl (by kernel_rfl) ?_)
      exact ⟨rfl, _, rfl, rfl, rfl⟩
    · have d1 := (hk x.key k).trans (show (!decide (x.key = k)) = true by simp [hx])
      have e2 : getH (List.head? (x :: r)) k = ([], false) := if_neg hx
      rw [e2]
      repeat' (first | refine DW_VB tabs rfl d1 ?_ | refine DW_A tabs rfl ?_ | refine DW_nil ?_ | refine W_A rfl ?_ | refine DW_C rfl kt ?_ | refine DW_ix tabOK rfl (⟨Int.le_refl 0, rfl⟩) ?_ | refine W_draw mixed [0, 1, 2, 3, 4, 5, 6, 7, 8, 9, 10] [.P, .P, .P, .P, .P, .R, .R, .R, .R, .P, .P] rfl rfl (by kernel_rfl) ?_)
      exact ⟨rfl, _, rfl, rfl, rfl⟩
theorem fromP_head : ∀ {l : List Pr} {x : Pr}, Rise l → x ∈ l → (fromP l x.key).head? = some x
  | y :: r, x, hr, hx => by
    obtain ⟨h1, h2⟩ := List.pairwise_cons.1 hr
    unfold fromP
    rw [List.dropWhile_cons]
    rcases List.mem_cons.1 hx with rfl | hx
    · rw [if_neg (by rw [rless_irrefl]; simp)]
      rfl
    · rw [if_pos (h1 x hx)]
      exact fromP_head h2 hx
theorem getT_in {l : List Pr} {x : Pr} (hr : Rise l) (hx : x ∈ l) : getT l x.key = (x.val, true) := by
  unfold getT
  rw [fromP_head hr hx]
  exact if_pos rfl
end Go.Proofs.YtmgkebghojhocaaGreatDoor
