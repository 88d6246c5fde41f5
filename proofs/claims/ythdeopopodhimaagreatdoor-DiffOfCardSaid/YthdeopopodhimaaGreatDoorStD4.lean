/- Paths, List and History by the document. No further condition. -/
import Derived.Test.YthdeopopodhimaaGreatDoorStD3
set_option linter.unusedVariables false
set_option linter.unusedSimpArgs false
namespace Go.Proofs.YthdeopopodhimaaGreatDoor
open Go.Ab

abbrev RiseB (l : List Bytes) : Prop := l.Pairwise fun a b => bl a b = true
theorem riseB_eq {a b : List Bytes} (ha : RiseB a) (hb : RiseB b) (h : ∀ p, p ∈ a ↔ p ∈ b) : a = b := by
  let f : Bytes → En := fun p => ⟨p, 0, zeroMt⟩
  have h1 : ∀ l : List Bytes, RiseB l → RiseE (l.map f) := fun l hl => List.pairwise_map.2 hl
  have h2 := riseE_eq (h1 a ha) (h1 b hb) (fun e => by
    rw [List.mem_map, List.mem_map]
    constructor
    · rintro ⟨p, hp, rfl⟩
      exact ⟨p, (h p).1 hp, rfl⟩
    · rintro ⟨p, hp, rfl⟩
      exact ⟨p, (h p).2 hp, rfl⟩)
  have h3 := congrArg (List.map (·.path)) h2
  rw [List.map_map, List.map_map] at h3
  have e : ((·.path) ∘ f : Bytes → Bytes) = id := rfl
  rw [e, List.map_id, List.map_id] at h3
  exact h3
/-- The paths of the first pairs. -/
structure PathsI (l : List Pr) (i : Nat) (L : List Bytes) : Prop where
  rise : RiseB L
  mem : ∀ p, p ∈ L ↔ ∃ x, x ∈ l.take i ∧ x.key.path = p
  len : L.length ≤ i
theorem pathsI_old {l : List Pr} {i : Nat} {L : List Bytes} {x z : Pr} (ht : l.take (i + 1) = l.take i ++ [x]) (hz : z ∈ l.take i) (e : z.key.path = x.key.path) (h : PathsI l i L) : PathsI l (i + 1) L := by
  refine ⟨h.rise, fun p => ?_, by have := h.len; omega⟩
  rw [h.mem, ht]
  constructor
  · rintro ⟨y, hy, rfl⟩
    exact ⟨y, by simp [hy], rfl⟩
  · rintro ⟨y, hy, rfl⟩
    rcases List.mem_append.1 hy with hy | hy
    · exact ⟨y, hy, rfl⟩
    · simp at hy
      subst hy
      exact ⟨z, hz, e⟩
theorem pathsI_new {l : List Pr} {i : Nat} {L : List Bytes} {x : Pr} (ht : l.take (i + 1) = l.take i ++ [x]) (hn : ∀ y, y ∈ l.take i → bl y.key.path x.key.path = true) (h : PathsI l i L) : PathsI l (i + 1) (L ++ [x.key.path]) := by
  refine ⟨List.pairwise_append.2 ⟨h.rise, List.pairwise_singleton _ _, fun a ha b hb => ?_⟩, fun p => ?_, by have := h.len; simp; omega⟩
  · simp at hb
    subst hb
    obtain ⟨y, hy, rfl⟩ := (h.mem a).1 ha
    exact hn y hy
  · rw [List.mem_append, h.mem, ht]
    constructor
    · rintro (⟨y, hy, rfl⟩ | hp)
      · exact ⟨y, by simp [hy], rfl⟩
      · simp at hp
        exact ⟨x, by simp, hp.symm⟩
    · rintro ⟨y, hy, rfl⟩
      rcases List.mem_append.1 hy with hy | hy
      · exact .inl ⟨y, hy, rfl⟩
      · simp at hy
        subst hy
        exact .inr (by simp)
theorem paths_new {l : List Pr} (hr : Rise l) {k : Nat} {z x : Pr} (hz : l[k]? = some z) (hx : l[k + 1]? = some x) (hne : z.key.path ≠ x.key.path) : ∀ y, y ∈ l.take (k + 1) → bl y.key.path x.key.path = true := by
  intro y hy
  have hzx : bl z.key.path x.key.path = true := by
    rcases (rless_def _ _).1 (rise_at hr (Nat.lt_succ_self k) hz hx) with h | ⟨h, _⟩
    · exact h
    · exact absurd h hne
  obtain ⟨j, hj⟩ := List.mem_iff_getElem?.1 hy
  have hjk : j < k + 1 := by have := (List.getElem?_eq_some_iff.1 hj).1; rw [List.length_take] at this; omega
  rw [List.getElem?_take_of_lt hjk] at hj
  by_cases e : j = k
  · subst e
    rw [hz] at hj
    cases hj
    exact hzx
  · rcases (rless_def _ _).1 (rise_at hr (show j < k by omega) hj hz) with h | ⟨h, _⟩
    · exact bl_trans h hzx
    · rw [h]
      exact hzx
theorem pathsI_all {l : List Pr} (hr : Rise l) (hst : isSt l = true) {L : List Bytes} (h : PathsI l l.length L) : L = pathsU [] l := by
  obtain ⟨h1, h2⟩ := paths_ok l.length [] l (Nat.le_refl _) hr
  refine riseB_eq h.rise h1 fun p => ?_
  rw [h.mem, h2, List.take_length]
  constructor
  · rintro ⟨x, hx, rfl⟩
    exact ⟨by rw [under_root]; exact okP_path (isSt_mem hst hx), x, hx, rfl⟩
  · rintro ⟨_, h⟩
    exact h
def stA (l : List Bytes) : AV := .sl 1 (l.map .str) .none
def rpF (l : List Pr) (L : List Bytes) (g i : Nat) : AF := ⟨[(0, prA l), (3, .sl 1 (L.map .str) (.tok 0 g)), (4, .int .i64 (i : Int))], []⟩
set_option maxRecDepth 100000 in
set_option maxHeartbeats 8000000 in
theorem rPaths_ok (l : List Pr) (hl : l.length < 1000000) (hr : Rise l) (hst : isSt l = true) : APure Tryz.prog 77 [prA l] (stA (pathsU [] l)) := by
  refine pure_sub (closed1 (closed_prA l)) (closed_strs) ?_
  refine acalls_of tabOK Tryz.func77 rfl (by decide) (by simp [Tryz.f77]) ?_
  have la := len_map Pr.av l
  unfold prA at *
  repeat' (first | refine DW_VI tabs rfl la ?_ | refine DW_A tabs rfl ?_ | refine DW_nil ?_ | refine W_A rfl ?_ | refine DW_row tabOK rfl ?_ | refine DW_app tabOK rfl rfl (by simp; omega) (by simp; omega) ?_ | refine DW_app0 tabOK rfl (by simp; omega) (by simp; omega) ?_ | refine W_draw mixed [0, 1, 2, 3, 4, 5, 10, 11, 6, 7, 8, 9, 12, 13, 14, 15, 16, 17] [.P, .P, .P, .P, .P, .P, .R, .R, .R, .R, .P, .P, .R, .R, .R, .R, .P, .P] rfl rfl (by kernel_rfl) ?_)
  refine W_count l.length (fun i f N => ∃ L g, N = tokM g ∧ PathsI l i L ∧ f = rpF l L g i) (Nat.zero_le _) ⟨[], 0, rfl, ⟨List.Pairwise.nil, fun p => by simp, Nat.le_refl _⟩, rfl⟩ ((Joint.tok 3 rfl (sz' := 1) (.inr rfl)).trans (Joint.le ?_ (tokM_of rfl rfl))) ?_
  · unfold rpF prA
    repeat (refine AF.le_cons rfl ?_)
    exact AF.le_nil rfl
  rintro i f N hi ⟨L, g, rfl, hL, rfl⟩
  unfold rpF prA
  have lo := len_map AV.str L
  have hlen := hL.len
  by_cases h1 : i < l.length
  · have d1 : decide ((i : Int) < (l.length : Int)) = true := decide_eq_true (by omega)
    have hx : l[i]? = some l[i] := List.getElem?_eq_getElem h1
    have fi := wrap_succ (i := i) (by omega)
    have ht := take_succ hx
    generalize l[i] = x at *
    by_cases h0 : i = 0
    · subst h0
      have hn := pathsI_new ht (by simp) hL
      repeat' (first | refine DW_VB tabs rfl d1 ?_ | refine DW_VI tabs rfl (by first | exact la | exact lo | exact fi) ?_ | refine DW_A tabs rfl ?_ | refine DW_nil ?_ | refine W_A rfl ?_ | refine DW_ix tabOK rfl (ixN hx) ?_ | refine DW_row tabOK rfl ?_ | refine DW_app tabOK rfl rfl (by simp; omega) (by simp; omega) ?_ | refine DW_app0 tabOK rfl (by simp; omega) (by simp; omega) ?_ | refine W_draw mixed [0, 1, 2, 3, 4, 5, 10, 11, 6, 7, 8, 9, 12, 13, 14, 15, 16, 17] [.P, .P, .P, .P, .P, .P, .R, .R, .R, .R, .P, .P, .R, .R, .R, .R, .P, .P] rfl rfl (by kernel_rfl) ?_)
      refine ⟨h1, rpF l (L ++ [x.key.path]) (g + 1) (0 + 1), tokM (g + 1), ⟨_, g + 1, rfl, hn, rfl⟩, ?_⟩
      refine Joint.le ?_ (tokM_of rfl rfl)
      unfold rpF prA
      rw [show (L ++ [x.key.path]).map AV.str = L.map AV.str ++ [.str x.key.path] by simp]
      repeat (refine AF.le_cons rfl ?_)
      exact AF.le_nil rfl
    · obtain ⟨k, rfl⟩ : ∃ k, i = k + 1 := ⟨i - 1, by omega⟩
      have d0 : decide (((k + 1 : Nat) : Int) = 0) = false := decide_eq_false (by omega)
      have w1 : IntKind.wrap .i64 (((k + 1 : Nat) : Int) - 1) = (k : Int) := (Go.Ab.wrap_small (by omega) (by omega)).trans (by omega)
      have hz : l[k]? = some l[k] := List.getElem?_eq_getElem (by omega)
      have hzm : l[k] ∈ l.take (k + 1) := List.mem_iff_getElem?.2 ⟨k, by rw [List.getElem?_take_of_lt (by omega)]; exact hz⟩
      generalize l[k] = z at *
      by_cases h2 : z.key.path = x.key.path
      · have d2 : (!(z.key.path == x.key.path)) = false := by simp [h2]
        have hn := pathsI_old ht hzm h2 hL
        repeat' (first | refine DW_VB tabs rfl (by first | exact d1 | exact d0 | exact d2) ?_ | refine DW_VI tabs rfl (by first | exact la | exact fi | exact w1) ?_ | refine DW_A tabs rfl ?_ | refine DW_nil ?_ | refine W_A rfl ?_ | refine DW_ix tabOK rfl (ixN hz) ?_ | refine DW_ix tabOK rfl (ixN hx) ?_ | refine DW_row tabOK rfl ?_ | refine DW_app tabOK rfl rfl (by simp; omega) (by simp; omega) ?_ | refine DW_app0 tabOK rfl (by simp; omega) (by simp; omega) ?_ | refine W_draw mixed [0, 1, 2, 3, 4, 5, 10, 11, 6, 7, 8, 9, 12, 13, 14, 15, 16, 17] [.P, .P, .P, .P, .P, .P, .R, .R, .R, .R, .P, .P, .R, .R, .R, .R, .P, .P] rfl rfl (by kernel_rfl) ?_)
        refine ⟨h1, rpF l L g (k + 1 + 1), tokM g, ⟨_, g, rfl, hn, rfl⟩, ?_⟩
        refine Joint.le ?_ (tokM_of rfl rfl)
        unfold rpF prA
        repeat (refine AF.le_cons rfl ?_)
        exact AF.le_nil rfl
      · have d2 : (!(z.key.path == x.key.path)) = true := by simp [h2]
        have hn := pathsI_new ht (paths_new hr hz hx h2) hL
        repeat' (first | refine DW_VB tabs rfl (by first | exact d1 | exact d0 | exact d2) ?_ | refine DW_VI tabs rfl (by first | exact la | exact lo | exact fi | exact w1) ?_ | refine DW_A tabs rfl ?_ | refine DW_nil ?_ | refine W_A rfl ?_ | refine DW_ix tabOK rfl (ixN hz) ?_ | refine DW_ix tabOK rfl (ixN hx) ?_ | refine DW_row tabOK rfl ?_ | refine DW_app tabOK rfl rfl (by simp; omega) (by simp; omega) ?_ | refine DW_app0 tabOK rfl (by simp; omega) (by simp; omega) ?_ | refine W_draw mixed [0, 1, 2, 3, 4, 5, 10, 11, 6, 7, 8, 9, 12, 13, 14, 15, 16, 17] [.P, .P, .P, .P, .P, .P, .R, .R, .R, .R, .P, .P, .R, .R, .R, .R, .P, .P] rfl rfl (by kernel_rfl) ?_)
        refine ⟨h1, rpF l (L ++ [x.key.path]) (g + 1) (k + 1 + 1), tokM (g + 1), ⟨_, g + 1, rfl, hn, rfl⟩, ?_⟩
        refine Joint.le ?_ (tokM_of rfl rfl)
        unfold rpF prA
        rw [show (L ++ [x.key.path]).map AV.str = L.map AV.str ++ [.str x.key.path] by simp]
        repeat (refine AF.le_cons rfl ?_)
        exact AF.le_nil rfl
  · have d1 : decide ((i : Int) < (l.length : Int)) = false := decide_eq_false (by omega)
    obtain rfl : i = l.length := by omega
    rw [← pathsI_all hr hst hL]
    have hk : Closed (stA L) := closed_strs
    repeat' (first | refine DW_VB tabs rfl d1 ?_ | refine DW_VI tabs rfl la ?_ | refine DW_A tabs rfl ?_ | refine DW_nil ?_ | refine W_A rfl ?_ | refine DW_row tabOK rfl ?_ | refine DW_app tabOK rfl rfl (by simp; omega) (by simp; omega) ?_ | refine DW_app0 tabOK rfl (by simp; omega) (by simp; omega) ?_ | refine W_draw mixed [0, 1, 2, 3, 4, 5, 10, 11, 6, 7, 8, 9, 12, 13, 14, 15, 16, 17] [.P, .P, .P, .P, .P, .P, .R, .R, .R, .R, .P, .P, .R, .R, .R, .R, .P, .P] rfl rfl (by kernel_rfl) ?_)
    exact ⟨rfl, _, rfl, _, rfl, SubC.untag hk⟩
end Go.Proofs.YthdeopopodhimaaGreatDoor
