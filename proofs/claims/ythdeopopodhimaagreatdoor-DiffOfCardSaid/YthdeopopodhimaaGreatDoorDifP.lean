/- Plain facts on rows of deltas: what is told of each path. No further condition. -/
import Derived.Test.YthdeopopodhimaaGreatDoorDifC
import Derived.Test.YthdeopopodhimaaGreatDoorV23
set_option linter.unusedVariables false
set_option linter.unusedSimpArgs false
namespace Go.Proofs.YthdeopopodhimaaGreatDoor
open Go.Ab

def one (p : Bytes) (k : Int) : List Dl := if k = 0 then [] else [⟨p, k⟩]
/-- Two rows by their paths, one kind for each path. -/
def mrg {α : Type} (pth : α → Bytes) (f : Option α → Option α → Int) : Nat → List α → List α → List Dl
  | 0, _, _ => []
  | _ + 1, [], [] => []
  | n + 1, x :: r, [] => one (pth x) (f (some x) none) ++ mrg pth f n r []
  | n + 1, [], y :: s => one (pth y) (f none (some y)) ++ mrg pth f n [] s
  | n + 1, x :: r, y :: s =>
    if bl (pth x) (pth y) = true then one (pth x) (f (some x) none) ++ mrg pth f n r (y :: s)
    else if bl (pth y) (pth x) = true then one (pth y) (f none (some y)) ++ mrg pth f n (x :: r) s
    else one (pth x) (f (some x) (some y)) ++ mrg pth f n r s
theorem drop_getD {α : Type} [Inhabited α] {a : List α} {i : Nat} (h : i < a.length) : a.drop i = a.getD i default :: a.drop (i + 1) := by
  rw [List.drop_eq_getElem_cons h]
  congr 1
  simp [List.getD, h]
theorem drop_end {α : Type} {a : List α} {i : Nat} (h : ¬ i < a.length) : a.drop i = [] := List.drop_eq_nil_iff.2 (by omega)
theorem walk_mrg {α : Type} [Inhabited α] {pth : α → Bytes} {f : Option α → Option α → Int} {a b : List α} {step : List Dl × Nat → Int → Int → List Dl × Nat}
    (h1 : ∀ s (i : Nat), i < a.length → (step s i (-1)).1 = s.1 ++ one (pth (a.getD i default)) (f (some (a.getD i default)) none))
    (h2 : ∀ s (k : Nat), k < b.length → (step s (-1) k).1 = s.1 ++ one (pth (b.getD k default)) (f none (some (b.getD k default))))
    (h3 : ∀ s (i k : Nat), i < a.length → k < b.length → (step s i k).1 = s.1 ++ one (pth (a.getD i default)) (f (some (a.getD i default)) (some (b.getD k default)))) :
    ∀ (n i k : Nat) (s : List Dl × Nat), (walkF a.length b.length (fun i => pth (a.getD i default)) (fun i => pth (b.getD i default)) step n i k s).1 = s.1 ++ mrg pth f n (a.drop i) (b.drop k)
  | 0, i, k, s => by simp [walkF, mrg]
  | n + 1, i, k, s => by
    by_cases hi : i < a.length
    · rw [drop_getD hi]
      by_cases hk : k < b.length
      · rw [drop_getD hk]
        unfold mrg
        cases e1 : bl (pth (a.getD i default)) (pth (b.getD k default))
        · rw [if_neg (by simp)]
          cases e2 : bl (pth (b.getD k default)) (pth (a.getD i default))
          · rw [if_neg (by simp), walkF_3 hi hk e1 e2, walk_mrg h1 h2 h3 n, h3 s i k hi hk, List.append_assoc]
          · rw [if_pos rfl, walkF_2 hk (fun _ => e1) (.inr e2), walk_mrg h1 h2 h3 n, h2 s k hk, List.append_assoc, ← drop_getD hi]
        · rw [if_pos rfl, walkF_1 hi (.inr e1), walk_mrg h1 h2 h3 n, h1 s i hi, List.append_assoc, ← drop_getD hk]
      · rw [drop_end hk]
        unfold mrg
        rw [walkF_1 hi (.inl (by omega)), walk_mrg h1 h2 h3 n, h1 s i hi, List.append_assoc, drop_end hk]
    · rw [drop_end hi]
      by_cases hk : k < b.length
      · rw [drop_getD hk]
        unfold mrg
        rw [walkF_2 hk (fun h => absurd h hi) (.inl (by omega)), walk_mrg h1 h2 h3 n, h2 s k hk, List.append_assoc, drop_end hi]
      · rw [drop_end hk, walkF_end (by omega) (by omega)]
        simp [mrg]

/-! ### What a row tells of a path -/
def RiseP {α : Type} (pth : α → Bytes) (l : List α) : Prop := l.Pairwise fun x y => bl (pth x) (pth y) = true
def getP {α : Type} (pth : α → Bytes) (l : List α) (p : Bytes) : Option α := l.find? fun x => decide (pth x = p)
def kindOf (l : List Dl) (p : Bytes) : Int := match getP Dl.path l p with
  | some d => d.kind
  | none => 0
def kk {α : Type} (f : Option α → Option α → Int) : Option α → Option α → Int
  | none, none => 0
  | u, v => f u v
theorem getP_none {α : Type} {pth : α → Bytes} {l : List α} {p : Bytes} (h : ∀ x, x ∈ l → pth x ≠ p) : getP pth l p = none := by
  unfold getP
  rw [List.find?_eq_none]
  intro x hx
  simpa using h x hx
theorem getP_cons {α : Type} {pth : α → Bytes} {l : List α} {x : α} {p : Bytes} : getP pth (x :: l) p = if pth x = p then some x else getP pth l p := by
  unfold getP
  rw [List.find?_cons]
  by_cases h : pth x = p <;> simp [h]
theorem getP_some {α : Type} {pth : α → Bytes} {l : List α} {x : α} {p : Bytes} (h : getP pth l p = some x) : x ∈ l ∧ pth x = p := by
  unfold getP at h
  exact ⟨List.mem_of_find?_eq_some h, by simpa using List.find?_some h⟩
theorem getP_mem {α : Type} {pth : α → Bytes} : ∀ {l : List α} {x : α}, RiseP pth l → x ∈ l → getP pth l (pth x) = some x
  | y :: r, x, hr, hx => by
    obtain ⟨h1, h2⟩ := List.pairwise_cons.1 hr
    rw [getP_cons]
    rcases List.mem_cons.1 hx with rfl | hx
    · rw [if_pos rfl]
    · have := h1 x hx
      rw [if_neg (fun e => by rw [e, bl_irrefl] at this; cases this)]
      exact getP_mem h2 hx
theorem kindOf_none {l : List Dl} {p : Bytes} (h : ∀ d, d ∈ l → d.path ≠ p) : kindOf l p = 0 := by
  unfold kindOf
  rw [getP_none h]
theorem kindOf_one {q : Bytes} {k : Int} {l : List Dl} {p : Bytes} : kindOf (one q k ++ l) p = if q = p ∧ k ≠ 0 then k else kindOf l p := by
  unfold one
  by_cases hk : k = 0
  · rw [if_pos hk, if_neg (by simp [hk])]
    rfl
  · rw [if_neg hk]
    show kindOf (⟨q, k⟩ :: l) p = _
    unfold kindOf
    rw [getP_cons]
    by_cases hq : q = p
    · rw [if_pos hq, if_pos ⟨hq, hk⟩]
    · rw [if_neg hq, if_neg (fun h => hq h.1)]
theorem kindOf_mem {l : List Dl} {d : Dl} (hr : RiseP Dl.path l) (hd : d ∈ l) : kindOf l d.path = d.kind := by
  unfold kindOf
  rw [getP_mem hr hd]
theorem one_mem {p : Bytes} {k : Int} {d : Dl} (h : d ∈ one p k) : d = ⟨p, k⟩ ∧ k ≠ 0 := by
  unfold one at h
  split at h
  · cases h
  · rename_i hk
    simp at h
    exact ⟨h, hk⟩
theorem mrg_mem {α : Type} {pth : α → Bytes} {f : Option α → Option α → Int} : ∀ {n : Nat} {a b : List α} {d : Dl}, d ∈ mrg pth f n a b → d.kind ≠ 0 ∧ ((∃ x, x ∈ a ∧ pth x = d.path) ∨ ∃ y, y ∈ b ∧ pth y = d.path)
  | 0, a, b, d, h => by cases h
  | n + 1, [], [], d, h => by cases h
  | n + 1, x :: r, [], d, h => by
    rcases List.mem_append.1 h with h | h
    · obtain ⟨rfl, hk⟩ := one_mem h
      exact ⟨hk, .inl ⟨x, by simp, rfl⟩⟩
    · obtain ⟨hk, ⟨z, hz, e⟩ | ⟨z, hz, e⟩⟩ := mrg_mem h
      · exact ⟨hk, .inl ⟨z, by simp [hz], e⟩⟩
      · cases hz
  | n + 1, [], y :: s, d, h => by
    rcases List.mem_append.1 h with h | h
    · obtain ⟨rfl, hk⟩ := one_mem h
      exact ⟨hk, .inr ⟨y, by simp, rfl⟩⟩
    · obtain ⟨hk, ⟨z, hz, e⟩ | ⟨z, hz, e⟩⟩ := mrg_mem h
      · cases hz
      · exact ⟨hk, .inr ⟨z, by simp [hz], e⟩⟩
  | n + 1, x :: r, y :: s, d, h => by
    unfold mrg at h
    split at h
    · rcases List.mem_append.1 h with h | h
      · obtain ⟨rfl, hk⟩ := one_mem h
        exact ⟨hk, .inl ⟨x, by simp, rfl⟩⟩
      · obtain ⟨hk, ⟨z, hz, e⟩ | ⟨z, hz, e⟩⟩ := mrg_mem h
        · exact ⟨hk, .inl ⟨z, by simp [hz], e⟩⟩
        · exact ⟨hk, .inr ⟨z, hz, e⟩⟩
    · split at h
      · rcases List.mem_append.1 h with h | h
        · obtain ⟨rfl, hk⟩ := one_mem h
          exact ⟨hk, .inr ⟨y, by simp, rfl⟩⟩
        · obtain ⟨hk, ⟨z, hz, e⟩ | ⟨z, hz, e⟩⟩ := mrg_mem h
          · exact ⟨hk, .inl ⟨z, hz, e⟩⟩
          · exact ⟨hk, .inr ⟨z, by simp [hz], e⟩⟩
      · rcases List.mem_append.1 h with h | h
        · obtain ⟨rfl, hk⟩ := one_mem h
          exact ⟨hk, .inl ⟨x, by simp, rfl⟩⟩
        · obtain ⟨hk, ⟨z, hz, e⟩ | ⟨z, hz, e⟩⟩ := mrg_mem h
          · exact ⟨hk, .inl ⟨z, by simp [hz], e⟩⟩
          · exact ⟨hk, .inr ⟨z, by simp [hz], e⟩⟩
theorem rise_one {p : Bytes} {k : Int} {l : List Dl} (h : RiseP Dl.path l) (h2 : ∀ d, d ∈ l → bl p d.path = true) : RiseP Dl.path (one p k ++ l) := by
  unfold one
  split
  · exact h
  · exact List.pairwise_cons.2 ⟨h2, h⟩
theorem ne_bl {p q : Bytes} (h : bl p q = true) : q ≠ p := fun e => by rw [e, bl_irrefl] at h; cases h
theorem bl_eq {p q : Bytes} (h1 : ¬ bl p q = true) (h2 : ¬ bl q p = true) : p = q := by
  by_cases h : p = q
  · exact h
  · rcases bl_total h with h | h
    · exact absurd h h1
    · exact absurd h h2
theorem mrg_ok {α : Type} {pth : α → Bytes} {f : Option α → Option α → Int} : ∀ {n : Nat} {a b : List α}, a.length + b.length ≤ n → RiseP pth a → RiseP pth b →
    RiseP Dl.path (mrg pth f n a b) ∧ ∀ p, kindOf (mrg pth f n a b) p = kk f (getP pth a p) (getP pth b p)
  | 0, a, b, hn, _, _ => by
    obtain rfl : a = [] := List.length_eq_zero_iff.1 (by omega)
    obtain rfl : b = [] := List.length_eq_zero_iff.1 (by omega)
    exact ⟨List.Pairwise.nil, fun p => rfl⟩
  | n + 1, [], [], _, _, _ => ⟨List.Pairwise.nil, fun p => rfl⟩
  | n + 1, x :: r, [], hn, ha, hb => by
    obtain ⟨a1, a2⟩ := List.pairwise_cons.1 ha
    obtain ⟨i1, i2⟩ := mrg_ok (f := f) (n := n) (a := r) (b := []) (by simp at hn ⊢; omega) a2 hb
    have hm : ∀ d, d ∈ mrg pth f n r [] → bl (pth x) d.path = true := fun d hd => by
      rcases (mrg_mem hd).2 with ⟨z, hz, e⟩ | ⟨z, hz, e⟩
      · rw [← e]; exact a1 z hz
      · cases hz
    refine ⟨rise_one i1 hm, fun p => ?_⟩
    show kindOf (one _ _ ++ _) p = _
    rw [kindOf_one, getP_cons]
    by_cases hp : pth x = p
    · rw [if_pos hp]
      by_cases hk : f (some x) none = 0
      · rw [if_neg (by simp [hk]), kindOf_none (fun d hd => by rw [← hp]; exact ne_bl (hm d hd))]
        exact hk.symm
      · rw [if_pos ⟨hp, hk⟩]
        rfl
    · rw [if_neg hp, if_neg (fun h => hp h.1), i2]
  | n + 1, [], y :: s, hn, ha, hb => by
    obtain ⟨b1, b2⟩ := List.pairwise_cons.1 hb
    obtain ⟨i1, i2⟩ := mrg_ok (f := f) (n := n) (a := []) (b := s) (by simp at hn ⊢; omega) ha b2
    have hm : ∀ d, d ∈ mrg pth f n [] s → bl (pth y) d.path = true := fun d hd => by
      rcases (mrg_mem hd).2 with ⟨z, hz, e⟩ | ⟨z, hz, e⟩
      · cases hz
      · rw [← e]; exact b1 z hz
    refine ⟨rise_one i1 hm, fun p => ?_⟩
    show kindOf (one _ _ ++ _) p = _
    rw [kindOf_one, getP_cons]
    by_cases hp : pth y = p
    · rw [if_pos hp]
      by_cases hk : f none (some y) = 0
      · rw [if_neg (by simp [hk]), kindOf_none (fun d hd => by rw [← hp]; exact ne_bl (hm d hd))]
        exact hk.symm
      · rw [if_pos ⟨hp, hk⟩]
        rfl
    · rw [if_neg hp, if_neg (fun h => hp h.1), i2]
  | n + 1, x :: r, y :: s, hn, ha, hb => by
    obtain ⟨a1, a2⟩ := List.pairwise_cons.1 ha
    obtain ⟨b1, b2⟩ := List.pairwise_cons.1 hb
    simp only [List.length_cons] at hn
    unfold mrg
    by_cases h1 : bl (pth x) (pth y) = true
    · rw [if_pos h1]
      obtain ⟨i1, i2⟩ := mrg_ok (f := f) (n := n) (a := r) (b := y :: s) (by simp only [List.length_cons]; omega) a2 hb
      have hx : ∀ z, z ∈ y :: s → bl (pth x) (pth z) = true := fun z hz => by
        rcases List.mem_cons.1 hz with rfl | hz
        · exact h1
        · exact bl_trans h1 (b1 z hz)
      have hm : ∀ d, d ∈ mrg pth f n r (y :: s) → bl (pth x) d.path = true := fun d hd => by
        rcases (mrg_mem hd).2 with ⟨z, hz, e⟩ | ⟨z, hz, e⟩
        · rw [← e]; exact a1 z hz
        · rw [← e]; exact hx z hz
      refine ⟨rise_one i1 hm, fun p => ?_⟩
      rw [kindOf_one, getP_cons (l := r)]
      by_cases hp : pth x = p
      · rw [if_pos hp, getP_none (l := y :: s) (fun z hz => by rw [← hp]; exact ne_bl (hx z hz))]
        by_cases hk : f (some x) none = 0
        · rw [if_neg (by simp [hk]), kindOf_none (fun d hd => by rw [← hp]; exact ne_bl (hm d hd))]
          exact hk.symm
        · rw [if_pos ⟨hp, hk⟩]
          rfl
      · rw [if_neg hp, if_neg (fun h => hp h.1), i2]
    · rw [if_neg h1]
      by_cases h2 : bl (pth y) (pth x) = true
      · rw [if_pos h2]
        obtain ⟨i1, i2⟩ := mrg_ok (f := f) (n := n) (a := x :: r) (b := s) (by simp only [List.length_cons]; omega) ha b2
        have hx : ∀ z, z ∈ x :: r → bl (pth y) (pth z) = true := fun z hz => by
          rcases List.mem_cons.1 hz with rfl | hz
          · exact h2
          · exact bl_trans h2 (a1 z hz)
        have hm : ∀ d, d ∈ mrg pth f n (x :: r) s → bl (pth y) d.path = true := fun d hd => by
          rcases (mrg_mem hd).2 with ⟨z, hz, e⟩ | ⟨z, hz, e⟩
          · rw [← e]; exact hx z hz
          · rw [← e]; exact b1 z hz
        refine ⟨rise_one i1 hm, fun p => ?_⟩
        rw [kindOf_one, getP_cons (l := s)]
        by_cases hp : pth y = p
        · rw [if_pos hp, getP_none (l := x :: r) (fun z hz => by rw [← hp]; exact ne_bl (hx z hz))]
          by_cases hk : f none (some y) = 0
          · rw [if_neg (by simp [hk]), kindOf_none (fun d hd => by rw [← hp]; exact ne_bl (hm d hd))]
            exact hk.symm
          · rw [if_pos ⟨hp, hk⟩]
            rfl
        · rw [if_neg hp, if_neg (fun h => hp h.1), i2]
      · rw [if_neg h2]
        have hxy := bl_eq h1 h2
        obtain ⟨i1, i2⟩ := mrg_ok (f := f) (n := n) (a := r) (b := s) (by omega) a2 b2
        have hm : ∀ d, d ∈ mrg pth f n r s → bl (pth x) d.path = true := fun d hd => by
          rcases (mrg_mem hd).2 with ⟨z, hz, e⟩ | ⟨z, hz, e⟩
          · rw [← e]; exact a1 z hz
          · rw [← e, hxy]; exact b1 z hz
        refine ⟨rise_one i1 hm, fun p => ?_⟩
        rw [kindOf_one, getP_cons (l := r), getP_cons (l := s), ← hxy]
        by_cases hp : pth x = p
        · rw [if_pos hp, if_pos hp]
          by_cases hk : f (some x) (some y) = 0
          · rw [if_neg (by simp [hk]), kindOf_none (fun d hd => by rw [← hp]; exact ne_bl (hm d hd))]
            exact hk.symm
          · rw [if_pos ⟨hp, hk⟩]
            rfl
        · rw [if_neg hp, if_neg hp, if_neg (fun h => hp h.1), i2]
theorem riseD_eq : ∀ {a b : List Dl}, RiseP Dl.path a → RiseP Dl.path b → (∀ e, e ∈ a ↔ e ∈ b) → a = b
  | [], [], _, _, _ => rfl
  | [], y :: s, _, _, h => by have := (h y).2 (by simp); cases this
  | x :: r, [], _, _, h => by have := (h x).1 (by simp); cases this
  | x :: r, y :: s, ha, hb, h => by
    obtain ⟨h1, h2⟩ := List.pairwise_cons.1 ha
    obtain ⟨h3, h4⟩ := List.pairwise_cons.1 hb
    have e : x = y := by
      rcases List.mem_cons.1 ((h x).1 (by simp)) with e | hx
      · exact e
      · rcases List.mem_cons.1 ((h y).2 (by simp)) with e | hy
        · exact e.symm
        · have := bl_asymm (h3 x hx)
          rw [h1 y hy] at this
          cases this
    subst e
    congr 1
    refine riseD_eq h2 h4 fun z => ?_
    constructor
    · intro hz
      rcases List.mem_cons.1 ((h z).1 (by simp [hz])) with rfl | hz2
      · exact absurd rfl (ne_bl (h1 z hz))
      · exact hz2
    · intro hz
      rcases List.mem_cons.1 ((h z).2 (by simp [hz])) with rfl | hz2
      · exact absurd rfl (ne_bl (h3 z hz))
      · exact hz2
/-- Rows that rise and tell the same of each path are the same. -/
theorem kinds_eq {a b : List Dl} (ha : RiseP Dl.path a) (hb : RiseP Dl.path b) (na : ∀ d, d ∈ a → d.kind ≠ 0) (nb : ∀ d, d ∈ b → d.kind ≠ 0) (h : ∀ p, kindOf a p = kindOf b p) : a = b := by
  have key : ∀ {a b : List Dl}, RiseP Dl.path a → (∀ d, d ∈ a → d.kind ≠ 0) → (∀ p, kindOf a p = kindOf b p) → ∀ d, d ∈ a → d ∈ b := by
    intro a b ha na h d hd
    have h1 := h d.path
    rw [kindOf_mem ha hd] at h1
    unfold kindOf at h1
    cases hg : getP Dl.path b d.path with
    | none => rw [hg] at h1; exact absurd h1 (na d hd)
    | some z =>
      rw [hg] at h1
      obtain ⟨hz, e⟩ := getP_some hg
      have : d = z := by
        obtain ⟨p, k⟩ := d
        obtain ⟨q, j⟩ := z
        have h1 : k = j := h1
        have e : q = p := e
        rw [h1, e]
      rw [this]
      exact hz
  exact riseD_eq ha hb fun d => ⟨key ha na h d, key hb nb (fun p => (h p).symm) d⟩

/-! ### Entries -/
def fE : Option En → Option En → Int
  | some x, some y => if x.meta_ = y.meta_ then 0 else 2
  | some _, none => 3
  | none, some _ => 1
  | none, none => 0
def ents (a b : List En) : List Dl := (entriesS a b ([], 0)).1
theorem ents_mrg (a b : List En) : ents a b = mrg En.path fE (a.length + b.length + 1) a b := by
  have h := walk_mrg (pth := En.path) (f := fE) (a := a) (b := b) (step := stepE a b) ?_ ?_ ?_ (a.length + b.length + 1) 0 0 ([], 0)
  · exact h
  · intro s i _
    have h0 : ¬ ((i : Int) < 0) := by omega
    simp only [stepE, if_neg h0, Int.toNat_natCast]
    rfl
  · intro s k _
    simp [stepE, more, one, fE]
  · intro s i k _ _
    have h1 : ¬ ((i : Int) < 0) := by omega
    have h2 : ¬ ((k : Int) < 0) := by omega
    simp only [stepE, if_neg h1, if_neg h2, Int.toNat_natCast]
    show (if _ then _ else _ : List Dl × Nat).1 = s.1 ++ one _ (if _ then _ else _)
    split
    · simp [one]
    · rfl
theorem ents_ok {a b : List En} (ha : RiseE a) (hb : RiseE b) : RiseP Dl.path (ents a b) ∧ (∀ d, d ∈ ents a b → d.kind ≠ 0) ∧ ∀ p, kindOf (ents a b) p = fE (getP En.path a p) (getP En.path b p) := by
  rw [ents_mrg]
  obtain ⟨h1, h2⟩ := mrg_ok (pth := En.path) (f := fE) (n := a.length + b.length + 1) (Nat.le_succ _) ha hb
  refine ⟨h1, fun d hd => (mrg_mem hd).1, fun p => ?_⟩
  rw [h2]
  cases getP En.path a p <;> cases getP En.path b p <;> rfl
theorem mrg_len {α : Type} {pth : α → Bytes} {f : Option α → Option α → Int} : ∀ {n : Nat} {a b : List α}, (mrg pth f n a b).length ≤ n
  | 0, a, b => Nat.zero_le _
  | n + 1, [], [] => Nat.zero_le _
  | n + 1, x :: r, [] => by
    have := mrg_len (pth := pth) (f := f) (n := n) (a := r) (b := [])
    show (one _ _ ++ _).length ≤ _
    unfold one
    split <;> simp <;> omega
  | n + 1, [], y :: s => by
    have := mrg_len (pth := pth) (f := f) (n := n) (a := []) (b := s)
    show (one _ _ ++ _).length ≤ _
    unfold one
    split <;> simp <;> omega
  | n + 1, x :: r, y :: s => by
    have q1 := mrg_len (pth := pth) (f := f) (n := n) (a := r) (b := y :: s)
    have q2 := mrg_len (pth := pth) (f := f) (n := n) (a := x :: r) (b := s)
    have q3 := mrg_len (pth := pth) (f := f) (n := n) (a := r) (b := s)
    unfold mrg one
    split
    · split <;> simp <;> omega
    · split
      · split <;> simp <;> omega
      · split <;> simp <;> omega
theorem ents_len (a b : List En) : (ents a b).length ≤ a.length + b.length + 1 := by
  rw [ents_mrg]
  exact mrg_len
theorem ents_kind {a b : List En} (ha : RiseE a) (hb : RiseE b) {d : Dl} (hd : d ∈ ents a b) : d.kind = 1 ∨ d.kind = 2 ∨ d.kind = 3 := by
  obtain ⟨h1, h2, h3⟩ := ents_ok ha hb
  have h4 := h3 d.path
  rw [kindOf_mem h1 hd] at h4
  have h5 := h2 d hd
  rw [h4] at h5 ⊢
  generalize getP En.path a d.path = u at *
  generalize getP En.path b d.path = v at *
  cases u <;> cases v <;> simp [fE] at h5 ⊢
  simp [h5]
theorem ents_self {a : List En} (ha : RiseE a) : ents a a = [] := by
  obtain ⟨h1, h2, h3⟩ := ents_ok ha ha
  refine kinds_eq h1 List.Pairwise.nil h2 (fun d hd => by cases hd) fun p => ?_
  rw [h3]
  cases getP En.path a p with
  | none => rfl
  | some x => simp [fE, kindOf, getP]
end Go.Proofs.YthdeopopodhimaaGreatDoor
