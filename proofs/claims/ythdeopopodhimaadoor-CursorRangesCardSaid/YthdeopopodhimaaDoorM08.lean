/- Parts of the proof, one behind the other: TreeM, TreeN, AbD1, AbD2, AbC7, AbC8. No further condition. -/
import Derived.Test.YthdeopopodhimaaDoorM07
import Derived.Test.YthdeopopodhimaaDoorM06
import Derived.Recover
import Derived.Scope
import Derived.Laws.Externs
import Derived.Laws.MakeOwn
set_option linter.unusedVariables false
set_option linter.unusedSimpArgs false
/- Trees in plain words: rows that rise, trees of even height over them. No further condition. -/
set_option linter.unusedVariables false
set_option linter.unusedSimpArgs false
namespace Go.Proofs.YthdeopopodhimaaDoor
open Go.Ab

structure Pr where
  key : Ky
  val : Bytes
deriving DecidableEq
def Pr.av (p : Pr) : AV := .agg [.str p.key.path, .int .i64 p.key.time, .str p.val]

theorem rless_irrefl (a : Ky) : rless a a = false := by
  cases h : rless a a
  · rfl
  · exact h.symm.trans (rless_asymm h)
/-- a is not behind b, and b is ahead of c. -/
theorem rless_le_lt {a b c : Ky} (h1 : rless b a = false) (h2 : rless b c = true) : rless a c = true := by
  by_cases h : a = b
  · exact h ▸ h2
  · rcases rless_total h with h3 | h3
    · exact rless_trans h3 h2
    · rw [h3] at h1; cases h1
theorem rless_lt_le {a b c : Ky} (h1 : rless a b = true) (h2 : rless c b = false) : rless a c = true := by
  by_cases h : b = c
  · exact h ▸ h1
  · rcases rless_total h with h3 | h3
    · exact rless_trans h1 h3
    · rw [h3] at h2; cases h2

abbrev Rise (l : List Pr) : Prop := l.Pairwise fun a b => rless a.key b.key = true

def putP : List Pr → Pr → List Pr
  | [], p => [p]
  | q :: r, p => if rless q.key p.key = true then q :: putP r p else if q.key = p.key then p :: r else p :: q :: r
def dropP : List Pr → Ky → List Pr
  | [], _ => []
  | q :: r, k => if rless q.key k = true then q :: dropP r k else if q.key = k then r else q :: r
def fromP (l : List Pr) (k : Ky) : List Pr := l.dropWhile fun p => rless p.key k
def findP (l : List Pr) (k : Ky) : Nat := (l.takeWhile fun p => rless p.key k).length

theorem putP_ne (l : List Pr) (p : Pr) : putP l p ≠ [] := by
  cases l with
  | nil => simp [putP]
  | cons q r =>
    simp only [putP]
    split
    · simp
    · split <;> simp
theorem putP_mem {l : List Pr} {p x : Pr} (h : x ∈ putP l p) : x = p ∨ x ∈ l := by
  induction l with
  | nil => simpa [putP] using h
  | cons q r ih =>
    simp only [putP] at h
    split at h
    · rcases List.mem_cons.1 h with h | h
      · exact .inr (by simp [h])
      · rcases ih h with h | h
        · exact .inl h
        · exact .inr (by simp [h])
    · split at h
      · rcases List.mem_cons.1 h with h | h
        · exact .inl h
        · exact .inr (by simp [h])
      · rcases List.mem_cons.1 h with h | h
        · exact .inl h
        · exact .inr h
theorem putP_rise {l : List Pr} {p : Pr} (h : Rise l) : Rise (putP l p) := by
  induction l with
  | nil => simp [putP, Rise]
  | cons q r ih =>
    obtain ⟨h1, h2⟩ := List.pairwise_cons.1 h
    simp only [putP]
    split
    · rename_i hq
      refine List.pairwise_cons.2 ⟨fun x hx => ?_, ih h2⟩
      rcases putP_mem hx with rfl | hx
      · exact hq
      · exact h1 x hx
    · rename_i hq
      split
      · rename_i he
        refine List.pairwise_cons.2 ⟨fun x hx => ?_, h2⟩
        rw [← he]
        exact h1 x hx
      · rename_i he
        have hpq : rless p.key q.key = true := (rless_total he).resolve_left hq
        refine List.pairwise_cons.2 ⟨fun x hx => ?_, h⟩
        rcases List.mem_cons.1 hx with rfl | hx
        · exact hpq
        · exact rless_trans hpq (h1 x hx)
theorem dropP_sub (l : List Pr) (k : Ky) : (dropP l k).Sublist l := by
  induction l with
  | nil => exact List.Sublist.refl _
  | cons q r ih =>
    simp only [dropP]
    split
    · exact ih.cons_cons q
    · split
      · exact List.sublist_cons_self q r
      · exact List.Sublist.refl _
theorem dropP_rise {l : List Pr} {k : Ky} (h : Rise l) : Rise (dropP l k) := h.sublist (dropP_sub l k)
theorem dropP_len (l : List Pr) (k : Ky) : l.length ≤ (dropP l k).length + 1 := by
  induction l with
  | nil => simp
  | cons q r ih =>
    simp only [dropP]
    split
    · simp; omega
    · split <;> simp

/-- What is all ahead of a key is passed. -/
theorem putP_ahead {a b : List Pr} {p : Pr} (h : ∀ x, x ∈ a → rless x.key p.key = true) : putP (a ++ b) p = a ++ putP b p := by
  induction a with
  | nil => rfl
  | cons q r ih =>
    show putP (q :: (r ++ b)) p = _
    rw [putP, if_pos (h q (by simp)), ih (fun x hx => h x (by simp [hx]))]
    rfl
theorem dropP_ahead {a b : List Pr} {k : Ky} (h : ∀ x, x ∈ a → rless x.key k = true) : dropP (a ++ b) k = a ++ dropP b k := by
  induction a with
  | nil => rfl
  | cons q r ih =>
    show dropP (q :: (r ++ b)) k = _
    rw [dropP, if_pos (h q (by simp)), ih (fun x hx => h x (by simp [hx]))]
    rfl
theorem fromP_ahead {a b : List Pr} {k : Ky} (h : ∀ x, x ∈ a → rless x.key k = true) : fromP (a ++ b) k = fromP b k := by
  induction a with
  | nil => rfl
  | cons q r ih =>
    unfold fromP at ih ⊢
    rw [List.cons_append, List.dropWhile_cons, if_pos (h q (by simp)), ih (fun x hx => h x (by simp [hx]))]
/-- What is all behind a key is left. -/
theorem putP_behind {a b : List Pr} {p : Pr} (h : ∀ x, x ∈ b → rless p.key x.key = true) : putP (a ++ b) p = putP a p ++ b := by
  induction a with
  | nil =>
    cases b with
    | nil => rfl
    | cons q r =>
      have hq := h q (by simp)
      show putP (q :: r) p = p :: (q :: r)
      rw [putP, if_neg (by rw [rless_asymm hq]; simp), if_neg]
      intro he
      rw [he, rless_irrefl] at hq
      cases hq
  | cons q r ih =>
    show putP (q :: (r ++ b)) p = putP (q :: r) p ++ b
    rw [putP, putP, ih]
    split
    · rfl
    · split <;> rfl
theorem dropP_behind {a b : List Pr} {k : Ky} (h : ∀ x, x ∈ b → rless k x.key = true) : dropP (a ++ b) k = dropP a k ++ b := by
  induction a with
  | nil =>
    cases b with
    | nil => rfl
    | cons q r =>
      have hq := h q (by simp)
      show dropP (q :: r) k = q :: r
      rw [dropP, if_neg (by rw [rless_asymm hq]; simp), if_neg]
      intro he
      rw [he, rless_irrefl] at hq
      cases hq
  | cons q r ih =>
    show dropP (q :: (r ++ b)) k = dropP (q :: r) k ++ b
    rw [dropP, dropP, ih]
    split
    · rfl
    · split <;> rfl
theorem fromP_behind {a b : List Pr} {k : Ky} (h : ∀ x, x ∈ b → rless x.key k = false) : fromP (a ++ b) k = fromP a k ++ b := by
  induction a with
  | nil =>
    cases b with
    | nil => rfl
    | cons q r =>
      show fromP (q :: r) k = q :: r
      unfold fromP
      rw [List.dropWhile_cons, if_neg (by rw [h q (by simp)]; simp)]
  | cons q r ih =>
    unfold fromP at ih ⊢
    rw [List.cons_append, List.dropWhile_cons, List.dropWhile_cons, ih]
    split <;> rfl

/-! ### Trees -/
def Vt : Nat → Type
  | 0 => List Pr
  | h + 1 => List (Vt h)
abbrev Vt.row (l : Vt 0) : List Pr := l
abbrev Vt.kids {h : Nat} (l : Vt (h + 1)) : List (Vt h) := l
def allV : (h : Nat) → Vt h → List Pr
  | 0, l => l
  | h + 1, l => (l.kids.map (allV h)).flatten
abbrev allL (h : Nat) (l : List (Vt h)) : List Pr := (l.map (allV h)).flatten
def sizeV : (h : Nat) → Vt h → Nat
  | 0, l => l.row.length
  | _ + 1, l => l.kids.length
/-- A vertex below the root. -/
def okN : (h : Nat) → Vt h → Prop
  | 0, l => 2 ≤ l.row.length ∧ l.row.length ≤ 4
  | h + 1, l => 2 ≤ l.kids.length ∧ l.kids.length ≤ 4 ∧ ∀ k, k ∈ l.kids → okN h k
def okR : (h : Nat) → Vt h → Prop
  | 0, l => l.row.length ≤ 4
  | h + 1, l => okN (h + 1) l

def halvesL {α : Type} (l : List α) : List (List α) := if l.length ≤ 4 then [l] else [l.take (l.length / 2), l.drop (l.length / 2)]
def firstV (h : Nat) (v : Vt h) : Ky := ((allV h v).headD ⟨⟨[], 0⟩, []⟩).key
def belowV {h : Nat} (l : List (Vt h)) (k : Ky) : Nat := (l.findIdx fun v => rless k (firstV h v)) - 1
def withL {α : Type} (l : List α) (i many : Nat) (m : List α) : List α := l.take i ++ (m ++ l.drop (i + many))
def putV : (h : Nat) → Vt h → Pr → List (Vt h)
  | 0, l, p => halvesL (putP l.row p)
  | h + 1, l, p => halvesL (withL l.kids (belowV l.kids p.key) 1 (match l.kids[belowV l.kids p.key]? with
    | some kid => putV h kid p
    | none => []))
def joinV : (h : Nat) → Vt h → Vt h → List (Vt h)
  | 0, a, b => halvesL (a.row ++ b.row)
  | _ + 1, a, b => halvesL (a.kids ++ b.kids)
/-- Kids of which the one at i is another one, perhaps too small. -/
def dropL {h : Nat} (l : List (Vt h)) (i : Nat) (kid : Vt h) : List (Vt h) :=
  if 2 ≤ sizeV h kid then withL l i 1 [kid]
  else if 0 < i then (match l[i - 1]? with
    | some y => withL l (i - 1) 2 (joinV h y kid)
    | none => l)
  else (match l[1]? with
    | some y => withL l 0 2 (joinV h kid y)
    | none => l)
def dropV : (h : Nat) → Vt h → Ky → Vt h
  | 0, l, k => dropP l.row k
  | h + 1, l, k => match l.kids[belowV l.kids k]? with
    | none => l
    | some x => dropL l.kids (belowV l.kids k) (dropV h x k)

theorem okN_ne : ∀ (h : Nat) (v : Vt h), okN h v → allV h v ≠ []
  | 0, l, hv => by
    intro he
    have h1 : 2 ≤ l.row.length := hv.1
    have h2 : l.row = [] := he
    rw [h2] at h1
    simp at h1
  | h + 1, l, hv => by
    obtain ⟨h1, h2, h3⟩ := hv
    intro he
    have he' : (l.kids.map (allV h)).flatten = [] := he
    cases hl : l.kids with
    | nil => rw [hl] at h1; simp at h1
    | cons a r =>
      rw [hl] at he'
      simp only [List.map_cons, List.flatten_cons, List.append_eq_nil_iff] at he'
      exact okN_ne h a (h3 a (by rw [hl]; simp)) he'.1
theorem okN_okR {h : Nat} {v : Vt h} (hv : okN h v) : okR h v := by
  cases h with
  | zero => exact hv.2
  | succ h => exact hv
theorem first_mem {h : Nat} {v : Vt h} (hv : okN h v) : ∃ p, p ∈ allV h v ∧ p.key = firstV h v := by
  have := okN_ne h v hv
  unfold firstV
  cases hl : allV h v with
  | nil => exact absurd hl this
  | cons q r => exact ⟨q, by simp, rfl⟩
/-- The first is ahead of no other. -/
theorem first_le {h : Nat} {v : Vt h} (hr : Rise (allV h v)) : ∀ p, p ∈ allV h v → rless p.key (firstV h v) = false := by
  unfold firstV
  cases hl : allV h v with
  | nil => simp
  | cons q r =>
    rw [hl] at hr
    intro p hp
    rcases List.mem_cons.1 hp with rfl | hp
    · exact rless_irrefl _
    · exact rless_asymm ((List.pairwise_cons.1 hr).1 p hp)

theorem halves_flat {α : Type} (l : List α) : (halvesL l).flatten = l := by
  unfold halvesL
  split <;> simp
theorem halves_len {α : Type} (l : List α) : (halvesL l).length = if l.length ≤ 4 then 1 else 2 := by
  unfold halvesL
  split <;> rfl
theorem halves_ok {α : Type} {l : List α} (h2 : 2 ≤ l.length) (h8 : l.length ≤ 8) : ∀ x, x ∈ halvesL l → 2 ≤ x.length ∧ x.length ≤ 4 ∧ ∀ y, y ∈ x → y ∈ l := by
  intro x hx
  unfold halvesL at hx
  split at hx
  · simp at hx; subst hx
    exact ⟨h2, by omega, fun y h => h⟩
  · simp at hx
    rcases hx with rfl | rfl
    · exact ⟨by simp; omega, by simp; omega, fun y h => List.mem_of_mem_take h⟩
    · exact ⟨by simp; omega, by simp; omega, fun y h => List.mem_of_mem_drop h⟩
theorem halves_small {α : Type} {l : List α} (h : l.length ≤ 4) : halvesL l = [l] := by
  unfold halvesL
  rw [if_pos h]
theorem all_halves0 (l : List Pr) : allL 0 (halvesL l : List (Vt 0)) = l := by
  have : allL 0 (halvesL l : List (Vt 0)) = (halvesL l).flatten := by
    have e : (halvesL l : List (Vt 0)).map (allV 0) = halvesL l := List.map_id (α := List Pr) (halvesL l)
    exact congrArg List.flatten e
  rw [this, halves_flat]
theorem all_halves1 {h : Nat} (l : List (Vt h)) : allL (h + 1) (halvesL l : List (Vt (h + 1))) = allL h l := by
  unfold halvesL
  split
  · show (allV (h + 1) l :: []).flatten = _
    simp [allV, Vt.kids]
  · show (allV (h + 1) (l.take (l.length / 2)) :: allV (h + 1) (l.drop (l.length / 2)) :: []).flatten = _
    show (allL h (l.take (l.length / 2))) ++ ((allL h (l.drop (l.length / 2))) ++ []) = _
    unfold allL
    rw [List.append_nil, ← List.flatten_append, ← List.map_append, List.take_append_drop]
theorem allL_app {h : Nat} (a b : List (Vt h)) : allL h (a ++ b) = allL h a ++ allL h b := by simp [allL]

/-- Where a key belongs: kids ahead, the one, kids behind. -/
theorem below_cut {h : Nat} {l : List (Vt h)} (h0 : l ≠ []) (hk : ∀ v, v ∈ l → okN h v) (hr : Rise (allL h l)) (k : Ky) :
    ∃ (a : List (Vt h)) (v : Vt h) (b : List (Vt h)), l = a ++ v :: b ∧ belowV l k = a.length ∧ l[belowV l k]? = some v ∧ (∀ x, x ∈ allL h a → rless x.key k = true) ∧ (∀ x, x ∈ allL h b → rless k x.key = true) := by
  have hlt : belowV l k < l.length := by
    have h1 : (l.findIdx fun v => rless k (firstV h v)) ≤ l.length := List.findIdx_le_length
    have h2 : 0 < l.length := List.length_pos_iff.2 h0
    unfold belowV
    omega
  refine ⟨l.take (belowV l k), l[belowV l k], l.drop (belowV l k + 1), ?_, by simp; omega, List.getElem?_eq_getElem hlt, ?_, ?_⟩
  · have := List.take_append_drop (belowV l k) l
    rw [List.drop_eq_getElem_cons hlt] at this
    exact this.symm
  · intro x hx
    by_cases h0' : belowV l k = 0
    · rw [h0'] at hx
      simp [allL] at hx
    · -- the one is not behind k: all ahead of it are ahead of k
      have hi : belowV l k < (l.findIdx fun v => rless k (firstV h v)) := by unfold belowV at h0' ⊢; omega
      have hnot := List.not_of_lt_findIdx hi
      have hv := hk l[belowV l k] (List.getElem_mem hlt)
      obtain ⟨q, hq, hqk⟩ := first_mem hv
      have hl : allL h l = allL h (l.take (belowV l k)) ++ (allV h l[belowV l k] ++ allL h (l.drop (belowV l k + 1))) := by
        have e : l = l.take (belowV l k) ++ ([l[belowV l k]] ++ l.drop (belowV l k + 1)) := by
          have := List.take_append_drop (belowV l k) l
          rw [List.drop_eq_getElem_cons hlt] at this
          exact this.symm
        conv => lhs; rw [e]
        rw [allL_app, allL_app]
        simp [allL]
      rw [hl] at hr
      have h3 := (List.pairwise_append.1 hr).2.2 x hx q (by simp [hq])
      rw [hqk] at h3
      have h4 : rless k (firstV h l[belowV l k]) = false := by simpa using hnot
      exact rless_lt_le h3 h4
  · intro x hx
    by_cases h1 : (l.findIdx fun v => rless k (firstV h v)) < l.length
    · have h2 := List.findIdx_getElem (w := h1)
      generalize hj : (l.findIdx fun v => rless k (firstV h v)) = j at h1 h2
      have hv := hk l[j] (List.getElem_mem h1)
      -- x lies in the kids from j on
      have hge : j ≤ belowV l k + 1 := by unfold belowV; omega
      have hx' : x ∈ allL h (l.drop j) := by
        unfold allL at hx ⊢
        simp only [List.mem_flatten, List.mem_map] at hx ⊢
        obtain ⟨r, ⟨v, hv1, rfl⟩, hv2⟩ := hx
        refine ⟨_, ⟨v, ?_, rfl⟩, hv2⟩
        have : l.drop (belowV l k + 1) = (l.drop j).drop (belowV l k + 1 - j) := by
          rw [List.drop_drop]; congr 1; omega
        rw [this] at hv1
        exact List.mem_of_mem_drop hv1
      have hd : l.drop j = l[j] :: l.drop (j + 1) := List.drop_eq_getElem_cons h1
      rw [hd] at hx'
      have hr2 : Rise (allL h (l[j] :: l.drop (j + 1))) := by
        rw [← hd]
        have e : allL h l = allL h (l.take j) ++ allL h (l.drop j) := by rw [← allL_app, List.take_append_drop]
        rw [e] at hr
        exact (List.pairwise_append.1 hr).2.1
      have e2 : allL h (l[j] :: l.drop (j + 1)) = allV h l[j] ++ allL h (l.drop (j + 1)) := by unfold allL; rw [List.map_cons, List.flatten_cons]
      rw [e2] at hr2 hx'
      rcases List.mem_append.1 hx' with hx' | hx'
      · exact rless_lt_le h2 (first_le (List.pairwise_append.1 hr2).1 x hx')
      · obtain ⟨q, hq, hqk⟩ := first_mem hv
        have h3 := (List.pairwise_append.1 hr2).2.2 q hq x hx'
        rw [hqk] at h3
        exact rless_trans h2 h3
    · exfalso
      have h1' : (l.findIdx fun v => rless k (firstV h v)) = l.length := by
        have : (l.findIdx fun v => rless k (firstV h v)) ≤ l.length := List.findIdx_le_length
        omega
      have h2 : 0 < l.length := List.length_pos_iff.2 h0
      have : l.drop (belowV l k + 1) = [] := by
        rw [List.drop_eq_nil_iff]
        unfold belowV
        omega
      rw [this] at hx
      simp [allL] at hx

theorem with_at {α : Type} {a b m : List α} {x : α} : withL (a ++ x :: b) a.length 1 m = a ++ (m ++ b) := by
  unfold withL
  rw [List.take_left, List.drop_append]
  simp
theorem allL_cons {h : Nat} (v : Vt h) (b : List (Vt h)) : allL h (v :: b) = allV h v ++ allL h b := by unfold allL; rw [List.map_cons, List.flatten_cons]
theorem allL_one {h : Nat} (v : Vt h) : allL h [v] = allV h v := by unfold allL; simp

theorem rise_mid {a b c : List Pr} (h : Rise (a ++ (b ++ c))) : Rise b := (List.pairwise_append.1 (List.pairwise_append.1 h).2.1).1

theorem put_all : ∀ (h : Nat) (v : Vt h) (p : Pr), okR h v → Rise (allV h v) → allL h (putV h v p) = putP (allV h v) p ∧ (putV h v p).length ≤ 2 ∧ 1 ≤ (putV h v p).length
  | 0, l, p, hv, hr => by
    refine ⟨all_halves0 _, ?_, ?_⟩
    · show (halvesL (putP l.row p)).length ≤ 2
      rw [halves_len]; split <;> omega
    · show 1 ≤ (halvesL (putP l.row p)).length
      rw [halves_len]; split <;> omega
  | h + 1, l, p, hv, hr => by
    obtain ⟨h1, h2, h3⟩ := hv
    have h0 : l.kids ≠ [] := by intro he; rw [he] at h1; simp at h1
    obtain ⟨a, v, b, e1, e2, e3, e4, e5⟩ := below_cut h0 h3 hr p.key
    have hv : okN h v := h3 v (by rw [e1]; simp)
    have hall : allV (h + 1) l = allL h a ++ (allV h v ++ allL h b) := by
      show allL h l.kids = _
      rw [e1, allL_app, allL_cons]
    have hrv : Rise (allV h v) := by
      rw [hall] at hr
      exact rise_mid hr
    obtain ⟨i1, _, _⟩ := put_all h v p (okN_okR hv) hrv
    have hp : putV (h + 1) l p = (halvesL (a ++ (putV h v p ++ b)) : List (List (Vt h))) := by
      show halvesL (withL l.kids (belowV l.kids p.key) 1 (match l.kids[belowV l.kids p.key]? with
        | some kid => putV h kid p
        | none => [])) = _
      rw [e3, e2]
      congr 1
      simp only
      have : withL l.kids a.length 1 (putV h v p) = withL (a ++ v :: b) a.length 1 (putV h v p) := by rw [← e1]
      rw [this, with_at]
    refine ⟨?_, ?_, ?_⟩
    · rw [hp]
      refine (all_halves1 _).trans ?_
      rw [allL_app, allL_app, i1, hall, putP_ahead e4, putP_behind e5]
    · rw [hp]
      show (halvesL _).length ≤ 2
      rw [halves_len]; split <;> omega
    · rw [hp]
      show 1 ≤ (halvesL _).length
      rw [halves_len]; split <;> omega
end Go.Proofs.YthdeopopodhimaaDoor

/- Trees in plain words: what a put, a drop and a walk from a key leave. No further condition. -/
set_option linter.unusedVariables false
set_option linter.unusedSimpArgs false
namespace Go.Proofs.YthdeopopodhimaaDoor
open Go.Ab

theorem putP_len (l : List Pr) (p : Pr) : l.length ≤ (putP l p).length ∧ (putP l p).length ≤ l.length + 1 ∧ 1 ≤ (putP l p).length := by
  induction l with
  | nil => simp [putP]
  | cons q r ih =>
    simp only [putP]
    split
    · simp; omega
    · split <;> simp
theorem dropP_le (l : List Pr) (k : Ky) : (dropP l k).length ≤ l.length := (dropP_sub l k).length_le

theorem putV_cut {h : Nat} {l : Vt (h + 1)} {p : Pr} (hv : okN (h + 1) l) (hr : Rise (allV (h + 1) l)) :
    ∃ (a : List (Vt h)) (v : Vt h) (b : List (Vt h)), l.kids = a ++ v :: b ∧ okN h v ∧ Rise (allV h v) ∧ belowV l.kids p.key = a.length ∧ putV (h + 1) l p = (halvesL (a ++ (putV h v p ++ b)) : List (List (Vt h))) := by
  obtain ⟨h1, h2, h3⟩ := hv
  have h0 : l.kids ≠ [] := by intro he; rw [he] at h1; simp at h1
  obtain ⟨a, v, b, e1, e2, e3, e4, e5⟩ := below_cut h0 h3 hr p.key
  have hv : okN h v := h3 v (by rw [e1]; simp)
  have hall : allV (h + 1) l = allL h a ++ (allV h v ++ allL h b) := by
    show allL h l.kids = _
    rw [e1, allL_app, allL_cons]
  refine ⟨a, v, b, e1, hv, ?_, e2, ?_⟩
  · rw [hall] at hr
    exact rise_mid hr
  · show halvesL (withL l.kids (belowV l.kids p.key) 1 (match l.kids[belowV l.kids p.key]? with
      | some kid => putV h kid p
      | none => [])) = _
    rw [e3, e2]
    congr 1
    simp only
    have : withL l.kids a.length 1 (putV h v p) = withL (a ++ v :: b) a.length 1 (putV h v p) := by rw [← e1]
    rw [this, with_at]

theorem put_okN : ∀ (h : Nat) (v : Vt h) (p : Pr), okN h v → Rise (allV h v) → ∀ x, x ∈ putV h v p → okN h x
  | 0, l, p, hv, hr => by
    intro x hx
    have hx' : x.row ∈ halvesL (putP l.row p) := hx
    have h1 : 2 ≤ l.row.length := hv.1
    have h2 : l.row.length ≤ 4 := hv.2
    have h3 := putP_len l.row p
    have h4 := halves_ok (by omega) (by omega) x.row hx'
    exact ⟨h4.1, h4.2.1⟩
  | h + 1, l, p, hv, hr => by
    intro x hx
    obtain ⟨a, v, b, e1, e2, e3, _, e4⟩ := putV_cut (p := p) hv hr
    rw [e4] at hx
    have hx' : x.kids ∈ halvesL (a ++ (putV h v p ++ b)) := hx
    obtain ⟨h1, h2, h3⟩ := hv
    rw [e1] at h1 h2
    simp at h1 h2
    have h5 := put_all h v p (okN_okR e2) e3
    have h4 := halves_ok (l := a ++ (putV h v p ++ b)) (by simp; omega) (by simp; omega) x.kids hx'
    refine ⟨h4.1, h4.2.1, fun k hk => ?_⟩
    rcases List.mem_append.1 (h4.2.2 k hk) with h6 | h6
    · exact h3 k (by rw [e1]; simp [h6])
    · rcases List.mem_append.1 h6 with h6 | h6
      · exact put_okN h v p e2 e3 k h6
      · exact h3 k (by rw [e1]; simp [h6])
theorem put_root {h : Nat} {v : Vt h} {p : Pr} (hv : okR h v) (hr : Rise (allV h v)) :
    (∃ x, putV h v p = [x] ∧ okR h x ∧ allV h x = putP (allV h v) p) ∨ (∃ x y, putV h v p = [x, y] ∧ okN h x ∧ okN h y ∧ allV h x ++ allV h y = putP (allV h v) p) := by
  obtain ⟨h1, h2, h3⟩ := put_all h v p hv hr
  have hok : ∀ x y, putV h v p = [x, y] → okN h x ∧ okN h y := by
    intro x y he
    cases h with
    | zero =>
      have he' : halvesL (putP v.row p) = [x.row, y.row] := he
      have h4 := putP_len v.row p
      have h5 : v.row.length ≤ 4 := hv
      unfold halvesL at he'
      split at he'
      · simp at he'
      · rename_i h6
        simp at he'
        obtain ⟨e1, e2⟩ := he'
        have l1 : x.row.length = (putP v.row p).length / 2 := by rw [← e1]; simp; omega
        have l2 : y.row.length = (putP v.row p).length - (putP v.row p).length / 2 := by rw [← e2]; simp
        exact ⟨⟨by show 2 ≤ x.row.length; omega, by show x.row.length ≤ 4; omega⟩, ⟨by show 2 ≤ y.row.length; omega, by show y.row.length ≤ 4; omega⟩⟩
    | succ h =>
      have := put_okN (h + 1) v p hv hr
      exact ⟨this x (by rw [he]; simp), this y (by rw [he]; simp)⟩
  have hone : ∀ x, putV h v p = [x] → okR h x := by
    intro x he
    cases h with
    | zero =>
      have he' : halvesL (putP v.row p) = [x.row] := he
      unfold halvesL at he'
      split at he'
      · rename_i h6
        simp at he'
        show x.row.length ≤ 4
        rw [← he']; exact h6
      · simp at he'
    | succ h => exact put_okN (h + 1) v p hv hr x (by rw [he]; simp)
  cases hp : putV h v p with
  | nil => rw [hp] at h3; simp at h3
  | cons x r =>
    cases r with
    | nil =>
      rw [hp] at h1
      exact .inl ⟨x, rfl, hone x hp, by simpa [allL] using h1⟩
    | cons y s =>
      cases s with
      | nil =>
        rw [hp] at h1
        exact .inr ⟨x, y, rfl, (hok x y hp).1, (hok x y hp).2, by simpa [allL] using h1⟩
      | cons z s => rw [hp] at h2; simp at h2

/-! ### Drop -/
def okD : (h : Nat) → Vt h → Prop
  | 0, l => 1 ≤ l.row.length ∧ l.row.length ≤ 4
  | h + 1, l => 1 ≤ l.kids.length ∧ l.kids.length ≤ 4 ∧ ∀ k, k ∈ l.kids → okN h k
theorem join_all : ∀ (h : Nat) (a b : Vt h), allL h (joinV h a b) = allV h a ++ allV h b
  | 0, a, b => all_halves0 _
  | h + 1, a, b => (all_halves1 _).trans (allL_app _ _)
theorem join_ok : ∀ (h : Nat) (a b : Vt h), okD h a → okD h b → 3 ≤ sizeV h a + sizeV h b → ∀ x, x ∈ joinV h a b → okN h x
  | 0, a, b, ha, hb, hs => by
    intro x hx
    have hx' : x.row ∈ halvesL (a.row ++ b.row) := hx
    have a1 : a.row.length ≤ 4 := ha.2
    have b1 : b.row.length ≤ 4 := hb.2
    have hs' : 3 ≤ a.row.length + b.row.length := hs
    have h4 := halves_ok (l := a.row ++ b.row) (by simp; omega) (by simp; omega) x.row hx'
    exact ⟨h4.1, h4.2.1⟩
  | h + 1, a, b, ha, hb, hs => by
    intro x hx
    have hx' : x.kids ∈ halvesL (a.kids ++ b.kids) := hx
    have a1 : a.kids.length ≤ 4 := ha.2.1
    have b1 : b.kids.length ≤ 4 := hb.2.1
    have hs' : 3 ≤ a.kids.length + b.kids.length := hs
    have h4 := halves_ok (l := a.kids ++ b.kids) (by simp; omega) (by simp; omega) x.kids hx'
    refine ⟨h4.1, h4.2.1, fun k hk => ?_⟩
    rcases List.mem_append.1 (h4.2.2 k hk) with h6 | h6
    · exact ha.2.2 k h6
    · exact hb.2.2 k h6
theorem join_len (h : Nat) (a b : Vt h) (hs : sizeV h a + sizeV h b ≤ 5) : (joinV h a b).length = if sizeV h a + sizeV h b ≤ 4 then 1 else 2 := by
  cases h with
  | zero =>
    show (halvesL (a.row ++ b.row)).length = _
    rw [halves_len, List.length_append]
    rfl
  | succ h =>
    show (halvesL (a.kids ++ b.kids)).length = _
    rw [halves_len, List.length_append]
    rfl
theorem okN_okD {h : Nat} {v : Vt h} (hv : okN h v) : okD h v := by
  cases h with
  | zero => exact ⟨by have : 2 ≤ v.row.length := hv.1; omega, hv.2⟩
  | succ h => exact ⟨by have : 2 ≤ v.kids.length := hv.1; omega, hv.2⟩
theorem okD_okN {h : Nat} {v : Vt h} (hv : okD h v) (h2 : 2 ≤ sizeV h v) : okN h v := by
  cases h with
  | zero => exact ⟨h2, hv.2⟩
  | succ h => exact ⟨h2, hv.2⟩
theorem okN_size {h : Nat} {v : Vt h} (hv : okN h v) : 2 ≤ sizeV h v ∧ sizeV h v ≤ 4 := by
  cases h with
  | zero => exact ⟨hv.1, hv.2⟩
  | succ h => exact ⟨hv.1, hv.2.1⟩
theorem okD_size {h : Nat} {v : Vt h} (hv : okD h v) : 1 ≤ sizeV h v ∧ sizeV h v ≤ 4 := by
  cases h with
  | zero => exact ⟨hv.1, hv.2⟩
  | succ h => exact ⟨hv.1, hv.2.1⟩

/-- The three ways of a drop in a fork. -/
theorem dropV_cut {h : Nat} {l : Vt (h + 1)} {k : Ky} (hv : okN (h + 1) l) (hr : Rise (allV (h + 1) l)) :
    ∃ (a : List (Vt h)) (v : Vt h) (b : List (Vt h)), l.kids = a ++ v :: b ∧ belowV l.kids k = a.length ∧ okN h v ∧ Rise (allV h v) ∧ (∀ x, x ∈ allL h a → rless x.key k = true) ∧ (∀ x, x ∈ allL h b → rless k x.key = true) ∧
      ((2 ≤ sizeV h (dropV h v k) ∧ dropV (h + 1) l k = (a ++ (dropV h v k :: b) : List (Vt h))) ∨
       (¬ 2 ≤ sizeV h (dropV h v k) ∧ ∃ c y, a = c ++ [y] ∧ dropV (h + 1) l k = (c ++ (joinV h y (dropV h v k) ++ b) : List (Vt h))) ∨
       (¬ 2 ≤ sizeV h (dropV h v k) ∧ a = [] ∧ ∃ y c, b = y :: c ∧ dropV (h + 1) l k = (joinV h (dropV h v k) y ++ c : List (Vt h)))) := by
  obtain ⟨h1, h2, h3⟩ := hv
  have h0 : l.kids ≠ [] := by intro he; rw [he] at h1; simp at h1
  obtain ⟨a, v, b, e1, e2, e3, e4, e5⟩ := below_cut h0 h3 hr k
  have hv : okN h v := h3 v (by rw [e1]; simp)
  have hall : allV (h + 1) l = allL h a ++ (allV h v ++ allL h b) := by
    show allL h l.kids = _
    rw [e1, allL_app, allL_cons]
  refine ⟨a, v, b, e1, e2, hv, ?_, e4, e5, ?_⟩
  · rw [hall] at hr
    exact rise_mid hr
  · have hd : dropV (h + 1) l k = dropL l.kids a.length (dropV h v k) := by
      rw [dropV, e3, e2]
    rw [hd]
    generalize dropV h v k = kid
    unfold dropL
    by_cases hs : 2 ≤ sizeV h kid
    · refine .inl ⟨hs, ?_⟩
      rw [if_pos hs, e1]
      exact with_at
    · refine .inr ?_
      rw [if_neg hs]
      by_cases ha : a = []
      · subst ha
        refine .inr ⟨hs, rfl, ?_⟩
        cases b with
        | nil => rw [e1] at h1; simp at h1
        | cons y c =>
          refine ⟨y, c, rfl, ?_⟩
          rw [if_neg (by simp), e1]
          rfl
      · refine .inl ⟨hs, a.dropLast, a.getLast ha, (List.dropLast_concat_getLast ha).symm, ?_⟩
        have hpos : 0 < a.length := List.length_pos_iff.2 ha
        rw [if_pos hpos]
        have e6 : l.kids[a.length - 1]? = some (a.getLast ha) := by
          rw [e1, List.getElem?_append_left (by omega), List.getLast_eq_getElem, List.getElem?_eq_getElem]
        rw [e6]
        simp only
        rw [e1]
        unfold withL
        have e7 : a.length - 1 + 2 = a.length + 1 := by omega
        rw [e7, List.take_append_of_le_length (by omega), ← List.dropLast_eq_take]
        congr 2
        rw [List.drop_append]
        simp
theorem drop_all : ∀ (h : Nat) (v : Vt h) (k : Ky), okR h v → Rise (allV h v) → allV h (dropV h v k) = dropP (allV h v) k ∧ (okN h v → okD h (dropV h v k)) ∧ sizeV h (dropV h v k) ≤ sizeV h v
  | 0, l, k, hv, hr => by
    refine ⟨rfl, fun h => ?_, dropP_le _ _⟩
    have h1 : 2 ≤ l.row.length := h.1
    have h2 : l.row.length ≤ 4 := h.2
    have h3 := dropP_len l.row k
    have h4 := dropP_le l.row k
    exact ⟨by show 1 ≤ (dropP l.row k).length; omega, by show (dropP l.row k).length ≤ 4; omega⟩
  | h + 1, l, k, hv, hr => by
    obtain ⟨a, v, b, e1, e2, e3, e4, e5, e6, e7⟩ := dropV_cut (k := k) hv hr
    obtain ⟨i1, i2, i3⟩ := drop_all h v k (okN_okR e3) e4
    have i2 := i2 e3
    have hall : allV (h + 1) l = allL h a ++ (allV h v ++ allL h b) := by
      show allL h l.kids = _
      rw [e1, allL_app, allL_cons]
    have hgoal : dropP (allV (h + 1) l) k = allL h a ++ (allV h (dropV h v k) ++ allL h b) := by
      rw [hall, dropP_ahead e5, dropP_behind e6, i1]
    obtain ⟨h1, h2, h3⟩ := hv
    rw [e1] at h1 h2
    simp at h1 h2
    have hsz : sizeV (h + 1) l = a.length + (b.length + 1) := by
      show l.kids.length = _
      rw [e1]; simp
    have hok : ∀ x, x ∈ a ∨ x ∈ b → okN h x := by
      intro x hx
      refine h3 x ?_
      rw [e1]
      rcases hx with hx | hx <;> simp [hx]
    have hd := okD_size i2
    rcases e7 with ⟨hs, hd1⟩ | ⟨hs, c, y, rfl, hd1⟩ | ⟨hs, rfl, y, c, rfl, hd1⟩
    · rw [hd1, hgoal, hsz]
      refine ⟨?_, fun _ => ⟨?_, ?_, ?_⟩, ?_⟩
      · show allL h (a ++ (dropV h v k :: b)) = _
        rw [allL_app, allL_cons]
      · show 1 ≤ (a ++ (dropV h v k :: b)).length
        simp; omega
      · show (a ++ (dropV h v k :: b)).length ≤ 4
        simp; omega
      · intro x hx
        have hx' : x ∈ a ++ (dropV h v k :: b) := hx
        simp at hx'
        rcases hx' with hx' | rfl | hx'
        · exact hok x (.inl hx')
        · exact okD_okN i2 hs
        · exact hok x (.inr hx')
      · show (a ++ (dropV h v k :: b)).length ≤ _
        simp
    · have hy := okN_okD (hok y (.inl (by simp)))
      have hys := okN_size (hok y (.inl (by simp)))
      have hj := join_ok h y (dropV h v k) hy i2 (by omega)
      have hjl := join_len h y (dropV h v k) (by omega)
      have hjl' : 1 ≤ (joinV h y (dropV h v k)).length ∧ (joinV h y (dropV h v k)).length ≤ 2 := by
        rw [hjl]; split <;> omega
      simp at h1 h2 hsz
      rw [hd1, hgoal, hsz]
      refine ⟨?_, fun _ => ⟨?_, ?_, ?_⟩, ?_⟩
      · show allL h (c ++ (joinV h y (dropV h v k) ++ b)) = _
        rw [allL_app, allL_app, join_all, allL_app, allL_one]
        simp
      · show 1 ≤ (c ++ (joinV h y (dropV h v k) ++ b)).length
        simp; omega
      · show (c ++ (joinV h y (dropV h v k) ++ b)).length ≤ 4
        simp; omega
      · intro x hx
        have hx' : x ∈ c ++ (joinV h y (dropV h v k) ++ b) := hx
        simp at hx'
        rcases hx' with hx' | hx' | hx'
        · exact hok x (.inl (by simp [hx']))
        · exact hj x hx'
        · exact hok x (.inr hx')
      · show (c ++ (joinV h y (dropV h v k) ++ b)).length ≤ _
        simp; omega
    · have hy := okN_okD (hok y (.inr (by simp)))
      have hys := okN_size (hok y (.inr (by simp)))
      have hj := join_ok h (dropV h v k) y i2 hy (by omega)
      have hjl := join_len h (dropV h v k) y (by omega)
      have hjl' : 1 ≤ (joinV h (dropV h v k) y).length ∧ (joinV h (dropV h v k) y).length ≤ 2 := by
        rw [hjl]; split <;> omega
      simp at h1 h2 hsz
      rw [hd1, hgoal, hsz]
      refine ⟨?_, fun _ => ⟨?_, ?_, ?_⟩, ?_⟩
      · show allL h (joinV h (dropV h v k) y ++ c) = _
        rw [allL_app, join_all, allL_cons]
        simp [allL]
      · show 1 ≤ (joinV h (dropV h v k) y ++ c).length
        simp; omega
      · show (joinV h (dropV h v k) y ++ c).length ≤ 4
        simp; omega
      · intro x hx
        have hx' : x ∈ joinV h (dropV h v k) y ++ c := hx
        simp at hx'
        rcases hx' with hx' | hx'
        · exact hj x hx'
        · exact hok x (.inr (by simp [hx']))
      · show (joinV h (dropV h v k) y ++ c).length ≤ _
        simp; omega

/-! ### From -/
def takeF (out : List Pr) (n : Nat) (l : List Pr) : List Pr := out ++ l.take (n - out.length)
theorem takeF_app (out : List Pr) (n : Nat) (a b : List Pr) : takeF (takeF out n a) n b = takeF out n (a ++ b) := by
  unfold takeF
  rw [List.append_assoc, List.take_append]
  congr 3
  simp
  omega
theorem takeF_full {out : List Pr} {n : Nat} (h : n ≤ out.length) (l : List Pr) : takeF out n l = out := by
  unfold takeF
  rw [Nat.sub_eq_zero_of_le h]
  simp
theorem fromP_cut (l : List Pr) (k : Ky) : fromP l k = l.drop (findP l k) := by
  induction l with
  | nil => rfl
  | cons q r ih =>
    unfold fromP findP at ih ⊢
    rw [List.dropWhile_cons, List.takeWhile_cons]
    split
    · rw [ih]; simp
    · simp
theorem fromP_rise {l : List Pr} {k : Ky} (h : Rise l) : Rise (fromP l k) := h.sublist (List.dropWhile_sublist _)
end Go.Proofs.YthdeopopodhimaaDoor

/- Labels; type assertions; deferred calls, and what they catch. -/
set_option linter.unusedVariables false
set_option linter.unusedSimpArgs false
namespace Go.Ab
open Go.RowKit

section
variable {P : Program} {n : Nat} {Q : AX → AF → Mem → Prop} {f : AF} {M : Mem}
theorem W_scope {c : Code} (h : W P n c Q f M) : W P n (.scope c) Q f M := by
  refine ⟨fun μ F w a hg hr => wp_scope_straight (wp_mono (h.run μ F w a hg hr) ?_)⟩
  rintro e a' w' ⟨μ', f', M', x, h1, h2, h3, h4, h5⟩
  cases e with
  | goto l => cases x <;> exact h4.elim
  | outgrown => cases x <;> exact h4.elim
  | _ => exact ⟨μ', f', M', x, h1, h2, h3, h4, h5⟩
theorem W_label {l : Nat} (h : Q .normal f M) : W P n (.label l) Q f M :=
  ⟨fun μ F w a hg hr => wp_label ⟨μ, f, M, .normal, Evo.refl _ _, hg, hr, trivial, h⟩⟩
end

/-! ### Type assertions -/
def aassert (τ : Tab) (ags : TypeId) (x : AV) : Option AV :=
  match lookup τ ags with
  | some i => if notIface i.k = true ∧ (i.agg = true ∨ i.size = 1) then
      (match x with
      | .iface t v => if t = ags then some (.tup [v, .bool true]) else some (.tup [i.zv, .bool false])
      | .nilIface => some (.tup [i.zv, .bool false])
      | _ => none)
    else none
  | none => none

theorem rep_tup2 {μ : Mu} {F : Frm} {w : World} {x y : AV} {u v : Value} (h1 : Rep μ F w x u) (h2 : Rep μ F w y v) : Rep μ F w (.tup [x, y]) (.tuple #[u, v]) := by
  have h := (RepL.cons h1).app (RepL.cons h2)
  exact .tup _ _ rfl fun i a b ha hb => h.2 i a b ha (by simpa using hb)

theorem opP_assert {P : Program} {τ : Tab} (hτ : TabOK P τ) {ags xt : TypeId} {x : Operand} {ty : TypeId} {ρ : Operand → AV} {r : AV} (h : aassert τ ags (ρ x) = some r) : OpP P (.typeAssert x xt ags true) ty ρ r := by
  refine opP_of_same ?_
  intro μ F w ρc o ho ht hr
  have hx := hr x (by simp [Op.operands])
  unfold aassert at h
  split at h
  case h_2 => cases h
  rename_i i hi
  split at h
  case isFalse => cases h
  rename_i hn
  obtain ⟨hn1, hn2⟩ := hn
  obtain ⟨fi, d, z, H⟩ := TI.spec hτ hi
  have hf := H.fits
  have hz : (zeroValue ags).run P w = .ok z w := by simp [zeroValue, typeInfo, H.info, H.zero]
  have hzr := H.zrep hn2 μ F w
  have hd : ∀ m, d ≠ .interface m := by
    intro m e
    subst e
    generalize i.k = kk at hf hn1
    cases kk <;> simp [TK.fits, notIface] at hf hn1
  generalize hv : ρc x = v at hx
  split at h
  · rename_i t y he
    rw [he] at hx
    cases hx with
    | iface _ _ u hu =>
      split at h
      · rename_i e
        cases h
        subst e
        refine ⟨.tuple #[u, .bool true], ?_, rep_tup2 hu (.bool _)⟩
        simp only [execOp, ho, hv, Sem.run_bind, Instr.typeAssert, run_underlying H.und, Result.andThen_ok]
        cases d <;> first | exact absurd rfl (hd _) | simp
      · rename_i e
        cases h
        refine ⟨.tuple #[z, .bool false], ?_, rep_tup2 hzr (.bool _)⟩
        simp only [execOp, ho, hv, Sem.run_bind, Instr.typeAssert, run_underlying H.und, Result.andThen_ok]
        cases d <;> first | exact absurd rfl (hd _) | simp [e, hz]
  · rename_i he
    rw [he] at hx
    cases hx
    cases h
    refine ⟨.tuple #[z, .bool false], ?_, rep_tup2 hzr (.bool _)⟩
    simp only [execOp, ho, hv, Sem.run_bind, Instr.typeAssert, run_underlying H.und, Result.andThen_ok]
    cases d <;> first | exact absurd rfl (hd _) | simp [hz]
  · cases h

theorem DW_assert {P : Program} {τ : Tab} (hτ : TabOK P τ) {ops : Array Oper} {cls : Nat → Cls} {Q : AX → AF → Mem → Prop} {ds : List ADef} {l : List Nat} {i : Nat} {o : Oper} {t : List (Nat × AV)} {M : Mem} {d : Nat} (hi : ops[i]? = some o) (hw : wantedA ops ⟨t, ds⟩ o = some true) (hd : o.dst = some d)
    {ags xt : TypeId} {x : Operand} (ho : o.op = .typeAssert x xt ags true) {r : AV} (hr : aassert τ ags (AF.ev ⟨t, ds⟩ x) = some r) (h : DW P ops cls Q ds l ((d, r) :: t) M) : DW P ops cls Q ds (i :: l) t M :=
  DW_ofP hi hw hd (by rw [ho]; exact opP_assert hτ hr) h

/-! ### Deferring -/
theorem WL_defer {P : Program} {n : Nat} {ops : Array Oper} {Q : AX → AF → Mem → Prop} {rest : List Oper} {o : Oper} {f : AF} {M : Mem} (hw : wantedA ops f o = some true) {x : Operand} {ags : Array Operand} {ts : Array TypeId}
    (ho : o.op = .defer { callee := .value x, args := ags, argTypes := ts }) (hd : o.dst = none) {g : FuncId} {fi ca : List AV} (hx : f.ev x = .fn (.func g) fi ca) (kp : List (Nat × AV)) (hk : ∀ p, p ∈ kp → f.get p.1 = p.2)
    (h : WL P n ops Q rest ⟨f.t, { f := .func g, cap := ca, args := fi ++ ags.toList.map f.ev, keep := kp } :: f.d⟩ M) : WL P n ops Q (o :: rest) f M := by
  intro μ F w a hg hr Q' hQ
  unfold wpList
  rw [wanted_of hr hw]
  have hv := hr.ev x
  rw [hx] at hv
  obtain ⟨c1, c2, he, hs1, hs2, h1, h2⟩ := hv.fn_inv
  have hargs : RepL μ F w (ags.toList.map f.ev) (ags.map a.eval) := RepL.map fun y _ => hr.ev y
  refine .inl ?_
  unfold Oper.wp
  have hrun : (execOp a.eval o).run P w = .ok (.defer { target := .fn (.func g) c2, args := c1 ++ ags.map a.eval }) w := by
    simp [execOp, ho, resolve, he, Deferred.ofValue]
  rw [hrun]
  simp only [Oper.upon, hd, Act.put]
  refine h μ F w { a with defers := { target := .fn (.func g) c2, args := c1 ++ ags.map a.eval } :: a.defers } hg ⟨hr.size, hr.tmps, ?_, ?_⟩ Q' hQ
  · show DefRep1 _ _ _ _ _ ∧ DefRep _ _ _ _ _
    exact ⟨⟨⟨c2, rfl, ⟨hs2, h2⟩⟩, RepL.app ⟨hs1, h1⟩ hargs⟩, hr.defs⟩
  intro p hp
  simp only [keepT, List.mem_append] at hp
  rcases hp with hp | hp
  · have := hr.tmps p.1
    rw [hk p hp] at this
    exact this
  · exact hr.kept p hp

/-! ### Deferred calls -/
/-- How a function is while its deferred calls run. -/
inductive AMode where
  | ret
  | pan (x : AV)

def ModeRep (μ : Mu) (F : Frm) (w : World) : AMode → FrameMode → Prop
  | .ret, u => u = .returning
  | .pan x, u => ∃ v, u = .panicking [{ v, recovered := false }] ∧ Rep μ F w x v

theorem ModeRep.run {μ : Mu} {F : Frm} {w : World} {m : AMode} {u : FrameMode} (h : ModeRep μ F w m u) : u ≠ .run := by
  cases m with
  | ret => rw [show u = .returning from h]; simp
  | pan x => obtain ⟨v, rfl, _⟩ := h; simp

/-- A deferred call's contract: it returns. -/
def ACallsD (P : Program) (g : FuncId) (args : List AV) (m : AMode) (M : Mem) (R : AMode → Mem → Prop) : Prop :=
  Enters P g ∧ ∀ (μ : Mu) (F : Frm) (w : World) (vs : Array Value) (u : FrameMode), Gam μ F M w → RepL μ F w args vs → ModeRep μ F w m u →
    CallsD P g vs u w fun e u' w' => (∃ v, e = .returned v) ∧ ∃ μ' M' m', Evo w μ w' μ' ∧ Gam μ' F M' w' ∧ ModeRep μ' F w' m' (settle u') ∧ R m' M'

def ALeaves (P : Program) (τ : Tab) (fn : Func) (f : AF) (R : AEnd → Mem → Prop) : List ADef → AMode → Mem → Prop
  | [], .ret, M => ∃ r, resA τ M f fn.results = some r ∧ R (.ret r) M
  | [], .pan x, M => R (.pan x) M
  | d :: ds, m, M => ∃ g, d.f = .func g ∧ ACallsD P g (d.args ++ d.cap) m M fun m' M' => ALeaves P τ fn f R ds m' M'

def callPost (F : Frm) (μ0 : Mu) (w0 : World) (R : AEnd → Mem → Prop) : Ending → World → Prop := fun e w' => ∃ μ' M', Evo w0 μ0 w' μ' ∧ Gam μ' F M' w' ∧
  match e with
  | .returned v => ∃ x, Rep μ' F w' x v ∧ R (.ret x) M'
  | .panicked ch => ∃ x v, ch = [{ v, recovered := false }] ∧ Rep μ' F w' x v ∧ R (.pan x) M'
  | .outgrown => False

theorem leaves_of {P : Program} {τ : Tab} (hτ : TabOK P τ) {fn : Func} {n : Nat} {t : List (Nat × AV)} {R : AEnd → Mem → Prop} {F : Frm} {μ0 : Mu} {w0 : World} {tmps : Array Value} :
    ∀ (ds : List ADef) (rs : List Deferred) (m : AMode) (M : Mem) (μ : Mu) (w : World) (u : FrameMode), ALeaves P τ fn ⟨t, []⟩ R ds m M → Evo w0 μ0 w μ → Gam μ F M w → RepF μ F w n ⟨t, []⟩ { tmps := tmps, defers := [] } → DefRep μ F w ds rs → ModeRep μ F w m u →
      Leaves P fn tmps (callPost F μ0 w0 R) rs u w
  | [], [], .ret, M, μ, w, u, h, he, hg, hr, _, hm => by
    rw [show u = .returning from hm]
    obtain ⟨r, h1, h2⟩ := h
    obtain ⟨v, hv, hrep⟩ := run_resA (P := P) hτ hg hr h1
    exact ⟨v, hv, μ, M, he, hg, r, hrep, h2⟩
  | [], [], .pan x, M, μ, w, u, h, he, hg, hr, _, hm => by
    obtain ⟨v, rfl, hx⟩ := hm
    exact ⟨μ, M, he, hg, x, v, rfl, hx, h⟩
  | [], _ :: _, _, _, _, _, _, _, _, _, _, hd, _ => hd.elim
  | _ :: _, [], _, _, _, _, _, _, _, _, _, hd, _ => hd.elim
  | d :: ds, r :: rs, m, M, μ, w, u, h, he, hg, hr, hd, hm => by
    obtain ⟨g, hfg, hcall⟩ := h
    obtain ⟨⟨⟨c, h1, h2⟩, h3⟩, hds⟩ := hd
    obtain ⟨tgt, args⟩ := r
    simp only at h1 h3
    subst h1
    rw [hfg]
    have hall : RepL μ F w (d.args ++ d.cap) (args ++ c) := h3.app h2
    refine leaves_cons (f := g) (args := args ++ c) hm.run (by simp [invoke, run_enter hcall.1]) ?_
    refine (hcall.2 μ F w _ u hg hall hm).mono ?_
    rintro e u' w' ⟨⟨v, rfl⟩, μ', M', m', e1, e2, e3, e4⟩
    exact leaves_of hτ ds rs m' M' μ' w' (settle u') e4 (he.trans e1) e2 (hr.evo e1) (hds.evo e1) e3

def fnPostD (P : Program) (τ : Tab) (fn : Func) (R : AEnd → Mem → Prop) : AX → AF → Mem → Prop
  | .normal, f, M | .ret, f, M => ALeaves P τ fn ⟨f.t, []⟩ R f.d .ret M
  | .panic v, f, M => ALeaves P τ fn ⟨f.t, []⟩ R f.d (.pan v) M
  | .exit _, _, _ => False

theorem acalls_of_d {P : Program} {τ : Tab} (hτ : TabOK P τ) {g : FuncId} {fn : Func} {c : Code} (hf : P.funcs[g]? = some fn) (hb : fn.body = some c) (hn : fn.name ≠ "runtime.NumGoroutine") {args : List AV} {M : Mem} {R : AEnd → Mem → Prop}
    (hlen : args.length ≤ fn.ntmps) (h : W P fn.ntmps c (fnPostD P τ fn R) (initF args) M) : ACalls P g args M R := by
  refine ⟨⟨fn, c, hf, hb, hn⟩, fun μ F w vs hg hv => ?_⟩
  refine (calls_of_wp_defers (R := callPost F μ w R) hf hb ?_).mono (fun e w' hp => hp)
  refine wp_mono (h.run μ F w _ hg (initF_rep hlen hv)) ?_
  rintro e a' w' ⟨μ', f', M', x, h1, h2, h3, h4, h5⟩
  have hr : RepF μ' F w' fn.ntmps ⟨f'.t, []⟩ { tmps := a'.tmps, defers := [] } := ⟨h3.size, h3.tmps, trivial, fun p hp => by cases hp⟩
  cases e with
  | normal =>
    cases x <;> first | exact h4.elim | skip
    exact leaves_of hτ _ _ _ _ _ _ _ h5 h1 h2 hr h3.defs rfl
  | exit id => cases x <;> first | exact h4.elim | exact h5.elim
  | goto l => cases x <;> exact h4.elim
  | ret =>
    cases x <;> first | exact h4.elim | skip
    exact leaves_of hτ _ _ _ _ _ _ _ h5 h1 h2 hr h3.defs rfl
  | panic ch =>
    cases x <;> first | exact h4.elim | skip
    obtain ⟨v, rfl, hrep⟩ := h4
    exact leaves_of hτ _ _ _ _ _ _ _ h5 h1 h2 hr h3.defs ⟨v, rfl, hrep⟩
  | outgrown => cases x <;> exact h4.elim
end Go.Ab

/- A deferred function that asks first what is to be recovered. -/
set_option linter.unusedVariables false
set_option linter.unusedSimpArgs false
namespace Go.Ab
open Go.RowKit

theorem opsS_of_upon {P : Program} {ops : Array Oper} {Qs : Exit → Act → List Frame → World → Prop} {o : Oper} {a : Act} {cs : List Frame} {w : World} {rest : List Nat} (h : o.wp P a w (fun a' w' => wpOpsS P ops Qs rest a' cs w') (fun e a' w' => Qs e a' cs w')) :
    (match (execOp a.eval o).run P w with
      | .ok .recover w' => (match recoverD cs with
        | some (v, cs') => wpOpsS P ops Qs rest (a.put o.dst v) cs' w'
        | none => wpOpsS P ops Qs rest (a.put o.dst .nilIface) cs w')
      | r => o.upon P a (fun a' w' => wpOpsS P ops Qs rest a' cs w') (fun e a' w' => Qs e a' cs w') r) := by
  unfold Oper.wp at h
  generalize (execOp a.eval o).run P w = r at h
  split
  · exact h.elim
  · exact h

theorem dwS {P : Program} {n : Nat} {ops : Array Oper} {QA : AX → AF → Mem → Prop} {ds : List ADef} {Qs : Exit → Act → List Frame → World → Prop} (hd : (ops.all fun o => dstOK ds o n) = true) : ∀ (rest : List Oper) (k : Nat) (t : List (Nat × AV)) (M : Mem), (∀ j, rest[j]? = ops[k + j]?) →
    DWr P ops (fun _ => .E) QA ds (List.range' k rest.length) t M → ∀ (μ : Mu) (F : Frm) (w : World) (a : Act) (cs : List Frame), Gam μ F M w → RepF μ F w n ⟨t, ds⟩ a → (∀ e a' w', Post n QA μ F w e a' w' → Qs e a' cs w') →
    wpOpsS P ops Qs (List.range' k rest.length) a cs w
  | [], k, t, M, _, h, μ, F, w, a, cs, hg, hr, hQ => hQ _ _ _ ⟨μ, ⟨t, ds⟩, M, .normal, Evo.refl _ _, hg, hr, trivial, h⟩
  | o :: rest, k, t, M, hl, h, μ, F, w, a, cs, hg, hr, hQ => by
    have h0 : ops[k]? = some o := by simpa using (hl 0).symm
    have hl' : ∀ j, rest[j]? = ops[k + 1 + j]? := fun j => by have := hl (j + 1); simpa [Nat.add_assoc, Nat.add_comm 1 j] using this
    have hdo := dstOK_spec ((Array.all_eq_true_iff_forall_mem.1 hd) o (Array.mem_of_getElem? h0))
    simp only [List.length_cons, List.range'_succ] at h ⊢
    unfold DWr at h
    simp only [h0] at h
    unfold wpOpsS
    simp only [h0]
    split at h
    · rename_i hw
      have hww := wanted_of hr hw
      rw [hww]
      simp only [if_true]
      refine opsS_of_upon (h μ F w a hg (fun y _ => hr.ev y) _ _ ?_ ?_)
      · intro μ' M' w' v u e1 e2 e3 e4
        have hput : AF.put ⟨t, ds⟩ o.dst u = ⟨(AF.put ⟨t, ds⟩ o.dst u).t, ds⟩ := by cases o.dst <;> rfl
        have hrf := (hr.evo e1).put hdo e3
        rw [hput] at hrf
        exact dwS hd rest (k + 1) _ M' hl' e4 μ' F w' _ cs e2 hrf fun e a' w'' hp => hQ _ _ _ (hp.trans e1)
      · intro μ' M' w' v u e1 e2 e3 e4
        exact hQ _ _ _ ⟨μ', ⟨keepT ds, ds⟩, M', .panic u, e1, e2, ⟨(hr.evo e1).size, kept_get (hr.evo e1).kept, (hr.evo e1).defs, (hr.evo e1).kept⟩, ⟨v, rfl, e3⟩, e4⟩
    · rename_i hw
      have hww := wanted_of hr hw
      rw [hww]
      simp only [Bool.false_eq_true, if_false]
      have hput : AF.put ⟨t, ds⟩ o.dst (.tup []) = ⟨(AF.put ⟨t, ds⟩ o.dst (.tup [])).t, ds⟩ := by cases o.dst <;> rfl
      have hrf := hr.put (v := undef) hdo rep_undef
      rw [hput] at hrf
      exact dwS hd rest (k + 1) _ M hl' h μ F w _ cs hg hrf hQ
    · exact h.elim

def AMode.val : AMode → AV
  | .ret => .nilIface
  | .pan x => x

def QD (τ : Tab) (fn : Func) (R : Mem → Prop) : AX → AF → Mem → Prop
  | .normal, f, M | .ret, f, M => f.d = [] ∧ (∃ r, resA τ M f fn.results = some r) ∧ R M
  | _, _, _ => False

theorem acallsD_recover {P : Program} {τ : Tab} (hτ : TabOK P τ) {g : FuncId} {fn : Func} {id : Nat} {ops : Array Oper} {c2 : Code} (hf : P.funcs[g]? = some fn) (hb : fn.body = some (.seq (.region id ops false) c2)) (hn : fn.name ≠ "runtime.NumGoroutine")
    {o0 : Oper} {rest : List Oper} (hops : ops.toList = o0 :: rest) {ags : Array Operand} {ts : Array TypeId} (ho : o0.op = .call { callee := .builtin .recover, args := ags, argTypes := ts }) (hgd : o0.guard = none) {d : Nat} (hdst : o0.dst = some d)
    (hd : (ops.toList.all fun o => dstOK [] o fn.ntmps) = true) {args : List AV} {m : AMode} {M : Mem} {R : Mem → Prop} (hlen : args.length ≤ fn.ntmps)
    (h : DW P ops (fun _ => .E) (thenX (fun f M => W P fn.ntmps c2 (QD τ fn R) f M) (QD τ fn R)) [] (List.range' 1 rest.length) ((d, m.val) :: (initF args).t) M) : ACallsD P g args m M (fun m' M' => m' = .ret ∧ R M') := by
  refine ⟨⟨fn, _, hf, hb, hn⟩, fun μ F w vs u hg hv hm => ?_⟩
  refine callsD_of_wpS hf hb fun c₀ cs hu => ?_
  have hd' : (ops.all fun o => dstOK [] o fn.ntmps) = true := by rw [← Array.all_toList]; exact hd
  have hsz : ops.size = rest.length + 1 := by rw [← Array.length_toList, hops]; rfl
  have h0 : ops[0]? = some o0 := by rw [← Array.getElem?_toList, hops]; rfl
  have hl : ∀ j, rest[j]? = ops[1 + j]? := fun j => by rw [← Array.getElem?_toList, hops, Nat.add_comm]; rfl
  have hdo := dstOK_spec ((Array.all_eq_true_iff_forall_mem.1 hd') o0 (Array.mem_of_getElem? h0))
  refine wpS_seq (wpS_region ?_)
  rw [List.range_eq_range', hsz, List.range'_succ]
  have hini := initF_rep (μ := μ) (F := F) (w := w) (n := fn.ntmps) hlen hv
  generalize hact : ({ tmps := vs ++ Array.replicate (fn.ntmps - vs.size) undef, defers := [] } : Act) = act at hini
  have hrun : (execOp act.eval o0).run P w = .ok .recover w := by
    simp [execOp, ho, resolve, invoke, builtin]
  unfold wpOpsS
  simp only [h0]
  have hw : Region.wanted o0 (yielded ops act.tmps) = true := by simp [Region.wanted, hgd]
  rw [if_pos hw, hrun]
  simp only
  -- what it hands back, and how the caller's frame stands then
  obtain ⟨v, u2, hrec, hrep, hset⟩ : ∃ (v : Value) (u2 : FrameMode), (match recoverD (c₀ :: cs) with
      | some (v', cs') => v' = v ∧ cs' = { c₀ with mode := u2 } :: cs
      | none => v = .nilIface ∧ ({ c₀ with mode := u2 } : Frame) = c₀) ∧ Rep μ F w m.val v ∧ settle u2 = .returning := by
    cases m with
    | ret =>
      have hu' : u = .returning := hm
      refine ⟨.nilIface, .returning, ?_, .nilIface, rfl⟩
      have : c₀.mode = .returning := hu.trans hu'
      simp only [recoverD, this]
      refine ⟨trivial, ?_⟩
      cases c₀
      simp only at this
      subst this
      rfl
    | pan x =>
      obtain ⟨v, rfl, hx⟩ := hm
      refine ⟨v, .panicking [{ v, recovered := true }], ?_, hx, rfl⟩
      simp only [recoverD, hu]
      exact ⟨trivial, trivial⟩
  have fin : ∀ (fr : List Frame), fr = { c₀ with mode := u2 } :: cs → wpOpsS P ops (Exit.thenS (c2.wpS P (bodyPostS P fn c₀ cs fun e u' w' => (∃ v, e = .returned v) ∧ ∃ μ' M' m', Evo w μ w' μ' ∧ Gam μ' F M' w' ∧ ModeRep μ' F w' m' (settle u') ∧ m' = .ret ∧ R M'))
      (bodyPostS P fn c₀ cs fun e u' w' => (∃ v, e = .returned v) ∧ ∃ μ' M' m', Evo w μ w' μ' ∧ Gam μ' F M' w' ∧ ModeRep μ' F w' m' (settle u') ∧ m' = .ret ∧ R M')) (List.range' (0 + 1) rest.length) (act.put o0.dst v) fr w := by
    intro fr hfr
    subst hfr
    have hput : AF.put (initF args) o0.dst m.val = ⟨(d, m.val) :: (initF args).t, []⟩ := by simp [AF.put, hdst, initF]
    have hrf := hini.put hdo hrep
    rw [hput] at hrf
    have last : ∀ (e : Exit) (a' : Act) (w' : World), Post fn.ntmps (QD τ fn R) μ F w e a' w' → bodyPostS P fn c₀ cs (fun e u' w' => (∃ v, e = .returned v) ∧ ∃ μ' M' m', Evo w μ w' μ' ∧ Gam μ' F M' w' ∧ ModeRep μ' F w' m' (settle u') ∧ m' = .ret ∧ R M') e a' ({ c₀ with mode := u2 } :: cs) w' := by
      rintro e a' w' ⟨μ', f', M', x, h1, h2, h3, h4, h5⟩
      cases e with
      | normal =>
        cases x <;> first | exact h4.elim | skip
        obtain ⟨k1, ⟨r, k2⟩, k3⟩ := h5
        obtain ⟨v', hv', _⟩ := run_resA (P := P) hτ h2 h3 k2
        have hdd := h3.defs
        rw [k1] at hdd
        exact ⟨defrep_nil hdd, u2, rfl, v', hv', ⟨v', rfl⟩, μ', M', .ret, h1, h2, hset, rfl, k3⟩
      | ret =>
        cases x <;> first | exact h4.elim | skip
        obtain ⟨k1, ⟨r, k2⟩, k3⟩ := h5
        obtain ⟨v', hv', _⟩ := run_resA (P := P) hτ h2 h3 k2
        have hdd := h3.defs
        rw [k1] at hdd
        exact ⟨defrep_nil hdd, u2, rfl, v', hv', ⟨v', rfl⟩, μ', M', .ret, h1, h2, hset, rfl, k3⟩
      | exit id => cases x <;> first | exact h4.elim | exact h5.elim
      | goto l => cases x <;> exact h4.elim
      | panic ch => cases x <;> first | exact h4.elim | exact h5.elim
      | outgrown => cases x <;> exact h4.elim
    refine dwS hd' rest 1 _ M hl h.run μ F w _ _ hg hrf ?_
    rintro e a' w' ⟨μ', f', M', x, h1, h2, h3, h4, h5⟩
    cases e with
    | normal =>
      cases x <;> first | exact h4.elim | skip
      refine wpS_of_wp (wp_mono (h5.run μ' F w' a' h2 h3) ?_)
      intro e' a'' w'' hp
      exact last e' a'' w'' (hp.trans h1)
    | exit id => cases x <;> first | exact h4.elim | exact h5.elim
    | goto l => cases x <;> exact h4.elim
    | ret =>
      cases x <;> first | exact h4.elim | skip
      exact last .ret a' w' ⟨μ', f', M', .ret, h1, h2, h3, trivial, h5⟩
    | panic ch => cases x <;> first | exact h4.elim | exact h5.elim
    | outgrown => cases x <;> exact h4.elim
  split at hrec
  · rename_i v' cs' hr2
    obtain ⟨rfl, rfl⟩ := hrec
    simp only [hact, hr2]
    exact fin _ rfl
  · rename_i hr2
    obtain ⟨rfl, e⟩ := hrec
    simp only [hact, hr2]
    exact fin _ (by rw [e])
theorem ACallsD.mono {P : Program} {g : FuncId} {args : List AV} {m : AMode} {M : Mem} {R R' : AMode → Mem → Prop} (h : ACallsD P g args m M R) (hr : ∀ m M, R m M → R' m M) : ACallsD P g args m M R' := by
  refine ⟨h.1, fun μ F w vs u hg hv hm => (h.2 μ F w vs u hg hv hm).mono ?_⟩
  rintro e u' w' ⟨h1, μ', M', m', h2, h3, h4, h5⟩
  exact ⟨h1, μ', M', m', h2, h3, h4, hr _ _ h5⟩
theorem ACallsD.le {P : Program} {g : FuncId} {args : List AV} {m : AMode} {M N : Mem} {R : AMode → Mem → Prop} (hM : N.le M) (h : ACallsD P g args m N R) : ACallsD P g args m M R :=
  ⟨h.1, fun μ F w vs u hg hv hm => h.2 μ F w vs u (hg.le hM) hv hm⟩
end Go.Ab

/- Calls of functions that have no text: what the model says of them. -/
set_option linter.unusedVariables false
set_option linter.unusedSimpArgs false
namespace Go.Ab
open Go.RowKit

/-- What a function without text hands back; it leaves the world alone. -/
def AExt (P : Program) (g : FuncId) (args : List AV) (r : AV) : Prop :=
  ∀ (μ : Mu) (F : Frm) (w : World) (vs : Array Value), RepL μ F w args vs → ∃ v, (callFunc g vs).run P w = .ok (.value v) w ∧ Rep μ F w r v

theorem opP_ext_call {P : Program} {x : Operand} {ags : Array Operand} {ts : Array TypeId} {ty : TypeId} {ρ : Operand → AV} {g : FuncId} {r : AV} (hx : ρ x = .fn (.func g) [] []) (h : AExt P g (ags.toList.map ρ) r) :
    OpP P (.call { callee := .value x, args := ags, argTypes := ts }) ty ρ r := by
  refine opP_of_same ?_
  intro μ F w ρc o ho ht hr
  have hv := hr x (by simp [Op.operands, Call.operands])
  rw [hx] at hv
  obtain ⟨c1, c2, he, hs1, hs2, f1, f2⟩ := hv.fn_inv
  have e1 : c1 = #[] := by simpa using hs1
  have e2 : c2 = #[] := by simpa using hs2
  subst e1
  subst e2
  have hargs : RepL μ F w (ags.toList.map ρ) (ags.map ρc) := RepL.map fun y hy => hr y (by simp [Op.operands, Call.operands, hy])
  obtain ⟨v, h1, h2⟩ := h μ F w _ hargs
  refine ⟨v, ?_, h2⟩
  simp [execOp, ho, resolve, he, Deferred.ofValue, invoke, h1]

theorem DW_ext {P : Program} {ops : Array Oper} {cls : Nat → Cls} {Q : AX → AF → Mem → Prop} {ds : List ADef} {l : List Nat} {i : Nat} {o : Oper} {t : List (Nat × AV)} {M : Mem} {d : Nat} (hi : ops[i]? = some o) (hw : wantedA ops ⟨t, ds⟩ o = some true) (hd : o.dst = some d)
    {y : Operand} {ags : Array Operand} {ts : Array TypeId} (ho : o.op = .call { callee := .value y, args := ags, argTypes := ts }) {g : FuncId} (hx : AF.ev ⟨t, ds⟩ y = .fn (.func g) [] []) {x : AV} (hc : AExt P g (ags.toList.map (AF.ev ⟨t, ds⟩)) x)
    (h : DW P ops cls Q ds l ((d, x) :: t) M) : DW P ops cls Q ds (i :: l) t M :=
  DW_ofP hi hw hd (by rw [ho]; exact opP_ext_call hx hc) h

end Go.Ab

/- Slices of own objects: made, measured, indexed, cut; frozen at last. -/
set_option linter.unusedVariables false
set_option linter.unusedSimpArgs false
namespace Go.Ab
open Go.RowKit

theorem gam_osl {μ : Mu} {F : Frm} {M : Mem} {w : World} (hg : Gam μ F M w) {id off n cap sz : Nat} {l : List AV} (hM : M.get id = some (.cells l)) {v : Value} (hr : Rep μ F w (.osl id off n cap sz) v) :
    ∃ b, μ id = some (.at b) ∧ v = .slice (some ⟨b, off, none⟩) n cap := by
  obtain ⟨b, c, ty, h1, h2, h3, h4, h5⟩ := hg.obj id l hM
  cases hr with
  | osl _ _ _ _ _ _ h1' h hv => exact ⟨b, h1, hv b h1⟩

theorem opR_olen {P : Program} {τ : Tab} (hτ : TabOK P τ) {t : TypeId} {ti : TI} (ht : lookup τ t = some ti) {e : TypeId} (hk : ti.k = .slice e) {x : Operand} {ty : TypeId} {ρ : Operand → AV} {M : Mem} {id off n cap sz : Nat} {l : List AV}
    (hx : ρ x = .osl id off n cap sz) (hM : M.get id = some (.cells l)) : OpR P (.call { callee := .builtin .len, args := #[x], argTypes := #[t] }) ty ρ M (.int .i64 n) := by
  intro μ F w ρc o hg ho hty hr
  have h1 := hr x (by simp [Op.operands, Call.operands])
  rw [hx] at h1
  obtain ⟨b, hb, hv⟩ := gam_osl hg hM h1
  obtain ⟨f, d, z, H⟩ := TI.spec hτ ht
  have hf := H.fits
  rw [hk] at hf
  cases d <;> simp [TK.fits] at hf
  have hu := H.und
  exact ⟨_, w, by simp [execOp, ho, resolve, invoke, builtin, Builtin.len_, hv, run_underlying hu, goInt], Below.refl _ _, .int _ _⟩

theorem opR_oindex {P : Program} {τ : Tab} (hτ : TabOK P τ) {t e : TypeId} {ti ei : TI} (ht : lookup τ t = some ti) (hk : ti.k = .slice e) (he : lookup τ e = some ei) {X I : Operand} {ty : TypeId} {ρ : Operand → AV} {M : Mem} {id off n cap sz : Nat} {l : List AV}
    {k : IntKind} {i : Int} (hX : ρ X = .osl id off n cap sz) (hM : M.get id = some (.cells l)) (hI : ρ I = .int k i) (h0 : 0 ≤ i) (hin : i < n) (hsz : sz = ei.size) : OpR P (.indexAddr t X I) ty ρ M (.ptr id (off + i.toNat * sz)) := by
  intro μ F w ρc o hg ho hty hr
  have hx := hr X (by simp [Op.operands])
  have hi := hr I (by simp [Op.operands])
  rw [hX] at hx
  rw [hI] at hi
  obtain ⟨b, hb, hv⟩ := gam_osl hg hM hx
  generalize hvi : ρc I = vi at hi
  cases hi
  obtain ⟨ft, dt, zt, HT⟩ := TI.spec hτ ht
  obtain ⟨fe, de, ze, HE⟩ := TI.spec hτ he
  have hf := HT.fits
  rw [hk] at hf
  have hdd : dt = .slice e := by
    cases dt <;> simp [TK.fits] at hf
    rw [hf]
  subst hdd
  refine ⟨.pointer (some ⟨b, off + i.toNat * sz, none⟩), w, ?_, Below.refl _ _, .ptr _ _ _ rfl (by rw [hb]; simp) (fun b' hb' => by rw [hb] at hb'; cases hb'; rfl)⟩
  simp only [execOp, ho, hv, hvi, Instr.indexAt, asIntOf, Sem.run_bind, Sem.run_pure, Result.andThen_ok, run_underlying HT.und]
  rw [if_pos ⟨h0, by omega⟩]
  simp [run_sizeOf w HE.info, HE.cellsOf, HE.size, hsz, Addr.add_lit]

end Go.Ab
