/- Parts of the proof, one behind the other: TreeM, TreeN, TreeA, TreeB. No further condition. -/
import Derived.Test.YtmgkebghojhocaaGreatDoorQV16
import Derived.Test.YtmgkebghojhocaaGreatDoorQV09
set_option linter.unusedVariables false
set_option linter.unusedSimpArgs false
/- Trees in plain words: rows that rise, trees of even height over them. No further condition. -/
set_option linter.unusedVariables false
set_option linter.unusedSimpArgs false
namespace Go.Proofs.YtmgkebghojhocaaGreatDoor
open Go.Ab
structure Pr where
 key : Ky
 val : Bytes
deriving DecidableEq
def Pr.av (p : Pr) : AV := .agg [.str p.key.path, .int .i64 p.key.time, .str p.val]
theorem rless_irrefl (a : Ky) : rless a a = false := by
 cases h : rless a a
 ·rfl
 ·exact h.symm.trans (rless_asymm h)
theorem rless_lt_le {a b c : Ky} (h1 : rless a b = true) (h2 : rless c b = false) : rless a c = true := by
 by_cases h : b = c
 ·exact h ▸ h1
 ·rcases rless_total h with h3 | h3
  ·exact rless_trans h1 h3
  ·rw [h3] at h2; cases h2
abbrev Rise (l : List Pr) : Prop := l.Pairwise fun a b => rless a.key b.key = true
def putP : List Pr → Pr → List Pr
 | [], p => [p]
 | q :: r, p => if rless q.key p.key = true then q :: putP r p else if q.key = p.key then p :: r else p :: q :: r
def fromP (l : List Pr) (k : Ky) : List Pr := l.dropWhile fun p => rless p.key k
def findP (l : List Pr) (k : Ky) : Nat := (l.takeWhile fun p => rless p.key k).length
theorem putP_mem {l : List Pr} {p x : Pr} (h : x ∈ putP l p) : x = p ∨ x ∈ l := by
 induction l with
 | nil => simpa [putP] using h
 | cons q r ih =>
  simp only [putP] at h
  split at h
  ·rcases List.mem_cons.1 h with h | h
   ·exact .inr (by simp [h])
   ·rcases ih h with h | h
    ·exact .inl h
    ·exact .inr (by simp [h])
  ·split at h
   ·rcases List.mem_cons.1 h with h | h
    ·exact .inl h
    ·exact .inr (by simp [h])
   ·rcases List.mem_cons.1 h with h | h
    ·exact .inl h
    ·exact .inr h
theorem putP_rise {l : List Pr} {p : Pr} (h : Rise l) : Rise (putP l p) := by
 induction l with
 | nil => simp [putP, Rise]
 | cons q r ih =>
  obtain ⟨h1, h2⟩ := List.pairwise_cons.1 h
  simp only [putP]
  split
  ·rename_i hq
   refine List.pairwise_cons.2 ⟨fun x hx => ?_, ih h2⟩
   rcases putP_mem hx with rfl | hx
   ·exact hq
   ·exact h1 x hx
  ·rename_i hq
   split
   ·rename_i he
    refine List.pairwise_cons.2 ⟨fun x hx => ?_, h2⟩
    rw [← he]
    exact h1 x hx
   ·rename_i he
    have hpq : rless p.key q.key = true := (rless_total he).resolve_left hq
    refine List.pairwise_cons.2 ⟨fun x hx => ?_, h⟩
    rcases List.mem_cons.1 hx with rfl | hx
    ·exact hpq
    ·exact rless_trans hpq (h1 x hx)
/-- What is all ahead of a key is passed. -/
theorem putP_ahead {a b : List Pr} {p : Pr} (h : ∀ x, x ∈ a → rless x.key p.key = true) : putP (a ++ b) p = a ++ putP b p := by
 induction a with
 | nil => rfl
 | cons q r ih =>
  show putP (q :: (r ++ b)) p = _
  rw [putP, if_pos (h q (by simp)), ih (fun x hx => h x (by simp [hx]))]
  rfl
theorem fromP_ahead {a b : List Pr} {k : Ky} (h : ∀ x, x ∈ a → rless x.key k = true) : fromP (a ++ b) k = fromP b k := by
 induction a with
 | nil => rfl
 | cons q r ih =>
  unfold fromP at ih ⊢
  rw [List.cons_append, List.dropWhile_cons, if_pos (h q (by simp)), ih (fun x hx => h x (by simp [hx]))]
/-- What is all behind a key is left. -/
theorem putP_behind {a b : List Pr} {p : Pr} (h : ∀ x, x ∈ b → rless p.key x.key = true) : putP (a ++ b) p = putP a p ++ b := by
 induction a with
 | nil =>
  cases b with
  | nil => rfl
  | cons q r =>
   have hq := h q (by simp)
   show putP (q :: r) p = p :: (q :: r)
   rw [putP, if_neg (by rw [rless_asymm hq]; simp), if_neg]
   intro he
   rw [he, rless_irrefl] at hq
   cases hq
 | cons q r ih =>
  show putP (q :: (r ++ b)) p = putP (q :: r) p ++ b
  rw [putP, putP, ih]
  split
  ·rfl
  ·split <;> rfl
theorem fromP_behind {a b : List Pr} {k : Ky} (h : ∀ x, x ∈ b → rless x.key k = false) : fromP (a ++ b) k = fromP a k ++ b := by
 induction a with
 | nil =>
  cases b with
  | nil => rfl
  | cons q r =>
   show fromP (q :: r) k = q :: r
   unfold fromP
   rw [List.dropWhile_cons, if_neg (by rw [h q (by simp)]; simp)]
 | cons q r ih =>
  unfold fromP at ih ⊢
  rw [List.cons_append, List.dropWhile_cons, List.dropWhile_cons, ih]
  split <;> rfl
def Vt : Nat → Type
 | 0 => List Pr
 | h + 1 => List (Vt h)
abbrev Vt.row (l : Vt 0) : List Pr := l
abbrev Vt.kids {h : Nat} (l : Vt (h + 1)) : List (Vt h) := l
def allV : (h : Nat) → Vt h → List Pr
 | 0, l => l
 | h + 1, l => (l.kids.map (allV h)).flatten
abbrev allL (h : Nat) (l : List (Vt h)) : List Pr := (l.map (allV h)).flatten
/-- A vertex below the root. -/
def okN : (h : Nat) → Vt h → Prop
 | 0, l => 2 ≤ l.row.length ∧ l.row.length ≤ 4
 | h + 1, l => 2 ≤ l.kids.length ∧ l.kids.length ≤ 4 ∧ ∀ k, k ∈ l.kids → okN h k
def okR : (h : Nat) → Vt h → Prop
 | 0, l => l.row.length ≤ 4
 | h + 1, l => okN (h + 1) l
def halvesL {α : Type} (l : List α) : List (List α) := if l.length ≤ 4 then [l] else [l.take (l.length / 2), l.drop (l.length / 2)]
def firstV (h : Nat) (v : Vt h) : Ky := ((allV h v).headD ⟨⟨[], 0⟩, []⟩).key
def belowV {h : Nat} (l : List (Vt h)) (k : Ky) : Nat := (l.findIdx fun v => rless k (firstV h v)) - 1
def withL {α : Type} (l : List α) (i many : Nat) (m : List α) : List α := l.take i ++ (m ++ l.drop (i + many))
def putV : (h : Nat) → Vt h → Pr → List (Vt h)
 | 0, l, p => halvesL (putP l.row p)
 | h + 1, l, p => halvesL (withL l.kids (belowV l.kids p.key) 1 (match l.kids[belowV l.kids p.key]? with
  | some kid => putV h kid p
  | none => []))
theorem okN_ne : ∀ (h : Nat) (v : Vt h), okN h v → allV h v ≠ []
 | 0, l, hv => by
  intro he
  have h1 : 2 ≤ l.row.length := hv.1
  have h2 : l.row = [] := he
  rw [h2] at h1
  simp at h1
 | h + 1, l, hv => by
  obtain ⟨h1, h2, h3⟩ := hv
  intro he
  have he' : (l.kids.map (allV h)).flatten = [] := he
  cases hl : l.kids with
  | nil => rw [hl] at h1; simp at h1
  | cons a r =>
   rw [hl] at he'
   simp only [List.map_cons, List.flatten_cons, List.append_eq_nil_iff] at he'
   exact okN_ne h a (h3 a (by rw [hl]; simp)) he'.1
theorem okN_okR {h : Nat} {v : Vt h} (hv : okN h v) : okR h v := by
 cases h with
 | zero => exact hv.2
 | succ h => exact hv
theorem first_mem {h : Nat} {v : Vt h} (hv : okN h v) : ∃ p, p ∈ allV h v ∧ p.key = firstV h v := by
 have := okN_ne h v hv
 unfold firstV
 cases hl : allV h v with
 | nil => exact absurd hl this
 | cons q r => exact ⟨q, by simp, rfl⟩
/-- The first is ahead of no other. -/
theorem first_le {h : Nat} {v : Vt h} (hr : Rise (allV h v)) : ∀ p, p ∈ allV h v → rless p.key (firstV h v) = false := by
 unfold firstV
 cases hl : allV h v with
 | nil => simp
 | cons q r =>
  rw [hl] at hr
  intro p hp
  rcases List.mem_cons.1 hp with rfl | hp
  ·exact rless_irrefl _
  ·exact rless_asymm ((List.pairwise_cons.1 hr).1 p hp)
theorem halves_flat {α : Type} (l : List α) : (halvesL l).flatten = l := by
 unfold halvesL
 split <;> simp
theorem halves_len {α : Type} (l : List α) : (halvesL l).length = if l.length ≤ 4 then 1 else 2 := by
 unfold halvesL
 split <;> rfl
theorem halves_ok {α : Type} {l : List α} (h2 : 2 ≤ l.length) (h8 : l.length ≤ 8) : ∀ x, x ∈ halvesL l → 2 ≤ x.length ∧ x.length ≤ 4 ∧ ∀ y, y ∈ x → y ∈ l := by
 intro x hx
 unfold halvesL at hx
 split at hx
 ·simp at hx; subst hx
  exact ⟨h2, by omega, fun y h => h⟩
 ·simp at hx
  rcases hx with rfl | rfl
  ·exact ⟨by simp; omega, by simp; omega, fun y h => List.mem_of_mem_take h⟩
  ·exact ⟨by simp; omega, by simp; omega, fun y h => List.mem_of_mem_drop h⟩
theorem all_halves0 (l : List Pr) : allL 0 (halvesL l : List (Vt 0)) = l := by
 have : allL 0 (halvesL l : List (Vt 0)) = (halvesL l).flatten := by
  have e : (halvesL l : List (Vt 0)).map (allV 0) = halvesL l := List.map_id (α := List Pr) (halvesL l)
  exact congrArg List.flatten e
 rw [this, halves_flat]
theorem all_halves1 {h : Nat} (l : List (Vt h)) : allL (h + 1) (halvesL l : List (Vt (h + 1))) = allL h l := by
 unfold halvesL
 split
 ·show (allV (h + 1) l :: []).flatten = _
  simp [allV, Vt.kids]
 ·show (allV (h + 1) (l.take (l.length / 2)) :: allV (h + 1) (l.drop (l.length / 2)) :: []).flatten = _
  show (allL h (l.take (l.length / 2))) ++ ((allL h (l.drop (l.length / 2))) ++ []) = _
  unfold allL
  rw [List.append_nil, ← List.flatten_append, ← List.map_append, List.take_append_drop]
theorem allL_app {h : Nat} (a b : List (Vt h)) : allL h (a ++ b) = allL h a ++ allL h b := by simp [allL]
/-- Where a key belongs: kids ahead, the one, kids behind. -/
theorem below_cut {h : Nat} {l : List (Vt h)} (h0 : l ≠ []) (hk : ∀ v, v ∈ l → okN h v) (hr : Rise (allL h l)) (k : Ky) :
  ∃ (a : List (Vt h)) (v : Vt h) (b : List (Vt h)), l = a ++ v :: b ∧ belowV l k = a.length ∧ l[belowV l k]? = some v ∧ (∀ x, x ∈ allL h a → rless x.key k = true) ∧ (∀ x, x ∈ allL h b → rless k x.key = true) := by
 have hlt : belowV l k < l.length := by
  have h1 : (l.findIdx fun v => rless k (firstV h v)) ≤ l.length := List.findIdx_le_length
  have h2 : 0 < l.length := List.length_pos_iff.2 h0
  unfold belowV
  omega
 refine ⟨l.take (belowV l k), l[belowV l k], l.drop (belowV l k + 1), ?_, by simp; omega, List.getElem?_eq_getElem hlt, ?_, ?_⟩
 ·have := List.take_append_drop (belowV l k) l
  rw [List.drop_eq_getElem_cons hlt] at this
  exact this.symm
 ·intro x hx
  by_cases h0' : belowV l k = 0
  ·rw [h0'] at hx
   simp [allL] at hx
  ·-- the one is not behind k: all ahead of it are ahead of k
   have hi : belowV l k < (l.findIdx fun v => rless k (firstV h v)) := by unfold belowV at h0' ⊢; omega
   have hnot := List.not_of_lt_findIdx hi
   have hv := hk l[belowV l k] (List.getElem_mem hlt)
   obtain ⟨q, hq, hqk⟩ := first_mem hv
   have hl : allL h l = allL h (l.take (belowV l k)) ++ (allV h l[belowV l k] ++ allL h (l.drop (belowV l k + 1))) := by
    have e : l = l.take (belowV l k) ++ ([l[belowV l k]] ++ l.drop (belowV l k + 1)) := by
     have := List.take_append_drop (belowV l k) l
     rw [List.drop_eq_getElem_cons hlt] at this
     exact this.symm
    conv => lhs; rw [e]
    rw [allL_app, allL_app]
    simp [allL]
   rw [hl] at hr
   have h3 := (List.pairwise_append.1 hr).2.2 x hx q (by simp [hq])
   rw [hqk] at h3
   have h4 : rless k (firstV h l[belowV l k]) = false := by simpa using hnot
   exact rless_lt_le h3 h4
 ·intro x hx
  by_cases h1 : (l.findIdx fun v => rless k (firstV h v)) < l.length
  ·have h2 := List.findIdx_getElem (w := h1)
   generalize hj : (l.findIdx fun v => rless k (firstV h v)) = j at h1 h2
   have hv := hk l[j] (List.getElem_mem h1)
   -- x lies in the kids from j on
   have hge : j ≤ belowV l k + 1 := by unfold belowV; omega
   have hx' : x ∈ allL h (l.drop j) := by
    unfold allL at hx ⊢
    simp only [List.mem_flatten, List.mem_map] at hx ⊢
    obtain ⟨r, ⟨v, hv1, rfl⟩, hv2⟩ := hx
    refine ⟨_, ⟨v, ?_, rfl⟩, hv2⟩
    have : l.drop (belowV l k + 1) = (l.drop j).drop (belowV l k + 1 - j) := by
     rw [List.drop_drop]; congr 1; omega
    rw [this] at hv1
    exact List.mem_of_mem_drop hv1
   have hd : l.drop j = l[j] :: l.drop (j + 1) := List.drop_eq_getElem_cons h1
   rw [hd] at hx'
   have hr2 : Rise (allL h (l[j] :: l.drop (j + 1))) := by
    rw [← hd]
    have e : allL h l = allL h (l.take j) ++ allL h (l.drop j) := by rw [← allL_app, List.take_append_drop]
    rw [e] at hr
    exact (List.pairwise_append.1 hr).2.1
   have e2 : allL h (l[j] :: l.drop (j + 1)) = allV h l[j] ++ allL h (l.drop (j + 1)) := by unfold allL; rw [List.map_cons, List.flatten_cons]
   rw [e2] at hr2 hx'
   rcases List.mem_append.1 hx' with hx' | hx'
   ·exact rless_lt_le h2 (first_le (List.pairwise_append.1 hr2).1 x hx')
   ·obtain ⟨q, hq, hqk⟩ := first_mem hv
    have h3 := (List.pairwise_append.1 hr2).2.2 q hq x hx'
    rw [hqk] at h3
    exact rless_trans h2 h3
  ·exfalso
   have h1' : (l.findIdx fun v => rless k (firstV h v)) = l.length := by
    have : (l.findIdx fun v => rless k (firstV h v)) ≤ l.length := List.findIdx_le_length
    omega
   have h2 : 0 < l.length := List.length_pos_iff.2 h0
   have : l.drop (belowV l k + 1) = [] := by
    rw [List.drop_eq_nil_iff]
    unfold belowV
    omega
   rw [this] at hx
   simp [allL] at hx
theorem with_at {α : Type} {a b m : List α} {x : α} : withL (a ++ x :: b) a.length 1 m = a ++ (m ++ b) := by
 unfold withL
 rw [List.take_left, List.drop_append]
 simp
theorem allL_cons {h : Nat} (v : Vt h) (b : List (Vt h)) : allL h (v :: b) = allV h v ++ allL h b := by unfold allL; rw [List.map_cons, List.flatten_cons]
theorem allL_one {h : Nat} (v : Vt h) : allL h [v] = allV h v := by unfold allL; simp
theorem rise_mid {a b c : List Pr} (h : Rise (a ++ (b ++ c))) : Rise b := (List.pairwise_append.1 (List.pairwise_append.1 h).2.1).1
theorem put_all : ∀ (h : Nat) (v : Vt h) (p : Pr), okR h v → Rise (allV h v) → allL h (putV h v p) = putP (allV h v) p ∧ (putV h v p).length ≤ 2 ∧ 1 ≤ (putV h v p).length
 | 0, l, p, hv, hr => by
  refine ⟨all_halves0 _, ?_, ?_⟩
  ·show (halvesL (putP l.row p)).length ≤ 2
   rw [halves_len]; split <;> omega
  ·show 1 ≤ (halvesL (putP l.row p)).length
   rw [halves_len]; split <;> omega
 | h + 1, l, p, hv, hr => by
  obtain ⟨h1, h2, h3⟩ := hv
  have h0 : l.kids ≠ [] := by intro he; rw [he] at h1; simp at h1
  obtain ⟨a, v, b, e1, e2, e3, e4, e5⟩ := below_cut h0 h3 hr p.key
  have hv : okN h v := h3 v (by rw [e1]; simp)
  have hall : allV (h + 1) l = allL h a ++ (allV h v ++ allL h b) := by
   show allL h l.kids = _
   rw [e1, allL_app, allL_cons]
  have hrv : Rise (allV h v) := by
   rw [hall] at hr
   exact rise_mid hr
  obtain ⟨i1, _, _⟩ := put_all h v p (okN_okR hv) hrv
  have hp : putV (h + 1) l p = (halvesL (a ++ (putV h v p ++ b)) : List (List (Vt h))) := by
   show halvesL (withL l.kids (belowV l.kids p.key) 1 (match l.kids[belowV l.kids p.key]? with
    | some kid => putV h kid p
    | none => [])) = _
   rw [e3, e2]
   congr 1
   simp only
   have : withL l.kids a.length 1 (putV h v p) = withL (a ++ v :: b) a.length 1 (putV h v p) := by rw [← e1]
   rw [this, with_at]
  refine ⟨?_, ?_, ?_⟩
  ·rw [hp]
   refine (all_halves1 _).trans ?_
   rw [allL_app, allL_app, i1, hall, putP_ahead e4, putP_behind e5]
  ·rw [hp]
   show (halvesL _).length ≤ 2
   rw [halves_len]; split <;> omega
  ·rw [hp]
   show 1 ≤ (halvesL _).length
   rw [halves_len]; split <;> omega
end Go.Proofs.YtmgkebghojhocaaGreatDoor
/- Trees in plain words: what a put, a drop and a walk from a key leave. No further condition. -/
set_option linter.unusedVariables false
set_option linter.unusedSimpArgs false
namespace Go.Proofs.YtmgkebghojhocaaGreatDoor
open Go.Ab
theorem putP_len (l : List Pr) (p : Pr) : l.length ≤ (putP l p).length ∧ (putP l p).length ≤ l.length + 1 ∧ 1 ≤ (putP l p).length := by
 induction l with
 | nil => simp [putP]
 | cons q r ih =>
  simp only [putP]
  split
  ·simp; omega
  ·split <;> simp
theorem putV_cut {h : Nat} {l : Vt (h + 1)} {p : Pr} (hv : okN (h + 1) l) (hr : Rise (allV (h + 1) l)) :
  ∃ (a : List (Vt h)) (v : Vt h) (b : List (Vt h)), l.kids = a ++ v :: b ∧ okN h v ∧ Rise (allV h v) ∧ belowV l.kids p.key = a.length ∧ putV (h + 1) l p = (halvesL (a ++ (putV h v p ++ b)) : List (List (Vt h))) := by
 obtain ⟨h1, h2, h3⟩ := hv
 have h0 : l.kids ≠ [] := by intro he; rw [he] at h1; simp at h1
 obtain ⟨a, v, b, e1, e2, e3, e4, e5⟩ := below_cut h0 h3 hr p.key
 have hv : okN h v := h3 v (by rw [e1]; simp)
 have hall : allV (h + 1) l = allL h a ++ (allV h v ++ allL h b) := by
  show allL h l.kids = _
  rw [e1, allL_app, allL_cons]
 refine ⟨a, v, b, e1, hv, ?_, e2, ?_⟩
 ·rw [hall] at hr
  exact rise_mid hr
 ·show halvesL (withL l.kids (belowV l.kids p.key) 1 (match l.kids[belowV l.kids p.key]? with
   | some kid => putV h kid p
   | none => [])) = _
  rw [e3, e2]
  congr 1
  simp only
  have : withL l.kids a.length 1 (putV h v p) = withL (a ++ v :: b) a.length 1 (putV h v p) := by rw [← e1]
  rw [this, with_at]
theorem put_okN : ∀ (h : Nat) (v : Vt h) (p : Pr), okN h v → Rise (allV h v) → ∀ x, x ∈ putV h v p → okN h x
 | 0, l, p, hv, hr => by
  intro x hx
  have hx' : x.row ∈ halvesL (putP l.row p) := hx
  have h1 : 2 ≤ l.row.length := hv.1
  have h2 : l.row.length ≤ 4 := hv.2
  have h3 := putP_len l.row p
  have h4 := halves_ok (by omega) (by omega) x.row hx'
  exact ⟨h4.1, h4.2.1⟩
 | h + 1, l, p, hv, hr => by
  intro x hx
  obtain ⟨a, v, b, e1, e2, e3, _, e4⟩ := putV_cut (p := p) hv hr
  rw [e4] at hx
  have hx' : x.kids ∈ halvesL (a ++ (putV h v p ++ b)) := hx
  obtain ⟨h1, h2, h3⟩ := hv
  rw [e1] at h1 h2
  simp at h1 h2
  have h5 := put_all h v p (okN_okR e2) e3
  have h4 := halves_ok (l := a ++ (putV h v p ++ b)) (by simp; omega) (by simp; omega) x.kids hx'
  refine ⟨h4.1, h4.2.1, fun k hk => ?_⟩
  rcases List.mem_append.1 (h4.2.2 k hk) with h6 | h6
  ·exact h3 k (by rw [e1]; simp [h6])
  ·rcases List.mem_append.1 h6 with h6 | h6
   ·exact put_okN h v p e2 e3 k h6
   ·exact h3 k (by rw [e1]; simp [h6])
theorem put_root {h : Nat} {v : Vt h} {p : Pr} (hv : okR h v) (hr : Rise (allV h v)) :
  (∃ x, putV h v p = [x] ∧ okR h x ∧ allV h x = putP (allV h v) p) ∨ (∃ x y, putV h v p = [x, y] ∧ okN h x ∧ okN h y ∧ allV h x ++ allV h y = putP (allV h v) p) := by
 obtain ⟨h1, h2, h3⟩ := put_all h v p hv hr
 have hok : ∀ x y, putV h v p = [x, y] → okN h x ∧ okN h y := by
  intro x y he
  cases h with
  | zero =>
   have he' : halvesL (putP v.row p) = [x.row, y.row] := he
   have h4 := putP_len v.row p
   have h5 : v.row.length ≤ 4 := hv
   unfold halvesL at he'
   split at he'
   ·simp at he'
   ·rename_i h6
    simp at he'
    obtain ⟨e1, e2⟩ := he'
    have l1 : x.row.length = (putP v.row p).length / 2 := by rw [← e1]; simp; omega
    have l2 : y.row.length = (putP v.row p).length - (putP v.row p).length / 2 := by rw [← e2]; simp
    exact ⟨⟨by show 2 ≤ x.row.length; omega, by show x.row.length ≤ 4; omega⟩, ⟨by show 2 ≤ y.row.length; omega, by show y.row.length ≤ 4; omega⟩⟩
  | succ h =>
   have := put_okN (h + 1) v p hv hr
   exact ⟨this x (by rw [he]; simp), this y (by rw [he]; simp)⟩
 have hone : ∀ x, putV h v p = [x] → okR h x := by
  intro x he
  cases h with
  | zero =>
   have he' : halvesL (putP v.row p) = [x.row] := he
   unfold halvesL at he'
   split at he'
   ·rename_i h6
    simp at he'
    show x.row.length ≤ 4
    rw [← he']; exact h6
   ·simp at he'
  | succ h => exact put_okN (h + 1) v p hv hr x (by rw [he]; simp)
 cases hp : putV h v p with
 | nil => rw [hp] at h3; simp at h3
 | cons x r =>
  cases r with
  | nil =>
   rw [hp] at h1
   exact .inl ⟨x, rfl, hone x hp, by simpa [allL] using h1⟩
  | cons y s =>
   cases s with
   | nil =>
    rw [hp] at h1
    exact .inr ⟨x, y, rfl, (hok x y hp).1, (hok x y hp).2, by simpa [allL] using h1⟩
   | cons z s => rw [hp] at h2; simp at h2
def takeF (out : List Pr) (n : Nat) (l : List Pr) : List Pr := out ++ l.take (n - out.length)
theorem takeF_app (out : List Pr) (n : Nat) (a b : List Pr) : takeF (takeF out n a) n b = takeF out n (a ++ b) := by
 unfold takeF
 rw [List.append_assoc, List.take_append]
 congr 3
 simp
 omega
theorem takeF_full {out : List Pr} {n : Nat} (h : n ≤ out.length) (l : List Pr) : takeF out n l = out := by
 unfold takeF
 rw [Nat.sub_eq_zero_of_le h]
 simp
theorem fromP_cut (l : List Pr) (k : Ky) : fromP l k = l.drop (findP l k) := by
 induction l with
 | nil => rfl
 | cons q r ih =>
  unfold fromP findP at ih ⊢
  rw [List.dropWhile_cons, List.takeWhile_cons]
  split
  ·rw [ih]; simp
  ·simp
end Go.Proofs.YtmgkebghojhocaaGreatDoor
/- Rows of pairs: a key's place is found, a pair is put. No further condition. -/
set_option linter.unusedVariables false
set_option linter.unusedSimpArgs false
namespace Go.Proofs.YtmgkebghojhocaaGreatDoor
open Go.Ab
theorem closed_pr (p : Pr) : Closed p.av := closed_agg (closed3 closed_str closed_int closed_str)
theorem closed_prs (l : List Pr) : Closed (.sl 3 (l.map Pr.av) .none) := by
 refine closed_slmap (fun a => closed_pr a) ?_
 intro a c hc
 have : c ∈ [AV.str a.key.path, .int .i64 a.key.time, .str a.val] := hc
 exact closed3 closed_str closed_int closed_str c this
/-- The first at which something holds, or -1. -/
def idxI {α : Type} (l : List α) (p : α → Bool) : Int := if l.findIdx p < l.length then (l.findIdx p : Int) else -1
theorem idx_none {α : Type} {l : List α} {p : α → Bool} (h : ∀ (j : Nat) x, l[j]? = some x → p x = false) : idxI l p = -1 := by
 unfold idxI
 rw [if_neg]
 intro hl
 have h1 := List.findIdx_getElem (w := hl)
 rw [h _ _ (List.getElem?_eq_getElem hl)] at h1
 cases h1
theorem idx_hit {α : Type} {l : List α} {p : α → Bool} {i : Nat} {x : α} (h : ∀ (j : Nat) y, j < i → l[j]? = some y → p y = false) (hx : l[i]? = some x) (hp : p x = true) : idxI l p = i := by
 obtain ⟨hi, rfl⟩ := List.getElem?_eq_some_iff.1 hx
 have h1 : l.findIdx p = i := by
  rw [List.findIdx_eq hi]
  refine ⟨hp, fun j hj => ?_⟩
  have := h j l[j] hj (List.getElem?_eq_getElem (by omega))
  simpa using this
 unfold idxI
 rw [h1, if_pos hi]
set_option maxRecDepth 100000 in
theorem indexP_ok (l : List Pr) (tg : Tag) (hl : l.length < 1000000) (g : FuncId) (fi ca : List AV) (p : Pr → Bool) (hp : ∀ x, x ∈ l → APure Tryz.prog g (fi ++ [x.av] ++ ca) (.bool (p x))) : APure Tryz.prog 242 [.sl 3 (l.map Pr.av) tg, .fn (.func g) fi ca] (.int .i64 (idxI l p)) := by
 intro M
 refine acalls_of tabOK Tryz.func242 rfl (by decide) (by simp [Tryz.f242]) ?_
 have la : ((l.map Pr.av).length : Int) = (l.length : Int) := by simp
 repeat' (first | refine DW_VI tabs rfl la ?_ | refine DW_A tabs rfl ?_ | refine DW_nil ?_ | refine W_A rfl ?_)
 refine W_count l.length (fun i f N => N = M ∧ (∀ (j : Nat) y, j < i → l[j]? = some y → p y = false) ∧ f = ⟨[(0, .sl 3 (l.map Pr.av) tg), (1, .fn (.func g) fi ca), (7, .int .i64 (l.length : Int)), (8, .int .i64 (i : Int))], []⟩) (Nat.zero_le _) ⟨rfl, fun j y hj => absurd hj (Nat.not_lt_zero _), rfl⟩ (Joint.le ?_ (Mem.le_refl _)) ?_
 ·skip
  repeat (refine AF.le_cons rfl ?_)
  exact AF.le_nil rfl
 ·rintro i f N hi ⟨rfl, hno, rfl⟩
  by_cases h1 : i < l.length
  ·have d1 : decide ((i : Int) < (l.length : Int)) = true := by simp; omega
   have hx : l[i]? = some l[i] := List.getElem?_eq_getElem h1
   have fi := wrap_succ (i := i) (by omega)
   have hk := hp l[i] (List.getElem_mem h1)
   generalize l[i] = x at hx hk
   cases hpx : p x
   ·rw [hpx] at hk
    repeat' (first | refine DW_VB tabs rfl d1 ?_ | refine DW_VI tabs rfl (by first | exact fi | exact la) ?_ | refine DW_A tabs rfl ?_ | refine DW_nil ?_ | refine W_A rfl ?_)
    refine DW_ix tabOK rfl (ixN hx) ?_
    repeat' (first | refine DW_VB tabs rfl d1 ?_ | refine DW_VI tabs rfl (by first | exact fi | exact la) ?_ | refine DW_A tabs rfl ?_ | refine DW_nil ?_ | refine W_A rfl ?_ | refine DW_C rfl hk ?_)
    refine ⟨h1, _, _, ⟨rfl, ?_, rfl⟩, Joint.le ?_ (Mem.le_refl _)⟩
    ·intro j y hj hy
     by_cases hji : j = i
     ·subst hji
      rw [hx] at hy
      cases hy
      exact hpx
     ·exact hno j y (by omega) hy
    ·skip
     repeat (refine AF.le_cons rfl ?_)
     exact AF.le_nil rfl
   ·rw [hpx] at hk
    repeat' (first | refine DW_VB tabs rfl d1 ?_ | refine DW_VI tabs rfl (by first | exact fi | exact la) ?_ | refine DW_A tabs rfl ?_ | refine DW_nil ?_ | refine W_A rfl ?_)
    refine DW_ix tabOK rfl (ixN hx) ?_
    repeat' (first | refine DW_VB tabs rfl d1 ?_ | refine DW_VI tabs rfl (by first | exact fi | exact la) ?_ | refine DW_A tabs rfl ?_ | refine DW_nil ?_ | refine W_A rfl ?_ | refine DW_C rfl hk ?_)
    exact ⟨rfl, _, rfl, by rw [idx_hit hno hx hpx]; rfl, rfl⟩
  ·have d1 : decide ((i : Int) < (l.length : Int)) = false := by simp; omega
   obtain rfl : i = l.length := by omega
   repeat' (first | refine DW_VB tabs rfl d1 ?_ | refine DW_A tabs rfl ?_ | refine DW_nil ?_ | refine W_A rfl ?_)
   exact ⟨rfl, _, rfl, by rw [idx_none (fun j y hy => hno j y (List.getElem?_eq_some_iff.1 hy).1 hy)]; rfl, rfl⟩
set_option maxRecDepth 100000 in
theorem behind_ok (x : Pr) (k : Ky) : APure Tryz.prog 241 [x.av, .ref [.str k.path, .int .i64 k.time]] (.bool (!rless x.key k)) := by
 intro M
 refine acalls_of tabOK Tryz.func241 rfl (by decide) (by simp [Tryz.f241]) ?_
 have kl := less_ok x.key k
 rw [toS_neg] at kl
 repeat' (first | refine DW_A tabs rfl ?_ | refine DW_nil ?_ | refine W_A rfl ?_ | refine DW_C rfl kl ?_)
 exact ⟨rfl, _, rfl, rfl, rfl⟩
theorem find_idx (l : List Pr) (k : Ky) : (l.findIdx fun x => !rless x.key k) = findP l k := by
 induction l with
 | nil => rfl
 | cons q r ih =>
  unfold findP at ih ⊢
  rw [List.findIdx_cons, List.takeWhile_cons]
  cases h : rless q.key k
  ·simp
  ·simp [ih]
theorem findP_le (l : List Pr) (k : Ky) : findP l k ≤ l.length := by
 unfold findP
 exact (List.takeWhile_sublist _).length_le
def hasP (l : List Pr) (k : Ky) : Bool := match l[findP l k]? with
 | some q => decide (q.key = k)
 | none => false
theorem key_eqB (a b : Ky) : ((a.path == b.path) && ((decide (a.time = b.time)) && true)) = decide (a = b) := by
 obtain ⟨p, t⟩ := a
 obtain ⟨q, u⟩ := b
 rw [Bool.eq_iff_iff]
 simp
set_option maxRecDepth 100000 in
theorem nFind_ok (l : List Pr) (tg : Tag) (hl : l.length < 1000000) (k : Ky) : APure Tryz.prog 237 [.sl 3 (l.map Pr.av) tg, k.av] (.tup [.int .i64 (findP l k), .bool (hasP l k)]) := by
 intro M
 refine acalls_of tabOK Tryz.func237 rfl (by decide) (by simp [Tryz.f237]) ?_
 have kf := indexP_ok l tg hl 241 [] [.ref [.str k.path, .int .i64 k.time]] (fun x => !rless x.key k) (fun x _ => behind_ok x k)
 have la : ((l.map Pr.av).length : Int) = (l.length : Int) := by simp
 have hle := findP_le l k
 unfold idxI at kf
 rw [find_idx] at kf
 unfold hasP
 by_cases h1 : findP l k < l.length
 ·rw [if_pos h1] at kf
  have hx : l[findP l k]? = some l[findP l k] := List.getElem?_eq_getElem h1
  generalize l[findP l k] = q at hx
  generalize findP l k = n at kf hx h1 hle
  rw [hx]
  have d1 : decide ((n : Int) < 0) = false := by simp
  have ce := key_eqB q.key k
  repeat' (first | refine DW_VB tabs rfl d1 ?_ | refine DW_VI tabs rfl la ?_ | refine DW_A tabs rfl ?_ | refine DW_nil ?_ | refine W_A rfl ?_ | refine DW_C rfl kf ?_ | refine W_draw mixed [0, 1, 2, 8, 3, 4, 5, 6, 7, 9] [.P, .P, .P, .R, .R, .R, .R, .P, .P, .P] rfl rfl (by kernel_rfl) ?_)
  refine DW_ix tabOK rfl (ixN hx) ?_
  repeat' (first | refine DW_VB tabs rfl ce ?_ | refine DW_A tabs rfl ?_ | refine DW_nil ?_ | refine W_A rfl ?_ | refine W_draw mixed [0, 1, 2, 8, 3, 4, 5, 6, 7, 9] [.P, .P, .P, .R, .R, .R, .R, .P, .P, .P] rfl rfl (by kernel_rfl) ?_)
  exact ⟨rfl, _, rfl, rfl, rfl⟩
 ·rw [if_neg h1] at kf
  have h2 : findP l k = l.length := by omega
  rw [h2, List.getElem?_eq_none (Nat.le_refl _)]
  repeat' (first | refine DW_VI tabs rfl la ?_ | refine DW_A tabs rfl ?_ | refine DW_nil ?_ | refine W_A rfl ?_ | refine DW_C rfl kf ?_ | refine W_draw mixed [0, 1, 2, 8, 3, 4, 5, 6, 7, 9] [.P, .P, .P, .R, .R, .R, .R, .P, .P, .P] rfl rfl (by kernel_rfl) ?_)
  exact ⟨rfl, _, rfl, rfl, rfl⟩
def tgB (b : Bool) : Tag := if b = true then .full else .none
def rowA (r : List Pr × Bool) : AV := .sl 3 (r.1.map Pr.av) (tgB r.2)
theorem closed_row (r : List Pr × Bool) : Closed (rowA r) := by
 obtain ⟨l, b⟩ := r
 have h1 : ∀ x, x ∈ l.map Pr.av → Closed x := by
  intro x hx
  obtain ⟨a, _, rfl⟩ := List.mem_map.1 hx
  exact closed_pr a
 have h2 : ∀ x, x ∈ l.map Pr.av → ∀ c, c ∈ x.cells → Closed c := by
  intro x hx c hc
  obtain ⟨a, _, rfl⟩ := List.mem_map.1 hx
  have : c ∈ [AV.str a.key.path, .int .i64 a.key.time, .str a.val] := hc
  exact closed3 closed_str closed_int closed_str c this
 cases b
 ·exact closed_sl (.inl rfl) h1 h2
 ·exact closed_sl (.inr rfl) h1 h2
theorem closed_rows (rows : List (List Pr × Bool)) (b : Bool) : Closed (.sl 1 (rows.map rowA) (tgB b)) := by
 have h1 : ∀ x, x ∈ rows.map rowA → Closed x := by
  intro x hx
  obtain ⟨a, _, rfl⟩ := List.mem_map.1 hx
  exact closed_row a
 have h2 : ∀ x, x ∈ rows.map rowA → ∀ c, c ∈ x.cells → Closed c := by
  intro x hx c hc
  obtain ⟨a, _, rfl⟩ := List.mem_map.1 hx
  have : c = rowA a := by simpa [rowA, AV.cells] using hc
  exact this ▸ closed_row a
 cases b
 ·exact closed_sl (.inl rfl) h1 h2
 ·exact closed_sl (.inr rfl) h1 h2
def flatR (rows : List (List Pr × Bool)) : List Pr := (rows.map (·.1)).flatten
theorem flatR_succ {rows : List (List Pr × Bool)} {i : Nat} {r : List Pr × Bool} (h : rows[i]? = some r) : flatR (rows.take (i + 1)) = flatR (rows.take i) ++ r.1 := by
 unfold flatR
 rw [take_succ h]
 simp
theorem prs_app {a b : List Pr} {t : Tag} : AV.sl 3 (a.map Pr.av ++ b.map Pr.av) t = .sl 3 ((a ++ b).map Pr.av) t := by simp
theorem flatR_len {n : Nat} : ∀ (rows : List (List Pr × Bool)), (∀ r, r ∈ rows → r.1.length ≤ n) → (flatR rows).length ≤ rows.length * n
 | [], _ => by simp [flatR]
 | r :: s, h => by
  have ih := flatR_len s (fun x hx => h x (by simp [hx]))
  have h1 := h r (by simp)
  unfold flatR at ih ⊢
  rw [List.map_cons, List.flatten_cons, List.length_append, List.length_cons, Nat.succ_mul]
  omega
set_option maxRecDepth 100000 in
theorem joinedP_ok (rows : List (List Pr × Bool)) (b : Bool) (hr : rows.length < 1000) (hl : ∀ r, r ∈ rows → r.1.length ≤ 100000) : APure Tryz.prog 240 [.sl 1 (rows.map rowA) (tgB b)] (.sl 3 ((flatR rows).map Pr.av) .none) := by
 refine pure_sub (closed1 (closed_rows rows b)) (closed_prs _) ?_
 refine acalls_of tabOK Tryz.func240 rfl (by decide) (by simp [Tryz.f240]) ?_
 have la : ((rows.map rowA).length : Int) = (rows.length : Int) := by simp
 repeat' (first | refine DW_VI tabs rfl la ?_ | refine DW_A tabs rfl ?_ | refine DW_nil ?_ | refine W_A rfl ?_ | refine DW_app tabOK rfl rfl (by simp; omega) (by simp; omega) ?_ | refine DW_app0 tabOK rfl (by simp; omega) (by simp; omega) ?_)
 refine W_count rows.length (fun i f N => ∃ (g : Nat), N = tokM g ∧ f = ⟨[(3, .sl 3 ((flatR (rows.take i)).map Pr.av) (.tok 0 g)), (6, .sl 1 (rows.map rowA) (tgB b)), (7, .int .i64 (rows.length : Int)), (8, .int .i64 (i : Int))], []⟩) (Nat.zero_le _) ⟨0, rfl, rfl⟩
  ((Joint.tok 3 rfl (sz' := 3) (.inr rfl)).trans (Joint.le ?_ (tokM_of rfl rfl))) ?_
 ·skip
  repeat (refine AF.le_cons rfl ?_)
  exact AF.le_nil rfl
 ·rintro i f N hi ⟨g, rfl, rfl⟩
  by_cases h1 : i < rows.length
  ·have d1 : decide ((i : Int) < (rows.length : Int)) = true := by simp; omega
   have hx : rows[i]? = some rows[i] := List.getElem?_eq_getElem h1
   have fi := wrap_succ (i := i) (by omega)
   have hfl := flatR_len (rows.take i) (fun r hr => hl r (List.mem_of_mem_take hr))
   have htl : (rows.take i).length ≤ 1000 := by simp; omega
   have hml : (flatR (rows.take i)).length ≤ 1000 * 100000 := Nat.le_trans hfl (Nat.mul_le_mul_right _ htl)
   have hri := hl rows[i] (List.getElem_mem h1)
   have hs := flatR_succ hx
   generalize rows[i] = r at hx hri hs
   repeat' (first | refine DW_VB tabs rfl d1 ?_ | refine DW_VI tabs rfl (by first | exact fi | exact la) ?_ | refine DW_A tabs rfl ?_ | refine DW_nil ?_ | refine W_A rfl ?_ | refine DW_app tabOK rfl rfl (by simp; omega) (by simp; omega) ?_ | refine DW_app0 tabOK rfl (by simp; omega) (by simp; omega) ?_)
   refine DW_ix tabOK rfl (ixN hx) ?_
   repeat' (first | refine DW_VI tabs rfl (by first | exact fi | exact la) ?_ | refine DW_A tabs rfl ?_ | refine DW_nil ?_ | refine W_A rfl ?_ | refine DW_app tabOK rfl rfl (by simp; omega) (by simp; omega) ?_ | refine DW_app0 tabOK rfl (by simp; omega) (by simp; omega) ?_)
   refine ⟨h1, _, _, ⟨g + 1, rfl, rfl⟩, Joint.le (AF.le_cons ?_ (AF.le_cons rfl (AF.le_cons rfl (AF.le_cons rfl (AF.le_nil rfl))))) (tokM_of rfl rfl)⟩
   rw [hs]
   exact prs_app
  ·have d1 : decide ((i : Int) < (rows.length : Int)) = false := by simp; omega
   obtain rfl : i = rows.length := by omega
   repeat' (first | refine DW_VB tabs rfl d1 ?_ | refine DW_A tabs rfl ?_ | refine DW_nil ?_ | refine W_A rfl ?_ | refine DW_app tabOK rfl rfl (by simp; omega) (by simp; omega) ?_ | refine DW_app0 tabOK rfl (by simp; omega) (by simp; omega) ?_)
   rw [List.take_length]
   exact ⟨rfl, _, rfl, _, rfl, SubC.untag (closed_prs _)⟩
end Go.Proofs.YtmgkebghojhocaaGreatDoor
/- Rows of pairs: a pair is put, a row is halved; leaves are made. No further condition. -/
set_option linter.unusedVariables false
set_option linter.unusedSimpArgs false
namespace Go.Proofs.YtmgkebghojhocaaGreatDoor
open Go.Ab
theorem putP_cut (l : List Pr) (p : Pr) : putP l p = l.take (findP l p.key) ++ ([p] ++ if hasP l p.key = true then l.drop (findP l p.key + 1) else l.drop (findP l p.key)) := by
 induction l with
 | nil => rfl
 | cons q r ih =>
  cases h : rless q.key p.key
  ·have e1 : findP (q :: r) p.key = 0 := by unfold findP; rw [List.takeWhile_cons, if_neg (by simp [h])]; rfl
   have e2 : hasP (q :: r) p.key = decide (q.key = p.key) := by unfold hasP; rw [e1]; rfl
   rw [putP, if_neg (by simp [h]), e1, e2]
   by_cases he : q.key = p.key
   ·simp [he]
   ·simp [he]
  ·have e1 : findP (q :: r) p.key = findP r p.key + 1 := by unfold findP; rw [List.takeWhile_cons, if_pos h]; rfl
   have e2 : hasP (q :: r) p.key = hasP r p.key := by unfold hasP; rw [e1]; rfl
   rw [putP, if_pos h, e1, e2, ih]
   simp
theorem hasP_lt {l : List Pr} {k : Ky} (h : hasP l k = true) : findP l k < l.length := by
 unfold hasP at h
 cases hx : l[findP l k]? with
 | none => rw [hx] at h; cases h
 | some q => exact (List.getElem?_eq_some_iff.1 hx).1
set_option maxRecDepth 100000 in
theorem nPut_ok (l : List Pr) (hl : l.length < 100000) (p : Pr) : APure Tryz.prog 239 [.sl 3 (l.map Pr.av) .none, p.av] (.sl 3 ((putP l p).map Pr.av) .none) := by
 intro M
 refine acalls_of tabOK Tryz.func239 rfl (by decide) (by simp [Tryz.f239]) ?_
 have kf := nFind_ok l .none (by omega) p.key
 have hle := findP_le l p.key
 have hj := joinedP_ok
 rw [putP_cut]
 have hh := @hasP_lt l p.key
 generalize findP l p.key = n at kf hle hh
 cases hp : hasP l p.key
 ·rw [hp] at kf
  rw [if_neg (by simp)]
  have kj := joinedP_ok [(l.take n, false), ([p], true), (l.drop n, false)] true (by simp) (by simp; omega)
  have e : flatR [(l.take n, false), ([p], true), (l.drop n, false)] = l.take n ++ ([p] ++ l.drop n) := by simp [flatR]
  rw [e] at kj
  repeat' (first | refine DW_A tabs rfl ?_ | refine DW_nil ?_ | refine W_A rfl ?_ | refine DW_C rfl kf ?_ | refine DW_row tabOK rfl ?_ | refine W_draw mixed [0, 1, 2, 5, 3, 4, 6, 7, 8] [.P, .P, .P, .R, .P, .P, .P, .P, .P] rfl rfl (by kernel_rfl) ?_)
  refine DW_from tabOK rfl rfl rfl rfl (lo := n) rfl rfl rfl rfl rfl rfl hle ?_
  repeat' (first | refine DW_A tabs rfl ?_ | refine DW_nil ?_ | refine W_A rfl ?_ | refine DW_C rfl kf ?_ | refine DW_row tabOK rfl ?_ | refine W_draw mixed [0, 1, 2, 5, 3, 4, 6, 7, 8] [.P, .P, .P, .R, .P, .P, .P, .P, .P] rfl rfl (by kernel_rfl) ?_)
  refine DW_to tabOK rfl rfl rfl rfl (n := n) rfl rfl rfl rfl rfl rfl hle ?_
  repeat' (first | refine DW_A tabs rfl ?_ | refine DW_nil ?_ | refine W_A rfl ?_ | refine DW_C rfl kj ?_ | refine DW_row tabOK rfl ?_ | refine W_draw mixed [0, 1, 2, 5, 3, 4, 6, 7, 8] [.P, .P, .P, .R, .P, .P, .P, .P, .P] rfl rfl (by kernel_rfl) ?_)
  exact ⟨rfl, _, rfl, rfl, rfl⟩
 ·have hlt := hh hp
  rw [hp] at kf
  rw [if_pos rfl]
  have kj := joinedP_ok [(l.take n, false), ([p], true), (l.drop (n + 1), false)] true (by simp) (by simp; omega)
  have e : flatR [(l.take n, false), ([p], true), (l.drop (n + 1), false)] = l.take n ++ ([p] ++ l.drop (n + 1)) := by simp [flatR]
  rw [e] at kj
  repeat' (first | refine DW_A tabs rfl ?_ | refine DW_nil ?_ | refine W_A rfl ?_ | refine DW_C rfl kf ?_ | refine DW_row tabOK rfl ?_ | refine W_draw mixed [0, 1, 2, 5, 3, 4, 6, 7, 8] [.P, .P, .P, .R, .P, .P, .P, .P, .P] rfl rfl (by kernel_rfl) ?_)
  refine DW_from tabOK rfl rfl rfl rfl (lo := n) rfl rfl rfl rfl rfl rfl hle ?_
  repeat' (first | refine DW_A tabs rfl ?_ | refine DW_nil ?_ | refine W_A rfl ?_ | refine DW_row tabOK rfl ?_ | refine W_draw mixed [0, 1, 2, 5, 3, 4, 6, 7, 8] [.P, .P, .P, .R, .P, .P, .P, .P, .P] rfl rfl (by kernel_rfl) ?_)
  refine DW_from tabOK rfl rfl rfl rfl (lo := 1) rfl rfl rfl rfl rfl rfl (by simp; omega) ?_
  rw [List.drop_drop]
  repeat' (first | refine DW_A tabs rfl ?_ | refine DW_nil ?_ | refine W_A rfl ?_ | refine DW_row tabOK rfl ?_ | refine W_draw mixed [0, 1, 2, 5, 3, 4, 6, 7, 8] [.P, .P, .P, .R, .P, .P, .P, .P, .P] rfl rfl (by kernel_rfl) ?_)
  refine DW_to tabOK rfl rfl rfl rfl (n := n) rfl rfl rfl rfl rfl rfl hle ?_
  repeat' (first | refine DW_A tabs rfl ?_ | refine DW_nil ?_ | refine W_A rfl ?_ | refine DW_C rfl kj ?_ | refine DW_row tabOK rfl ?_ | refine W_draw mixed [0, 1, 2, 5, 3, 4, 6, 7, 8] [.P, .P, .P, .R, .P, .P, .P, .P, .P] rfl rfl (by kernel_rfl) ?_)
  exact ⟨rfl, _, rfl, rfl, rfl⟩
end Go.Proofs.YtmgkebghojhocaaGreatDoor
