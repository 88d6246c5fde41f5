/- Parts of the proof, one behind the other: AbF2. No further condition. -/
import Derived.Test.YtmgkebghojhocaaGreatDoorQV09
set_option linter.unusedVariables false
set_option linter.unusedSimpArgs false
/- Calls that see some of the caller's objects: a contract over these alone serves in any memory. -/
set_option linter.unusedVariables false
set_option linter.unusedSimpArgs false
namespace Go.Ab
open Go.RowKit
def pos : List Nat → Nat → Option Nat
 | [], _ => none
 | a :: r, i => if i = a then some 0 else match pos r i with | some k => some (k + 1) | none => none
theorem pos_some : ∀ {ids : List Nat} {i k : Nat}, pos ids i = some k → ids[k]? = some i
 | [], _, _, h => by cases h
 | a :: r, i, k, h => by
  simp only [pos] at h
  split at h
  ·cases h; subst_vars; rfl
  ·split at h
   ·rename_i k' hk
    cases h
    show (a :: r)[_ + 1]? = some i
    rw [List.getElem?_cons_succ]
    exact pos_some hk
   ·cases h
theorem pos_none : ∀ {ids : List Nat} {i : Nat}, pos ids i = none → i ∉ ids
 | [], _, _ => by simp
 | a :: r, i, h => by
  simp only [pos] at h
  split at h
  ·cases h
  ·rename_i hne
   split at h
   ·cases h
   ·rename_i hk
    simp only [List.mem_cons, not_or]
    exact ⟨hne, pos_none hk⟩
theorem nodup_get {ids : List Nat} (hnd : ids.Nodup) {i j k : Nat} (h1 : ids[j]? = some i) (h2 : ids[k]? = some i) : j = k := by
 obtain ⟨hj, e1⟩ := List.getElem?_eq_some_iff.1 h1
 obtain ⟨hk, e2⟩ := List.getElem?_eq_some_iff.1 h2
 have hp := List.pairwise_iff_getElem.1 hnd
 rcases Nat.lt_trichotomy j k with h | h | h
 ·exact absurd (e1.trans e2.symm) (hp j k hj hk h)
 ·exact h
 ·exact absurd (e2.trans e1.symm) (hp k j hk hj h)
theorem pos_of {ids : List Nat} (hnd : ids.Nodup) {i k : Nat} (h : ids[k]? = some i) : pos ids i = some k := by
 cases hp : pos ids i with
 | none => exact absurd (List.mem_of_getElem? h) (pos_none hp)
 | some j => rw [nodup_get hnd (pos_some hp) h]
theorem pos_no {ids : List Nat} {i : Nat} (h : i ∉ ids) : pos ids i = none := by
 cases hp : pos ids i with
 | none => rfl
 | some j => exact absurd (List.mem_of_getElem? (pos_some hp)) h
def pull (ids : List Nat) (μ : Mu) : Mu := fun k => match ids[k]? with | some i => μ i | none => none
def pullF (ids : List Nat) (μ : Mu) (F : Frm) : Frm := fun b o => F b o ∨ (Own μ b o ∧ ¬ Own (pull ids μ) b o)
def push (ids : List Nat) (n : Nat) (μ μ1 : Mu) : Mu := fun i => match pos ids i with | some k => μ1 k | none => if i < n then μ i else μ1 (ids.length + (i - n))
theorem pull_at {ids : List Nat} {μ : Mu} {k i : Nat} (h : ids[k]? = some i) : pull ids μ k = μ i := by unfold pull; rw [h]
theorem pull_own {ids : List Nat} {μ : Mu} {b o : Nat} (h : Own (pull ids μ) b o) : Own μ b o := by
 obtain ⟨k, h⟩ := h
 unfold pull at h
 cases hk : ids[k]? with
 | none => rw [hk] at h; rcases h with h | ⟨e, g, h, _⟩ <;> cases h
 | some i => rw [hk] at h; exact ⟨i, h⟩
theorem pull_lies {ids : List Nat} {μ : Mu} {k b : Nat} (h : Lies (pull ids μ) k b) : ∃ i, ids[k]? = some i ∧ Lies μ i b := by
 unfold Lies pull at h
 cases hk : ids[k]? with
 | none => rw [hk] at h; rcases h with h | ⟨e, g, h⟩ <;> cases h
 | some i => rw [hk] at h; exact ⟨i, rfl, h⟩
theorem own_lies {μ : Mu} {b o : Nat} (h : Own μ b o) : ∃ i, Lies μ i b := by
 obtain ⟨i, h | ⟨e, g, h, _⟩⟩ := h
 ·exact ⟨i, .inl h⟩
 ·exact ⟨i, .inr ⟨e, g, h⟩⟩
theorem lies_own {μ : Mu} {b i : Nat} (h : Lies μ i b) : ∃ o, Own μ b o := by
 rcases h with h | ⟨e, g, h⟩
 ·exact ⟨0, i, .inl h⟩
 ·exact ⟨e, i, .inr ⟨e, g, h, Nat.le_refl _⟩⟩
theorem pull_free {ids : List Nat} {μ : Mu} {F : Frm} {b o : Nat} (h : Free μ F b o) : Free (pull ids μ) (pullF ids μ F) b o :=
 ⟨fun hf => hf.elim h.1 fun hf => h.2 hf.1, fun ho => h.2 (pull_own ho)⟩
/-- What stands for x at the caller stands for y at the one that sees the objects ids. -/
def InV (ids : List Nat) (x y : AV) : Prop := ∀ (μ : Mu) (F : Frm) (w : World) (v : Value), Rep μ F w x v → Rep (pull ids μ) (pullF ids μ F) w y v
/-- .. and back; objects of its own making are numbered from n on. -/
def OutV (ids : List Nat) (n : Nat) (x y : AV) : Prop := ∀ (μ1 μ : Mu) (F F1 : Frm) (w : World) (v : Value), (∀ b o, Free μ1 F1 b o → Free μ F b o) → (∀ k i, ids[k]? = some i → μ i = μ1 k) → (∀ k, ids.length ≤ k → μ (n + (k - ids.length)) = μ1 k) →
 Rep μ1 F1 w x v → Rep μ F w y v
section
variable {ids : List Nat} {n : Nat}
theorem InV.closed {x : AV} (h : Closed x) : InV ids x x := fun μ F w v hr => h μ _ F _ w v (fun _ _ => pull_free) hr
theorem InV.sub {x y z : AV} (h : InV ids x y) (h2 : Sub y z) : InV ids x z := fun μ F w v hr => h2 _ _ _ _ (h μ F w v hr)
theorem InV.pre {x y z : AV} (h : Sub x y) (h2 : InV ids y z) : InV ids x z := fun μ F w v hr => h2 μ F w v (h _ _ _ _ hr)
theorem InV.ptr {k i off : Nat} (h : ids[k]? = some i) : InV ids (.ptr i off) (.ptr k off) := by
 intro μ F w v hr
 cases hr with
 | ptr _ _ _ h1 h2 h3 => exact .ptr k off v h1 (by rw [pull_at h]; exact h2) (fun b hb => h3 b (by rw [← pull_at (μ := μ) h]; exact hb))
theorem InV.osl {k i off m cap sz : Nat} (h : ids[k]? = some i) : InV ids (.osl i off m cap sz) (.osl k off m cap sz) := by
 intro μ F w v hr
 cases hr with
 | osl _ _ _ _ _ _ h1 h2 h3 => exact .osl k off m cap sz v h1 (by rw [pull_at h]; exact h2) (fun b hb => h3 b (by rw [← pull_at (μ := μ) h]; exact hb))
theorem InV.bsl {k i g m cap : Nat} (h : ids[k]? = some i) : InV ids (.bsl i g m cap) (.bsl k g m cap) := by
 intro μ F w v hr
 cases hr with
 | bsl _ _ _ _ _ h1 h2 => exact .bsl _ _ _ _ v h1 (by rw [pull_at h]; exact h2)
theorem InV.map {k i : Nat} (h : ids[k]? = some i) : InV ids (.map i) (.map k) := by
 intro μ F w v hr
 cases hr with
 | map _ _ h1 h2 h3 => exact .map k v h1 (by rw [pull_at h]; exact h2) (fun b hb => h3 b (by rw [← pull_at (μ := μ) h]; exact hb))
theorem InV.tok {k i g sz : Nat} {xs : List AV} (h : ids[k]? = some i) (hc : ∀ x, x ∈ xs → (∀ c, c ∈ x.cells → Closed c)) : InV ids (.sl sz xs (.tok i g)) (.sl sz xs (.tok k g)) := by
 intro μ F w v hr
 cases hr with
 | sl _ _ _ A cap ad vals hsz hcap hA hone hcell hrep htag =>
  refine .sl sz xs _ A cap ad vals hsz hcap hA hone ?_ ?_ ?_
  ·intro a x j c hx hcx
   exact ⟨(hcell a x j c hx hcx).1, pull_free (hcell a x j c hx hcx).2⟩
  ·intro a x j c hx hcx
   exact hc x (List.mem_of_getElem? hx) c (List.mem_of_getElem? hcx) μ _ F _ w _ (fun _ _ => pull_free) (hrep a x j c hx hcx)
  ·show TagOK (pull ids μ) w A xs.length cap sz (.tok k g)
   simp only [TagOK] at htag ⊢
   rw [pull_at h]
   exact htag
theorem InV.agg {l m : List AV} (hl : l.length = m.length) (h : ∀ (i : Nat) (x y : AV), l[i]? = some x → m[i]? = some y → InV ids x y) : InV ids (.agg l) (.agg m) := by
 intro μ F w v hr
 obtain ⟨c, rfl, hs, hc, h1⟩ := hr.agg_inv
 refine .agg m c (hs.trans hl) (fun i y u hy hu => ?_) h1
 have hi : i < l.length := by rw [hl]; exact (List.getElem?_eq_some_iff.1 hy).1
 exact h i _ y (List.getElem?_eq_getElem hi) hy μ F w u (hc i _ u (List.getElem?_eq_getElem hi) hu)
theorem OutV.closed {x : AV} (h : Closed x) : OutV ids n x x := fun μ1 μ F F1 w v hf _ _ hr => h μ1 μ F1 F w v hf hr
theorem OutV.pre {x y z : AV} (h : Sub x y) (h2 : OutV ids n y z) : OutV ids n x z := fun μ1 μ F F1 w v a b c hr => h2 μ1 μ F F1 w v a b c (h _ _ _ _ hr)
theorem OutV.sub {x y z : AV} (h : OutV ids n x y) (h2 : Sub y z) : OutV ids n x z := fun μ1 μ F F1 w v a b c hr => h2 _ _ _ _ (h μ1 μ F F1 w v a b c hr)
theorem OutV.top {x : AV} : OutV ids n x .top := fun _ _ _ _ _ v _ _ _ _ => .top v
def sg (ids : List Nat) (n k : Nat) : Nat := match ids[k]? with | some i => i | none => n + (k - ids.length)
theorem sg_mu {μ μ1 : Mu} (h1 : ∀ k i, ids[k]? = some i → μ i = μ1 k) (h2 : ∀ k, ids.length ≤ k → μ (n + (k - ids.length)) = μ1 k) (k : Nat) : μ (sg ids n k) = μ1 k := by
 unfold sg
 cases hk : ids[k]? with
 | some i => exact h1 k i hk
 | none => exact h2 k (List.getElem?_eq_none_iff.1 hk)
theorem OutV.ptr {k off : Nat} : OutV ids n (.ptr k off) (.ptr (sg ids n k) off) := by
 intro μ1 μ F F1 w v _ a b hr
 cases hr with
 | ptr _ _ _ h1 h2 h3 => exact .ptr _ off v h1 (by rw [sg_mu a b]; exact h2) (fun c hc => h3 c (by rw [← sg_mu a b]; exact hc))
theorem OutV.osl {k off m cap sz : Nat} : OutV ids n (.osl k off m cap sz) (.osl (sg ids n k) off m cap sz) := by
 intro μ1 μ F F1 w v _ a b hr
 cases hr with
 | osl _ _ _ _ _ _ h1 h2 h3 => exact .osl _ off m cap sz v h1 (by rw [sg_mu a b]; exact h2) (fun c hc => h3 c (by rw [← sg_mu a b]; exact hc))
theorem OutV.bsl {k g m cap : Nat} : OutV ids n (.bsl k g m cap) (.bsl (sg ids n k) g m cap) := by
 intro μ1 μ F F1 w v hf h1 h2 hr
 cases hr with
 | bsl _ _ _ _ _ a1 a2 => exact .bsl _ _ _ _ v a1 (by rw [sg_mu h1 h2]; exact a2)
theorem OutV.map {k : Nat} : OutV ids n (.map k) (.map (sg ids n k)) := by
 intro μ1 μ F F1 w v _ a b hr
 cases hr with
 | map _ _ h1 h2 h3 => exact .map _ v h1 (by rw [sg_mu a b]; exact h2) (fun c hc => h3 c (by rw [← sg_mu a b]; exact hc))
theorem OutV.tok {k g sz : Nat} {xs : List AV} (hc : ∀ x, x ∈ xs → (∀ c, c ∈ x.cells → Closed c)) : OutV ids n (.sl sz xs (.tok k g)) (.sl sz xs (.tok (sg ids n k) g)) := by
 intro μ1 μ F F1 w v hf a b hr
 cases hr with
 | sl _ _ _ A cap ad vals hsz hcap hA hone hcell hrep htag =>
  refine .sl sz xs _ A cap ad vals hsz hcap hA hone ?_ ?_ ?_
  ·intro q x j c hx hcx
   exact ⟨(hcell q x j c hx hcx).1, hf _ _ (hcell q x j c hx hcx).2⟩
  ·intro q x j c hx hcx
   exact hc x (List.mem_of_getElem? hx) c (List.mem_of_getElem? hcx) μ1 μ F1 F w _ hf (hrep q x j c hx hcx)
  ·show TagOK μ w A xs.length cap sz (.tok (sg ids n k) g)
   simp only [TagOK] at htag ⊢
   rw [sg_mu a b]
   exact htag
theorem OutV.agg {l m : List AV} (hl : l.length = m.length) (h : ∀ (i : Nat) (x y : AV), l[i]? = some x → m[i]? = some y → OutV ids n x y) : OutV ids n (.agg l) (.agg m) := by
 intro μ1 μ F F1 w v a b c' hr
 obtain ⟨c, rfl, hs, hc, h1⟩ := hr.agg_inv
 refine .agg m c (hs.trans hl) (fun i y u hy hu => ?_) h1
 have hi : i < l.length := by rw [hl]; exact (List.getElem?_eq_some_iff.1 hy).1
 exact h i _ y (List.getElem?_eq_getElem hi) hy μ1 μ F F1 w u a b c' (hc i _ u (List.getElem?_eq_getElem hi) hu)
theorem OutV.tup {l m : List AV} (hl : l.length = m.length) (h : ∀ (i : Nat) (x y : AV), l[i]? = some x → m[i]? = some y → OutV ids n x y) : OutV ids n (.tup l) (.tup m) := by
 intro μ1 μ F F1 w v a b c' hr
 obtain ⟨c, rfl, hs, hc⟩ := hr.tup_inv
 refine .tup m c (hs.trans hl) (fun i y u hy hu => ?_)
 have hi : i < l.length := by rw [hl]; exact (List.getElem?_eq_some_iff.1 hy).1
 exact h i _ y (List.getElem?_eq_getElem hi) hy μ1 μ F F1 w u a b c' (hc i _ u (List.getElem?_eq_getElem hi) hu)
def InL (ids : List Nat) : List AV → List AV → Prop
 | [], [] => True
 | x :: l, y :: m => InV ids x y ∧ InL ids l m
 | _, _ => False
theorem InL.len : ∀ {l m : List AV}, InL ids l m → l.length = m.length
 | [], [], _ => rfl
 | _ :: _, _ :: _, h => congrArg (· + 1) (InL.len h.2)
theorem InL.get : ∀ {l m : List AV}, InL ids l m → ∀ (i : Nat) (x y : AV), l[i]? = some x → m[i]? = some y → InV ids x y
 | [], [], _, i, _, _, hx, _ => by simp at hx
 | a :: l, b :: m, h, 0, x, y, hx, hy => by cases hx; cases hy; exact h.1
 | a :: l, b :: m, h, i + 1, x, y, hx, hy => InL.get h.2 i x y hx hy
theorem InL.closed : ∀ {l : List AV}, (∀ x, x ∈ l → Closed x) → InL ids l l
 | [], _ => trivial
 | x :: l, h => ⟨.closed (h x (by simp)), InL.closed fun y hy => h y (by simp [hy])⟩
def OutL (ids : List Nat) (n : Nat) : List AV → List AV → Prop
 | [], [] => True
 | x :: l, y :: m => OutV ids n x y ∧ OutL ids n l m
 | _, _ => False
theorem OutL.len : ∀ {l m : List AV}, OutL ids n l m → l.length = m.length
 | [], [], _ => rfl
 | _ :: _, _ :: _, h => congrArg (· + 1) (OutL.len h.2)
theorem OutL.get : ∀ {l m : List AV}, OutL ids n l m → ∀ (i : Nat) (x y : AV), l[i]? = some x → m[i]? = some y → OutV ids n x y
 | [], [], _, i, _, _, hx, _ => by simp at hx
 | a :: l, b :: m, h, 0, x, y, hx, hy => by cases hx; cases hy; exact h.1
 | a :: l, b :: m, h, i + 1, x, y, hx, hy => OutL.get h.2 i x y hx hy
theorem OutL.closed : ∀ {l : List AV}, (∀ x, x ∈ l → Closed x) → OutL ids n l l
 | [], _ => trivial
 | x :: l, h => ⟨.closed (h x (by simp)), OutL.closed fun y hy => h y (by simp [hy])⟩
theorem RawAt.to {μ μ' : Mu} {i j : Nat} {g : Option Nat} {b : Nat} (h : RawAt μ i g b) (e : μ' j = μ i) : RawAt μ' j g b := by
 cases g with
 | none => exact e.trans h
 | some n => exact e.trans h
def InO (ids : List Nat) : AObj → AObj → Prop
 | .cells l, .cells m => InL ids l m
 | .spare g, .spare g' => g = g'
 | .raw g o vs t, .raw g' o' vs' t' => g = g' ∧ o = o' ∧ vs = vs' ∧ t = [] ∧ t' = []
 | _, _ => False
def OutO (ids : List Nat) (n : Nat) : AObj → AObj → Prop
 | .cells l, .cells m => OutL ids n l m
 | .spare g, .spare g' => g = g'
 | .raw g o vs t, .raw g' o' vs' t' => g = g' ∧ o = o' ∧ vs = vs' ∧ t = [] ∧ t' = []
 | _, _ => False
def OutE (ids : List Nat) (n : Nat) : AEnd → AEnd → Prop
 | .ret x, .ret y => OutV ids n x y
 | .pan x, .pan y => OutV ids n x y
 | _, _ => False
/-- The caller's memory behind the call. -/
def OutM (ids : List Nat) (M M1 N : Mem) : Prop := N.next = M.next + (M1.next - ids.length) ∧ ∀ i o, N.get i = some o →
 (∃ k o1, (ids[k]? = some i ∨ ids.length ≤ k ∧ i = M.next + (k - ids.length)) ∧ M1.get k = some o1 ∧ OutO ids M.next o1 o) ∨ (i ∉ ids ∧ M.get i = some o)
theorem ACalls.frame {P : Program} {g : FuncId} {args args1 : List AV} {M N0 : Mem} {R R1 : AEnd → Mem → Prop} (ids : List Nat) (hnd : ids.Nodup) (hlt : ∀ i, i ∈ ids → i < M.next) (hn : N0.next = ids.length)
  (hobj : ∀ k o1, N0.get k = some o1 → ∃ i o, ids[k]? = some i ∧ M.get i = some o ∧ InO ids o o1) (h : ACalls P g args1 N0 R1) (hargs : InL ids args args1)
  (hR : ∀ e M1, R1 e M1 → ∃ e' N, OutE ids M.next e e' ∧ OutM ids M M1 N ∧ R e' N) : ACalls P g args M R := by
 refine ⟨h.1, fun μ F w vs hg hv => ?_⟩
 have hLi : ∀ {i b}, Lies μ i b → i ∉ ids → ∀ o, ¬ Own (pull ids μ) b o := by
  intro i b hi hni o ho
  obtain ⟨k, hk⟩ := own_lies ho
  obtain ⟨i', hk', hi'⟩ := pull_lies hk
  have := hg.inj i i' b hi hi'
  subst this
  exact hni (List.mem_of_getElem? hk')
 have hg0 : Gam (pull ids μ) (pullF ids μ F) N0 w := by
  refine ⟨?_, ?_, ?_, ?_, ?_, ?_, ?_⟩
  ·intro k
   rw [hn]
   constructor
   ·intro hk
    refine Nat.lt_of_not_le fun hle => hk ?_
    unfold pull
    rw [List.getElem?_eq_none hle]
   ·intro hk
    rw [pull_at (List.getElem?_eq_getElem hk)]
    exact (hg.dom _).2 (hlt _ (List.getElem_mem hk))
  ·intro k l1 hk
   obtain ⟨i, o, hi, hM, hO⟩ := hobj k _ hk
   cases o with
   | spare g => exact hO.elim
   | raw _ _ _ _ => exact hO.elim
   | cells l =>
    obtain ⟨b, c, ty, h1, h2, h3, h4, h5⟩ := hg.obj i l hM
    have hO : InL ids l l1 := hO
    refine ⟨b, c, ty, (pull_at hi).trans h1, h2, h3.trans hO.len, h4, ?_⟩
    intro j y v hy hv
    have hj : j < l.length := by rw [hO.len]; exact (List.getElem?_eq_some_iff.1 hy).1
    exact hO.get j _ y (List.getElem?_eq_getElem hj) hy μ F w v (h5 j _ v (List.getElem?_eq_getElem hj) hv)
  ·intro k g1 hk
   obtain ⟨i, o, hi, hM, hO⟩ := hobj k _ hk
   cases o with
   | cells l => exact hO.elim
   | raw _ _ _ _ => exact hO.elim
   | spare g =>
    have hO : g = g1 := hO
    subst hO
    obtain ⟨p, h1, h2⟩ := hg.spare i g hM
    exact ⟨p, (pull_at hi).trans h1, h2⟩
  ·intro j k b hj hk
   obtain ⟨i, h1, h2⟩ := pull_lies hj
   obtain ⟨i', h3, h4⟩ := pull_lies hk
   have := hg.inj i i' b h2 h4
   subst this
   exact nodup_get hnd h1 h3
  ·rintro b o ho (hf | hf)
   ·exact hg.frm b o (pull_own ho) hf
   ·exact hf.2 ho
  ·refine ⟨fun b o ho => hg.fit.own b o (pull_own ho), ?_⟩
   rintro b o (hf | hf)
   ·exact hg.fit.frm b o hf
   ·exact hg.fit.own b o hf.1
  ·intro k gg o1 vs t hk
   obtain ⟨i, o, hi, hM, hO⟩ := hobj k _ hk
   cases o with
   | cells l => exact hO.elim
   | spare g => exact hO.elim
   | raw g0 o0 vs0 t0 =>
    obtain ⟨rfl, rfl, rfl, rfl, rfl⟩ : g0 = gg ∧ o0 = o1 ∧ vs0 = vs ∧ t0 = [] ∧ t = [] := hO
    obtain ⟨b, h1, h2, h3⟩ := hg.raw i _ _ _ _ hM
    exact ⟨b, h1.to (pull_at hi), h2, fun j => .top _⟩
 refine (h.2 _ _ w vs hg0 ⟨hv.1.trans hargs.len, fun i y v hy hv' => ?_⟩).mono ?_
 ·have hi : i < args.length := by rw [hargs.len]; exact (List.getElem?_eq_some_iff.1 hy).1
  exact hargs.get i _ y (List.getElem?_eq_getElem hi) hy μ F w v (hv.2 i _ v (List.getElem?_eq_getElem hi) hv')
 rintro e w' ⟨μ1, M1, hev, hg1, hend⟩
 have hp1 : ∀ {k i}, ids[k]? = some i → push ids M.next μ μ1 i = μ1 k := by
  intro k i hk
  unfold push
  rw [pos_of hnd hk]
 have hp2 : ∀ {i}, i ∉ ids → i < M.next → push ids M.next μ μ1 i = μ i := by
  intro i hni hlt
  unfold push
  rw [pos_no hni]
  simp [hlt]
 have hp3 : ∀ k, ids.length ≤ k → push ids M.next μ μ1 (M.next + (k - ids.length)) = μ1 k := by
  intro k hk
  have hni : M.next + (k - ids.length) ∉ ids := fun hm => by have := hlt _ hm; omega
  unfold push
  rw [pos_no hni]
  have : ids.length + (M.next + (k - ids.length) - M.next) = k := by omega
  simp only [this]
  rw [if_neg (by omega)]
 -- where an object of the new map comes from
 have hcase : ∀ i, (∃ k, (ids[k]? = some i ∨ ids.length ≤ k ∧ i = M.next + (k - ids.length)) ∧ push ids M.next μ μ1 i = μ1 k) ∨ (i ∉ ids ∧ i < M.next ∧ push ids M.next μ μ1 i = μ i) := by
  intro i
  cases hp : pos ids i with
  | some k => exact .inl ⟨k, .inl (pos_some hp), hp1 (pos_some hp)⟩
  | none =>
   have hni := pos_none hp
   by_cases hlt' : i < M.next
   ·exact .inr ⟨hni, hlt', hp2 hni hlt'⟩
   ·refine .inl ⟨ids.length + (i - M.next), .inr ⟨by omega, by omega⟩, ?_⟩
    have := hp3 (ids.length + (i - M.next)) (by omega)
    have e : M.next + (ids.length + (i - M.next) - ids.length) = i := by omega
    rw [e] at this
    exact this
 have hown1 : ∀ {i b o k}, push ids M.next μ μ1 i = μ1 k → (push ids M.next μ μ1 i = some (.at b) ∨ ∃ e g, push ids M.next μ μ1 i = some (.spare (some (b, e)) g) ∧ e ≤ o) → Own μ1 b o := by
  intro i b o k hk ho
  rw [hk] at ho
  exact ⟨k, ho⟩
 have hev' : Evo w μ w' (push ids M.next μ μ1) := by
  refine ⟨hev.os, hev.tape, hev.output, hev.size, ?_, fun b hb hno => hev.same b hb fun o ho => hno o (pull_own ho), fun b e c ty fr hb hno hc => hev.part b e c ty fr hb (fun o ho => hno o (pull_own ho)) hc, ?_⟩
  ·intro id hid
   have hlt' := (hg.dom id).1 hid
   rcases hcase id with ⟨k, hk, hpk⟩ | ⟨hni, _, hpi⟩
   ·rcases hk with hk | ⟨_, hk⟩
    ·rw [hpk]
     have := hev.mu k (by rw [pull_at hk]; exact hid)
     rw [pull_at hk] at this
     exact this
    ·omega
   ·exact .inl hpi
  ·rintro b o hb ⟨i, ho⟩
   rcases hcase i with ⟨k, _, hpk⟩ | ⟨hni, _, hpi⟩
   ·exact pull_own (hev.own b o hb (hown1 hpk ho))
   ·rw [hpi] at ho
    exact ⟨i, ho⟩
 have hfree : ∀ b o, Free μ1 (pullF ids μ F) b o → Free (push ids M.next μ μ1) F b o := by
  rintro b o ⟨hf, ho⟩
  refine ⟨fun h => hf (.inl h), ?_⟩
  rintro ⟨i, hi⟩
  rcases hcase i with ⟨k, _, hpk⟩ | ⟨hni, _, hpi⟩
  ·exact ho (hown1 hpk hi)
  ·rw [hpi] at hi
   have hL : Lies μ i b := by
    rcases hi with h | ⟨e, g, h, _⟩
    ·exact .inl h
    ·exact .inr ⟨e, g, h⟩
   exact hf (.inr ⟨⟨i, hi⟩, hLi hL hni o⟩)
 have hle : ids.length ≤ M1.next := by
  refine Nat.le_of_not_lt fun hlt' => ?_
  have hk : M1.next < ids.length := hlt'
  have h0 : pull ids μ M1.next ≠ none := by
   rw [pull_at (List.getElem?_eq_getElem hk)]
   exact (hg.dom _).2 (hlt _ (List.getElem_mem hk))
  have h1 : μ1 M1.next ≠ none := by
   rcases hev.mu _ h0 with h | h | ⟨_, _, _, _, _, h, _⟩ <;> rw [h]
   ·exact h0
   ·simp
   ·simp
  have := (hg1.dom _).1 h1
  omega
 have hgam : ∀ N, OutM ids M M1 N → Gam (push ids M.next μ μ1) F N w' := by
  rintro N ⟨hN, hNg⟩
  have hkey : ∀ {k i : Nat}, (ids[k]? = some i ∨ ids.length ≤ k ∧ i = M.next + (k - ids.length)) → push ids M.next μ μ1 i = μ1 k := by
   rintro k i (hk | ⟨hk, rfl⟩)
   ·exact hp1 hk
   ·exact hp3 k hk
  refine ⟨?_, ?_, ?_, ?_, ?_, ?_, ?_⟩
  ·intro i
   rw [hN]
   rcases hcase i with ⟨k, hk, hpk⟩ | ⟨hni, hlt', hpi⟩
   ·rw [hpk, hg1.dom]
    rcases hk with hk | ⟨hk, rfl⟩
    ·have h1 := (List.getElem?_eq_some_iff.1 hk).1
     have h2 := hlt i (List.mem_of_getElem? hk)
     exact ⟨fun _ => by omega, fun _ => by omega⟩
    ·exact ⟨fun _ => by omega, fun _ => by omega⟩
   ·rw [hpi, hg.dom]
    exact ⟨fun _ => by omega, fun _ => hlt'⟩
  ·intro i l hi
   rcases hNg i _ hi with ⟨k, o1, hk, hM1, hO⟩ | ⟨hni, hM⟩
   ·cases o1 with
    | spare g => exact hO.elim
    | raw _ _ _ _ => exact hO.elim
    | cells l1 =>
     have hO : OutL ids M.next l1 l := hO
     obtain ⟨b, c, ty, h1, h2, h3, h4, h5⟩ := hg1.obj k l1 hM1
     refine ⟨b, c, ty, (hkey hk).trans h1, h2, h3.trans hO.len, h4, ?_⟩
     intro j y v hy hv
     have hj : j < l1.length := by rw [hO.len]; exact (List.getElem?_eq_some_iff.1 hy).1
     exact hO.get j _ y (List.getElem?_eq_getElem hj) hy μ1 _ F _ w' v hfree (fun k i h => hp1 h) hp3 (h5 j _ v (List.getElem?_eq_getElem hj) hv)
   ·obtain ⟨b, c, ty, h1, h2, h3, h4, h5⟩ := hg.obj i l hM
    have hlt' : i < M.next := (hg.dom i).1 (by rw [h1]; simp)
    have hb : b < w.heap.size := (Array.getElem?_eq_some_iff.1 h2).1
    exact ⟨b, c, ty, (hp2 hni hlt').trans h1, (hev.same b hb (hLi (.inl h1) hni)).trans h2, h3, h4, fun j x v hx hv => (h5 j x v hx hv).evo hev'⟩
  ·intro i g hi
   rcases hNg i _ hi with ⟨k, o1, hk, hM1, hO⟩ | ⟨hni, hM⟩
   ·cases o1 with
    | cells l1 => exact hO.elim
    | raw _ _ _ _ => exact hO.elim
    | spare g1 =>
     have hO : g1 = g := hO
     subst hO
     obtain ⟨p, h1, h2⟩ := hg1.spare k g1 hM1
     exact ⟨p, (hkey hk).trans h1, h2⟩
   ·obtain ⟨p, h1, h2⟩ := hg.spare i g hM
    have hlt' : i < M.next := (hg.dom i).1 (by rw [h1]; simp)
    refine ⟨p, (hp2 hni hlt').trans h1, fun b e hp => ?_⟩
    obtain ⟨c, ty, fr, h3, h4, h5⟩ := h2 b e hp
    have hb : b < w.heap.size := (Array.getElem?_eq_some_iff.1 h3).1
    exact ⟨c, ty, fr, (hev.same b hb (hLi (.inr ⟨e, g, by rw [h1, hp]⟩) hni)).trans h3, h4, h5⟩
  ·intro i j b hi hj
   have hmix : ∀ {i j k}, push ids M.next μ μ1 i = μ1 k → (j ∉ ids ∧ j < M.next ∧ push ids M.next μ μ1 j = μ j) → Lies (push ids M.next μ μ1) i b → Lies (push ids M.next μ μ1) j b → False := by
    rintro i j k hpk ⟨hnj, _, hpj⟩ hi hj
    have hi1 : Lies μ1 k b := by unfold Lies at hi ⊢; rw [hpk] at hi; exact hi
    have hj1 : Lies μ j b := by unfold Lies at hj ⊢; rw [hpj] at hj; exact hj
    obtain ⟨o, ho⟩ := lies_own hi1
    obtain ⟨o', ho'⟩ := lies_own hj1
    have hb := hg.fit.own b o' ho'
    exact hLi hj1 hnj o (hev.own b o hb ho)
   rcases hcase i with ⟨k, hk, hpk⟩ | hci
   ·rcases hcase j with ⟨k', hk', hpk'⟩ | hcj
    ·have hi1 : Lies μ1 k b := by unfold Lies at hi ⊢; rw [hpk] at hi; exact hi
     have hj1 : Lies μ1 k' b := by unfold Lies at hj ⊢; rw [hpk'] at hj; exact hj
     have := hg1.inj k k' b hi1 hj1
     subst this
     rcases hk with hk | ⟨hk, e⟩
     ·rcases hk' with hk' | ⟨hk', e'⟩
      ·rw [hk] at hk'; cases hk'; rfl
      ·have := (List.getElem?_eq_some_iff.1 hk).1; omega
     ·rcases hk' with hk' | ⟨hk', e'⟩
      ·have := (List.getElem?_eq_some_iff.1 hk').1; omega
      ·omega
    ·exact (hmix hpk hcj hi hj).elim
   ·rcases hcase j with ⟨k', hk', hpk'⟩ | hcj
    ·exact (hmix hpk' hci hj hi).elim
    ·have hi1 : Lies μ i b := by unfold Lies at hi ⊢; rw [hci.2.2] at hi; exact hi
     have hj1 : Lies μ j b := by unfold Lies at hj ⊢; rw [hcj.2.2] at hj; exact hj
     exact hg.inj i j b hi1 hj1
  ·rintro b o ⟨i, hi⟩ hf
   rcases hcase i with ⟨k, hk, hpk⟩ | ⟨hni, _, hpi⟩
   ·exact hg1.frm b o (hown1 hpk hi) (.inl hf)
   ·rw [hpi] at hi
    exact hg.frm b o ⟨i, hi⟩ hf
  ·refine ⟨?_, fun b o hf => Nat.lt_of_lt_of_le (hg.fit.frm b o hf) hev.size⟩
   rintro b o ⟨i, hi⟩
   rcases hcase i with ⟨k, hk, hpk⟩ | ⟨hni, _, hpi⟩
   ·exact hg1.fit.own b o (hown1 hpk hi)
   ·rw [hpi] at hi
    exact Nat.lt_of_lt_of_le (hg.fit.own b o ⟨i, hi⟩) hev.size
  ·intro i gg o vs t hi
   rcases hNg i _ hi with ⟨k, o1, hk, hM1, hO⟩ | ⟨hni, hM⟩
   ·cases o1 with
    | cells l => exact hO.elim
    | spare g => exact hO.elim
    | raw g0 o0 vs0 t0 =>
     obtain ⟨rfl, rfl, rfl, rfl, rfl⟩ : g0 = gg ∧ o0 = o ∧ vs0 = vs ∧ t0 = [] ∧ t = [] := hO
     obtain ⟨b, h1, h2, h3⟩ := hg1.raw k _ _ _ _ hM1
     exact ⟨b, h1.to (hkey hk), h2, fun j => .top _⟩
   ·obtain ⟨b, h1, h2, h3⟩ := hg.raw i gg o vs t hM
    have hlt' : i < M.next := (hg.dom i).1 h1.ne
    have hb : b < w.heap.size := (Array.getElem?_eq_some_iff.1 h2).1
    exact ⟨b, h1.congr (hp2 hni hlt'), (hev.same b hb (hLi h1.lies hni)).trans h2, fun i => (h3 i).evo hev'⟩
 cases e with
 | returned v =>
  obtain ⟨x, h4, h5⟩ := hend
  obtain ⟨e', N, hE, hN, hr⟩ := hR _ _ h5
  cases e' with
  | pan y => exact hE.elim
  | ret y => exact ⟨_, N, hev', hgam N hN, y, hE μ1 _ F _ w' v hfree (fun k i h => hp1 h) hp3 h4, hr⟩
 | panicked ch =>
  obtain ⟨x, v, h4, h5, h6⟩ := hend
  obtain ⟨e', N, hE, hN, hr⟩ := hR _ _ h6
  cases e' with
  | ret y => exact hE.elim
  | pan y => exact ⟨_, N, hev', hgam N hN, y, v, h4, hE μ1 _ F _ w' v hfree (fun k i h => hp1 h) hp3 h5, hr⟩
 | outgrown => exact hend.elim
/-- One object is seen; what it holds, and what is told, needs no other. -/
theorem ACalls.frame1 {P : Program} {g : FuncId} {args args1 c : List AV} {M : Mem} {R : AEnd → Mem → Prop} {R1 : AEnd → List AV → Prop} (id : Nat) (hM : M.get id = some (.cells c)) (hlt : id < M.next) (hc : ∀ x, x ∈ c → Closed x)
  (h : ACalls P g args1 ⟨1, [(0, .cells c)]⟩ fun e N => N.next = 1 ∧ ∃ d, N.get 0 = some (.cells d) ∧ R1 e d) (hargs : InL [id] args args1)
  (hR : ∀ e d, R1 e d → (match e with | .ret x => Closed x | .pan x => Closed x) ∧ (∀ x, x ∈ d → Closed x) ∧ R e (M.set id (.cells d))) : ACalls P g args M R := by
 refine ACalls.frame [id] (by simp) (by simpa using hlt) rfl ?_ h hargs ?_
 ·intro k o1 hk
  have hk' : (if k = 0 then some (AObj.cells c) else none) = some o1 := hk
  split at hk'
  ·rename_i h0
   subst h0
   cases hk'
   exact ⟨id, _, rfl, hM, InL.closed hc⟩
  ·cases hk'
 ·rintro e M1 ⟨h1, d, h2, h3⟩
  obtain ⟨h4, h5, h6⟩ := hR e d h3
  refine ⟨e, _, ?_, ⟨?_, ?_⟩, h6⟩
  ·cases e <;> exact OutV.closed h4
  ·show M.next = _
   rw [h1]
   rfl
  ·intro i o hi
   rw [Mem.get_set] at hi
   split at hi
   ·rename_i h0
    cases hi
    exact .inl ⟨0, _, .inl (by rw [h0]; rfl), h2, OutL.closed h5⟩
   ·rename_i h0
    exact .inr ⟨by simpa using h0, hi⟩
/-- What a call made for itself is forgotten at its end. -/
theorem ACalls.cutL {P : Program} {g : FuncId} {args : List AV} {M : Mem} {r : AV} {l : List (Nat × AObj)} (h : ACalls P g args M fun e N => ∃ x, e = .ret x ∧ SubC M.next x r ∧ M.next ≤ N.next ∧ ObjsC M.next N l) :
  ACalls P g args M fun e N => e = .ret r ∧ N = ⟨M.next, l⟩ := by
 refine h.joint ?_ ?_
 ·rintro x N ⟨y, e, hs, hn, ho⟩
  cases e
  exact ⟨r, _, ⟨rfl, rfl⟩, Joint.cut (Nat.le_refl _) hn rfl ⟨hs, trivial⟩ ho⟩
 ·rintro x N ⟨y, e, _⟩
  cases e
theorem objsC_closed {k i : Nat} {l : List AV} {M : Mem} {r : List (Nat × AObj)} (hi : i < k) (hM : M.get i = some (.cells l)) (hl : ∀ x, x ∈ l → Closed x) (hr : ObjsC k M r) : ObjsC k M ((i, .cells l) :: r) := by
 refine ⟨hi, ?_, hr⟩
 rw [hM]
 refine ⟨rfl, fun j x y hx hy => ?_⟩
 rw [hx] at hy
 cases hy
 exact SubC.of_closed (hl x (List.mem_of_getElem? hx))
/-- A variable that nobody writes to any more: its place is known by what it holds. -/
theorem Joint.freezeP {n0 : Nat} {t : List (Nat × AV)} {ds : List ADef} {M : Mem} (i : Nat) {id : Nat} {l : List AV} (h : AF.get ⟨t, ds⟩ i = .ptr id 0) (hM : M.get id = some (.cells l)) :
  Joint n0 ⟨t, ds⟩ M ⟨(i, .ref l) :: t, ds⟩ (M.drop id) := by
 intro μ0 μ F w0 w m a hn he hg hr
 obtain ⟨b, c, ty, o1, o2, o3, o4, o5⟩ := hg.obj id l hM
 have hid : id < M.next := (hg.dom id).1 (by rw [o1]; simp)
 obtain ⟨μ2, k1, k2, k3, k4⟩ := gam_kill hg hid
 have hv := hr.tmps i
 rw [h] at hv
 obtain ⟨b', c', ty', hb', hv', _⟩ := gam_ptr hg hM hv
 rw [o1] at hb'
 cases hb'
 refine ⟨μ2, he.trans k3, k4 _ rfl (fun j => Mem.get_drop M id j), hr.size, ?_, hr.defs.evo k3, fun p hp => (hr.kept p hp).evo k3⟩
 intro j
 by_cases e : j = i
 ·subst e
  have : AF.get ⟨(j, .ref l) :: t, ds⟩ j = .ref l := by simp [AF.get, lookup]
  rw [this, hv']
  have hcell : ∀ (p : Nat) (x : AV), l[p]? = some x → c[p]? = some (c.getD p undef) := by
   intro p x hp
   have h1 := (List.getElem?_eq_some_iff.1 hp).1
   have : p < c.size := by omega
   simp [Array.getD, this]
  refine .ref l b 0 (fun p => c.getD p undef) (fun p x hp => o4 p _ (hcell p x hp)) (fun p x hp => ?_) (fun p x hp => (o5 p x _ hp (hcell p x hp)).evo k3)
  rw [Nat.zero_add]
  refine ⟨by rw [cell_mk o2]; exact hcell p x hp, hg.frm b p ⟨id, .inl o1⟩, ?_⟩
  intro ho
  obtain ⟨i', hi', h4 | ⟨e', g', h4, _⟩⟩ := k2 b p ho
  ·exact hi' (hg.inj i' id b (.inl h4) (.inl o1))
  ·exact hi' (hg.inj i' id b (.inr ⟨e', g', h4⟩) (.inl o1))
 ·have : AF.get ⟨(i, .ref l) :: t, ds⟩ j = AF.get ⟨t, ds⟩ j := by simp [AF.get, lookup, e]
  rw [this]
  exact (hr.tmps j).evo k3
def SubL : List AV → List AV → Prop
 | [], [] => True
 | x :: l, y :: m => Sub x y ∧ SubL l m
 | _, _ => False
theorem SubL.len : ∀ {l m : List AV}, SubL l m → l.length = m.length
 | [], [], _ => rfl
 | _ :: _, _ :: _, h => congrArg (· + 1) (SubL.len h.2)
theorem SubL.get : ∀ {l m : List AV}, SubL l m → ∀ (i : Nat) (x y : AV), l[i]? = some x → m[i]? = some y → Sub x y
 | [], [], _, i, _, _, hx, _ => by simp at hx
 | a :: l, b :: m, h, 0, x, y, hx, hy => by cases hx; cases hy; exact h.1
 | a :: l, b :: m, h, i + 1, x, y, hx, hy => SubL.get h.2 i x y hx hy
theorem APure.sub {P : Program} {g : FuncId} {args args' : List AV} {r : AV} (h : APure P g args' r) (hs : SubL args args') : APure P g args r := fun M => (h M).sub hs.len hs.get
end
end Go.Ab
