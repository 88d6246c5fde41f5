/- Objects: made, written; rows of cells, flat. -/
import Derived.Test.YteimhnedflbkmaaDoorAbA5
import Derived.Deep.AppendSrc
set_option linter.unusedVariables false
set_option linter.unusedSimpArgs false
namespace Go.Ab
open Go.RowKit

def Mem.push (M : Mem) (o : AObj) : Mem := ⟨M.next + 1, (M.next, o) :: M.objs⟩
def Mem.set (M : Mem) (id : Nat) (o : AObj) : Mem := ⟨M.next, (id, o) :: M.objs⟩

theorem Mem.get_push (M : Mem) (o : AObj) (i : Nat) : (M.push o).get i = if i = M.next then some o else M.get i := by
  simp [Mem.get, Mem.push, lookup]
theorem Mem.get_set (M : Mem) (id : Nat) (o : AObj) (i : Nat) : (M.set id o).get i = if i = id then some o else M.get i := by
  simp [Mem.get, Mem.set, lookup]

/-! ### A row's cells, flat -/
def flat (xs : List AV) : List AV := xs.flatMap AV.cells

theorem flat_length {xs : List AV} {sz : Nat} (h : ∀ x, x ∈ xs → x.cells.length = sz) : (flat xs).length = xs.length * sz := by
  induction xs with
  | nil => simp [flat]
  | cons x r ih =>
    have h1 := h x List.mem_cons_self
    have h2 := ih fun y hy => h y (List.mem_cons_of_mem _ hy)
    simp only [flat, List.flatMap_cons, List.length_append, h1, List.length_cons] at *
    rw [h2, Nat.succ_mul, Nat.add_comm]

theorem flat_get {xs : List AV} {sz : Nat} (h : ∀ x, x ∈ xs → x.cells.length = sz) : ∀ {i : Nat} {x : AV} {j : Nat} {c : AV}, xs[i]? = some x → x.cells[j]? = some c → (flat xs)[i * sz + j]? = some c := by
  induction xs with
  | nil => intro i x j c hx; cases i <;> cases hx
  | cons y r ih =>
    intro i x j c hx hc
    have h1 := h y List.mem_cons_self
    simp only [flat, List.flatMap_cons]
    cases i with
    | zero =>
      simp at hx
      subst hx
      rw [Nat.zero_mul, Nat.zero_add, List.getElem?_append_left (List.getElem?_eq_some_iff.1 hc).1]
      exact hc
    | succ i =>
      have := ih (fun z hz => h z (List.mem_cons_of_mem _ hz)) (i := i) (by simpa using hx) hc
      rw [List.getElem?_append_right (by rw [h1, Nat.succ_mul]; omega), h1]
      simp only [flat] at this
      rw [← this]
      congr 1
      rw [Nat.succ_mul]
      omega

theorem flat_inv {xs : List AV} {sz : Nat} (h : ∀ x, x ∈ xs → x.cells.length = sz) : ∀ {p : Nat} {c : AV}, (flat xs)[p]? = some c → ∃ (i : Nat) (x : AV) (j : Nat), p = i * sz + j ∧ xs[i]? = some x ∧ x.cells[j]? = some c := by
  induction xs with
  | nil => intro p c hc; simp [flat] at hc
  | cons y r ih =>
    intro p c hc
    have h1 := h y List.mem_cons_self
    simp only [flat, List.flatMap_cons] at hc
    by_cases hp : p < y.cells.length
    · rw [List.getElem?_append_left hp] at hc
      exact ⟨0, y, p, by omega, rfl, hc⟩
    · rw [List.getElem?_append_right (by omega)] at hc
      obtain ⟨i, x, j, e, hx, hj⟩ := ih (fun z hz => h z (List.mem_cons_of_mem _ hz)) (by simpa [flat] using hc)
      exact ⟨i + 1, x, j, by rw [Nat.succ_mul]; omega, by simpa using hx, hj⟩

/-- A place p of memory holds what stands for c. -/
structure At (μ : Mu) (F : Frm) (w : World) (b o : Nat) (c : AV) (v : Value) : Prop where
  one : v.oneCell' = true
  cell : w.cell? ⟨b, o, none⟩ = some v
  free : Free μ F b o
  rep : Rep μ F w c v

theorem Rep.sl_flat {μ : Mu} {F : Frm} {w : World} {sz : Nat} {xs : List AV} {t : Tag} {v : Value} (h : Rep μ F w (.sl sz xs t) v) :
    ∃ (A : Option Addr) (cap b o : Nat) (vals : Nat → Value), v = .slice A xs.length cap ∧ (∀ x, x ∈ xs → x.cells.length = sz) ∧ xs.length ≤ cap ∧ (0 < xs.length → A = some ⟨b, o, none⟩) ∧
      (∀ (p : Nat) (c : AV), (flat xs)[p]? = some c → At μ F w b (o + p) c (vals p)) ∧ TagOK μ w A xs.length cap sz t := by
  obtain ⟨A, cap, ad, vals, rfl, hs, hcap, hA, hone, hcell, hrep, htag⟩ := h.sl_inv
  refine ⟨A, cap, ad.block, ad.off, vals, rfl, hs, hcap, ?_, ?_, htag⟩
  · intro h0
    obtain ⟨h1, h2⟩ := hA h0
    rw [h1]
    cases ad
    simp only at h2
    subst h2
    rfl
  · intro p c hc
    obtain ⟨i, x, j, rfl, hx, hj⟩ := flat_inv hs hc
    exact ⟨hone i x j c hx hj, (hcell i x j c hx hj).1, (hcell i x j c hx hj).2, hrep i x j c hx hj⟩

theorem rep_sl {μ : Mu} {F : Frm} {w : World} {xs : List AV} {t : Tag} {A : Option Addr} {cap sz b o : Nat} {vals : Nat → Value} (hs : ∀ x, x ∈ xs → x.cells.length = sz) (hcap : xs.length ≤ cap)
    (hA : 0 < xs.length → A = some ⟨b, o, none⟩) (hf : ∀ (p : Nat) (c : AV), (flat xs)[p]? = some c → At μ F w b (o + p) c (vals p)) (htag : TagOK μ w A xs.length cap sz t) :
    Rep μ F w (.sl sz xs t) (.slice A xs.length cap) := by
  refine .sl sz xs t A cap ⟨b, o, none⟩ vals hs hcap (fun h => ⟨hA h, rfl⟩) ?_ ?_ ?_ htag
  · intro i x j c hx hj
    exact (hf _ c (flat_get hs hx hj)).one
  · intro i x j c hx hj
    have := hf _ c (flat_get hs hx hj)
    exact ⟨this.cell, this.free⟩
  · intro i x j c hx hj
    exact (hf _ c (flat_get hs hx hj)).rep

/-- The cells, as a list of values. -/
theorem flat_vals {μ : Mu} {F : Frm} {w : World} {l : List AV} {b o : Nat} {vals : Nat → Value} (hf : ∀ (p : Nat) (c : AV), l[p]? = some c → At μ F w b (o + p) c (vals p)) :
    (∀ (j : Nat) (u : Value), ((List.range l.length).map vals)[j]? = some u → w.cell? ((⟨b, o, none⟩ : Addr).add j) = some u) ∧ ∀ u ∈ (List.range l.length).map vals, u.oneCell' = true := by
  constructor
  · intro j u hu
    rw [List.getElem?_map] at hu
    by_cases hj : j < l.length
    · rw [List.getElem?_range hj] at hu
      simp at hu
      subst hu
      rw [Addr.add_lit]
      exact (hf j _ (List.getElem?_eq_getElem hj)).cell
    · rw [List.getElem?_eq_none (by simp; omega)] at hu
      cases hu
  · intro u hu
    obtain ⟨j, hj, rfl⟩ := List.mem_map.1 hu
    have hj' : j < l.length := by simpa using hj
    exact (hf j _ (List.getElem?_eq_getElem hj')).one

/-! ### Objects made and written -/
def Mu.put (μ : Mu) (id : Nat) (l : Loc) : Mu := fun i => if i = id then some l else μ i

theorem Evo.push {w w' : World} {μ : Mu} (hb : Below w.heap.size w w') {n : Nat} (hn : μ n = none) {l : Loc} (hl : ∀ b o, Own (μ.put n l) b o → b < w.heap.size → Own μ b o) : Evo w μ w' (μ.put n l) := by
  refine ⟨hb.os, hb.tape, hb.output, hb.size, ?_, fun b h _ => hb.block b h, fun b e c ty fr h _ hc => ⟨c, (hb.block b h).trans hc, rfl, fun _ _ => rfl⟩, fun b o h ho => hl b o ho h⟩
  intro id hid
  refine .inl ?_
  unfold Mu.put
  rw [if_neg]
  rintro rfl
  exact hid hn

theorem gam_next {μ : Mu} {F : Frm} {M : Mem} {w : World} (h : Gam μ F M w) : μ M.next = none := by
  have := h.dom M.next
  cases hm : μ M.next with
  | none => rfl
  | some l => exact absurd (this.1 (by rw [hm]; simp)) (Nat.lt_irrefl _)

/-- A new object of cells, in a new block. -/
theorem gam_push {μ : Mu} {F : Frm} {M : Mem} {w w' : World} (h : Gam μ F M w) (hb : Below w.heap.size w w') {l : List AV} {c : Array Value} {ty : TypeId} {b : Nat} (hnew : w.heap.size ≤ b)
    (hc : w'.heap[b]? = some (.cells c ty (0, 0))) (hs : c.size = l.length) (hone : ∀ (i : Nat) (v : Value), c[i]? = some v → v.oneCell' = true)
    (hr : ∀ (i : Nat) (x : AV) (v : Value), l[i]? = some x → c[i]? = some v → Rep μ F w x v) :
    Evo w μ w' (μ.put M.next (.at b)) ∧ Gam (μ.put M.next (.at b)) F (M.push (.cells l)) w' := by
  have hn := gam_next h
  have hown : ∀ k o, Own (μ.put M.next (.at b)) k o → k = b ∨ Own μ k o := by
    rintro k o ⟨id, h1 | ⟨e, g, h1, he⟩⟩
    · unfold Mu.put at h1
      split at h1
      · cases h1; exact .inl rfl
      · exact .inr ⟨id, .inl h1⟩
    · unfold Mu.put at h1
      split at h1
      · cases h1
      · exact .inr ⟨id, .inr ⟨e, g, h1, he⟩⟩
  have hev : Evo w μ w' (μ.put M.next (.at b)) := Evo.push hb hn fun k o ho hk => by
    rcases hown k o ho with rfl | ho
    · omega
    · exact ho
  refine ⟨hev, ?_, ?_, ?_, ?_, ?_, ?_⟩
  · intro id
    have := h.dom id
    unfold Mu.put Mem.push
    simp only
    split
    · rename_i e; subst e; simp
    · rename_i e
      rw [this]
      omega
  · intro id l' hl
    rw [Mem.get_push] at hl
    split at hl
    · rename_i e
      cases hl
      refine ⟨b, c, ty, by simp [Mu.put, e], hc, hs, hone, fun i x v hx hv => (hr i x v hx hv).evo hev⟩
    · rename_i e
      obtain ⟨b', c', ty', h1, h2, h3, h4, h5⟩ := h.obj id l' hl
      have hlt : b' < w.heap.size := (Array.getElem?_eq_some_iff.1 h2).1
      exact ⟨b', c', ty', by simp [Mu.put, e, h1], (hb.block b' hlt).trans h2, h3, h4, fun i x v hx hv => (h5 i x v hx hv).evo hev⟩
  · intro id g hl
    rw [Mem.get_push] at hl
    split at hl
    · cases hl
    · rename_i e
      obtain ⟨p, h1, h2⟩ := h.spare id g hl
      refine ⟨p, by simp [Mu.put, e, h1], fun b' e' hp => ?_⟩
      obtain ⟨c', ty', fr, h3, h4, h5⟩ := h2 b' e' hp
      have hlt : b' < w.heap.size := (Array.getElem?_eq_some_iff.1 h3).1
      exact ⟨c', ty', fr, (hb.block b' hlt).trans h3, h4, h5⟩
  · have lie : ∀ i k, Lies (μ.put M.next (.at b)) i k → (i = M.next ∧ k = b) ∨ Lies μ i k := by
      rintro i k (h1 | ⟨e, g, h1⟩)
      · unfold Mu.put at h1
        split at h1
        · cases h1; exact .inl ⟨by assumption, rfl⟩
        · exact .inr (.inl h1)
      · unfold Mu.put at h1
        split at h1
        · cases h1
        · exact .inr (.inr ⟨e, g, h1⟩)
    have old : ∀ i k, Lies μ i k → k < w.heap.size := by
      rintro i k (h1 | ⟨e, g, h1⟩)
      · exact h.fit.own k 0 ⟨i, .inl h1⟩
      · exact h.fit.own k e ⟨i, .inr ⟨e, g, h1, Nat.le_refl _⟩⟩
    intro i j k hi hj
    rcases lie i k hi with ⟨h1, h2⟩ | h1 <;> rcases lie j k hj with ⟨h3, h4⟩ | h3
    · exact h1.trans h3.symm
    · have := old j k h3; omega
    · have := old i k h1; omega
    · exact h.inj i j k h1 h3
  · intro k o ho hF
    rcases hown k o ho with rfl | ho
    · have := h.fit.frm k o hF; omega
    · exact h.frm k o ho hF
  · refine ⟨fun k o ho => ?_, fun k o hF => Nat.lt_of_lt_of_le (h.fit.frm k o hF) hb.size⟩
    rcases hown k o ho with rfl | ho
    · exact (Array.getElem?_eq_some_iff.1 hc).1
    · exact Nat.lt_of_lt_of_le (h.fit.own k o ho) hb.size

/-- Only block b is another one. -/
structure Wrote (w : World) (b : Nat) (w' : World) : Prop where
  os : w'.os = w.os
  tape : w'.tape = w.tape
  output : w'.output = w.output
  size : w'.heap.size = w.heap.size
  other : ∀ k, k ≠ b → w'.heap[k]? = w.heap[k]?

/-- An object's cells written. -/
theorem gam_write {μ : Mu} {F : Frm} {M : Mem} {w w' : World} (h : Gam μ F M w) {id b : Nat} (hid : μ id = some (.at b)) {c0 : Array Value} {ty : TypeId} (h0 : w.heap[b]? = some (.cells c0 ty (0, 0))) (hw : Wrote w b w')
    {l : List AV} {c : Array Value} (hc : w'.heap[b]? = some (.cells c ty (0, 0))) (hs0 : c.size = c0.size) (hs : c.size = l.length) (hone : ∀ (i : Nat) (v : Value), c[i]? = some v → v.oneCell' = true)
    (hr : ∀ (i : Nat) (x : AV) (v : Value), l[i]? = some x → c[i]? = some v → Rep μ F w x v) : Evo w μ w' μ ∧ Gam μ F (M.set id (.cells l)) w' := by
  have hev : Evo w μ w' μ := by
    refine ⟨hw.os, hw.tape, hw.output, Nat.le_of_eq hw.size.symm, fun _ _ => .inl rfl, ?_, ?_, fun _ _ _ h => h⟩
    · intro k hk hn
      refine hw.other k ?_
      rintro rfl
      exact hn 0 ⟨id, .inl hid⟩
    · intro k e c' ty' fr hk hn hc'
      by_cases hkb : k = b
      · subst hkb
        have he := hn 0 ⟨id, .inl hid⟩
        rw [h0] at hc'
        cases hc'
        exact ⟨c, hc, hs0, fun o ho => by omega⟩
      · exact ⟨c', (hw.other k hkb).trans hc', rfl, fun _ _ => rfl⟩
  refine ⟨hev, h.dom, ?_, ?_, h.inj, h.frm, ⟨fun k o ho => by rw [hw.size]; exact h.fit.own k o ho, fun k o ho => by rw [hw.size]; exact h.fit.frm k o ho⟩⟩
  · intro i l' hl
    rw [Mem.get_set] at hl
    split at hl
    · rename_i e
      cases hl
      subst e
      exact ⟨b, c, ty, hid, hc, hs, hone, fun i x v hx hv => (hr i x v hx hv).evo hev⟩
    · rename_i e
      obtain ⟨b', c', ty', h1, h2, h3, h4, h5⟩ := h.obj i l' hl
      have hne : b' ≠ b := by
        rintro rfl
        exact e (h.inj i id b' (.inl h1) (.inl hid))
      exact ⟨b', c', ty', h1, (hw.other b' hne).trans h2, h3, h4, fun i x v hx hv => (h5 i x v hx hv).evo hev⟩
  · intro i g hl
    rw [Mem.get_set] at hl
    split at hl
    · cases hl
    · rename_i e
      obtain ⟨p, h1, h2⟩ := h.spare i g hl
      refine ⟨p, h1, fun b' e' hp => ?_⟩
      obtain ⟨c', ty', fr, h3, h4, h5⟩ := h2 b' e' hp
      have hne : b' ≠ b := by
        rintro rfl
        subst hp
        exact e (h.inj i id b' (.inr ⟨e', g, h1⟩) (.inl hid))
      exact ⟨c', ty', fr, (hw.other b' hne).trans h3, h4, h5⟩

/-- Room for appending: a first one (nobody had any), or of the next generation. -/
theorem gam_room {μ : Mu} {F : Frm} {M : Mem} {w w' : World} (h : Gam μ F M w) {p : Option (Nat × Nat)}
    (hos : w'.os = w.os) (htape : w'.tape = w.tape) (hout : w'.output = w.output) (hsize : w.heap.size ≤ w'.heap.size)
    {id g : Nat} (hcase : (id = M.next ∧ ∀ k, k < w.heap.size → w'.heap[k]? = w.heap[k]?) ∨
      (∃ q g0, M.get id = some (.spare g0) ∧ μ id = some (.spare q g0) ∧ g0 < g ∧ (∀ k, k < w.heap.size → (∀ e, q ≠ some (k, e)) → w'.heap[k]? = w.heap[k]?) ∧
        ∀ k e, q = some (k, e) → ∀ c ty fr, w.heap[k]? = some (.cells c ty fr) → ∃ c', w'.heap[k]? = some (.cells c' ty fr) ∧ c'.size = c.size ∧ ∀ o, o < e → c'[o]? = c[o]?))
    (hp : ∀ b e, p = some (b, e) → (∃ c ty fr, w'.heap[b]? = some (.cells c ty fr) ∧ e ≤ c.size ∧ Soft fr c.size) ∧
      (w.heap.size ≤ b ∨ ∃ e0 g0, μ id = some (.spare (some (b, e0)) g0) ∧ e0 ≤ e)) :
    Evo w μ w' (μ.put id (.spare p g)) ∧ ∀ M', M'.next = (if id = M.next then M.next + 1 else M.next) → (∀ i, M'.get i = if i = id then some (.spare g) else M.get i) → Gam (μ.put id (.spare p g)) F M' w' := by
  have hidn : id = M.next ∨ μ id ≠ none := by
    rcases hcase with ⟨h1, _⟩ | ⟨q, g0, _, h1, _⟩
    · exact .inl h1
    · exact .inr (by rw [h1]; simp)
  have hput : ∀ i, i ≠ id → (μ.put id (.spare p g)) i = μ i := fun i hi => by simp [Mu.put, hi]
  have hputs : (μ.put id (.spare p g)) id = some (.spare p g) := by simp [Mu.put]
  have hown : ∀ k o, Own (μ.put id (.spare p g)) k o → w.heap.size ≤ k ∨ Own μ k o := by
    rintro k o ⟨i, h1 | ⟨e, g', h1, he⟩⟩
    · by_cases hi : i = id
      · subst hi; rw [hputs] at h1; cases h1
      · rw [hput i hi] at h1; exact .inr ⟨i, .inl h1⟩
    · by_cases hi : i = id
      · subst hi
        rw [hputs] at h1
        cases h1
        rcases (hp k e rfl).2 with h2 | ⟨e0, g0, h2, h3⟩
        · exact .inl h2
        · exact .inr ⟨i, .inr ⟨e0, g0, h2, by omega⟩⟩
      · rw [hput i hi] at h1; exact .inr ⟨i, .inr ⟨e, g', h1, he⟩⟩
  -- old blocks
  have hold : ∀ k, k < w.heap.size → (∀ i, Lies μ i k → i ≠ id) → w'.heap[k]? = w.heap[k]? := by
    intro k hk hl
    rcases hcase with ⟨_, h2⟩ | ⟨q, g0, h1, h2, _, h4, h5⟩
    · exact h2 k hk
    · refine h4 k hk ?_
      rintro e rfl
      exact hl id (.inr ⟨e, g0, h2⟩) rfl
  have hev : Evo w μ w' (μ.put id (.spare p g)) := by
    refine ⟨hos, htape, hout, hsize, ?_, ?_, ?_, fun k o hk ho => (hown k o ho).resolve_left (by omega)⟩
    · intro i hi
      by_cases he : i = id
      · subst he
        rcases hcase with ⟨h1, _⟩ | ⟨q, g0, _, h1, h2, _⟩
        · subst h1; exact absurd (gam_next h) hi
        · exact .inr (.inr ⟨q, g0, p, g, h1, hputs, h2⟩)
      · exact .inl (hput i he)
    · intro k hk hn
      refine hold k hk ?_
      rintro i (h1 | ⟨e, g', h1⟩) rfl
      · exact hn 0 ⟨i, .inl h1⟩
      · exact hn e ⟨i, .inr ⟨e, g', h1, Nat.le_refl _⟩⟩
    · intro k e c ty fr hk hn hc
      rcases hcase with ⟨_, h2⟩ | ⟨q, g0, h1, h2, _, h4, h5⟩
      · exact ⟨c, (h2 k hk).trans hc, rfl, fun _ _ => rfl⟩
      · by_cases hq : ∃ e', q = some (k, e')
        · obtain ⟨e', rfl⟩ := hq
          obtain ⟨c', h6, h7, h8⟩ := h5 k e' rfl c ty fr hc
          have := hn e' ⟨id, .inr ⟨e', g0, h2, Nat.le_refl _⟩⟩
          exact ⟨c', h6, h7, fun o ho => h8 o (by omega)⟩
        · exact ⟨c, (h4 k hk fun e' he' => hq ⟨e', he'⟩).trans hc, rfl, fun _ _ => rfl⟩
  refine ⟨hev, fun M' hnext hget => ⟨?_, ?_, ?_, ?_, ?_, ?_⟩⟩
  · intro i
    have := h.dom i
    by_cases hi : i = id
    · subst hi
      rw [hputs, hnext]
      simp only [ne_eq, reduceCtorEq, not_false_eq_true, true_iff]
      split
      · omega
      · rename_i hne
        exact (h.dom i).1 (hidn.resolve_left hne)
    · rw [hput i hi, this, hnext]
      split
      · rename_i he; omega
      · rfl
  · intro i l hl
    rw [hget] at hl
    split at hl
    · cases hl
    · rename_i hi
      obtain ⟨b, c, ty, h1, h2, h3, h4, h5⟩ := h.obj i l hl
      have hlt : b < w.heap.size := (Array.getElem?_eq_some_iff.1 h2).1
      refine ⟨b, c, ty, (hput i hi).trans h1, (hold b hlt ?_).trans h2, h3, h4, fun i x v hx hv => (h5 i x v hx hv).evo hev⟩
      rintro j hj rfl
      exact hi (h.inj i j b (.inl h1) hj)
  · intro i g' hl
    rw [hget] at hl
    split at hl
    · rename_i hi
      cases hl
      subst hi
      exact ⟨p, hputs, fun b e he => (hp b e he).1⟩
    · rename_i hi
      obtain ⟨q, h1, h2⟩ := h.spare i g' hl
      refine ⟨q, (hput i hi).trans h1, fun b e hq => ?_⟩
      obtain ⟨c, ty, fr, h3, h4, h5⟩ := h2 b e hq
      have hlt : b < w.heap.size := (Array.getElem?_eq_some_iff.1 h3).1
      refine ⟨c, ty, fr, (hold b hlt ?_).trans h3, h4, h5⟩
      rintro j hj rfl
      subst hq
      exact hi (h.inj i j b (.inr ⟨e, g', h1⟩) hj)
  · have lie : ∀ i k, Lies (μ.put id (.spare p g)) i k → (i = id ∧ (w.heap.size ≤ k ∨ Lies μ id k)) ∨ (i ≠ id ∧ Lies μ i k) := by
      rintro i k (h1 | ⟨e, g', h1⟩)
      · by_cases hi : i = id
        · subst hi; rw [hputs] at h1; cases h1
        · rw [hput i hi] at h1; exact .inr ⟨hi, .inl h1⟩
      · by_cases hi : i = id
        · subst hi
          rw [hputs] at h1
          cases h1
          rcases (hp k e rfl).2 with h2 | ⟨e0, g0, h2, _⟩
          · exact .inl ⟨rfl, .inl h2⟩
          · exact .inl ⟨rfl, .inr (.inr ⟨e0, g0, h2⟩)⟩
        · rw [hput i hi] at h1; exact .inr ⟨hi, .inr ⟨e, g', h1⟩⟩
    have old : ∀ i k, Lies μ i k → k < w.heap.size := by
      rintro i k (h1 | ⟨e, g, h1⟩)
      · exact h.fit.own k 0 ⟨i, .inl h1⟩
      · exact h.fit.own k e ⟨i, .inr ⟨e, g, h1, Nat.le_refl _⟩⟩
    intro i j k hi hj
    rcases lie i k hi with ⟨rfl, h1⟩ | ⟨h0, h1⟩ <;> rcases lie j k hj with ⟨h2, h3⟩ | ⟨h2, h3⟩
    · exact h2.symm
    · have hk := old j k h3
      rcases h1 with h1 | h1
      · omega
      · exact h.inj i j k h1 h3
    · subst h2
      have hk := old i k h1
      rcases h3 with h3 | h3
      · omega
      · exact h.inj i j k h1 h3
    · exact h.inj i j k h1 h3
  · intro k o ho hF
    rcases hown k o ho with h1 | h1
    · have := h.fit.frm k o hF; omega
    · exact h.frm k o h1 hF
  · refine ⟨fun k o ho => ?_, fun k o hF => Nat.lt_of_lt_of_le (h.fit.frm k o hF) hsize⟩
    rcases ho with ⟨i, h1 | ⟨e, g', h1, he⟩⟩
    · by_cases hi : i = id
      · subst hi; rw [hputs] at h1; cases h1
      · rw [hput i hi] at h1
        exact Nat.lt_of_lt_of_le (h.fit.own k o ⟨i, .inl h1⟩) hsize
    · by_cases hi : i = id
      · subst hi
        rw [hputs] at h1
        cases h1
        obtain ⟨⟨c, ty, fr, h2, _⟩, _⟩ := hp k e rfl
        exact (Array.getElem?_eq_some_iff.1 h2).1
      · rw [hput i hi] at h1
        exact Nat.lt_of_lt_of_le (h.fit.own k o ⟨i, .inr ⟨e, g', h1, he⟩⟩) hsize

end Go.Ab
