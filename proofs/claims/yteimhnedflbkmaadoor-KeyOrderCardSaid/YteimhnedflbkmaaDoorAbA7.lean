/- Operations on objects: variables made, read, written; appends. -/
import Derived.Test.YteimhnedflbkmaaDoorAbA6
set_option linter.unusedVariables false
set_option linter.unusedSimpArgs false
namespace Go.Ab
open Go.RowKit

/-- An operation that reads the objects, and leaves them. -/
def OpR (P : Program) (op : Op) (ty : TypeId) (ρ : Operand → AV) (M : Mem) (x : AV) : Prop :=
  ∀ (μ : Mu) (F : Frm) (w : World) (ρc : Operand → Value) (o : Oper), Gam μ F M w → o.op = op → o.type = ty → (∀ y ∈ op.operands, Rep μ F w (ρ y) (ρc y)) →
    ∃ v w', (execOp ρc o).run P w = .ok (.value v) w' ∧ Below w.heap.size w w' ∧ Rep μ F w' x v

/-- An operation that makes or turns objects. -/
def OpE (P : Program) (op : Op) (ty : TypeId) (ρ : Operand → AV) (M : Mem) (x : AV) (M' : Mem) : Prop :=
  ∀ (μ : Mu) (F : Frm) (w : World) (ρc : Operand → Value) (o : Oper), Gam μ F M w → o.op = op → o.type = ty → (∀ y ∈ op.operands, Rep μ F w (ρ y) (ρc y)) →
    ∃ μ' n v w', (execOp ρc o).run P w = .ok n w' ∧ (n = .value v ∨ n = .skip ∧ v = undef) ∧ Evo w μ w' μ' ∧ Gam μ' F M' w' ∧ Rep μ' F w' x v

theorem OpP.toR {P : Program} {op : Op} {ty : TypeId} {ρ : Operand → AV} {M : Mem} {x : AV} (h : OpP P op ty ρ x) : OpR P op ty ρ M x :=
  fun μ F w ρc o hg ho ht hr => h μ F w ρc o hg.fit ho ht hr

theorem OpR.toE {P : Program} {op : Op} {ty : TypeId} {ρ : Operand → AV} {M : Mem} {x : AV} (h : OpR P op ty ρ M x) : OpE P op ty ρ M x M := by
  intro μ F w ρc o hg ho ht hr
  obtain ⟨v, w', h1, h2, h3⟩ := h μ F w ρc o hg ho ht hr
  exact ⟨μ, .value v, v, w', h1, .inl rfl, Evo.of_below μ h2, hg.below h2, h3⟩

def AV.solid : AV → Bool
  | .top | .tup _ => false
  | _ => true

theorem rep_one {μ : Mu} {F : Frm} {w : World} {x : AV} {v : Value} (h : Rep μ F w x v) (hs : x.solid = true) (hn : ∀ l, x ≠ .agg l) : v.oneCell' = true := by
  cases h <;> first | rfl | assumption | (simp [AV.solid] at hs; done) | exact absurd rfl (hn _)

/-- A value's cells. -/
theorem rep_cells {μ : Mu} {F : Frm} {w : World} {x : AV} {v : Value} (h : Rep μ F w x v) (hs : x.solid = true) :
    v.cells.size = x.cells.length ∧ (∀ (i : Nat) (u : Value), v.cells[i]? = some u → u.oneCell' = true) ∧ ∀ (i : Nat) (y : AV) (u : Value), x.cells[i]? = some y → v.cells[i]? = some u → Rep μ F w y u := by
  by_cases ha : ∃ l, x = .agg l
  · obtain ⟨l, rfl⟩ := ha
    obtain ⟨c, rfl, h1, h2, h3⟩ := h.agg_inv
    exact ⟨h1, h3, h2⟩
  · have hn : ∀ l, x ≠ .agg l := fun l e => ha ⟨l, e⟩
    have h1 := rep_one h hs hn
    have hv : v.cells = #[v] := by cases v <;> first | rfl | (simp [Value.oneCell'] at h1; done)
    have hx : x.cells = [x] := by cases x <;> first | rfl | exact absurd rfl (hn _)
    rw [hv, hx]
    refine ⟨rfl, ?_, ?_⟩
    · intro i u hu
      cases i with
      | zero => simp at hu; subst hu; exact h1
      | succ i => simp at hu
    · intro i y u hy hu
      cases i with
      | zero => simp at hy hu; subst hy; subst hu; exact h
      | succ i => simp at hy

/-! ### Variables -/
theorem heap_push_old (w : World) (o : Obj) (k : Nat) (h : k < w.heap.size) : ({ w with heap := w.heap.push o } : World).heap[k]? = w.heap[k]? := by
  simp only [Array.getElem?_push]
  rw [if_neg (by omega)]

theorem below_push (w : World) (o : Obj) : Below w.heap.size w { w with heap := w.heap.push o } :=
  ⟨rfl, rfl, rfl, by simp, fun k hk => heap_push_old w o k hk⟩

theorem opE_box {P : Program} {t : TypeId} {x : Operand} {ty : TypeId} {ρ : Operand → AV} {M : Mem} (hs : (ρ x).solid = true) : OpE P (.box t x) ty ρ M (.ptr M.next 0) (M.push (.cells (ρ x).cells)) := by
  intro μ F w ρc o hg ho ht hr
  have hx := hr x (by simp [Op.operands])
  obtain ⟨h1, h2, h3⟩ := rep_cells hx hs
  have hb := below_push w (.cells (ρc x).cells t)
  have hnew : ({ w with heap := w.heap.push (.cells (ρc x).cells t) } : World).heap[w.heap.size]? = some (.cells (ρc x).cells t (0, 0)) := by simp
  obtain ⟨he, hG⟩ := gam_push hg hb (Nat.le_refl _) hnew h1 h2 h3
  refine ⟨_, _, .pointer (some ⟨w.heap.size, 0, none⟩), _, ?_, .inl rfl, he, hG, ?_⟩
  · simp [execOp, ho, Instr.box, newVar, newRow]
  · exact .ptr _ _ _ rfl (by simp [Mu.put]) (fun b hb => by simp [Mu.put] at hb; subst hb; rfl)

theorem opE_alloc {P : Program} {τ : Tab} (hτ : TabOK P τ) {t : TypeId} {i : TI} (hi : lookup τ t = some i) (h1 : i.agg = true ∨ i.size = 1) (hs : i.zv.solid = true) {ty : TypeId} {ρ : Operand → AV} {M : Mem} :
    OpE P (.alloc t) ty ρ M (.ptr M.next 0) (M.push (.cells i.zv.cells)) := by
  intro μ F w ρc o hg ho ht hr
  obtain ⟨f, d, z, H⟩ := TI.spec hτ hi
  have hx := H.zrep h1 μ F w
  obtain ⟨h1, h2, h3⟩ := rep_cells hx hs
  have hb := below_push w (.cells z.cells t)
  have hnew : ({ w with heap := w.heap.push (.cells z.cells t) } : World).heap[w.heap.size]? = some (.cells z.cells t (0, 0)) := by simp
  obtain ⟨he, hG⟩ := gam_push hg hb (Nat.le_refl _) hnew h1 h2 h3
  refine ⟨_, _, .pointer (some ⟨w.heap.size, 0, none⟩), _, ?_, .inl rfl, he, hG, ?_⟩
  · have hz : (zeroValue t).run P w = .ok z w := by simp [zeroValue, typeInfo, H.info, H.zero]
    simp [execOp, ho, Instr.alloc, newVar, newRow, hz]
  · exact .ptr _ _ _ rfl (by simp [Mu.put]) (fun b hb => by simp [Mu.put] at hb; subst hb; rfl)

/-- A variable that is never written: its place is known by what it holds. -/
theorem opP_box {P : Program} {t : TypeId} {x : Operand} {ty : TypeId} {ρ : Operand → AV} (hs : (ρ x).solid = true) : OpP P (.box t x) ty ρ (.ref (ρ x).cells) := by
  intro μ F w ρc o hf ho ht hr
  have hx := hr x (by simp [Op.operands])
  obtain ⟨h1, h2, h3⟩ := rep_cells hx hs
  have hb := below_push w (.cells (ρc x).cells t)
  refine ⟨.pointer (some ⟨w.heap.size, 0, none⟩), _, ?_, hb, ?_⟩
  · simp [execOp, ho, Instr.box, newVar, newRow]
  · have hc : ∀ j, ({ w with heap := w.heap.push (.cells (ρc x).cells t) } : World).cell? ⟨w.heap.size, 0 + j, none⟩ = (ρc x).cells[j]? := by
      intro j
      rw [cell_mk (c := (ρc x).cells) (ty := t) (fr := (0, 0)) (by simp), Nat.zero_add]
    have hget : ∀ (j : Nat) (c : AV), (ρ x).cells[j]? = some c → (ρc x).cells[j]? = some ((ρc x).cells.getD j undef) := by
      intro j c hj
      have : j < (ρc x).cells.size := by rw [h1]; exact (List.getElem?_eq_some_iff.1 hj).1
      simp [Array.getD, this]
    refine .ref _ _ _ (fun j => (ρc x).cells.getD j undef) ?_ ?_ ?_
    · intro j c hj
      exact h2 j _ (hget j c hj)
    · intro j c hj
      refine ⟨by rw [hc]; exact hget j c hj, hf.new (by simp)⟩
    · intro j c hj
      exact (h3 j c _ hj (hget j c hj)).later hb

theorem gam_ptr {μ : Mu} {F : Frm} {M : Mem} {w : World} (hg : Gam μ F M w) {id off : Nat} {l : List AV} (hM : M.get id = some (.cells l)) {v : Value} (hr : Rep μ F w (.ptr id off) v) :
    ∃ b c ty, μ id = some (.at b) ∧ v = .pointer (some ⟨b, off, none⟩) ∧ w.heap[b]? = some (.cells c ty (0, 0)) ∧ c.size = l.length ∧ (∀ (i : Nat) (v : Value), c[i]? = some v → v.oneCell' = true) ∧
      ∀ (i : Nat) (x : AV) (v : Value), l[i]? = some x → c[i]? = some v → Rep μ F w x v := by
  obtain ⟨b, c, ty, h1, h2, h3, h4, h5⟩ := hg.obj id l hM
  cases hr with
  | ptr _ _ _ h1' h hv => exact ⟨b, c, ty, h1, hv b h1, h2, h3, h4, h5⟩

def aloadM (M : Mem) (τ : Tab) (t : TypeId) (x : AV) : Option AV :=
  match x with
  | .ptr id off =>
    match M.get id, lookup τ t with
    | some (.cells l), some i => if i.agg = true then (if off + i.size ≤ l.length then some (.agg ((l.drop off).take i.size)) else none) else l[off]?
    | _, _ => none
  | _ => none

theorem run_aloadM {P : Program} {τ : Tab} (hτ : TabOK P τ) {t : TypeId} {y : AV} {M : Mem} {r : AV} (h : aloadM M τ t y = some r) {μ : Mu} {F : Frm} {w : World} (hg : Gam μ F M w) {p : Value} (hx : Rep μ F w y p) :
    ∃ b off v, p = .pointer (some ⟨b, off, none⟩) ∧ (loadVar t ⟨b, off, none⟩).run P w = .ok v w ∧ Rep μ F w r v := by
  unfold aloadM at h
  split at h
  case h_2 => cases h
  rename_i id off
  split at h
  case h_2 => cases h
  rename_i l i hM hi
  obtain ⟨f, d, z, H⟩ := TI.spec hτ hi
  obtain ⟨b, c, tb, hm, hv, hb, hsz, hone, hrep⟩ := gam_ptr hg hM hx
  refine ⟨b, off, ?_⟩
  have hcell : ∀ j, w.cell? ⟨b, off + j, none⟩ = c[off + j]? := fun j => cell_mk hb
  split at h
  · rename_i hagg
    split at h
    case isFalse => cases h
    rename_i hle
    cases h
    have hlt : ∀ j, j < i.size → c[off + j]? = some (c.getD (off + j) undef) := fun j hj => by
      have : off + j < c.size := by omega
      simp [Array.getD, this]
    have hl := H.run_load w b off (fun j => c.getD (off + j) undef) (fun j hj => by
      rw [if_pos hagg] at hj
      rw [hcell, hlt j hj])
    rw [if_pos hagg] at hl
    refine ⟨.agg (List.map (fun j => c.getD (off + j) undef) (List.range i.size)).toArray, hv, hl, ?_⟩
    have hu : ∀ (j : Nat) (u : Value), (List.map (fun j => c.getD (off + j) undef) (List.range i.size)).toArray[j]? = some u → j < i.size ∧ c[off + j]? = some u := by
      intro j u hu
      have hj : j < i.size := by
        have := (Array.getElem?_eq_some_iff.1 hu).1
        simpa using this
      refine ⟨hj, ?_⟩
      rw [hlt j hj]
      simp [hj] at hu
      rw [← hu]
      simp [Array.getD_eq_getD_getElem?]
    refine .agg _ _ (by simp; omega) ?_ ?_
    · intro j y u hy hu'
      obtain ⟨hj, hu'⟩ := hu j u hu'
      rw [List.getElem?_take, if_pos hj, List.getElem?_drop] at hy
      exact hrep _ _ _ hy hu'
    · intro j u hu'
      exact hone _ _ (hu j u hu').2
  · rename_i hagg
    have hlt : off < c.size := by rw [hsz]; exact (List.getElem?_eq_some_iff.1 h).1
    have hl := H.run_load w b off (fun j => c[off]) (fun j hj => by
      rw [if_neg hagg] at hj
      obtain rfl : j = 0 := by omega
      rw [hcell, Nat.add_zero, Array.getElem?_eq_getElem hlt])
    rw [if_neg hagg] at hl
    exact ⟨c[off], hv, hl, hrep off r _ h (Array.getElem?_eq_getElem hlt)⟩

theorem opR_load {P : Program} {τ : Tab} (hτ : TabOK P τ) {t : TypeId} {x : Operand} {ty : TypeId} {ρ : Operand → AV} {M : Mem} {r : AV} (h : aloadM M τ t (ρ x) = some r) : OpR P (.load t x) ty ρ M r := by
  intro μ F w ρc o hg ho ht hr
  obtain ⟨b, off, v, hv, hl, hrep⟩ := run_aloadM hτ h hg (hr x (by simp [Op.operands]))
  exact ⟨v, w, by simp [execOp, ho, hv, Instr.loadAt, Instr.sureAddr, hl], Below.refl _ _, hrep⟩

def afaddrM (M : Mem) (τ : Tab) (t : TypeId) (j : Nat) (x : AV) : Option AV :=
  match x with
  | .ptr id off =>
    match M.get id, fieldAt τ t j with
    | some (.cells _), some (o, fi) => if fi.size ≠ 0 then some (.ptr id (off + o)) else none
    | _, _ => none
  | _ => none

theorem opR_faddr {P : Program} {τ : Tab} (hτ : TabOK P τ) {t : TypeId} {x : Operand} {j : Nat} {ty : TypeId} {ρ : Operand → AV} {M : Mem} {r : AV} (h : afaddrM M τ t j (ρ x) = some r) : OpR P (.fieldAddr t x j) ty ρ M r := by
  intro μ F w ρc o hg ho ht hr
  have hx := hr x (by simp [Op.operands])
  unfold afaddrM at h
  split at h
  case h_2 => cases h
  rename_i id off e
  split at h
  case h_2 => cases h
  rename_i l of_ fi hM hfa
  obtain ⟨fs, f, ff, fd, fz, hu, hj, hoff, H⟩ := fieldAt_spec hτ hfa
  split at h
  case isFalse => cases h
  rename_i hs
  cases h
  rw [e] at hx
  obtain ⟨b, c, tb, hm, hv, hb, hsz, hone, hrep⟩ := gam_ptr hg hM hx
  subst hoff
  refine ⟨.pointer (some ⟨b, off + f.offset, none⟩), w, ?_, Below.refl _ _, ?_⟩
  · simp [execOp, ho, hv, run_fieldAt w hu hj H hs]
  · exact .ptr _ _ _ rfl (by rw [hm]; simp) (fun b' hb' => by rw [hm] at hb'; cases hb'; rfl)

/-- A pointer that is not nil. -/
def anil (M : Mem) (x : AV) : Option AV :=
  match x with
  | .ptr id off => (match M.get id with | some (.cells _) => some x | _ => none)
  | .ref _ => some x
  | .fn (.func _) _ _ => some x
  | _ => none

theorem opR_nil {P : Program} {x : Operand} {ty : TypeId} {ρ : Operand → AV} {M : Mem} {r : AV} (h : anil M (ρ x) = some r) : OpR P (.nilCheck x) ty ρ M r := by
  intro μ F w ρc o hg ho ht hr
  have hx := hr x (by simp [Op.operands])
  unfold anil at h
  split at h
  · rename_i id off e
    split at h
    case h_2 => cases h
    rename_i l hM
    cases h
    have hx' := hx
    rw [e] at hx
    obtain ⟨b, c, tb, hm, hv, _⟩ := gam_ptr hg hM hx
    rw [hv] at hx'
    exact ⟨_, w, by simp [execOp, ho, hv], Below.refl _ _, hx'⟩
  · rename_i cells e
    cases h
    have hx' := hx
    rw [e] at hx
    obtain ⟨b, off, hv⟩ := rep_ref_form hx
    rw [hv] at hx'
    exact ⟨_, w, by simp [execOp, ho, hv], Below.refl _ _, hx'⟩
  · rename_i g l1 l2 e
    cases h
    have hx' := hx
    rw [e] at hx
    obtain ⟨c1, c2, hv, _⟩ := hx.fn_inv
    rw [hv] at hx'
    exact ⟨_, w, by simp [execOp, ho, hv], Below.refl _ _, hx'⟩
  · cases h

/-! ### Writing -/
def writeAt : List AV → Nat → List AV → List AV
  | [], _, _ => []
  | r, 0, [] => r
  | _ :: r, 0, c :: cs => c :: writeAt r 0 cs
  | a :: r, n + 1, cs => a :: writeAt r n cs

theorem writeAt_length : ∀ (l : List AV) (n : Nat) (cs : List AV), (writeAt l n cs).length = l.length
  | [], _, _ => by simp [writeAt]
  | _ :: r, 0, [] => rfl
  | a :: r, 0, c :: cs => by simp [writeAt, writeAt_length r 0 cs]
  | a :: r, n + 1, cs => by simp [writeAt, writeAt_length r n cs]

theorem writeAt_get : ∀ (l : List AV) (n : Nat) (cs : List AV) (i : Nat), n + cs.length ≤ l.length → (writeAt l n cs)[i]? = if n ≤ i ∧ i < n + cs.length then cs[i - n]? else l[i]?
  | [], n, cs, i, h => by
    simp at h
    obtain ⟨rfl, rfl⟩ := h
    simp [writeAt]
  | a :: r, 0, [], i, _ => by
    rw [if_neg (by simp)]
    rfl
  | a :: r, 0, c :: cs, i, h => by
    simp only [writeAt]
    cases i with
    | zero => simp
    | succ i =>
      have := writeAt_get r 0 cs i (by simp at h; omega)
      simp only [List.getElem?_cons_succ, this, List.length_cons]
      by_cases hi : i < cs.length
      · rw [if_pos ⟨Nat.zero_le _, by omega⟩, if_pos ⟨Nat.zero_le _, by omega⟩]
        simp
      · rw [if_neg (by omega), if_neg (by omega)]
  | a :: r, n + 1, cs, i, h => by
    simp only [writeAt]
    cases i with
    | zero =>
      rw [if_neg (by omega)]
      rfl
    | succ i =>
      have := writeAt_get r n cs i (by simp at h; omega)
      simp only [List.getElem?_cons_succ, this]
      by_cases hi : n ≤ i ∧ i < n + cs.length
      · rw [if_pos hi, if_pos (by omega)]
        rw [show i + 1 - (n + 1) = i - n from by omega]
      · rw [if_neg hi, if_neg (by omega)]

/-- Cells stored into a block. -/
theorem setCells_row (g : Nat) : ∀ (vs : List Value) (o : Nat) (cur : Array Value) (t : TypeId) (fr : Nat × Nat) (w : World), w.heap[g]? = some (.cells cur t fr) → o + vs.length ≤ cur.size →
    Wrote w g (w.setCells g o vs) ∧ ∃ cur', (w.setCells g o vs).heap[g]? = some (.cells cur' t fr) ∧ cur'.size = cur.size ∧ ∀ i, cur'[i]? = if o ≤ i ∧ i < o + vs.length then vs[i - o]? else cur[i]?
  | [], o, cur, t, fr, w, hg, _ => ⟨⟨rfl, rfl, rfl, rfl, fun _ _ => rfl⟩, cur, hg, rfl, fun i => by rw [if_neg (by simp)]⟩
  | v :: r, o, cur, t, fr, w, hg, hle => by
    have hlt : g < w.heap.size := (Array.getElem?_eq_some_iff.1 hg).1
    have hg1 : (w.setCell ⟨g, o, none⟩ v).heap[g]? = some (.cells (cur.setIfInBounds o v) t fr) := by
      simp only [World.setCell, Array.getElem?_modify, hg]
      simp
    obtain ⟨h1, cur', h2, h3, h4⟩ := setCells_row g r (o + 1) (cur.setIfInBounds o v) t fr (w.setCell ⟨g, o, none⟩ v) hg1 (by simp at hle ⊢; omega)
    refine ⟨⟨h1.os, h1.tape, h1.output, by rw [World.setCells, h1.size]; simp [World.setCell], fun k hk => by rw [World.setCells, h1.other k hk]; exact Below.heap_setCell w _ _ k hk⟩, cur', h2, by rw [h3]; simp, ?_⟩
    intro i
    rw [h4]
    simp only [List.length_cons]
    by_cases h5 : o + 1 ≤ i ∧ i < o + 1 + r.length
    · rw [if_pos h5, if_pos (by omega)]
      obtain ⟨k, rfl⟩ : ∃ k, i = o + 1 + k := ⟨i - (o + 1), by omega⟩
      rw [show o + 1 + k - (o + 1) = k from by omega, show o + 1 + k - o = k + 1 from by omega]
      rfl
    · rw [if_neg h5]
      by_cases h6 : i = o
      · subst h6
        rw [if_pos (by omega)]
        have : i < cur.size := by simp at hle; omega
        simp [Array.getElem?_setIfInBounds, this]
      · rw [if_neg (by omega), Array.getElem?_setIfInBounds_ne (by omega)]

theorem opE_store {P : Program} {τ : Tab} (hτ : TabOK P τ) {t : TypeId} {i : TI} (hi : lookup τ t = some i) {x y : Operand} {ty : TypeId} {ρ : Operand → AV} {M : Mem} {id off : Nat} {l : List AV}
    (hx : ρ x = .ptr id off) (hM : M.get id = some (.cells l)) (hs : (ρ y).solid = true) (hn : (ρ y).cells.length = i.size) (hle : off + i.size ≤ l.length) :
    OpE P (.store t x y) ty ρ M .top (M.set id (.cells (writeAt l off (ρ y).cells))) := by
  intro μ F w ρc o hg ho ht hr
  have hrx := hr x (by simp [Op.operands])
  have hry := hr y (by simp [Op.operands])
  obtain ⟨f, d, z, H⟩ := TI.spec hτ hi
  rw [hx] at hrx
  obtain ⟨b, c, tb, hm, hv, hb, hsz, hone, hrep⟩ := gam_ptr hg hM hrx
  obtain ⟨h1, h2, h3⟩ := rep_cells hry hs
  have hlen : (ρc y).cells.toList.length = i.size := by rw [Array.length_toList, h1, hn]
  obtain ⟨hw, c', hc', hs', hget⟩ := setCells_row b (ρc y).cells.toList off c tb (0, 0) w hb (by rw [hlen]; omega)
  have hin : ∀ k v, c'[k]? = some v → (off ≤ k ∧ k < off + i.size ∧ (ρc y).cells[k - off]? = some v) ∨ (¬ (off ≤ k ∧ k < off + i.size) ∧ c[k]? = some v) := by
    intro k v hk
    rw [hget, hlen] at hk
    split at hk
    · rename_i h; exact .inl ⟨h.1, h.2, by simpa using hk⟩
    · rename_i h; exact .inr ⟨h, hk⟩
  obtain ⟨he, hG⟩ := gam_write hg hm hb hw (l := writeAt l off (ρ y).cells) hc' hs' (by rw [hs', hsz, writeAt_length]) (fun k v hk => by
      rcases hin k v hk with ⟨_, _, h⟩ | ⟨_, h⟩
      · exact h2 _ _ h
      · exact hone _ _ h) (fun k q v hq hk => by
      rw [writeAt_get _ _ _ _ (by rw [hn]; exact hle), hn] at hq
      rcases hin k v hk with ⟨ha, hb', h⟩ | ⟨hn', h⟩
      · rw [if_pos ⟨ha, hb'⟩] at hq
        exact h3 _ _ _ hq h
      · rw [if_neg hn'] at hq
        exact hrep _ _ _ hq h)
  refine ⟨μ, .skip, undef, _, ?_, .inr ⟨rfl, rfl⟩, he, hG, .top _⟩
  have hst := run_storeCells_cells (P := P) b off (ρc y).cells.toList 0 w (fun j hj => by
      rw [cell_mk hb, Nat.add_zero, Array.getElem?_eq_getElem (show off + j < c.size by rw [hsz]; omega)]
      rfl) (fun j hj => by simp [World.frozen?, hb]) (fun v hv => by
      obtain ⟨k, hk⟩ := List.getElem?_of_mem hv
      exact h2 k v (by simpa using hk))
  simp only [Nat.add_zero] at hst
  simp [execOp, ho, hv, Instr.storeAt, Instr.sureAddr, storeVar, run_sizeOf w H.info, H.cellsOf, H.size, h1, hn, hst]

end Go.Ab
