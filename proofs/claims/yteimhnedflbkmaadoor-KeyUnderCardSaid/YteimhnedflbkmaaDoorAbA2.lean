/- Types in a table, operands, and the operations that leave the world alone. -/
import Derived.Test.YteimhnedflbkmaaDoorAbA1
import Derived.WalkKit
set_option linter.unusedVariables false
set_option linter.unusedSimpArgs false
namespace Go.Ab

/-! ### Types -/
inductive TK where
  | int (k : IntKind)
  | bool
  | str
  | slice (e : TypeId)
  | array (n : Nat) (e : TypeId)
  | struct (fs : List (Nat × TypeId))
  | ptr (e : TypeId)
  | iface
  | map (k e : TypeId)
  | other

structure TI where
  size : Nat
  bytes : Nat
  k : TK
  zero : List AV

abbrev Tab := List (Nat × TI)

/-- A value of one cell that needs no world. -/
def AV.toV : AV → Value
  | .int k n => .int k n
  | .bool b => .bool b
  | .str s => .string ⟨s.toArray⟩
  | .sl _ [] .full => .slice none 0 0
  | .nilptr => .pointer none
  | .nilIface => .nilIface
  | .nilFunc => .nilFunc
  | .nilmap => .map none
  | _ => undef

def AV.plain : AV → Bool
  | .int .. | .bool _ | .str _ | .sl _ [] .full | .nilptr | .nilIface | .nilFunc | .nilmap => true
  | _ => false

theorem rep_toV (μ : Mu) (F : Frm) (w : World) {x : AV} (h : x.plain = true) : Rep μ F w x x.toV := by
  cases x with
  | int k n => exact .int k n
  | bool b => exact .bool b
  | str s => exact .str s
  | sl sz xs t =>
    cases xs with
    | nil =>
      cases t with
      | full => exact Rep.sl _ [] .full none 0 ⟨0, 0, none⟩ (fun _ => undef) (by simp) (by simp) (by simp) (by simp) (by simp) (by simp) rfl
      | _ => simp [AV.plain] at h
    | cons _ _ => simp [AV.plain] at h
  | nilptr => exact .nilptr
  | nilIface => exact .nilIface
  | nilFunc => exact .nilFunc
  | nilmap => exact .nilmap
  | _ => simp [AV.plain] at h

theorem one_toV {x : AV} (h : x.plain = true) : x.toV.oneCell' = true := by
  cases x with
  | sl sz xs t => cases xs with
    | nil => cases t <;> first | rfl | simp [AV.plain] at h
    | cons _ _ => simp [AV.plain] at h
  | _ => first | rfl | simp [AV.plain] at h

/-- Is a value just this one? -/
def sameV : Value → AV → Bool
  | .int k n, .int k' n' => k == k' && n == n'
  | .bool b, .bool b' => b == b'
  | .string s, .str l => s.data.toList == l
  | .slice none 0 0, .sl _ [] .full => true
  | .pointer none, .nilptr => true
  | .nilIface, .nilIface => true
  | .nilFunc, .nilFunc => true
  | .map none, .nilmap => true
  | _, _ => false

theorem sameV_spec {v : Value} {x : AV} (h : sameV v x = true) : v = x.toV ∧ x.plain = true := by
  unfold sameV at h
  split at h <;> simp at h
  · obtain ⟨rfl, rfl⟩ := h; exact ⟨rfl, rfl⟩
  · subst h; exact ⟨rfl, rfl⟩
  · rename_i s l
    refine ⟨?_, rfl⟩
    cases s
    simp only [AV.toV]
    subst h
    simp
  all_goals exact ⟨rfl, rfl⟩

def TK.fits : TK → TypeDesc → Bool
  | .int k, .int k' => k == k'
  | .bool, .bool => true
  | .str, .string => true
  | .slice e, .slice e' => e == e'
  | .array n e, .array n' e' => n == n' && e == e'
  | .struct fs, .struct gs => gs.toList.map (fun f => (f.offset, f.type)) == fs
  | .ptr e, .pointer e' => e == e'
  | .iface, .interface _ => true
  | .map k e, .map k' e' => k == k' && e == e'
  | .other, .func .. => true
  | .other, .tuple _ => true
  | .other, .chan .. => true
  | _, _ => false

def TI.agg (i : TI) : Bool := match i.k with | .struct _ | .array .. => true | _ => false

def sameCells : List Value → List AV → Bool
  | [], [] => true
  | v :: r, x :: s => sameV v x && sameCells r s
  | _, _ => false

def aggV (z : Value) (b : Bool) : Bool := match z with | .agg _ => b | _ => !b

def TI.ok (P : Program) (t : TypeId) (i : TI) : Bool :=
  match P.info? t, P.underlying t with
  | some f, some d => f.size == i.size && f.bytes == i.bytes && i.k.fits d && (match f.zero with | some z => sameCells z.cells.toList i.zero && aggV z i.agg | none => false) && i.zero.length == i.size
  | _, _ => false

def TabOK (P : Program) (τ : Tab) : Prop := ∀ t i, lookup τ t = some i → i.ok P t = true

theorem tabOK_of {P : Program} {τ : Tab} (h : (τ.all fun p => p.2.ok P p.1) = true) : TabOK P τ := by
  intro t i hl
  have : (t, i) ∈ τ := by
    clear h
    induction τ with
    | nil => cases hl
    | cons p r ih =>
      obtain ⟨k, v⟩ := p
      simp only [lookup] at hl
      split at hl
      · rename_i e
        cases hl
        subst e
        exact List.mem_cons_self
      · exact List.mem_cons_of_mem _ (ih hl)
  exact (List.all_eq_true.1 h) _ this

structure TIs (P : Program) (t : TypeId) (i : TI) (f : TypeInfo) (d : TypeDesc) (z : Value) : Prop where
  info : P.info? t = some f
  und : P.underlying t = some d
  size : f.size = i.size
  bytes : f.bytes = i.bytes
  fits : i.k.fits d = true
  zero : f.zero = some z
  cells : sameCells z.cells.toList i.zero = true
  agg : aggV z i.agg = true
  len : i.zero.length = i.size

theorem TI.spec {P : Program} {τ : Tab} (hτ : TabOK P τ) {t : TypeId} {i : TI} (h : lookup τ t = some i) : ∃ f d z, TIs P t i f d z := by
  have := hτ t i h
  unfold TI.ok at this
  split at this
  · rename_i f d hf hd
    simp only [Bool.and_eq_true, beq_iff_eq] at this
    obtain ⟨⟨⟨⟨h1, h2⟩, h3⟩, h4⟩, h5⟩ := this
    split at h4
    · rename_i z hz
      simp only [Bool.and_eq_true] at h4
      exact ⟨f, d, z, hf, hd, h1, h2, h3, hz, h4.1, h4.2, h5⟩
    · cases h4
  · cases this

theorem TIs.isAgg {P : Program} {t : TypeId} {i : TI} {f : TypeInfo} {d : TypeDesc} {z : Value} (h : TIs P t i f d z) (w : World) : (isAgg t).run P w = .ok i.agg w := by
  have hf := h.fits
  unfold Go.isAgg
  simp only [Sem.run_bind, run_underlying h.und, Result.andThen_ok]
  unfold TI.agg
  cases hk : i.k <;> cases d <;> simp [hk, TK.fits] at hf ⊢

theorem sameCells_get : ∀ {l : List Value} {zs : List AV}, sameCells l zs = true → l.length = zs.length ∧ ∀ (j : Nat) (v : Value) (x : AV), l[j]? = some v → zs[j]? = some x → v = x.toV ∧ x.plain = true
  | [], [], _ => ⟨rfl, by simp⟩
  | v :: r, x :: s, h => by
    simp only [sameCells, Bool.and_eq_true] at h
    obtain ⟨h1, h2⟩ := sameCells_get h.2
    refine ⟨by simp [h1], ?_⟩
    intro j v' x' hv hx
    cases j with
    | zero =>
      simp at hv hx
      subst hv; subst hx
      exact sameV_spec h.1
    | succ j => exact h2 j v' x' (by simpa using hv) (by simpa using hx)
  | [], _ :: _, h => by simp [sameCells] at h
  | _ :: _, [], h => by simp [sameCells] at h

/-- A zero value as an abstract one. -/
def TI.zv (i : TI) : AV := if i.agg then .agg i.zero else i.zero.getD 0 .top

theorem TIs.zrep {P : Program} {t : TypeId} {i : TI} {f : TypeInfo} {d : TypeDesc} {z : Value} (h : TIs P t i f d z) (hs : i.agg = true ∨ i.size = 1) (μ : Mu) (F : Frm) (w : World) : Rep μ F w i.zv z := by
  have ha := h.agg
  obtain ⟨hl, hc⟩ := sameCells_get h.cells
  unfold TI.zv
  unfold aggV at ha
  split at ha
  · rename_i cs
    rw [if_pos ha]
    simp only [Value.cells] at hl hc
    refine .agg _ _ (by simpa using hl) ?_ ?_
    · intro j x v hx hv
      obtain ⟨rfl, hp⟩ := hc j v x (by simpa using hv) hx
      exact rep_toV _ _ _ hp
    · intro j v hv
      have hj : j < i.zero.length := by
        rw [← hl]
        have := (Array.getElem?_eq_some_iff.1 hv).1
        simpa using this
      obtain ⟨rfl, hp⟩ := hc j v _ (by simpa using hv) (List.getElem?_eq_getElem hj)
      exact one_toV hp
  · rename_i v hne
    have ha' : i.agg = false := by simpa using ha
    rw [if_neg (by simp [ha'])]
    have hz : z.cells = #[z] := by
      cases z <;> first | rfl | exact absurd rfl (hne _)
    have h1 : i.zero.length = 1 := by
      have := h.len
      rcases hs with hs | hs
      · rw [hs] at ha'; cases ha'
      · omega
    rw [hz] at hc
    obtain ⟨e, hp⟩ := hc 0 z (i.zero.getD 0 .top) rfl (by simp [h1])
    rw [e]
    exact rep_toV _ _ _ hp

/-! ### Operands -/
def ofV1 : Value → AV
  | .int k n => .int k n
  | .bool b => .bool b
  | .string s => .str s.data.toList
  | .slice none 0 0 => .sl 0 [] .full
  | .pointer none => .nilptr
  | .nilIface => .nilIface
  | .nilFunc => .nilFunc
  | .map none => .nilmap
  | _ => .top

theorem rep_ofV1 (μ : Mu) (F : Frm) (w : World) (v : Value) : Rep μ F w (ofV1 v) v := by
  unfold ofV1
  split
  · exact .int _ _
  · exact .bool _
  · rename_i s
    have := Rep.str (μ := μ) (F := F) (w := w) s.data.toList
    simpa using this
  · exact Rep.sl _ [] .full none 0 ⟨0, 0, none⟩ (fun _ => undef) (by simp) (by simp) (by simp) (by simp) (by simp) (by simp) rfl
  · exact .nilptr
  · exact .nilIface
  · exact .nilFunc
  · exact .nilmap
  · exact .top _

def ofV : Value → AV
  | .agg cs => if cs.all (·.oneCell') then .agg (cs.toList.map ofV1) else .top
  | v => ofV1 v

theorem rep_ofV (μ : Mu) (F : Frm) (w : World) (v : Value) : Rep μ F w (ofV v) v := by
  unfold ofV
  split
  · rename_i cs
    split
    · rename_i h1
      refine .agg _ _ (by simp) ?_ ?_
      · intro i x v hx hv
        simp only [List.getElem?_map, Array.getElem?_toList, hv, Option.map_some] at hx
        cases hx
        exact rep_ofV1 _ _ _ _
      · intro i v hv
        exact (Array.all_eq_true_iff_forall_mem.1 h1) v (Array.mem_of_getElem? hv)
    · exact .top _
  · exact rep_ofV1 _ _ _ _


end Go.Ab
