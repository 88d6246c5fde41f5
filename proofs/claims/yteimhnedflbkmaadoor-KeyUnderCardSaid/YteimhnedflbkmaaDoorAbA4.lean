/- More operations that only reckon: interfaces, functions, fields, elements, lengths. -/
import Derived.Test.YteimhnedflbkmaaDoorAbA3
set_option linter.unusedVariables false
set_option linter.unusedSimpArgs false
namespace Go.Ab
open Go.RowKit

def notIface : TK → Bool
  | .iface => false
  | _ => true

def amake (τ : Tab) (t : TypeId) (x : AV) : Option AV :=
  match lookup τ t with
  | some i => if notIface i.k = true then some (.iface t x) else none
  | none => none

theorem opP_make {P : Program} {τ : Tab} (hτ : TabOK P τ) {t : TypeId} {x : Operand} {ty : TypeId} {ρ : Operand → AV} {r : AV} (h : amake τ t (ρ x) = some r) : OpP P (.makeInterface t x) ty ρ r := by
  refine opP_of_same ?_
  intro μ F w ρc o ho ht hr
  have hx := hr x (by simp [Op.operands])
  unfold amake at h
  split at h
  case h_2 => cases h
  rename_i i hi
  split at h
  case isFalse => cases h
  rename_i hn
  cases h
  obtain ⟨f, d, z, H⟩ := TI.spec hτ hi
  refine ⟨.iface t (ρc x), ?_, .iface _ _ _ hx⟩
  have hf := H.fits
  simp only [execOp, ho, Sem.run_bind, Instr.makeInterface, run_underlying H.und, Result.andThen_ok]
  generalize i.k = kk at hf hn
  cases d <;> first | rfl | (cases kk <;> simp [TK.fits, notIface] at hf hn)

theorem opP_func {P : Program} {g : Fn} {a b : Array Operand} {ty : TypeId} {ρ : Operand → AV} : OpP P (.makeFunc g a b) ty ρ (.fn g (a.toList.map ρ) (b.toList.map ρ)) := by
  refine opP_of_same ?_
  intro μ F w ρc o ho ht hr
  refine ⟨.func g (a.map ρc) (b.map ρc), by simp [execOp, ho, Instr.makeFunc], ?_⟩
  refine .fn _ _ _ _ _ (by simp) (by simp) ?_ ?_
  · intro i x v hx hv
    simp only [List.getElem?_map, Array.getElem?_toList, Array.getElem?_map] at hx hv
    cases e : a[i]? with
    | none => simp [e] at hx
    | some y =>
      simp [e] at hx hv
      subst hx; subst hv
      exact hr y (by simp [Op.operands]; exact .inl (Array.mem_of_getElem? e))
  · intro i x v hx hv
    simp only [List.getElem?_map, Array.getElem?_toList, Array.getElem?_map] at hx hv
    cases e : b[i]? with
    | none => simp [e] at hx
    | some y =>
      simp [e] at hx hv
      subst hx; subst hv
      exact hr y (by simp [Op.operands]; exact .inr (Array.mem_of_getElem? e))

def aext (t : AV) (i : Nat) : Option AV :=
  match t with
  | .tup l => l[i]?
  | _ => none

theorem opP_ext {P : Program} {t : Operand} {i : Nat} {ty : TypeId} {ρ : Operand → AV} {r : AV} (h : aext (ρ t) i = some r) : OpP P (.extract t i) ty ρ r := by
  refine opP_of_same ?_
  intro μ F w ρc o ho ht hr
  have hx := hr t (by simp [Op.operands])
  generalize hv : ρc t = v at hx
  unfold aext at h
  split at h
  case h_2 => cases h
  rename_i l e
  rw [e] at hx
  cases hx
  rename_i c hs hc
  have hi : i < c.size := by rw [hs]; exact (List.getElem?_eq_some_iff.1 h).1
  refine ⟨c[i], ?_, hc i r _ h (Array.getElem?_eq_getElem hi)⟩
  simp [execOp, ho, hv, Instr.extract, Array.getElem?_eq_getElem hi]

/-! ### Fields -/
def fieldAt (τ : Tab) (t : TypeId) (j : Nat) : Option (Nat × TI) :=
  match lookup τ t with
  | some { k := .struct fs, .. } => (match fs[j]? with | some (o, ft) => (match lookup τ ft with | some fi => some (o, fi) | none => none) | none => none)
  | _ => none

theorem fieldAt_spec {P : Program} {τ : Tab} (hτ : TabOK P τ) {t : TypeId} {j o : Nat} {fi : TI} (h : fieldAt τ t j = some (o, fi)) :
    ∃ fs f ff fd fz, P.underlying t = some (.struct fs) ∧ fs[j]? = some f ∧ f.offset = o ∧ TIs P f.type fi ff fd fz := by
  unfold fieldAt at h
  split at h
  case h_2 => cases h
  rename_i fs hl
  split at h
  case h_2 => cases h
  rename_i o' ft hj
  split at h
  case h_2 => cases h
  rename_i fi' hf
  cases h
  obtain ⟨f, d, z, H⟩ := TI.spec hτ hl
  have hft := H.fits
  simp only at hft
  cases d <;> simp [TK.fits] at hft
  rename_i gs
  subst hft
  obtain ⟨ff, fd, fz, HF⟩ := TI.spec hτ hf
  simp only [List.getElem?_map, Array.getElem?_toList] at hj
  cases e : gs[j]? with
  | none => simp [e] at hj
  | some g =>
    simp only [e, Option.map_some, Option.some.injEq, Prod.mk.injEq] at hj
    obtain ⟨h1, h2⟩ := hj
    subst h2
    exact ⟨gs, g, ff, fd, fz, H.und, e, h1, HF⟩

theorem TIs.cellsOf {P : Program} {t : TypeId} {i : TI} {f : TypeInfo} {d : TypeDesc} {z : Value} (h : TIs P t i f d z) : P.cellsOf t = i.size := by
  simp [Program.cellsOf, h.info, h.size]

def afield (τ : Tab) (t : TypeId) (j : Nat) (x : AV) : Option AV :=
  match x, fieldAt τ t j with
  | .agg l, some (o, fi) => if fi.agg = true then some (.agg ((l.drop o).take fi.size)) else l[o]?
  | _, _ => none

theorem opP_field {P : Program} {τ : Tab} (hτ : TabOK P τ) {t : TypeId} {x : Operand} {j : Nat} {ty : TypeId} {ρ : Operand → AV} {r : AV} (h : afield τ t j (ρ x) = some r) : OpP P (.field t x j) ty ρ r := by
  refine opP_of_same ?_
  intro μ F w ρc o ho ht hr
  have hx := hr x (by simp [Op.operands])
  generalize hv : ρc x = v at hx
  unfold afield at h
  split at h
  case h_2 => cases h
  rename_i l of_ fi e hfa
  obtain ⟨fs, f, ff, fd, fz, hu, hj, hoff, H⟩ := fieldAt_spec hτ hfa
  rw [e] at hx
  cases hx
  rename_i c hone hs hc
  subst hoff
  have ha := H.isAgg w
  split at h
  · rename_i hagg
    cases h
    refine ⟨.agg (c.extract f.offset (f.offset + fi.size)), ?_, ?_⟩
    · simp [execOp, ho, hv, Instr.field, run_underlying hu, hj, asAgg, part, ha, hagg, run_sizeOf w H.info, H.size, H.cellsOf]
    · have hsz : ∀ i : Nat, (c.extract f.offset (f.offset + fi.size))[i]? = if i < fi.size then c[f.offset + i]? else none := by
        intro i
        rw [Array.getElem?_extract]
        by_cases hi : i < fi.size
        · rw [if_pos hi]
          by_cases hb : f.offset + i < c.size
          · rw [if_pos (by omega)]
          · rw [if_neg (by omega), Array.getElem?_eq_none (by omega)]
        · rw [if_neg hi, if_neg (by omega)]
      have hsl : ∀ i : Nat, ((l.drop f.offset).take fi.size)[i]? = if i < fi.size then l[f.offset + i]? else none := by
        intro i
        rw [List.getElem?_take]
        split
        · rw [List.getElem?_drop]
        · rfl
      refine .agg _ _ ?_ ?_ ?_
      · simp only [Array.size_extract, List.length_take, List.length_drop]
        omega
      · intro i y u hy hu'
        rw [hsl] at hy
        rw [hsz] at hu'
        split at hy
        · rename_i hi
          rw [if_pos hi] at hu'
          exact hc _ _ _ hy hu'
        · cases hy
      · intro i u hu'
        rw [hsz] at hu'
        split at hu'
        · exact hone _ _ hu'
        · cases hu'
  · rename_i hagg
    have hi : f.offset < c.size := by rw [hs]; exact (List.getElem?_eq_some_iff.1 h).1
    refine ⟨c[f.offset], ?_, hc _ r _ h (Array.getElem?_eq_getElem hi)⟩
    simp [execOp, ho, hv, Instr.field, run_underlying hu, hj, asAgg, part, ha, hagg, Array.getElem?_eq_getElem hi]

end Go.Ab
