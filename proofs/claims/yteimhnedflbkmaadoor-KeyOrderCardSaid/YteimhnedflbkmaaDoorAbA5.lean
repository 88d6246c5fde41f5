/- Memory that never changes, read: places of structs and elements, loads, indexes; lengths. -/
import Derived.Test.YteimhnedflbkmaaDoorAbA4
set_option linter.unusedVariables false
set_option linter.unusedSimpArgs false
namespace Go.Ab
open Go.RowKit

theorem TIs.run_load {P : Program} {t : TypeId} {i : TI} {f : TypeInfo} {d : TypeDesc} {z : Value} (H : TIs P t i f d z) (w : World) (b o : Nat) (vals : Nat → Value)
    (hc : ∀ j, j < (if i.agg = true then i.size else 1) → w.cell? ⟨b, o + j, none⟩ = some (vals j)) :
    (loadVar t ⟨b, o, none⟩).run P w = .ok (if i.agg = true then .agg ((List.range i.size).map vals).toArray else vals 0) w := by
  have ha := H.isAgg w
  unfold loadVar
  simp only [Sem.run_bind, ha, Result.andThen_ok]
  by_cases hagg : i.agg = true
  · rw [if_pos hagg] at hc
    simp only [hagg, if_true, Sem.run_bind, run_sizeOf w H.info, H.size, Result.andThen_ok, H.cellsOf]
    rw [run_loadCells w ⟨b, o, none⟩ i.size vals (fun j hj => by rw [Addr.add_lit]; exact hc j hj)]
    rfl
  · rw [if_neg hagg] at hc
    have h0 := hc 0 (by omega)
    simp only [Nat.add_zero] at h0
    simp [hagg, h0]

def aload (τ : Tab) (t : TypeId) (x : AV) : Option AV :=
  match x, lookup τ t with
  | .ref cells, some i => if i.agg = true then (if i.size ≤ cells.length then some (.agg (cells.take i.size)) else none) else cells[0]?
  | _, _ => none

theorem opP_load {P : Program} {τ : Tab} (hτ : TabOK P τ) {t : TypeId} {x : Operand} {ty : TypeId} {ρ : Operand → AV} {r : AV} (h : aload τ t (ρ x) = some r) : OpP P (.load t x) ty ρ r := by
  refine opP_of_same ?_
  intro μ F w ρc o ho ht hr
  have hx := hr x (by simp [Op.operands])
  generalize hv : ρc x = v at hx
  unfold aload at h
  split at h
  case h_2 => cases h
  rename_i cells i e hi
  obtain ⟨f, d, z, H⟩ := TI.spec hτ hi
  rw [e] at hx
  obtain ⟨b, off, vals, rfl, hone, hcell, hrep⟩ := hx.ref_inv
  split at h
  · rename_i hagg
    split at h
    case isFalse => cases h
    rename_i hle
    cases h
    have hl := H.run_load w b off vals (fun j hj => by
      rw [if_pos hagg] at hj
      exact (hcell j _ (List.getElem?_eq_getElem (show j < cells.length by omega))).1)
    rw [if_pos hagg] at hl
    refine ⟨.agg (List.map vals (List.range i.size)).toArray, ?_, ?_⟩
    · simp [execOp, ho, hv, Instr.loadAt, Instr.sureAddr, hl]
    · refine .agg _ _ (by simp; omega) ?_ ?_
      · intro j y u hy hu
        rw [List.getElem?_take] at hy
        split at hy
        case isFalse => cases hy
        rename_i hj
        have hu' : u = vals j := by
          simp [hj] at hu
          exact hu.symm
        subst hu'
        exact hrep j y hy
      · intro j u hu
        have hj : j < i.size := by
          have := (Array.getElem?_eq_some_iff.1 hu).1
          simpa using this
        have hu' : u = vals j := by
          simp [hj] at hu
          exact hu.symm
        subst hu'
        exact hone j _ (List.getElem?_eq_getElem (show j < cells.length by omega))
  · rename_i hagg
    have hl := H.run_load w b off vals (fun j hj => by
      rw [if_neg hagg] at hj
      obtain rfl : j = 0 := by omega
      exact (hcell 0 _ h).1)
    rw [if_neg hagg] at hl
    exact ⟨vals 0, by simp [execOp, ho, hv, Instr.loadAt, Instr.sureAddr, hl], hrep 0 r h⟩

theorem rep_drop {μ : Mu} {F : Frm} {w : World} {cells : List AV} {b o : Nat} (h : Rep μ F w (.ref cells) (.pointer (some ⟨b, o, none⟩))) (n : Nat) :
    Rep μ F w (.ref (cells.drop n)) (.pointer (some ⟨b, o + n, none⟩)) := by
  obtain ⟨b', o', vals, he, hone, hcell, hrep⟩ := h.ref_inv
  cases he
  refine .ref _ _ _ (fun j => vals (n + j)) ?_ ?_ ?_
  · intro j c hc
    rw [List.getElem?_drop] at hc
    exact hone _ _ hc
  · intro j c hc
    rw [List.getElem?_drop] at hc
    have := hcell _ _ hc
    rw [Nat.add_assoc]
    exact this
  · intro j c hc
    rw [List.getElem?_drop] at hc
    exact hrep _ _ hc

theorem rep_ref_form {μ : Mu} {F : Frm} {w : World} {cells : List AV} {v : Value} (h : Rep μ F w (.ref cells) v) : ∃ b o, v = .pointer (some ⟨b, o, none⟩) := by
  obtain ⟨b, o, _, rfl, _⟩ := h.ref_inv
  exact ⟨b, o, rfl⟩

def afaddr (τ : Tab) (t : TypeId) (j : Nat) (x : AV) : Option AV :=
  match x, fieldAt τ t j with
  | .ref cells, some (o, fi) => if fi.size ≠ 0 then some (.ref (cells.drop o)) else none
  | _, _ => none

theorem run_fieldAt {P : Program} {t : TypeId} {fs : Array Field} {j : Nat} {f : Field} {fi : TI} {ff : TypeInfo} {fd : TypeDesc} {fz : Value} (w : World) (hu : P.underlying t = some (.struct fs)) (hj : fs[j]? = some f)
    (H : TIs P f.type fi ff fd fz) (hs : fi.size ≠ 0) (b o : Nat) : (Instr.fieldAt t (.pointer (some ⟨b, o, none⟩)) j).run P w = .ok (.pointer (some ⟨b, o + f.offset, none⟩)) w := by
  simp [Instr.fieldAt, run_underlying hu, hj, Instr.sureAddr, fieldPlace, run_sizeOf w H.info, H.cellsOf, hs, H.size, Addr.add_lit]

theorem opP_faddr {P : Program} {τ : Tab} (hτ : TabOK P τ) {t : TypeId} {x : Operand} {j : Nat} {ty : TypeId} {ρ : Operand → AV} {r : AV} (h : afaddr τ t j (ρ x) = some r) : OpP P (.fieldAddr t x j) ty ρ r := by
  refine opP_of_same ?_
  intro μ F w ρc o ho ht hr
  have hx := hr x (by simp [Op.operands])
  unfold afaddr at h
  split at h
  case h_2 => cases h
  rename_i cells of_ fi e hfa
  obtain ⟨fs, f, ff, fd, fz, hu, hj, hoff, H⟩ := fieldAt_spec hτ hfa
  split at h
  case isFalse => cases h
  rename_i hs
  cases h
  rw [e] at hx
  obtain ⟨b, off, hv⟩ := rep_ref_form hx
  rw [hv] at hx
  subst hoff
  refine ⟨_, ?_, rep_drop hx _⟩
  simp [execOp, ho, hv, run_fieldAt w hu hj H hs]

/-- An element of a slice. -/
theorem opP_index {P : Program} {τ : Tab} (hτ : TabOK P τ) {t e : TypeId} {ti ei : TI} (ht : lookup τ t = some ti) (hk : ti.k = .slice e) (he : lookup τ e = some ei) {X I : Operand} {ty : TypeId} {ρ : Operand → AV} {sz : Nat} {xs : List AV} {tag : Tag}
    {k : IntKind} {i : Int} {x : AV} (hX : ρ X = .sl sz xs tag) (hI : ρ I = .int k i) (h0 : 0 ≤ i) (hel : xs[i.toNat]? = some x) (hsz : sz = ei.size) : OpP P (.indexAddr t X I) ty ρ (.ref x.cells) := by
  refine opP_of_same ?_
  intro μ F w ρc o ho hty hr
  have hx := hr X (by simp [Op.operands])
  have hi := hr I (by simp [Op.operands])
  rw [hX] at hx
  rw [hI] at hi
  generalize hv : ρc X = v at hx
  generalize hvi : ρc I = vi at hi
  cases hi
  obtain ⟨A, cap, ad, vals, rfl, hs, hcap, hA, hone, hcell, hrep, htag⟩ := hx.sl_inv
  obtain ⟨ft, dt, zt, HT⟩ := TI.spec hτ ht
  obtain ⟨fe, de, ze, HE⟩ := TI.spec hτ he
  have hf := HT.fits
  rw [hk] at hf
  have hdd : dt = .slice e := by
    cases dt <;> simp [TK.fits] at hf
    rw [hf]
  subst hdd
  have hlt : i.toNat < xs.length := (List.getElem?_eq_some_iff.1 hel).1
  obtain ⟨rfl, hspot⟩ := hA (by omega)
  have hszx := hsz
  obtain ⟨bb, oo, ss⟩ := ad
  simp only at hspot
  subst hspot
  refine ⟨.pointer (some ⟨bb, oo + i.toNat * sz, none⟩), ?_, ?_⟩
  · simp only [execOp, ho, hv, hvi, Instr.indexAt, asIntOf, Sem.run_bind, Sem.run_pure, Result.andThen_ok, run_underlying HT.und]
    rw [if_pos ⟨h0, by omega⟩]
    simp [run_sizeOf w HE.info, HE.cellsOf, HE.size, hszx, Addr.add_lit]
  · refine .ref _ _ _ (fun j => vals (i.toNat * sz + j)) ?_ ?_ ?_
    · intro j c hc
      exact hone _ _ _ _ hel hc
    · intro j c hc
      have := hcell _ _ _ _ hel hc
      simp only at this
      rw [Nat.add_assoc]
      exact this
    · intro j c hc
      exact hrep _ _ _ _ hel hc

/-- A byte of a string. -/
theorem opP_byte {P : Program} {τ : Tab} (hτ : TabOK P τ) {t : TypeId} {ti : TI} (ht : lookup τ t = some ti) (hk : ti.k = .str) {X I : Operand} {ty : TypeId} {ρ : Operand → AV} {s : List UInt8}
    {k : IntKind} {i : Int} {c : UInt8} (hX : ρ X = .str s) (hI : ρ I = .int k i) (h0 : 0 ≤ i) (hel : s[i.toNat]? = some c) : OpP P (.index t X I) ty ρ (.int .u8 c.toNat) := by
  refine opP_of_same ?_
  intro μ F w ρc o ho hty hr
  have hx := hr X (by simp [Op.operands])
  have hi := hr I (by simp [Op.operands])
  rw [hX] at hx
  rw [hI] at hi
  generalize hv : ρc X = v at hx
  generalize hvi : ρc I = vi at hi
  cases hi
  cases hx
  obtain ⟨ft, dt, zt, HT⟩ := TI.spec hτ ht
  have hf := HT.fits
  rw [hk] at hf
  have hdd : dt = .string := by
    cases dt <;> simp [TK.fits] at hf
    rfl
  subst hdd
  refine ⟨_, ?_, .int _ _⟩
  have hg : (⟨s.toArray⟩ : ByteArray)[i.toNat]? = some c := by
    have hlt := (List.getElem?_eq_some_iff.1 hel).1
    have hsz : (⟨s.toArray⟩ : ByteArray).size = s.length := by simp [ByteArray.size]
    rw [getElem?_pos _ _ (by rw [hsz]; exact hlt)]
    congr 1
    have := (List.getElem?_eq_some_iff.1 hel).2
    rw [← this]
    rfl
  simp only [execOp, ho, hv, hvi, Instr.index, asIntOf, Sem.run_bind, Sem.run_pure, Result.andThen_ok, run_underlying HT.und, if_pos h0, hg]

/-! ### len, min, max -/
def alen (x : AV) : Option AV :=
  match x with
  | .str s => some (.int .i64 s.length)
  | .sl _ xs _ => some (.int .i64 xs.length)
  | .nilmap => some (.int .i64 0)
  | _ => none

def lenFits : TK → AV → Bool
  | .str, .str _ => true
  | .slice _, .sl _ _ _ => true
  | .map _ _, .nilmap => true
  | _, _ => false

def alenT (τ : Tab) (t : TypeId) (x : AV) : Option AV :=
  match lookup τ t with
  | some i => if lenFits i.k x = true then alen x else none
  | none => none

theorem size_str (s : List UInt8) : (⟨s.toArray⟩ : ByteArray).size = s.length := by simp [ByteArray.size]

theorem opP_len {P : Program} {τ : Tab} (hτ : TabOK P τ) {t : TypeId} {x : Operand} {ty : TypeId} {ρ : Operand → AV} {r : AV} (h : alenT τ t (ρ x) = some r) :
    OpP P (.call { callee := .builtin .len, args := #[x], argTypes := #[t] }) ty ρ r := by
  refine opP_of_same ?_
  intro μ F w ρc o ho hty hr
  have hx := hr x (by simp [Op.operands, Call.operands])
  generalize hv : ρc x = v at hx
  unfold alenT at h
  split at h
  case h_2 => cases h
  rename_i i hi
  split at h
  case isFalse => cases h
  rename_i hfit
  obtain ⟨f, d, z, H⟩ := TI.spec hτ hi
  have hf := H.fits
  generalize i.k = kk at hfit hf
  unfold alen at h
  split at h <;> cases h
  · rename_i e
    rw [e] at hx hfit
    cases hx
    have hdd : d = .string := by
      cases kk <;> simp [lenFits] at hfit
      cases d <;> simp [TK.fits] at hf
      rfl
    subst hdd
    exact ⟨_, by simp [execOp, ho, resolve, invoke, builtin, Builtin.len_, hv, run_underlying H.und, size_str, goInt], .int _ _⟩
  · rename_i sz xs tg e
    rw [e] at hx hfit
    cases hx
    obtain ⟨el, hdd⟩ : ∃ e, d = .slice e := by
      cases kk <;> simp [lenFits] at hfit
      cases d <;> simp [TK.fits] at hf
      exact ⟨_, rfl⟩
    subst hdd
    exact ⟨_, by simp [execOp, ho, resolve, invoke, builtin, Builtin.len_, hv, run_underlying H.und, goInt], .int _ _⟩
  · rename_i e
    rw [e] at hx hfit
    cases hx
    obtain ⟨k', el, hdd⟩ : ∃ k e, d = .map k e := by
      cases kk <;> simp [lenFits] at hfit
      cases d <;> simp [TK.fits] at hf
      exact ⟨_, _, rfl⟩
    subst hdd
    exact ⟨_, by simp [execOp, ho, resolve, invoke, builtin, Builtin.len_, hv, run_underlying H.und, goInt], .int _ _⟩

def amm (mx : Bool) (x y : AV) : Option AV :=
  match x, y with
  | .int k a, .int _ b => some (.int k (if mx then (if a < b then b else a) else (if b < a then b else a)))
  | _, _ => none

theorem opP_min {P : Program} {x y : Operand} {ts : Array TypeId} {ty : TypeId} {ρ : Operand → AV} {r : AV} (h : amm false (ρ x) (ρ y) = some r) :
    OpP P (.call { callee := .builtin .min, args := #[x, y], argTypes := ts }) ty ρ r := by
  refine opP_of_same ?_
  intro μ F w ρc o ho hty hr
  have hx := hr x (by simp [Op.operands, Call.operands])
  have hy := hr y (by simp [Op.operands, Call.operands])
  generalize hv : ρc x = v at hx
  generalize hu : ρc y = u at hy
  unfold amm at h
  split at h <;> cases h
  rename_i k a k' b e1 e2
  rw [e1] at hx
  rw [e2] at hy
  cases hx
  cases hy
  exact ⟨_, by simp [execOp, ho, resolve, invoke, builtin, Builtin.min_, Builtin.min2, hv, hu], .int _ _⟩

theorem opP_max {P : Program} {x y : Operand} {ts : Array TypeId} {ty : TypeId} {ρ : Operand → AV} {r : AV} (h : amm true (ρ x) (ρ y) = some r) :
    OpP P (.call { callee := .builtin .max, args := #[x, y], argTypes := ts }) ty ρ r := by
  refine opP_of_same ?_
  intro μ F w ρc o ho hty hr
  have hx := hr x (by simp [Op.operands, Call.operands])
  have hy := hr y (by simp [Op.operands, Call.operands])
  generalize hv : ρc x = v at hx
  generalize hu : ρc y = u at hy
  unfold amm at h
  split at h <;> cases h
  rename_i k a k' b e1 e2
  rw [e1] at hx
  rw [e2] at hy
  cases hx
  cases hy
  exact ⟨_, by simp [execOp, ho, resolve, invoke, builtin, Builtin.max_, Builtin.max2, hv, hu], .int _ _⟩

end Go.Ab
