/- The operations that only reckon: each leaves the world alone. -/
import Derived.Test.YteimhnedflbkmaaDoorAbA2
set_option linter.unusedVariables false
set_option linter.unusedSimpArgs false
namespace Go.Ab
open Go.RowKit

/-- An operation that reckons with its operands alone. -/
def OpP (P : Program) (op : Op) (ty : TypeId) (ρ : Operand → AV) (x : AV) : Prop :=
  ∀ (μ : Mu) (F : Frm) (w : World) (ρc : Operand → Value) (o : Oper), Fit μ F w → o.op = op → o.type = ty → (∀ y ∈ op.operands, Rep μ F w (ρ y) (ρc y)) →
    ∃ v w', (execOp ρc o).run P w = .ok (.value v) w' ∧ Below w.heap.size w w' ∧ Rep μ F w' x v

/-- It leaves the world as it is. -/
theorem opP_of_same {P : Program} {op : Op} {ty : TypeId} {ρ : Operand → AV} {x : AV}
    (h : ∀ (μ : Mu) (F : Frm) (w : World) (ρc : Operand → Value) (o : Oper), o.op = op → o.type = ty → (∀ y ∈ op.operands, Rep μ F w (ρ y) (ρc y)) →
      ∃ v, (execOp ρc o).run P w = .ok (.value v) w ∧ Rep μ F w x v) : OpP P op ty ρ x := by
  intro μ F w ρc o _ ho ht hr
  obtain ⟨v, h1, h2⟩ := h μ F w ρc o ho ht hr
  exact ⟨v, w, h1, Below.refl _ _, h2⟩

theorem opP_move {P : Program} {x : Operand} {ty : TypeId} {ρ : Operand → AV} : OpP P (.move x) ty ρ (ρ x) := by
  refine opP_of_same ?_
  intro μ F w ρc o ho ht hr
  exact ⟨ρc x, by simp [execOp, ho], hr x (by simp [Op.operands])⟩

theorem opP_assign {P : Program} {x : Operand} {ty : TypeId} {ρ : Operand → AV} : OpP P (.assign x) ty ρ (ρ x) := by
  refine opP_of_same ?_
  intro μ F w ρc o ho ht hr
  exact ⟨ρc x, by simp [execOp, ho], hr x (by simp [Op.operands])⟩

def apick (c a b : AV) : Option AV :=
  match c with
  | .bool true => some a
  | .bool false => some b
  | _ => none

theorem opP_pick {P : Program} {c a b : Operand} {ty : TypeId} {ρ : Operand → AV} {x : AV} (h : apick (ρ c) (ρ a) (ρ b) = some x) : OpP P (.pick c a b) ty ρ x := by
  refine opP_of_same ?_
  intro μ F w ρc o ho ht hr
  have hc := hr c (by simp [Op.operands])
  have ha := hr a (by simp [Op.operands])
  have hb := hr b (by simp [Op.operands])
  unfold apick at h
  split at h <;> cases h
  · rename_i e
    rw [e] at hc
    generalize hv : ρc c = v at hc
    cases hc
    exact ⟨ρc a, by simp [execOp, ho, hv, asBool], ha⟩
  · rename_i e
    rw [e] at hc
    generalize hv : ρc c = v at hc
    cases hc
    exact ⟨ρc b, by simp [execOp, ho, hv, asBool], hb⟩

/-! ### Arithmetic -/
def abin (op : BinOp) (x y : AV) : Option AV :=
  match x, y with
  | .int k a, .int k' b =>
    match op with
    | .add => if k = k' then some (.int k (k.wrap (a + b))) else none
    | .sub => if k = k' then some (.int k (k.wrap (a - b))) else none
    | .mul => if k = k' then some (.int k (k.wrap (a * b))) else none
    | .eql => if k = k' then some (.bool (decide (a = b))) else none
    | .neq => if k = k' then some (.bool (!decide (a = b))) else none
    | .lss => if k = k' then some (.bool (decide (a < b))) else none
    | .leq => if k = k' then some (.bool (decide (a ≤ b))) else none
    | .gtr => if k = k' then some (.bool (decide (b < a))) else none
    | .geq => if k = k' then some (.bool (decide (b ≤ a))) else none
    | _ => none
  | .str a, .str b =>
    match op with
    | .eql => some (.bool (a == b))
    | .neq => some (.bool (!(a == b)))
    | .lss => some (.bool (Op.bytesLess a b))
    | .geq => some (.bool (!Op.bytesLess a b))
    | .gtr => some (.bool (!(Op.bytesLess a b || a == b)))
    | .leq => some (.bool (Op.bytesLess a b || a == b))
    | _ => none
  | .bool a, .bool b =>
    match op with
    | .eql => some (.bool (a == b))
    | .neq => some (.bool (a != b))
    | _ => none
  | _, _ => none

theorem data_toList (s : List UInt8) : (⟨s.toArray⟩ : ByteArray).toList = s := by
  rw [ByteArray.toList_eq]

theorem opP_bin {P : Program} {b : BinOp} {xt yt : TypeId} {x y : Operand} {ty : TypeId} {ρ : Operand → AV} {r : AV}
    (hb : (∃ p q, ρ x = .bool p ∧ ρ y = .bool q) → P.underlying xt = some .bool)
    (h : abin b (ρ x) (ρ y) = some r) : OpP P (.binOp b xt x y yt) ty ρ r := by
  refine opP_of_same ?_
  intro μ F w ρc o ho ht hr
  have hx := hr x (by simp [Op.operands])
  have hy := hr y (by simp [Op.operands])
  unfold abin at h
  generalize hvx : ρc x = vx at hx
  generalize hvy : ρc y = vy at hy
  split at h
  · rename_i k a k' c e1 e2
    rw [e1] at hx
    rw [e2] at hy
    cases hx
    cases hy
    by_cases hk : k = k'
    · subst hk
      cases b <;> simp only [reduceIte, Option.some.injEq, reduceCtorEq] at h
      all_goals
        subst h
        refine ⟨_, by simp [execOp, ho, hvx, hvy, eqGuard, binOp, Op.intArith, Op.intCmp]; rfl, ?_⟩
      · exact .int _ _
      · exact .int _ _
      · exact .int _ _
      · rw [show (a == c) = decide (a = c) from by rw [Bool.eq_iff_iff]; simp]; exact .bool _
      · rw [show (a != c) = !decide (a = c) from by rw [Bool.eq_iff_iff]; simp]; exact .bool _
      · exact .bool _
      · exact .bool _
      · exact .bool _
      · exact .bool _
    · cases b <;> simp [hk] at h
  · rename_i a c e1 e2
    rw [e1] at hx
    rw [e2] at hy
    cases hx
    cases hy
    cases b <;> simp only [Option.some.injEq, reduceCtorEq] at h
    all_goals
      subst h
      refine ⟨_, by simp [execOp, ho, hvx, hvy, eqGuard, binOp, Op.stringOp, data_toList]; rfl, ?_⟩
      first | exact .bool _ | (simp only [data_toList, Bool.not_or]; exact .bool _)
  · rename_i a c e1 e2
    have hu := hb ⟨a, c, e1, e2⟩
    rw [e1] at hx
    rw [e2] at hy
    cases hx
    cases hy
    cases b <;> simp only [Option.some.injEq, reduceCtorEq] at h
    all_goals
      subst h
      refine ⟨_, by simp [execOp, ho, hvx, hvy, eqGuard, binOp, run_equal_bool w xt a c hu]; rfl, ?_⟩
      exact .bool _
  · cases h

def aun (op : UnOp) (x : AV) : Option AV :=
  match op, x with
  | .not, .bool b => some (.bool (!b))
  | .neg, .int k n => some (.int k (k.wrap (-n)))
  | _, _ => none

theorem opP_un {P : Program} {u : UnOp} {xt : TypeId} {x : Operand} {ty : TypeId} {ρ : Operand → AV} {r : AV} (h : aun u (ρ x) = some r) : OpP P (.unOp u xt x) ty ρ r := by
  refine opP_of_same ?_
  intro μ F w ρc o ho ht hr
  have hx := hr x (by simp [Op.operands])
  unfold aun at h
  generalize hvx : ρc x = vx at hx
  split at h <;> cases h
  · rename_i e
    rw [e] at hx
    cases hx
    exact ⟨_, by simp [execOp, ho, hvx, Op.unary], .bool _⟩
  · rename_i e
    rw [e] at hx
    cases hx
    exact ⟨_, by simp [execOp, ho, hvx, Op.unary, Op.intArith], .int _ _⟩

def aconvK : TK → AV → Option AV
  | .int k, .int _ n => some (.int k (k.wrap n))
  | .str, .str l => some (.str l)
  | _, _ => none

def aconv (τ : Tab) (s d : TypeId) (x : AV) : Option AV :=
  match lookup τ s, lookup τ d with
  | some _, some i => aconvK i.k x
  | _, _ => none

theorem opP_conv {P : Program} {τ : Tab} (hτ : TabOK P τ) {s d : TypeId} {x : Operand} {ty : TypeId} {ρ : Operand → AV} {r : AV} (h : aconv τ s d (ρ x) = some r) : OpP P (.convert s d x) ty ρ r := by
  refine opP_of_same ?_
  intro μ F w ρc o ho ht hr
  have hx := hr x (by simp [Op.operands])
  unfold aconv at h
  split at h
  case h_2 => cases h
  rename_i is i his hid
  obtain ⟨fs, ds, zs, Hs⟩ := TI.spec hτ his
  obtain ⟨f, dd, z, H⟩ := TI.spec hτ hid
  have hf := H.fits
  generalize hvx : ρc x = vx at hx
  generalize hk : i.k = kk at h hf
  unfold aconvK at h
  split at h
  · rename_i k _ n e
    cases h
    rw [e] at hx
    cases hx
    have hdd : dd = .int k := by
      cases dd <;> simp [TK.fits] at hf
      rw [hf]
    subst hdd
    refine ⟨_, ?_, .int _ _⟩
    simp [execOp, ho, hvx, convert, run_underlying Hs.und, run_underlying H.und, Conv.intToInt]
  · rename_i l e
    cases h
    rw [e] at hx
    cases hx
    have hdd : dd = .string := by
      cases dd <;> simp [TK.fits] at hf
      rfl
    subst hdd
    refine ⟨_, ?_, .str _⟩
    simp [execOp, ho, hvx, convert, run_underlying Hs.und, run_underlying H.und]
  · cases h

end Go.Ab
