/- More arithmetic: shifts, bits, quotients. -/
import Derived.Test.YteimhnedflbkmaaDoorAbB6
set_option linter.unusedVariables false
set_option linter.unusedSimpArgs false
namespace Go.Ab
open Go.RowKit

def bitsOf (op : BinOp) (k : IntKind) (a b : Int) : Option Int :=
  match op with
  | .and => some (k.wrap ((BitVec.ofInt k.bits a &&& BitVec.ofInt k.bits b).toNat))
  | .or => some (k.wrap ((BitVec.ofInt k.bits a ||| BitVec.ofInt k.bits b).toNat))
  | .xor => some (k.wrap ((BitVec.ofInt k.bits a ^^^ BitVec.ofInt k.bits b).toNat))
  | .andNot => some (k.wrap ((BitVec.ofInt k.bits a &&& ~~~BitVec.ofInt k.bits b).toNat))
  | .quo => if b = 0 then none else some (k.wrap (a.tdiv b))
  | .rem => if b = 0 then none else some (a.tmod b)
  | _ => none

def abin3 (op : BinOp) (x y : AV) : Option AV :=
  match op, x, y with
  | .shl, .int k a, .int _ b => if 0 ≤ b then some (.int k (k.wrap (a * 2 ^ (min b.toNat k.bits)))) else none
  | .shr, .int k a, .int _ b => if 0 ≤ b then some (.int k (a.fdiv (2 ^ (min b.toNat k.bits)))) else none
  | op, .int k a, .int k' b => if k = k' then (match bitsOf op k a b with | some r => some (.int k r) | none => none) else none
  | _, _, _ => none

theorem opP_shl {P : Program} {xt yt : TypeId} {x y : Operand} {ty : TypeId} {ρ : Operand → AV} {k k' : IntKind} {a b : Int} (hx : ρ x = .int k a) (hy : ρ y = .int k' b) (hb : 0 ≤ b) :
    OpP P (.binOp .shl xt x y yt) ty ρ (.int k (k.wrap (a * 2 ^ (min b.toNat k.bits)))) := by
  refine opP_of_same ?_
  intro μ F w ρc o ho ht hr
  have h1 := hr x (by simp [Op.operands])
  have h2 := hr y (by simp [Op.operands])
  rw [hx] at h1
  rw [hy] at h2
  generalize hvx : ρc x = vx at h1
  generalize hvy : ρc y = vy at h2
  cases h1
  cases h2
  have hb' : ¬ b < 0 := by omega
  exact ⟨_, by simp [execOp, ho, hvx, hvy, eqGuard, binOp, Op.shift, hb'], .int _ _⟩

theorem opP_shr {P : Program} {xt yt : TypeId} {x y : Operand} {ty : TypeId} {ρ : Operand → AV} {k k' : IntKind} {a b : Int} (hx : ρ x = .int k a) (hy : ρ y = .int k' b) (hb : 0 ≤ b) :
    OpP P (.binOp .shr xt x y yt) ty ρ (.int k (a.fdiv (2 ^ (min b.toNat k.bits)))) := by
  refine opP_of_same ?_
  intro μ F w ρc o ho ht hr
  have h1 := hr x (by simp [Op.operands])
  have h2 := hr y (by simp [Op.operands])
  rw [hx] at h1
  rw [hy] at h2
  generalize hvx : ρc x = vx at h1
  generalize hvy : ρc y = vy at h2
  cases h1
  cases h2
  have hb' : ¬ b < 0 := by omega
  exact ⟨_, by simp [execOp, ho, hvx, hvy, eqGuard, binOp, Op.shift, hb'], .int _ _⟩

theorem opP_bits {P : Program} {op : BinOp} {xt yt : TypeId} {x y : Operand} {ty : TypeId} {ρ : Operand → AV} {k : IntKind} {a b r : Int} (hx : ρ x = .int k a) (hy : ρ y = .int k b) (h : bitsOf op k a b = some r) :
    OpP P (.binOp op xt x y yt) ty ρ (.int k r) := by
  refine opP_of_same ?_
  intro μ F w ρc o ho ht hr
  have h1 := hr x (by simp [Op.operands])
  have h2 := hr y (by simp [Op.operands])
  rw [hx] at h1
  rw [hy] at h2
  generalize hvx : ρc x = vx at h1
  generalize hvy : ρc y = vy at h2
  cases h1
  cases h2
  unfold bitsOf at h
  split at h
  · cases h; exact ⟨_, by simp [execOp, ho, hvx, hvy, eqGuard, binOp, Op.intBits], .int _ _⟩
  · cases h; exact ⟨_, by simp [execOp, ho, hvx, hvy, eqGuard, binOp, Op.intBits], .int _ _⟩
  · cases h; exact ⟨_, by simp [execOp, ho, hvx, hvy, eqGuard, binOp, Op.intBits], .int _ _⟩
  · cases h; exact ⟨_, by simp [execOp, ho, hvx, hvy, eqGuard, binOp, Op.intBits], .int _ _⟩
  · split at h
    · cases h
    · rename_i h0
      cases h
      exact ⟨_, by simp [execOp, ho, hvx, hvy, eqGuard, binOp, Op.intDiv, h0], .int _ _⟩
  · split at h
    · cases h
    · rename_i h0
      cases h
      exact ⟨_, by simp [execOp, ho, hvx, hvy, eqGuard, binOp, Op.intDiv, h0], .int _ _⟩
  · cases h

theorem opP_bin3 {P : Program} {op : BinOp} {xt yt : TypeId} {x y : Operand} {ty : TypeId} {ρ : Operand → AV} {r : AV} (h : abin3 op (ρ x) (ρ y) = some r) : OpP P (.binOp op xt x y yt) ty ρ r := by
  unfold abin3 at h
  split at h
  · rename_i k a k' b e1 e2
    split at h
    · rename_i hb; cases h; exact opP_shl e1 e2 hb
    · cases h
  · rename_i k a k' b e1 e2
    split at h
    · rename_i hb; cases h; exact opP_shr e1 e2 hb
    · cases h
  · rename_i k a k' b _ _ e1 e2
    split at h
    · rename_i hk
      subst hk
      split at h
      · rename_i r' hr'
        cases h
        exact opP_bits e1 e2 hr'
      · cases h
    · cases h
  · cases h

end Go.Ab
