/- Regions that draw their order: one walk serves every order. -/
import Derived.Test.YteimhnedflbkmaaDoorAbB3
set_option linter.unusedVariables false
set_option linter.unusedSimpArgs false
namespace Go.Ab
open Go.RowKit

/-- An operation's kind: it reckons; it reads the objects; anything else. -/
inductive Cls where
  | P
  | R
  | E

abbrev Fr := Nat → AV

def evF (φ : Fr) : Operand → AV
  | .tmp t => φ t
  | .const v => ofV v
  | .global _ => .top
  | .func g => .fn (.func g) [] []

def putF (φ : Fr) (dst : Option Tmp) (x : AV) : Fr :=
  match dst with
  | some d => fun t => if t = d then x else φ t
  | none => φ

def wantF (ops : Array Oper) (φ : Fr) (o : Oper) : Option Bool :=
  match o.guard with
  | none => some true
  | some (j, b) =>
    match (ops[j]?).bind (·.dst) with
    | some d => (match φ d with | .bool c => some (c == b) | .tup [] => some false | _ => none)
    | none => none

/-- What an operation does, whatever it is. -/
def OpG (P : Program) (o : Oper) (ρ : Operand → AV) (M : Mem) (K Kp : AV → Mem → Prop) : Prop :=
  ∀ (μ : Mu) (F : Frm) (w : World) (a : Act), Gam μ F M w → (∀ y ∈ o.op.operands, Rep μ F w (ρ y) (a.eval y)) → ∀ (next : Act → World → Prop) (Q' : Exit → Act → World → Prop),
    (∀ μ' M' w' v u, Evo w μ w' μ' → Gam μ' F M' w' → Rep μ' F w' u v → K u M' → next (a.put o.dst v) w') →
    (∀ μ' M' w' v u, Evo w μ w' μ' → Gam μ' F M' w' → Rep μ' F w' u v → Kp u M' → Q' (.panic [{ v, recovered := false }]) a w') → o.wp P a w next Q'

theorem OpG.mono {P : Program} {o : Oper} {ρ : Operand → AV} {M : Mem} {K K' Kp : AV → Mem → Prop} (h : OpG P o ρ M K Kp) (hk : ∀ u M, K u M → K' u M) : OpG P o ρ M K' Kp :=
  fun μ F w a hg hr next Q' h1 h2 => h μ F w a hg hr next Q' (fun μ' M' w' v u e1 e2 e3 e4 => h1 μ' M' w' v u e1 e2 e3 (hk u M' e4)) h2

theorem OpG.congr {P : Program} {o : Oper} {ρ ρ' : Operand → AV} {M : Mem} {K Kp : AV → Mem → Prop} (h : OpG P o ρ M K Kp) (he : ∀ y ∈ o.op.operands, ρ' y = ρ y) : OpG P o ρ' M K Kp :=
  fun μ F w a hg hr next Q' h1 h2 => h μ F w a hg (fun y hy => he y hy ▸ hr y hy) next Q' h1 h2

theorem OpG.of_E {P : Program} {o : Oper} {ρ : Operand → AV} {M M' : Mem} {x : AV} (h : OpE P o.op o.type ρ M x M') {K Kp : AV → Mem → Prop} (hk : K x M') : OpG P o ρ M K Kp := by
  intro μ F w a hg hr next Q' h1 h2
  obtain ⟨μ', nx, v, w', g1, g2, g3, g4, g5⟩ := h μ F w a.eval o hg rfl rfl hr
  unfold Oper.wp
  rw [g1]
  have := h1 μ' M' w' v x g3 g4 g5 hk
  rcases g2 with rfl | ⟨rfl, rfl⟩
  · exact this
  · exact this

def SC (P : Program) (o : Oper) (c : Cls) (ρ : Operand → AV) (M : Mem) (K Kp : AV → Mem → Prop) : Prop :=
  match c with
  | .P => ∃ x, (∀ N, OpG P o ρ N (fun u M' => u = x ∧ M' = N) fun _ _ => False) ∧ K x M
  | .R => ∃ x, OpG P o ρ M (fun u M' => u = x ∧ M' = M) (fun _ _ => False) ∧ K x M
  | .E => OpG P o ρ M K Kp

theorem SC.mono {P : Program} {o : Oper} {c : Cls} {ρ : Operand → AV} {M : Mem} {K K' Kp : AV → Mem → Prop} (h : SC P o c ρ M K Kp) (hk : ∀ u N, (c ≠ .E → N = M) → K u N → K' u N) : SC P o c ρ M K' Kp := by
  cases c with
  | P => obtain ⟨x, h1, h2⟩ := h; exact ⟨x, h1, hk x M (fun _ => rfl) h2⟩
  | R => obtain ⟨x, h1, h2⟩ := h; exact ⟨x, h1, hk x M (fun _ => rfl) h2⟩
  | E => exact OpG.mono h fun u N hu => hk u N (fun hne => absurd rfl hne) hu

theorem SC.congr {P : Program} {o : Oper} {c : Cls} {ρ ρ' : Operand → AV} {M : Mem} {K Kp : AV → Mem → Prop} (h : SC P o c ρ M K Kp) (he : ∀ y ∈ o.op.operands, ρ' y = ρ y) : SC P o c ρ' M K Kp := by
  cases c with
  | P => obtain ⟨x, h1, h2⟩ := h; exact ⟨x, fun N => (h1 N).congr he, h2⟩
  | R => obtain ⟨x, h1, h2⟩ := h; exact ⟨x, h1.congr he, h2⟩
  | E => exact OpG.congr h he

theorem SC.toG {P : Program} {o : Oper} {c : Cls} {ρ : Operand → AV} {M : Mem} {K Kp : AV → Mem → Prop} (h : SC P o c ρ M K Kp) : OpG P o ρ M K Kp := by
  have key : ∀ x, OpG P o ρ M (fun u M' => u = x ∧ M' = M) (fun _ _ => False) → K x M → OpG P o ρ M K Kp := by
    intro x h1 h2 μ F w a hg hr next Q' g1 g2
    refine h1 μ F w a hg hr next Q' (fun μ' M' w' v u e1 e2 e3 ⟨e4, e5⟩ => ?_) (fun _ _ _ _ _ _ _ _ hf => hf.elim)
    subst e4; subst e5
    exact g1 μ' _ w' v u e1 e2 e3 h2
  cases c with
  | P => obtain ⟨x, h1, h2⟩ := h; exact key x (h1 M) h2
  | R => obtain ⟨x, h1, h2⟩ := h; exact key x h1 h2
  | E => exact h

section
variable {P : Program} {ops : Array Oper} {cls : Nat → Cls} {Kp : AV → Mem → Prop} {Q : Fr → Mem → Prop}

/-- Operation i comes up. -/
def opA (P : Program) (ops : Array Oper) (cls : Nat → Cls) (Kp : AV → Mem → Prop) (i : Nat) (K : Fr → Mem → Prop) (φ : Fr) (M : Mem) : Prop :=
  match ops[i]? with
  | none => K φ M
  | some o =>
    match wantF ops φ o with
    | some true => SC P o (cls i) (evF φ) M (fun x M' => K (putF φ o.dst x) M') Kp
    | some false => K (putF φ o.dst (.tup [])) M
    | none => False

def AnyA (P : Program) (ops : Array Oper) (cls : Nat → Cls) (Kp : AV → Mem → Prop) (Q : Fr → Mem → Prop) : Nat → Array Bool → Fr → Mem → Prop
  | 0, listed, φ, M => Region.ready .any ops listed = [] ∧ Q φ M
  | k + 1, listed, φ, M => (Region.ready .any ops listed = [] → Q φ M) ∧ ∀ i ∈ Region.ready .any ops listed, opA P ops cls Kp i (AnyA P ops cls Kp Q k (listed.setIfInBounds i true)) φ M

/-- The frame stands for the machine's. -/
structure RepΦ (μ : Mu) (F : Frm) (w : World) (n : Nat) (φ : Fr) (ds : List ADef) (a : Act) : Prop where
  size : a.tmps.size = n
  tmps : ∀ t, Rep μ F w (φ t) (a.tmps.getD t undef)
  defs : DefRep μ F w ds a.defers

theorem RepΦ.evo {μ μ' : Mu} {F : Frm} {w w' : World} (hev : Evo w μ w' μ') {n : Nat} {φ : Fr} {ds : List ADef} {a : Act} (h : RepΦ μ F w n φ ds a) : RepΦ μ' F w' n φ ds a :=
  ⟨h.size, fun t => (h.tmps t).evo hev, h.defs.evo hev⟩

theorem RepΦ.ev {μ : Mu} {F : Frm} {w : World} {n : Nat} {φ : Fr} {ds : List ADef} {a : Act} (h : RepΦ μ F w n φ ds a) (x : Operand) : Rep μ F w (evF φ x) (a.eval x) := by
  cases x with
  | tmp t => exact h.tmps t
  | const v => exact rep_ofV _ _ _ _
  | global g => exact .top _
  | func g => exact .fn _ _ _ _ _ rfl rfl (by simp) (by simp)

theorem RepΦ.put {μ : Mu} {F : Frm} {w : World} {n : Nat} {φ : Fr} {ds : List ADef} {a : Act} (h : RepΦ μ F w n φ ds a) {dst : Option Tmp} (hd : ∀ d, dst = some d → d < n) {x : AV} {v : Value} (hr : Rep μ F w x v) : RepΦ μ F w n (putF φ dst x) ds (a.put dst v) := by
  cases dst with
  | none => exact h
  | some d =>
    have hlt := hd d rfl
    refine ⟨by simp [Act.put, h.size], ?_, h.defs⟩
    intro t
    simp only [putF, Act.put]
    by_cases ht : t = d
    · subst ht
      have : t < a.tmps.size := by rw [h.size]; exact hlt
      simp [Array.getElem?_setIfInBounds, this, hr]
    · rw [if_neg ht]
      have := h.tmps t
      rw [Array.getD_eq_getD_getElem?, Array.getElem?_setIfInBounds_ne (by omega), ← Array.getD_eq_getD_getElem?]
      exact this

theorem wantF_of {μ : Mu} {F : Frm} {w : World} {n : Nat} {φ : Fr} {ds : List ADef} {a : Act} (hr : RepΦ μ F w n φ ds a) {o : Oper} {b : Bool} (h : wantF ops φ o = some b) : Region.wanted o (yielded ops a.tmps) = b := by
  unfold wantF at h
  split at h
  · rename_i hg
    cases h
    simp [Region.wanted, hg]
  · rename_i j want hg
    split at h
    · rename_i d hd
      split at h
      · rename_i c hc
        cases h
        have hv := hr.tmps d
        rw [hc] at hv
        generalize hu : a.tmps.getD d undef = u at hv
        cases hv
        have hlt : d < a.tmps.size := by
          rcases Nat.lt_or_ge d a.tmps.size with h | h
          · exact h
          · simp [Array.getD, Nat.not_lt.2 h, undef] at hu
        have hget : a.tmps[d]? = some (.bool c) := by
          rw [Array.getElem?_eq_getElem hlt]
          simp [Array.getD, hlt] at hu
          rw [hu]
        simp only [Region.wanted, hg, yielded, hd, Option.bind_some, hget]
        cases c <;> cases want <;> rfl
      · rename_i hc
        cases h
        have hv := hr.tmps d
        rw [hc] at hv
        exact wanted_undef hg hd hv
      · cases h
    · cases h

/-- In whatever order, on the machine. -/
theorem any_sound {n : Nat} (hd : (ops.all fun o => dstOK o n) = true) {ds : List ADef} {F : Frm} {Q' : Exit → Act → World → Prop} : ∀ (k : Nat) (listed : Array Bool) (φ : Fr) (M : Mem) (μ : Mu) (w : World) (a : Act), Gam μ F M w → RepΦ μ F w n φ ds a →
    (∀ μ' φ' M' w' a', Evo w μ w' μ' → Gam μ' F M' w' → RepΦ μ' F w' n φ' ds a' → Q φ' M' → Q' .normal a' w') →
    (∀ μ' φ' M' w' a' v u, Evo w μ w' μ' → Gam μ' F M' w' → RepΦ μ' F w' n φ' ds a' → Rep μ' F w' u v → Kp u M' → Q' (.panic [{ v, recovered := false }]) a' w') →
    AnyA P ops cls Kp Q k listed φ M → wpAny P .any ops Q' k listed a w := by
  intro k
  induction k with
  | zero => intro listed φ M μ w a hg hr hQ hP h; exact ⟨h.1, hQ μ φ M w a (Evo.refl _ _) hg hr h.2⟩
  | succ k ih =>
    intro listed φ M μ w a hg hr hQ hP h
    refine ⟨fun h0 => hQ μ φ M w a (Evo.refl _ _) hg hr (h.1 h0), fun i hi => ?_⟩
    have hop := h.2 i hi
    unfold opA at hop
    unfold wpOp
    split
    · rename_i ho
      simp only [ho] at hop
      exact ih _ φ M μ w a hg hr hQ hP hop
    · rename_i o ho
      simp only [ho] at hop
      have hdo := dstOK_spec ((Array.all_eq_true_iff_forall_mem.1 hd) o (Array.mem_of_getElem? ho))
      split at hop
      · rename_i hw
        rw [wantF_of hr hw]
        refine .inl (SC.toG hop μ F w a hg (fun y _ => hr.ev y) _ _ ?_ ?_)
        · intro μ' M' w' v u e1 e2 e3 e4
          refine ih _ _ M' μ' w' _ e2 ((hr.evo e1).put hdo e3) ?_ ?_ e4
          · intro μ2 φ2 M2 w2 a2 f1 f2 f3 f4
            exact hQ μ2 φ2 M2 w2 a2 (e1.trans f1) f2 f3 f4
          · intro μ2 φ2 M2 w2 a2 v2 u2 f1 f2 f3 f4 f5
            exact hP μ2 φ2 M2 w2 a2 v2 u2 (e1.trans f1) f2 f3 f4 f5
        · intro μ' M' w' v u e1 e2 e3 e4
          exact hP μ' φ M' w' a v u e1 e2 (hr.evo e1) e3 e4
      · rename_i hw
        rw [wantF_of hr hw]
        exact ih _ _ M μ w _ hg (hr.put hdo rep_undef) hQ hP hop
      · exact hop.elim

theorem evF_put {φ : Fr} {o : Oper} {dst : Option Tmp} {x : AV} (h : ∀ d, dst = some d → d ∉ o.looksAt ops) : ∀ y ∈ o.op.operands, evF (putF φ dst x) y = evF φ y := by
  intro y hy
  cases dst with
  | none => rfl
  | some d =>
    cases y with
    | tmp t =>
      simp only [evF, putF]
      rw [if_neg]
      rintro rfl
      refine h t rfl ?_
      unfold Oper.looksAt
      refine List.mem_append.2 (.inl (List.mem_filterMap.2 ⟨.tmp t, by simpa using hy, rfl⟩))
    | _ => rfl

theorem wantF_put {φ : Fr} {o : Oper} {dst : Option Tmp} {x : AV} (h : ∀ d, dst = some d → d ∉ o.looksAt ops) : wantF ops (putF φ dst x) o = wantF ops φ o := by
  unfold wantF
  cases hg : o.guard with
  | none => rfl
  | some jb =>
    obtain ⟨j, b⟩ := jb
    simp only
    cases hd : (ops[j]?).bind (·.dst) with
    | none => rfl
    | some d =>
      simp only
      cases dst with
      | none => rfl
      | some d' =>
        simp only [putF]
        rw [if_neg]
        rintro rfl
        refine h d rfl ?_
        unfold Oper.looksAt
        refine List.mem_append.2 (.inr ?_)
        simp only [hg, hd, Option.toList_some, List.mem_singleton]

theorem putF_comm {φ : Fr} {x y : Option Tmp} (u v : AV) (h : ∀ d, x = some d → y ≠ some d) : putF (putF φ x u) y v = putF (putF φ y v) x u := by
  cases x with
  | none => rfl
  | some d =>
    cases y with
    | none => rfl
    | some e =>
      have hne : d ≠ e := fun he => h d rfl (he ▸ rfl)
      funext t
      simp only [putF]
      by_cases h1 : t = d <;> by_cases h2 : t = e <;> simp [h1, h2]
      · subst h1; exact absurd h2 hne
      · subst h1; intro h; exact absurd h hne
      · subst h2; intro h; exact absurd h.symm hne

theorem opA_mono {i : Nat} {K K' : Fr → Mem → Prop} {φ : Fr} {M : Mem} (h : opA P ops cls Kp i K φ M) (hk : ∀ φ M, K φ M → K' φ M) : opA P ops cls Kp i K' φ M := by
  unfold opA at *
  split
  · rename_i ho; simp only [ho] at h; exact hk _ _ h
  · rename_i o ho
    simp only [ho] at h
    split at h
    · exact SC.mono h fun u N _ hu => hk _ _ hu
    · exact hk _ _ h
    · exact h.elim

def compat : Cls → Cls → Bool
  | .P, _ => true
  | .R, .E => false
  | .R, _ => true
  | .E, _ => false

/-- Operation i may be taken first: all that may come up ahead of it (R) is apart from it. -/
theorem any_first {i : Nat} {oi : Oper} (hi : ops[i]? = some oi) {R : Nat → Bool} (hR : ∀ j oj, j ≠ i → ops[j]? = some oj → (∀ e ∈ oj.after, Region.binds .any e = true → R e.on = true) → R j = true) :
    ∀ (k : Nat) (listed : Array Bool) (φ : Fr) (M : Mem), (∀ j, listed.getD j false = true → R j = true) → i ∈ Region.ready .any ops listed →
      (∀ j oj, ops[j]? = some oj → j ≠ i → R j = true → listed.getD j true = false → oi.apart ops oj = true ∧ compat (cls i) (cls j) = true) →
      opA P ops cls Kp i (AnyA P ops cls Kp Q k (listed.setIfInBounds i true)) φ M → AnyA P ops cls Kp Q (k + 1) listed φ M := by
  intro k
  induction k with
  | zero =>
    intro listed φ M hl hr hap H
    refine ⟨fun h => (by rw [h] at hr; cases hr), fun j hj => ?_⟩
    by_cases hji : j = i
    · subst hji; exact H
    · exfalso
      -- j comes up behind i, too: but nothing does
      have hj' := ready_mono hj hji
      obtain ⟨hjun, oj, hoj, hall⟩ := mem_ready.1 hj
      have hRj : R j = true := hR j oj hji hoj fun e he hb => hl _ (hall e he hb)
      obtain ⟨ha, hc⟩ := hap j oj hoj hji hRj hjun
      unfold opA at H
      simp only [hi] at H
      split at H
      · cases hci : cls i with
        | P => rw [hci] at H; obtain ⟨x, _, h0, _⟩ := H; rw [h0] at hj'; cases hj'
        | R => rw [hci] at H; obtain ⟨x, _, h0, _⟩ := H; rw [h0] at hj'; cases hj'
        | E => rw [hci] at hc; cases hc
      · rw [H.1] at hj'; cases hj'
      · exact H
  | succ k ih =>
    intro listed φ M hl hr hap H
    refine ⟨fun h => (by rw [h] at hr; cases hr), fun j hj => ?_⟩
    by_cases hji : j = i
    · subst hji; exact H
    · have hj' := ready_mono hj hji
      obtain ⟨hjun, oj, hoj, hall⟩ := mem_ready.1 hj
      have hRj : R j = true := hR j oj hji hoj fun e he hb => hl _ (hall e he hb)
      obtain ⟨ha, hc⟩ := hap j oj hoj hji hRj hjun
      obtain ⟨a1, a2, a3⟩ := Oper.apart_spec ha
      have hl' : ∀ m, (listed.setIfInBounds j true).getD m false = true → R m = true := by
        intro m hm
        by_cases hmj : j = m
        · subst hmj; exact hRj
        · rw [getD_set_ne false hmj] at hm; exact hl m hm
      have hap' : ∀ m om, ops[m]? = some om → m ≠ i → R m = true → (listed.setIfInBounds j true).getD m true = false → oi.apart ops om = true ∧ compat (cls i) (cls m) = true := by
        intro m om hm hmi hRm hun
        refine hap m om hm hmi hRm ?_
        by_cases hmj : j = m
        · subst hmj; exact hjun
        · rw [getD_set_ne true hmj] at hun; exact hun
      have hri : i ∈ Region.ready .any ops (listed.setIfInBounds j true) := ready_mono hr (Ne.symm hji)
      have hcomm : (listed.setIfInBounds j true).setIfInBounds i true = (listed.setIfInBounds i true).setIfInBounds j true := Array.setIfInBounds_comm _ _ hji
      have hcm := fun (u v : AV) (φ : Fr) => putF_comm (φ := φ) u v a2
      unfold opA at H
      simp only [hi] at H
      unfold opA
      simp only [hoj]
      split at H
      · -- i is carried out
        rename_i hwi
        have later : ∀ (x u : AV) (N : Mem), (∀ ψ : Fr, (∀ y ∈ oi.op.operands, evF ψ y = evF φ y) → SC P oi (cls i) (evF ψ) N (fun x' M' => x' = x ∧ M' = N) (fun _ _ => False) ∧ cls i ≠ .E) →
            AnyA P ops cls Kp Q k ((listed.setIfInBounds i true).setIfInBounds j true) (putF (putF φ oi.dst x) oj.dst u) N → AnyA P ops cls Kp Q (k + 1) (listed.setIfInBounds j true) (putF φ oj.dst u) N := by
          intro x u N hsc hany
          refine ih _ _ N hl' hri hap' ?_
          unfold opA
          simp only [hi]
          rw [wantF_put (ops := ops) a3, hwi]
          simp only
          obtain ⟨h1, h2⟩ := hsc (putF φ oj.dst u) (evF_put (ops := ops) a3)
          refine SC.congr (ρ := evF (putF φ oj.dst u)) ?_ fun _ _ => rfl
          cases hci : cls i with
          | P =>
            rw [hci] at h1
            obtain ⟨x', g1, g2, _⟩ := h1
            subst g2
            refine ⟨x', g1, ?_⟩
            show AnyA P ops cls Kp Q k _ (putF (putF φ oj.dst u) oi.dst x') N
            rw [hcomm, ← hcm]
            exact hany
          | R =>
            rw [hci] at h1
            obtain ⟨x', g1, g2, _⟩ := h1
            subst g2
            refine ⟨x', g1, ?_⟩
            show AnyA P ops cls Kp Q k _ (putF (putF φ oj.dst u) oi.dst x') N
            rw [hcomm, ← hcm]
            exact hany
          | E => exact absurd hci h2
        cases hci : cls i with
        | E => rw [hci] at hc; cases hc
        | P =>
          rw [hci] at H
          obtain ⟨x, g1, g2⟩ := H
          have hj2 := g2.2 j hj'
          unfold opA at hj2
          simp only [hoj] at hj2
          rw [wantF_put (ops := ops) a1] at hj2
          have hsc : ∀ (N : Mem) (ψ : Fr), (∀ y ∈ oi.op.operands, evF ψ y = evF φ y) → SC P oi (cls i) (evF ψ) N (fun x' M' => x' = x ∧ M' = N) (fun _ _ => False) ∧ cls i ≠ .E := by
            intro N ψ hψ
            rw [hci]
            exact ⟨⟨x, fun N' => (g1 N').congr hψ, rfl, rfl⟩, by simp⟩
          split at hj2
          · rename_i hwj
            refine SC.mono (SC.congr hj2 fun y hy => (evF_put (ops := ops) a1 y hy).symm) fun u N _ hu => later x u N (hsc N) hu
          · exact later x (.tup []) M (hsc M) hj2
          · exact hj2.elim
        | R =>
          rw [hci] at H hc
          obtain ⟨x, g1, g2⟩ := H
          have hj2 := g2.2 j hj'
          unfold opA at hj2
          simp only [hoj] at hj2
          rw [wantF_put (ops := ops) a1] at hj2
          have hsc : ∀ (ψ : Fr), (∀ y ∈ oi.op.operands, evF ψ y = evF φ y) → SC P oi (cls i) (evF ψ) M (fun x' M' => x' = x ∧ M' = M) (fun _ _ => False) ∧ cls i ≠ .E := by
            intro ψ hψ
            rw [hci]
            exact ⟨⟨x, g1.congr hψ, rfl, rfl⟩, by simp⟩
          have hne : cls j ≠ .E := by
            intro he
            rw [he] at hc
            cases hc
          split at hj2
          · rename_i hwj
            refine SC.mono (SC.congr hj2 fun y hy => (evF_put (ops := ops) a1 y hy).symm) fun u N hN hu => ?_
            have := hN hne
            subst this
            exact later x u _ hsc hu
          · exact later x (.tup []) M hsc hj2
          · exact hj2.elim
      · -- it is passed over
        rename_i hwi
        have hj2 := H.2 j hj'
        unfold opA at hj2
        simp only [hoj] at hj2
        rw [wantF_put (ops := ops) a1] at hj2
        have later : ∀ (u : AV) (N : Mem), AnyA P ops cls Kp Q k ((listed.setIfInBounds i true).setIfInBounds j true) (putF (putF φ oi.dst (.tup [])) oj.dst u) N → AnyA P ops cls Kp Q (k + 1) (listed.setIfInBounds j true) (putF φ oj.dst u) N := by
          intro u N hany
          refine ih _ _ N hl' hri hap' ?_
          unfold opA
          simp only [hi]
          rw [wantF_put (ops := ops) a3, hwi]
          simp only
          rw [hcomm, ← hcm]
          exact hany
        split at hj2
        · refine SC.mono (SC.congr hj2 fun y hy => (evF_put (ops := ops) a1 y hy).symm) fun u N _ hu => later u N hu
        · exact later (.tup []) M hj2
        · exact hj2.elim
      · exact H.elim
end

end Go.Ab
