/- The logic: code walked over abstract frames and memories; calls by contracts. -/
import Derived.Test.YteimhnedflbkmaaDoorAbA9
set_option linter.unusedVariables false
set_option linter.unusedSimpArgs false
namespace Go.Ab
open Go.RowKit

/-- How a piece of code ends. -/
inductive AX where
  | normal
  | exit (id : Nat)
  | ret
  | panic (v : AV)

/-- How a call ends. -/
inductive AEnd where
  | ret (v : AV)
  | pan (v : AV)

def RepL (μ : Mu) (F : Frm) (w : World) (l : List AV) (c : Array Value) : Prop :=
  c.size = l.length ∧ ∀ (i : Nat) (x : AV) (v : Value), l[i]? = some x → c[i]? = some v → Rep μ F w x v

theorem RepL.evo {μ μ' : Mu} {F : Frm} {w w' : World} (hev : Evo w μ w' μ') {l : List AV} {c : Array Value} (h : RepL μ F w l c) : RepL μ' F w' l c :=
  ⟨h.1, fun i x v hx hv => (h.2 i x v hx hv).evo hev⟩

theorem RepL.nil {μ : Mu} {F : Frm} {w : World} : RepL μ F w [] #[] := ⟨rfl, by simp⟩

theorem RepL.app {μ : Mu} {F : Frm} {w : World} {l m : List AV} {c d : Array Value} (h : RepL μ F w l c) (k : RepL μ F w m d) : RepL μ F w (l ++ m) (c ++ d) := by
  refine ⟨by simp [h.1, k.1], ?_⟩
  intro i x v hx hv
  by_cases hi : i < l.length
  · rw [List.getElem?_append_left hi] at hx
    rw [Array.getElem?_append_left (by rw [h.1]; exact hi)] at hv
    exact h.2 i x v hx hv
  · rw [List.getElem?_append_right (by omega)] at hx
    rw [Array.getElem?_append_right (by rw [h.1]; omega), h.1] at hv
    exact k.2 _ x v hx hv

theorem RepL.cons {μ : Mu} {F : Frm} {w : World} {x : AV} {v : Value} (h : Rep μ F w x v) : RepL μ F w [x] #[v] := by
  refine ⟨rfl, ?_⟩
  intro i y u hy hu
  cases i with
  | zero => simp at hy hu; subst hy; subst hu; exact h
  | succ i => simp at hy

theorem RepL.map {μ : Mu} {F : Frm} {w : World} {ρ : Operand → AV} {ρc : Operand → Value} {xs : Array Operand} (h : ∀ x ∈ xs, Rep μ F w (ρ x) (ρc x)) : RepL μ F w (xs.toList.map ρ) (xs.map ρc) := by
  refine ⟨by simp, ?_⟩
  intro i x v hx hv
  simp only [List.getElem?_map, Array.getElem?_toList, Array.getElem?_map] at hx hv
  cases e : xs[i]? with
  | none => simp [e] at hx
  | some y =>
    simp [e] at hx hv
    subst hx; subst hv
    exact h y (Array.mem_of_getElem? e)

/-- A deferred call: what it calls, what that captured, its arguments. -/
structure ADef where
  f : Fn
  cap : List AV
  args : List AV

structure DefRep1 (μ : Mu) (F : Frm) (w : World) (x : ADef) (d : Deferred) : Prop where
  tgt : ∃ c, d.target = .fn x.f c ∧ RepL μ F w x.cap c
  args : RepL μ F w x.args d.args

def DefRep (μ : Mu) (F : Frm) (w : World) : List ADef → List Deferred → Prop
  | [], [] => True
  | x :: l, d :: r => DefRep1 μ F w x d ∧ DefRep μ F w l r
  | _, _ => False

theorem DefRep.evo {μ μ' : Mu} {F : Frm} {w w' : World} (hev : Evo w μ w' μ') : ∀ {l : List ADef} {r : List Deferred}, DefRep μ F w l r → DefRep μ' F w' l r
  | [], [], _ => trivial
  | _ :: _, _ :: _, ⟨⟨⟨c, h1, h2⟩, h3⟩, h4⟩ => ⟨⟨⟨c, h1, h2.evo hev⟩, h3.evo hev⟩, DefRep.evo hev h4⟩

/-- A frame: what its temporaries stand for, and its deferred calls. -/
structure AF where
  t : List (Nat × AV)
  d : List ADef

def AF.get (f : AF) (i : Nat) : AV := (lookup f.t i).getD .top
def AF.ev (f : AF) : Operand → AV
  | .tmp t => f.get t
  | .const v => ofV v
  | .global _ => .top
  | .func g => .fn (.func g) [] []
def AF.put (f : AF) (dst : Option Tmp) (x : AV) : AF :=
  match dst with
  | some d => ⟨(d, x) :: f.t, f.d⟩
  | none => f

structure RepF (μ : Mu) (F : Frm) (w : World) (n : Nat) (f : AF) (a : Act) : Prop where
  size : a.tmps.size = n
  tmps : ∀ t, Rep μ F w (f.get t) (a.tmps.getD t undef)
  defs : DefRep μ F w f.d a.defers

theorem RepF.evo {μ μ' : Mu} {F : Frm} {w w' : World} (hev : Evo w μ w' μ') {n : Nat} {f : AF} {a : Act} (h : RepF μ F w n f a) : RepF μ' F w' n f a :=
  ⟨h.size, fun t => (h.tmps t).evo hev, h.defs.evo hev⟩

theorem RepF.ev {μ : Mu} {F : Frm} {w : World} {n : Nat} {f : AF} {a : Act} (h : RepF μ F w n f a) (x : Operand) : Rep μ F w (f.ev x) (a.eval x) := by
  cases x with
  | tmp t => exact h.tmps t
  | const v => exact rep_ofV _ _ _ _
  | global g => exact .top _
  | func g => exact .fn _ _ _ _ _ rfl rfl (by simp) (by simp)

theorem RepF.put {μ : Mu} {F : Frm} {w : World} {n : Nat} {f : AF} {a : Act} (h : RepF μ F w n f a) {dst : Option Tmp} (hd : ∀ d, dst = some d → d < n) {x : AV} {v : Value} (hr : Rep μ F w x v) : RepF μ F w n (f.put dst x) (a.put dst v) := by
  cases dst with
  | none => exact h
  | some d =>
    have hlt := hd d rfl
    refine ⟨by simp [Act.put, h.size], ?_, h.defs⟩
    intro t
    simp only [AF.put, AF.get, lookup, Act.put]
    by_cases ht : t = d
    · subst ht
      have : t < a.tmps.size := by rw [h.size]; exact hlt
      simp [Array.getElem?_setIfInBounds, this, hr]
    · rw [if_neg ht]
      have := h.tmps t
      rw [Array.getD_eq_getD_getElem?, Array.getElem?_setIfInBounds_ne (by omega), ← Array.getD_eq_getD_getElem?]
      exact this

/-- What stands for x stands for y, too. -/
def Sub (x y : AV) : Prop := ∀ (μ : Mu) (F : Frm) (w : World) (v : Value), Rep μ F w x v → Rep μ F w y v

theorem Sub.refl {x : AV} : Sub x x := fun _ _ _ _ h => h
theorem Sub.top {x : AV} : Sub x .top := fun _ _ _ v _ => .top v
theorem Sub.of_eq {x y : AV} (h : x = y) : Sub x y := by subst h; exact Sub.refl

/-- A frame of which less is known. -/
def AF.le (g f : AF) : Prop := g.d = f.d ∧ ∀ t, Sub (f.get t) (g.get t)

theorem RepF.le {μ : Mu} {F : Frm} {w : World} {n : Nat} {f g : AF} {a : Act} (h : RepF μ F w n f a) (hg : g.le f) : RepF μ F w n g a :=
  ⟨h.size, fun t => hg.2 t _ _ _ _ (h.tmps t), by rw [hg.1]; exact h.defs⟩

/-- A memory of which less is known. -/
def Mem.le (N M : Mem) : Prop := N.next = M.next ∧ ∀ i o, N.get i = some o → M.get i = some o

theorem Gam.le {μ : Mu} {F : Frm} {M N : Mem} {w : World} (h : Gam μ F M w) (hl : N.le M) : Gam μ F N w :=
  ⟨fun id => by rw [hl.1]; exact h.dom id, fun id l hM => h.obj id l (hl.2 id _ hM), fun id g hM => h.spare id g (hl.2 id _ hM), h.inj, h.frm, h.fit⟩

/-- A step that only the proof takes: other abstract values stand for the same machine's state (n0: the objects that there were at the beginning). -/
def Joint (n0 : Nat) (f : AF) (M : Mem) (g : AF) (N : Mem) : Prop :=
  ∀ (μ0 μ : Mu) (F : Frm) (w0 w : World) (n : Nat) (a : Act), (∀ id, μ0 id ≠ none → id < n0) → Evo w0 μ0 w μ → Gam μ F M w → RepF μ F w n f a → ∃ μ', Evo w0 μ0 w μ' ∧ Gam μ' F N w ∧ RepF μ' F w n g a

theorem Joint.refl {n0 : Nat} {f : AF} {M : Mem} : Joint n0 f M f M := fun μ0 μ F w0 w n a _ he hg hr => ⟨μ, he, hg, hr⟩
theorem Joint.trans {n0 : Nat} {f g h : AF} {M N L : Mem} (h1 : Joint n0 f M g N) (h2 : Joint n0 g N h L) : Joint n0 f M h L := by
  intro μ0 μ F w0 w n a hn he hg hr
  obtain ⟨μ1, e1, g1, r1⟩ := h1 μ0 μ F w0 w n a hn he hg hr
  exact h2 μ0 μ1 F w0 w n a hn e1 g1 r1
theorem Joint.le {n0 : Nat} {f g : AF} {M N : Mem} (hf : g.le f) (hM : N.le M) : Joint n0 f M g N := fun μ0 μ F w0 w n a _ he hg hr => ⟨μ, he, hg.le hM, hr.le hf⟩

def XRel (μ : Mu) (F : Frm) (w : World) : Exit → AX → Prop
  | .normal, .normal => True
  | .exit i, .exit j => i = j
  | .ret, .ret => True
  | .panic ch, .panic x => ∃ v, ch = [{ v, recovered := false }] ∧ Rep μ F w x v
  | _, _ => False

def Post (n : Nat) (Q : AX → AF → Mem → Prop) (μ : Mu) (F : Frm) (w : World) : Exit → Act → World → Prop :=
  fun e a' w' => ∃ μ' f' M' x, Evo w μ w' μ' ∧ Gam μ' F M' w' ∧ RepF μ' F w' n f' a' ∧ XRel μ' F w' e x ∧ Q x f' M'

/-- The walk of a piece of code. -/
structure W (P : Program) (n : Nat) (c : Code) (Q : AX → AF → Mem → Prop) (f : AF) (M : Mem) : Prop where
  run : ∀ (μ : Mu) (F : Frm) (w : World) (a : Act), Gam μ F M w → RepF μ F w n f a → c.wp P (Post n Q μ F w) a w

theorem Post.trans {n : Nat} {Q : AX → AF → Mem → Prop} {μ μ1 : Mu} {F : Frm} {w w1 : World} (h : Evo w μ w1 μ1) {e : Exit} {a : Act} {w' : World} (hp : Post n Q μ1 F w1 e a w') : Post n Q μ F w e a w' := by
  obtain ⟨μ', f', M', x, h1, h2, h3, h4, h5⟩ := hp
  exact ⟨μ', f', M', x, h.trans h1, h2, h3, h4, h5⟩

theorem W.mono {P : Program} {n : Nat} {c : Code} {Q Q' : AX → AF → Mem → Prop} {f : AF} {M : Mem} (h : W P n c Q f M) (hq : ∀ x f M, Q x f M → Q' x f M) : W P n c Q' f M :=
  ⟨fun μ F w a hg hr => wp_mono (h.run μ F w a hg hr) fun e a' w' ⟨μ', f', M', x, h1, h2, h3, h4, h5⟩ => ⟨μ', f', M', x, h1, h2, h3, h4, hq x f' M' h5⟩⟩

theorem W.le {P : Program} {n : Nat} {c : Code} {Q : AX → AF → Mem → Prop} {f g : AF} {M N : Mem} (hf : g.le f) (hM : N.le M) (h : W P n c Q g N) : W P n c Q f M :=
  ⟨fun μ F w a hg hr => h.run μ F w a (hg.le hM) (hr.le hf)⟩

section
variable {P : Program} {n : Nat} {Q : AX → AF → Mem → Prop} {f : AF} {M : Mem}

theorem W_skip (h : Q .normal f M) : W P n .skip Q f M :=
  ⟨fun μ F w a hg hr => wp_skip ⟨μ, f, M, .normal, Evo.refl _ _, hg, hr, trivial, h⟩⟩
theorem W_ret (h : Q .ret f M) : W P n .ret Q f M :=
  ⟨fun μ F w a hg hr => wp_ret ⟨μ, f, M, .ret, Evo.refl _ _, hg, hr, trivial, h⟩⟩
theorem W_exit {id : Nat} (h : Q (.exit id) f M) : W P n (.exit id) Q f M :=
  ⟨fun μ F w a hg hr => wp_exit ⟨μ, f, M, .exit id, Evo.refl _ _, hg, hr, rfl, h⟩⟩

/-- What follows a normal end. -/
def thenX (K : AF → Mem → Prop) (Q : AX → AF → Mem → Prop) : AX → AF → Mem → Prop
  | .normal, f, M => K f M
  | x, f, M => Q x f M

theorem W_seq {c d : Code} (h : W P n c (thenX (fun f M => W P n d Q f M) Q) f M) : W P n (.seq c d) Q f M := by
  refine ⟨fun μ F w a hg hr => ?_⟩
  refine wp_seq (wp_mono (h.run μ F w a hg hr) ?_)
  rintro e a' w' ⟨μ', f', M', x, h1, h2, h3, h4, h5⟩
  cases e with
  | normal =>
    cases x <;> simp only [XRel] at h4
    exact wp_mono (h5.run μ' F w' a' h2 h3) fun e a w hp => hp.trans h1
  | exit id => cases x <;> first | exact h4.elim | exact ⟨μ', f', M', _, h1, h2, h3, h4, h5⟩
  | goto l => cases x <;> exact h4.elim
  | ret => cases x <;> first | exact h4.elim | exact ⟨μ', f', M', _, h1, h2, h3, h4, h5⟩
  | panic ch => cases x <;> first | exact h4.elim | exact ⟨μ', f', M', _, h1, h2, h3, h4, h5⟩
  | outgrown => cases x <;> exact h4.elim

def blockX (id : Nat) (Q : AX → AF → Mem → Prop) : AX → AF → Mem → Prop
  | .exit j, f, M => if j = id then Q .normal f M else Q (.exit j) f M
  | x, f, M => Q x f M

theorem W_block {id : Nat} {c : Code} (h : W P n c (blockX id Q) f M) : W P n (.block id c) Q f M := by
  refine ⟨fun μ F w a hg hr => ?_⟩
  refine wp_block (wp_mono (h.run μ F w a hg hr) ?_)
  rintro e a' w' ⟨μ', f', M', x, h1, h2, h3, h4, h5⟩
  cases e with
  | normal => cases x <;> simp only [XRel] at h4; exact ⟨μ', f', M', .normal, h1, h2, h3, trivial, h5⟩
  | exit j =>
    cases x <;> simp only [XRel] at h4
    subst h4
    simp only [Exit.inBlock, blockX] at h5 ⊢
    split
    · rename_i e
      rw [if_pos e] at h5
      exact ⟨μ', f', M', .normal, h1, h2, h3, trivial, h5⟩
    · rename_i e
      rw [if_neg e] at h5
      exact ⟨μ', f', M', .exit j, h1, h2, h3, rfl, h5⟩
  | goto l => cases x <;> exact h4.elim
  | ret => cases x <;> first | exact h4.elim | exact ⟨μ', f', M', _, h1, h2, h3, h4, h5⟩
  | panic ch => cases x <;> first | exact h4.elim | exact ⟨μ', f', M', _, h1, h2, h3, h4, h5⟩
  | outgrown => cases x <;> exact h4.elim

theorem W_cond {c : Operand} {d e : Code} {b : Bool} (hc : f.ev c = .bool b) (h1 : b = true → W P n d Q f M) (h2 : b = false → W P n e Q f M) : W P n (.cond c d e) Q f M := by
  refine ⟨fun μ F w a hg hr => ?_⟩
  have hv := hr.ev c
  rw [hc] at hv
  generalize hva : a.eval c = v at hv
  cases hv
  exact wp_cond_split hva (fun h => (h1 h).run μ F w a hg hr) (fun h => (h2 h).run μ F w a hg hr)

theorem W_true {c : Operand} {d e : Code} (hc : f.ev c = .bool true) (h1 : W P n d Q f M) : W P n (.cond c d e) Q f M := W_cond hc (fun _ => h1) (fun h => by cases h)
theorem W_false {c : Operand} {d e : Code} (hc : f.ev c = .bool false) (h1 : W P n e Q f M) : W P n (.cond c d e) Q f M := W_cond hc (fun h => by cases h) (fun _ => h1)

theorem W_ghost {c : Code} {g : AF} {N : Mem} (hj : Joint M.next f M g N) (h : W P n c Q g N) : W P n c Q f M := by
  refine ⟨fun μ F w a hg hr => ?_⟩
  obtain ⟨μ', e, hg', hr'⟩ := hj μ μ F w w n a (fun id h => (hg.dom id).1 h) (Evo.refl _ _) hg hr
  exact wp_mono (h.run μ' F w a hg' hr') fun e' a' w' hp => hp.trans e

/-- A loop: what holds at each round's head, by a number that each round lowers. -/
theorem W_loop {c : Code} (I : Nat → AF → Mem → Prop) {k : Nat} {f0 : AF} {M0 : Mem} (h0 : I k f0 M0) (hj : Joint M.next f M f0 M0)
    (round : ∀ k f' N, I k f' N → W P n c (thenX (fun f1 M1 => ∃ k' f'' M'', k' < k ∧ I k' f'' M'' ∧ Joint M.next f1 M1 f'' M'') Q) f' N) : W P n (.loop c) Q f M := by
  refine ⟨fun μ F w a hg hr => ?_⟩
  have hdom : ∀ id, μ id ≠ none → id < M.next := fun id h => (hg.dom id).1 h
  -- the relation of the machine's frames and worlds
  let J : Nat → Act → World → Prop := fun k a' w' => ∃ μ' f' M', Evo w μ w' μ' ∧ Gam μ' F M' w' ∧ RepF μ' F w' n f' a' ∧ I k f' M'
  intro b K cs
  have key : ∀ (k : Nat) (a' : Act) (w' : World), J k a' w' → ∃ e a2 w2, Post n Q μ F w e a2 w2 ∧ Arrives P (lone (b.at a' (.code c :: .inLoop c :: K)) cs w') b K cs e a2 w2 := by
    intro k
    induction k using Nat.strongRecOn with
    | _ k ih =>
      intro a' w' ⟨μ', f', M', h1, h2, h3, h4⟩
      obtain ⟨e, a1, w1, ⟨μ1, f1, M1, x, g1, g2, g3, g4, g5⟩, harr⟩ := (round k f' M' h4).run μ' F w' a' h2 h3 b (.inLoop c :: K) cs
      have hev := h1.trans g1
      cases e with
      | normal =>
        cases x <;> simp only [XRel] at g4
        obtain ⟨k', f'', M'', hlt, hI, hjj⟩ := g5
        obtain ⟨μ2, j1, j2, j3⟩ := hjj μ μ1 F w w1 n a1 hdom hev g2 g3
        obtain ⟨e2, a2, w2, hq2, harr2⟩ := ih k' hlt a1 w1 ⟨μ2, f'', M'', j1, j2, j3, hI⟩
        exact ⟨e2, a2, w2, hq2, .of_steps (Steps.trans harr (.one step_inLoop)) harr2⟩
      | exit id =>
        cases x <;> first | exact g4.elim | skip
        exact ⟨_, a1, w1, ⟨μ1, f1, M1, _, hev, g2, g3, g4, g5⟩, .pass (x := .inLoop c) rfl (fun _ _ => .inl (by simp)) harr⟩
      | goto l => cases x <;> exact g4.elim
      | ret =>
        cases x <;> first | exact g4.elim | skip
        exact ⟨_, a1, w1, ⟨μ1, f1, M1, _, hev, g2, g3, g4, g5⟩, .pass (x := .inLoop c) rfl (fun _ _ => .inl (by simp)) harr⟩
      | panic ch =>
        cases x <;> first | exact g4.elim | skip
        exact ⟨_, a1, w1, ⟨μ1, f1, M1, _, hev, g2, g3, g4, g5⟩, .pass (x := .inLoop c) rfl (fun _ _ => .inl (by simp)) harr⟩
      | outgrown => cases x <;> exact g4.elim
  obtain ⟨μ0, j1, j2, j3⟩ := hj μ μ F w w n a hdom (Evo.refl _ _) hg hr
  obtain ⟨e, a', w', hq, harr⟩ := key k a w ⟨μ0, f0, M0, j1, j2, j3, h0⟩
  exact ⟨e, a', w', hq, .of_steps (.one step_loop) harr⟩
end

end Go.Ab
