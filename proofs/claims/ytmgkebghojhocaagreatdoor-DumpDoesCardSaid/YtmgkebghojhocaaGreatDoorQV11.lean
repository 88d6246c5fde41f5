/- Parts of the proof, one behind the other: AbG1, AbG2, AbG3, AbB9. No further condition. -/
import Derived.Test.YtmgkebghojhocaaGreatDoorQV10
import Derived.RangeFuncRecord
import Derived.Test.YtmgkebghojhocaaGreatDoorQV07
set_option linter.unusedVariables false
set_option linter.unusedSimpArgs false
/- Ranges over functions: the loop's record and the block of its rounds' deferred calls are objects; yields by contracts; the statement. -/
set_option linter.unusedVariables false
set_option linter.unusedSimpArgs false
namespace Go.Ab
open Go.RowKit
theorem gam_pushraw {μ : Mu} {F : Frm} {M : Mem} {w w' : World} (h : Gam μ F M w) (hb : Below w.heap.size w w') {o : Obj} {vs : Array Value} {t : List (Nat × AV)} {b : Nat} (hnew : w.heap.size ≤ b)
  (hc : w'.heap[b]? = some o) (hr : ∀ i, Rep μ F w ((lookup t i).getD .top) (vs.getD i undef)) :
  Evo w μ w' (μ.put M.next (.at b)) ∧ Gam (μ.put M.next (.at b)) F (M.push (.raw none o vs t)) w' := by
 have hn := gam_next h
 have hown : ∀ k o, Own (μ.put M.next (.at b)) k o → k = b ∨ Own μ k o := by
  rintro k o ⟨id, h1 | ⟨e, g, h1, he⟩⟩
  ·unfold Mu.put at h1
   split at h1
   ·cases h1; exact .inl rfl
   ·exact .inr ⟨id, .inl h1⟩
  ·unfold Mu.put at h1
   split at h1
   ·cases h1
   ·exact .inr ⟨id, .inr ⟨e, g, h1, he⟩⟩
 have hev : Evo w μ w' (μ.put M.next (.at b)) := Evo.push hb hn fun k o ho hk => by
  rcases hown k o ho with rfl | ho
  ·omega
  ·exact ho
 refine ⟨hev, ?_, ?_, ?_, ?_, ?_, ?_, ?_⟩
 ·intro id
  have := h.dom id
  unfold Mu.put Mem.push
  simp only
  split
  ·rename_i e; subst e; simp
  ·rename_i e
   rw [this]
   omega
 ·intro id l' hl
  rw [Mem.get_push] at hl
  split at hl
  ·cases hl
  ·rename_i e
   obtain ⟨b', c', ty', h1, h2, h3, h4, h5⟩ := h.obj id l' hl
   have hlt : b' < w.heap.size := (Array.getElem?_eq_some_iff.1 h2).1
   exact ⟨b', c', ty', by simp [Mu.put, e, h1], (hb.block b' hlt).trans h2, h3, h4, fun i x v hx hv => (h5 i x v hx hv).evo hev⟩
 ·intro id g hl
  rw [Mem.get_push] at hl
  split at hl
  ·cases hl
  ·rename_i e
   obtain ⟨p, h1, h2⟩ := h.spare id g hl
   refine ⟨p, by simp [Mu.put, e, h1], fun b' e' hp => ?_⟩
   obtain ⟨c', ty', fr, h3, h4, h5⟩ := h2 b' e' hp
   have hlt : b' < w.heap.size := (Array.getElem?_eq_some_iff.1 h3).1
   exact ⟨c', ty', fr, (hb.block b' hlt).trans h3, h4, h5⟩
 ·have lie : ∀ i k, Lies (μ.put M.next (.at b)) i k → (i = M.next ∧ k = b) ∨ Lies μ i k := by
   rintro i k (h1 | ⟨e, g, h1⟩)
   ·unfold Mu.put at h1
    split at h1
    ·cases h1; exact .inl ⟨by assumption, rfl⟩
    ·exact .inr (.inl h1)
   ·unfold Mu.put at h1
    split at h1
    ·cases h1
    ·exact .inr (.inr ⟨e, g, h1⟩)
  have old : ∀ i k, Lies μ i k → k < w.heap.size := by
   rintro i k (h1 | ⟨e, g, h1⟩)
   ·exact h.fit.own k 0 ⟨i, .inl h1⟩
   ·exact h.fit.own k e ⟨i, .inr ⟨e, g, h1, Nat.le_refl _⟩⟩
  intro i j k hi hj
  rcases lie i k hi with ⟨h1, h2⟩ | h1 <;> rcases lie j k hj with ⟨h3, h4⟩ | h3
  ·exact h1.trans h3.symm
  ·have := old j k h3; omega
  ·have := old i k h1; omega
  ·exact h.inj i j k h1 h3
 ·intro k o ho hF
  rcases hown k o ho with rfl | ho
  ·have := h.fit.frm k o hF; omega
  ·exact h.frm k o ho hF
 ·refine ⟨fun k o ho => ?_, fun k o hF => Nat.lt_of_lt_of_le (h.fit.frm k o hF) hb.size⟩
  rcases hown k o ho with rfl | ho
  ·exact (Array.getElem?_eq_some_iff.1 hc).1
  ·exact Nat.lt_of_lt_of_le (h.fit.own k o ho) hb.size
 ·intro id gg o' vs' t' hl
  rw [Mem.get_push] at hl
  split at hl
  ·rename_i e
   cases hl
   exact ⟨b, by simp [RawAt, Mu.put, e], hc, fun i => (hr i).evo hev⟩
  ·rename_i e
   obtain ⟨b', h1, h2, h3⟩ := h.raw id gg o' vs' t' hl
   have hlt : b' < w.heap.size := (Array.getElem?_eq_some_iff.1 h2).1
   exact ⟨b', h1.congr (by simp [Mu.put, e]), (hb.block b' hlt).trans h2, fun i => (h3 i).evo hev⟩
theorem wrote_put (w : World) (b : Nat) (o : Obj) : Wrote w b (w.putObj b o) := ⟨rfl, rfl, rfl, by simp, fun k hk => World.putObj_heap_other hk⟩
theorem gam_turn {μ : Mu} {F : Frm} {M : Mem} {w : World} (h : Gam μ F M w) {id b : Nat} {o : Obj} {vs : Array Value} {t : List (Nat × AV)} (hM : M.get id = some (.raw none o vs t)) (hid : μ id = some (.at b)) (o' : Obj) (hno : ∀ c ty fr, o ≠ .cells c ty fr) :
  w.heap[b]? = some o ∧ Evo w μ (w.putObj b o') μ ∧ Gam μ F (M.set id (.raw none o' vs t)) (w.putObj b o') := by
 obtain ⟨b0, k1, k2, k3⟩ := h.raw id none o vs t hM
 have k1 : μ id = some (.at b0) := k1
 rw [hid] at k1
 cases k1
 have hw := wrote_put w b o'
 have hlt : b < w.heap.size := (Array.getElem?_eq_some_iff.1 k2).1
 have hev : Evo w μ (w.putObj b o') μ := by
  refine ⟨hw.os, hw.tape, hw.output, Nat.le_of_eq hw.size.symm, fun _ _ => .inl rfl, ?_, ?_, fun _ _ _ h => h⟩
  ·intro k hk hn
   refine hw.other k ?_
   rintro rfl
   exact hn 0 ⟨id, .inl hid⟩
  ·intro k e c' ty' fr hk hn hc'
   by_cases hkb : k = b
   ·subst hkb
    rw [k2] at hc'
    cases hc'
    exact absurd rfl (hno _ _ _)
   ·exact ⟨c', fr, (hw.other k hkb).trans hc', rfl, fun _ _ => rfl⟩
 refine ⟨k2, hev, h.dom, ?_, ?_, h.inj, h.frm, ⟨fun k o ho => by rw [hw.size]; exact h.fit.own k o ho, fun k o ho => by rw [hw.size]; exact h.fit.frm k o ho⟩, ?_⟩
 ·intro i l' hl
  rw [Mem.get_set] at hl
  split at hl
  ·cases hl
  ·rename_i e
   obtain ⟨b', c', ty', h1, h2, h3, h4, h5⟩ := h.obj i l' hl
   have hne : b' ≠ b := by
    rintro rfl
    exact e (h.inj i id b' (.inl h1) (.inl hid))
   exact ⟨b', c', ty', h1, (hw.other b' hne).trans h2, h3, h4, fun i x v hx hv => (h5 i x v hx hv).evo hev⟩
 ·intro i g hl
  rw [Mem.get_set] at hl
  split at hl
  ·cases hl
  ·rename_i e
   obtain ⟨p, h1, h2⟩ := h.spare i g hl
   refine ⟨p, h1, fun b' e' hp => ?_⟩
   obtain ⟨c', ty', fr, h3, h4, h5⟩ := h2 b' e' hp
   have hne : b' ≠ b := by
    rintro rfl
    subst hp
    exact e (h.inj i id b' (.inr ⟨e', g, h1⟩) (.inl hid))
   exact ⟨c', ty', fr, (hw.other b' hne).trans h3, h4, h5⟩
 ·intro i gg o2 vs2 t2 hl
  rw [Mem.get_set] at hl
  split at hl
  ·rename_i e
   cases hl
   subst e
   exact ⟨b, hid, World.putObj_heap_same hlt, fun i => (k3 i).evo hev⟩
  ·rename_i e
   obtain ⟨b', h1, h2, h3⟩ := h.raw i gg o2 vs2 t2 hl
   have hne : b' ≠ b := by
    rintro rfl
    exact e (h.inj i id b' h1.lies (.inl hid))
   exact ⟨b', h1, (hw.other b' hne).trans h2, fun i => (h3 i).evo hev⟩
/-- The contract of a call of loop y's yield. -/
def AYields (P : Program) (y : Nat) (args : List AV) (M : Mem) (R : AEnd → Mem → Prop) : Prop :=
 ∀ (r : Option Nat) (μ : Mu) (F : Frm) (w : World) (vs : Array Value) (b : Nat), Gam μ F M w → μ y = some (.at b) → RepL μ F w args vs →
  ∃ fn tmps assign body, (Instr.yield b vs).run P w = .ok (.round b fn tmps assign body) w ∧ RoundIn (fn0 r) 8 P b fn tmps assign body w (callPost F μ w R)
theorem AYields.mono {P : Program} {y : Nat} {args : List AV} {M : Mem} {R R' : AEnd → Mem → Prop} (h : AYields P y args M R) (hr : ∀ e M, R e M → R' e M) : AYields P y args M R' := by
 intro r μ F w vs b hg hb hv
 obtain ⟨fn, tmps, assign, body, h1, h2⟩ := h r μ F w vs b hg hb hv
 refine ⟨fn, tmps, assign, body, h1, h2.mono ?_⟩
 rintro e w' ⟨μ', M', k1, k2, k3⟩
 refine ⟨μ', M', k1, k2, ?_⟩
 cases e with
 | returned v => obtain ⟨x, h4, h5⟩ := k3; exact ⟨x, h4, hr _ _ h5⟩
 | panicked ch => obtain ⟨x, v, h4, h5, h6⟩ := k3; exact ⟨x, v, h4, h5, hr _ _ h6⟩
 | outgrown => exact k3
theorem AYields.le {P : Program} {y : Nat} {args : List AV} {M N : Mem} {R : AEnd → Mem → Prop} (hM : N.le M) (h : AYields P y args N R) : AYields P y args M R :=
 fun r μ F w vs b hg hb hv => h r μ F w vs b (hg.le hM) hb hv
theorem upon_round {r : Option Nat} {P : Program} {o : Oper} {a : Act} {w w' : World} {next : Act → World → Prop} {Q : Exit → Act → World → Prop} {l : Nat} {f : FuncId} {tmps : Array Value} {assign body : Code}
  (h : (execOp a.eval o).run P w = .ok (.round l f tmps assign body) w')
  (hk : RoundIn (fn0 r) 8 P l f tmps assign body w' fun
   | .returned v, w'' => next (a.put o.dst v) w''
   | .panicked chain, w'' => Q (.panic chain) a w''
   | .outgrown, _ => LetsOut Q) : o.wpIn (fn0 r) 9 P a w next Q := by
 refine ⟨fun _ _ => trivial, ?_⟩
 have := semAt_val (r := r) h (by intro d e; cases e)
 show o.uponIn (fn0 r) 9 P a next Q ((o.semAt r a.eval).run P w)
 rw [this]
 exact ⟨fun h => (by cases h), hk⟩
theorem opI_yield {P : Program} {o : Oper} {x : Operand} {ags : Array Operand} {ts : Array TypeId} (ho : o.op = .call { callee := .value x, args := ags, argTypes := ts }) {ρ : Operand → AV} {M : Mem} {y : Nat} {ob : Obj} {vs : Array Value} {t : List (Nat × AV)}
  (hx : ρ x = .yld y) (hM : M.get y = some (.raw none ob vs t)) {R : AEnd → Mem → Prop} (hc : AYields P y (ags.toList.map ρ) M R) {K Kp : AV → Mem → Prop} (h1 : ∀ u M', R (.ret u) M' → K u M') (h2 : ∀ u M', R (.pan u) M' → Kp u M') : OpI P o ρ M K Kp := by
 intro r μ F w a hg hr next Q' g1 g2
 have hv := hr x (by simp [ho, Op.operands, Call.operands])
 rw [hx] at hv
 obtain ⟨b, hb, _, _⟩ := hg.raw y none ob vs t hM
 have he : a.eval x = .func (.yield b) #[] #[] := by
  generalize a.eval x = u at hv
  cases hv with
  | yld _ _ _ _ h3 => exact h3 b hb
 have hargs : RepL μ F w (ags.toList.map ρ) (ags.map a.eval) := RepL.map fun y hy => hr y (by simp [ho, Op.operands, Call.operands, hy])
 obtain ⟨fn, tmps, assign, body, k1, k2⟩ := hc r μ F w _ b hg hb hargs
 have hrun : (execOp a.eval o).run P w = .ok (.round b fn tmps assign body) w := by
  simp [execOp, ho, resolve, he, Deferred.ofValue, invoke, k1]
 refine upon_round hrun (k2.mono ?_)
 rintro e w' ⟨μ', M', e1, e2, e3⟩
 cases e with
 | returned v =>
  obtain ⟨u, e4, e5⟩ := e3
  exact g1 μ' M' w' v u e1 e2 e4 (h1 u M' e5)
 | panicked ch =>
  obtain ⟨u, v, rfl, e4, e5⟩ := e3
  exact g2 μ' M' w' v u e1 e2 e4 (h2 u M' e5)
 | outgrown => exact e3.elim
section
variable {P : Program} {ops : Array Oper} {cls : Nat → Cls} {Q : AX → AF → Mem → Prop} {ds : List ADef} {ls : List Nat} {i : Nat} {t : List (Nat × AV)} {M : Mem}
def stepY (ops : Array Oper) (cls : Nat → Cls) (ds : List ADef) (i : Nat) (t : List (Nat × AV)) : Option (Option Nat × Nat × List AV) :=
 match ops[i]? with
 | some o => (match wantedA ops ⟨t, ds⟩ o, cls i, o.op with
  | some true, .Y, .call { callee := .value y, args := ags, argTypes := _ } => (match AF.ev ⟨t, ds⟩ y with
   | .yld id => some (o.dst, id, ags.toList.map (AF.ev ⟨t, ds⟩))
   | _ => none)
  | _, _, _ => none)
 | none => none
/-- A call of yield. -/
theorem DW_Y {d : Nat} {y : Nat} {args : List AV} {R : AEnd → Mem → Prop} (hs : stepY ops cls ds i t = some (some d, y, args)) {ob : Obj} {vs : Array Value} {t0 : List (Nat × AV)} (hM : M.get y = some (.raw none ob vs t0)) (hcall : AYields P y args M R)
  (h1 : ∀ u M', R (.ret u) M' → DW P ops cls Q ds ls ((d, u) :: t) M') (h2 : ∀ u M', R (.pan u) M' → Q (.panic u) ⟨keepT ds, ds⟩ M') : DW P ops cls Q ds (i :: ls) t M := by
 unfold stepY at hs
 split at hs
 ·rename_i o hi
  split at hs
  ·rename_i yy ags ts hw hcl ho
   split at hs
   ·rename_i id hx
    simp only [Option.some.injEq, Prod.mk.injEq] at hs
    obtain ⟨hd, rfl, rfl⟩ := hs
    refine DW_run hi hw ?_
    rw [hcl]
    refine opI_yield ho hx hM hcall ?_ h2
    intro u M' hu
    have := h1 u M' hu
    simpa [AF.put, hd] using this
   ·cases hs
  ·cases hs
 ·cases hs
end
def loopR (fn : FuncId) (tmps : Array Value) (ps : Array Tmp) (assign body : Code) (D : Nat) (st : LoopState) (pe : Option Code) : Loop :=
 { state := st, pending := pe, fn, tmps, params := ps, assign, body, defers := D }
def parT : List Nat → List AV → List (Nat × AV) → List (Nat × AV)
 | p :: ps, a :: avs, t => parT ps avs ((p, a) :: t)
 | _, _, t => t
theorem par_rep {μ : Mu} {F : Frm} {w : World} : ∀ (ps : List Nat) (avs : List AV) (vs : List Value) (t : List (Nat × AV)) (tm : Array Value), ps.length = avs.length → vs.length = avs.length → (∀ p, p ∈ ps → p < tm.size) →
  (∀ (i : Nat) (x : AV) (v : Value), avs[i]? = some x → vs[i]? = some v → Rep μ F w x v) → (∀ i, Rep μ F w ((lookup t i).getD .top) (tm.getD i undef)) →
  ∀ i, Rep μ F w ((lookup (parT ps avs t) i).getD .top) (((ps.zip vs).foldl (fun (tm : Array Value) (p : Nat × Value) => tm.setIfInBounds p.1 p.2) tm).getD i undef)
 | [], [], [], t, tm, _, _, _, _, h => h
 | p :: ps, a :: avs, v :: vs, t, tm, h1, h2, h3, h4, h => by
  simp only [List.zip_cons_cons, List.foldl_cons, parT]
  refine par_rep ps avs vs _ _ (by simpa using h1) (by simpa using h2) (fun q hq => by rw [Array.size_setIfInBounds]; exact h3 q (by simp [hq])) (fun i x u hx hu => h4 (i + 1) x u (by simpa using hx) (by simpa using hu)) ?_
  intro i
  simp only [lookup]
  by_cases e : i = p
  ·subst e
   have := h3 i (by simp)
   simp only [if_true, Option.getD_some]
   rw [Array.getD_eq_getD_getElem?, Array.getElem?_setIfInBounds]
   simp only [this, if_true, Option.getD_some]
   exact h4 0 a v rfl rfl
  ·rw [if_neg e, Array.getD_eq_getD_getElem?, Array.getElem?_setIfInBounds_ne (Ne.symm e), ← Array.getD_eq_getD_getElem?]
   exact h i
 | [], _ :: _, _, _, _, h1, _, _, _, _ => by simp at h1
 | _ :: _, [], _, _, _, h1, _, _, _, _ => by simp at h1
 | [], [], _ :: _, _, _, _, h2, _, _, _ => by simp at h2
 | _ :: _, _ :: _, [], _, _, _, h2, _, _, _ => by simp at h2
theorem par_size : ∀ (l : List (Nat × Value)) (tm : Array Value), (l.foldl (fun (tm : Array Value) (p : Nat × Value) => tm.setIfInBounds p.1 p.2) tm).size = tm.size
 | [], _ => rfl
 | _ :: l, tm => by rw [List.foldl_cons, par_size l]; simp
/-- A round's end. -/
def roundQ (y : Nat) (fn : FuncId) (tmps : Array Value) (ps : Array Tmp) (assign body : Code) (D : Nat) (t : List (Nat × AV)) (R : AEnd → Mem → Prop) : AX → AF → Mem → Prop
 | .normal, _, M => M.get y = some (.raw none (.loop (loopR fn tmps ps assign body D .busy none)) tmps t) ∧ R (.ret (.bool true)) (M.set y (.raw none (.loop (loopR fn tmps ps assign body D .ready none)) tmps t))
 | .ret, _, M => M.get y = some (.raw none (.loop (loopR fn tmps ps assign body D .busy none)) tmps t) ∧ R (.ret (.bool false)) (M.set y (.raw none (.loop (loopR fn tmps ps assign body D .done (some .ret))) tmps t))
 | .exit id, _, M => M.get y = some (.raw none (.loop (loopR fn tmps ps assign body D .busy none)) tmps t) ∧ R (.ret (.bool false)) (M.set y (.raw none (.loop (loopR fn tmps ps assign body D .done (some (.exit id)))) tmps t))
 | .panic _, _, _ => False
/-- A yield's contract out of the walk of a round. -/
theorem ayields_of {P : Program} {y : Nat} {args : List AV} {M : Mem} {R : AEnd → Mem → Prop} {fn : FuncId} {tmps : Array Value} {ps : Array Tmp} {assign body : Code} {D n : Nat} {t : List (Nat × AV)}
  (hM : M.get y = some (.raw none (.loop (loopR fn tmps ps assign body D .ready none)) tmps t)) (hn : tmps.size = n) (hp : ps.toList.length = args.length) (hps : (ps.toList.all fun p => decide (p < n)) = true)
  (h : ∀ l, W (some l) P n assign (thenX (fun f1 M1 => M1.get y = some (.raw none (.loop (loopR fn tmps ps assign body D .ready none)) tmps t) ∧ W (some l) P n body (roundQ y fn tmps ps assign body D t R) f1 (M1.set y (.raw none (.loop (loopR fn tmps ps assign body D .busy none)) tmps t))) (fun _ _ _ => False)) ⟨parT ps.toList args t, []⟩ M) :
  AYields P y args M R := by
 intro r μ F w vs b hg hb hv
 obtain ⟨hl, _, _⟩ := gam_turn hg hM hb (.loop (loopR fn tmps ps assign body D .busy none)) (by intro c ty fr e; cases e)
 obtain ⟨b0, k1, _, k3⟩ := hg.raw y _ _ _ _ hM
 have hsz : vs.size = ps.size := by rw [hv.1, ← hp]; simp
 refine ⟨fn, _, assign, body, run_yield hl hsz, ?_⟩
 refine roundIn_of_wpIn (F := fn0 r) (n := 8) trivial ?_
 suffices key : ∀ tm : Array Value, tm = (ps.toList.zip vs.toList).foldl (fun (tm : Array Value) (p : Nat × Value) => tm.setIfInBounds p.1 p.2) tmps → assign.wpIn (fn0 (some b)) 9 P (Exit.then (fun a₁ w₁ => ∃ w₂, (Instr.beginRound b).run P w₁ = .ok () w₂ ∧ body.wpIn (fn0 (some b)) 8 P (roundPost P b (callPost F μ w R)) a₁ w₂) (fun _ _ _ => False)) { tmps := tm, defers := [] } w by
  refine wpIn_n (r := some b) (n := 9) (key _ ?_)
  rw [← Array.toList_zip, Array.foldl_toList]
  rfl
 intro tm htm
 have hfr : RepF μ F w n ⟨parT ps.toList args t, []⟩ { tmps := tm, defers := [] } := by
  subst htm
  refine ⟨by rw [par_size, hn], ?_, trivial, fun p hp => by cases hp⟩
  intro i
  refine par_rep _ _ _ _ _ hp (by rw [Array.length_toList, hv.1]) (fun p hp => ?_) (fun i x v hx hu => hv.2 i x v hx (by simpa using hu)) k3 i
  rw [hn]
  exact of_decide_eq_true (List.all_eq_true.1 hps p hp)
 refine wpIn_mono ((h b).run μ F w _ hg hfr) ?_
 rintro e a' w' ⟨μ', f', M', x, h1, h2, h3, h4, h5⟩
 cases e with
 | normal =>
  cases x <;> simp only [XRel] at h4
  obtain ⟨g1, g2⟩ := h5
  obtain ⟨b1, m1, m2, _⟩ := h2.raw y _ _ _ _ g1
  have hbb : b1 = b := by
   rcases h1.mu y (by rw [hb]; simp) with h | h | ⟨_, _, _, _, h, _⟩
   ·rw [m1, hb] at h; cases h; rfl
   ·rw [m1] at h; cases h
   ·rw [hb] at h; cases h
  subst hbb
  obtain ⟨_, e2, e3⟩ := gam_turn h2 g1 m1 (.loop (loopR fn tmps ps assign body D .busy none)) (by intro c ty fr e; cases e)
  refine ⟨w'.putObj b1 (.loop (loopR fn tmps ps assign body D .busy none)), run_beginRound m2 rfl, ?_⟩
  refine wpIn_n (r := some b1) (n := 9) (wpIn_mono (g2.run μ' F _ a' e3 (h3.evo e2)) ?_)
  have fin : ∀ (jump : Option Code) (M2 : Mem) (μ2 : Mu) (w2 : World), Evo (w'.putObj b1 (.loop (loopR fn tmps ps assign body D .busy none))) μ' w2 μ2 → Gam μ2 F M2 w2 → M2.get y = some (.raw none (.loop (loopR fn tmps ps assign body D .busy none)) tmps t) →
    R (.ret (.bool jump.isNone)) (M2.set y (.raw none (.loop (loopR fn tmps ps assign body D (if jump.isNone then .ready else .done) jump)) tmps t)) →
    ∃ v w3, (Instr.endRound b1 jump).run P w2 = .ok v w3 ∧ callPost F μ w R (.returned v) w3 := by
   intro jump M2 μ2 w2 q1 q2 q3 q4
   obtain ⟨b2, n1, n2, _⟩ := q2.raw y _ _ _ _ q3
   have hbb : b2 = b1 := by
    rcases q1.mu y (by rw [m1]; simp) with h | h | ⟨_, _, _, _, h, _⟩
    ·rw [n1, m1] at h; cases h; rfl
    ·rw [n1] at h; cases h
    ·rw [m1] at h; cases h
   subst hbb
   obtain ⟨_, e5, e6⟩ := gam_turn q2 q3 n1 (.loop (loopR fn tmps ps assign body D (if jump.isNone then .ready else .done) jump)) (by intro c ty fr e; cases e)
   exact ⟨_, _, run_endRound jump n2, μ2, _, ((h1.trans e2).trans q1).trans e5, e6, _, .bool _, q4⟩
  rintro e a2 w2 ⟨μ2, f2, M2, x2, q1, q2, q3, q4, q5⟩
  cases e with
  | normal => cases x2 <;> simp only [XRel] at q4; exact fin none M2 μ2 w2 q1 q2 q5.1 q5.2
  | exit id => cases x2 <;> simp only [XRel] at q4; subst q4; exact fin (some (.exit id)) M2 μ2 w2 q1 q2 q5.1 q5.2
  | goto l => cases x2 <;> exact q4.elim
  | ret => cases x2 <;> simp only [XRel] at q4; exact fin (some .ret) M2 μ2 w2 q1 q2 q5.1 q5.2
  | panic ch => cases x2 <;> first | exact q4.elim | exact q5.elim
  | outgrown => cases x2 <;> exact q4.elim
 | exit id => cases x <;> first | exact h4.elim | exact h5.elim
 | goto l => cases x <;> exact h4.elim
 | ret => cases x <;> first | exact h4.elim | exact h5.elim
 | panic ch => cases x <;> first | exact h4.elim | exact h5.elim
 | outgrown => cases x <;> exact h4.elim
def markD (y : Nat) : ADef := { f := .func 0, cap := [], args := [], mark := some y }
def deferO : AObj := .raw none (.deferred (some [])) #[] []
/-- What follows the function's return. -/
def rangeQ (Q : AX → AF → Mem → Prop) (fn : FuncId) (tmps : Array Value) (ps : Array Tmp) (assign body : Code) (D y0 : Nat) (f : AF) : AEnd → Mem → Prop
 | .ret _, M => ∃ st pe N, (st ≠ .busy) ∧ M.get (y0 + 1) = some (.raw none (.loop (loopR fn tmps ps assign body D st pe)) tmps f.t) ∧ N.le M ∧ N.get (y0 + 1) = none ∧
  (match pe with
   | none => Q .normal ⟨f.t, markD y0 :: f.d⟩ N
   | some .ret => Q .ret ⟨f.t, markD y0 :: f.d⟩ N
   | some (.exit id) => Q (.exit id) ⟨f.t, markD y0 :: f.d⟩ N
   | some _ => False)
 | .pan v, M => Q (.panic v) ⟨f.t, markD y0 :: f.d⟩ M
theorem gam_unraw {μ : Mu} {F : Frm} {M N : Mem} {w : World} {id : Nat} {o : AObj} (h : Gam μ F (M.set id o) w) (hN : N.le M) (hn : N.get id = none) : Gam μ F N w := by
 refine h.le ⟨hN.1, fun i p hi => ?_⟩
 rw [Mem.get_set]
 split
 ·rename_i e
  subst e
  rw [hn] at hi
  cases hi
 ·exact hN.2 i p hi
theorem W_range {P : Program} {n : Nat} {g : Operand} {ps : Array Tmp} {assign body : Code} {Q : AX → AF → Mem → Prop} {f : AF} {M : Mem} {gf : FuncId} {lb : List AV} (hg : f.ev g = .fn (.func gf) [] lb)
  (h : ∀ (fn : FuncId) (tmps : Array Value) (D : Nat), tmps.size = n → ACalls P gf (.yld (M.next + 1) :: lb) ⟨M.next + 2, (M.next + 1, .raw none (.loop (loopR fn tmps ps assign body D .ready none)) tmps f.t) :: (M.next, deferO) :: M.objs⟩ (rangeQ Q fn tmps ps assign body D M.next f)) :
  W none P n (.rangeFunc g ps assign body) Q f M := by
 refine ⟨fun μ F w a hG hr => ?_⟩
 have hv := hr.ev g
 rw [hg] at hv
 obtain ⟨c1, c2, he, hs1, hs2, h1, h2⟩ := hv.fn_inv
 have hc1 : c1 = #[] := Array.eq_empty_of_size_eq_zero hs1
 subst hc1
 refine wpIn_rangeFunc ?_
 intro fn _
 have hcall := h fn a.tmps w.heap.size hr.size
 obtain ⟨w1, hw1⟩ : ∃ w1, w.alloc (.deferred (some [])) = w1 := ⟨_, rfl⟩
 obtain ⟨w2, hw2⟩ : ∃ w2, w1.alloc (.loop (loopR fn a.tmps ps assign body w.heap.size .ready none)) = w2 := ⟨_, rfl⟩
 have hs1 : w1.heap.size = w.heap.size + 1 := by rw [← hw1]; simp
 have hb1 : Below w.heap.size w w1 := by rw [← hw1]; exact (Below.refl _ w).alloc (Nat.le_refl _) _
 have hb2 : Below w1.heap.size w1 w2 := by rw [← hw2]; exact (Below.refl _ w1).alloc (Nat.le_refl _) _
 obtain ⟨e1, g1⟩ := gam_pushraw hG hb1 (o := .deferred (some [])) (vs := #[]) (t := []) (Nat.le_refl _) (by rw [← hw1]; exact World.alloc_heap_new w _) (fun i => .top _)
 obtain ⟨e2, g2⟩ := gam_pushraw g1 hb2 (o := .loop (loopR fn a.tmps ps assign body w.heap.size .ready none)) (vs := a.tmps) (t := f.t) (Nat.le_refl _) (by rw [← hw2]; exact World.alloc_heap_new w1 _) (fun i => (hr.tmps i).evo e1)
 have hev := e1.trans e2
 generalize hμ : (μ.put M.next (.at w.heap.size)).put (M.push (.raw none (.deferred (some [])) #[] [])).next (.at w1.heap.size) = μ2 at e2 g2 hev
 have hy : μ2 (M.next + 1) = some (.at (w.heap.size + 1)) := by rw [← hμ, ← hs1]; simp [Mu.put, Mem.push]
 have hD : μ2 M.next = some (.at w.heap.size) := by rw [← hμ]; simp [Mu.put, Mem.push]
 have hvs : RepL μ2 F w2 (.yld (M.next + 1) :: lb) (#[.func (.yield (w.heap.size + 1)) #[] #[]] ++ c2) :=
  (RepL.cons (.yld _ _ rfl (by rw [hy]; simp) (fun b hb => by rw [hy] at hb; cases hb; rfl))).app (RepL.evo hev ⟨hs2, h2⟩)
 refine ⟨w.heap.size + 1, [{ target := .collected w.heap.size, args := #[] }], w2, { target := .fn (.func gf) c2, args := #[.func (.yield (w.heap.size + 1)) #[] #[]] }, w2, gf,
  #[.func (.yield (w.heap.size + 1)) #[] #[]] ++ c2, w2, ?_, ?_, fun _ _ => trivial, ?_, fun e => (by cases e), ?_⟩
 ·rw [← hw2, ← hw1]; exact run_enterLoop_outer _ _ _ _ _
 ·simp only [resolve, he]
  simp [go_sem]
 ·simp [invoke, go_sem, run_enter hcall.1]
 refine (callsIn0 (hcall.2 μ2 F w2 _ g2 hvs)).mono ?_
 rintro e w3 ⟨μ3, M3, k1, k2, k3⟩
 have hev3 := hev.trans k1
 have hfr : ∀ (μ4 : Mu) (w4 : World), Evo w2 μ2 w4 μ4 → RepF μ4 F w4 n ⟨f.t, markD M.next :: f.d⟩ { a with defers := [{ target := .collected w.heap.size, args := #[] }] ++ a.defers } := by
  intro μ4 w4 q
  have hr4 := (hr.evo (hev.trans q))
  refine ⟨hr4.size, hr4.tmps, ?_, hr4.kept⟩
  have hd0 : DefRep μ2 F w2 (markD M.next :: f.d) ({ target := .collected w.heap.size, args := #[] } :: a.defers) := by
   show DefRep1 _ _ _ _ _ ∧ DefRep _ _ _ _ _
   exact ⟨⟨fun h => (by cases h), RepL.nil, fun y hy => by cases hy; exact ⟨by rw [hD]; simp, fun b hb => by rw [hD] at hb; cases hb; rfl⟩⟩, (hr.evo hev).defs⟩
  exact hd0.evo q
 cases e with
 | returned v =>
  obtain ⟨u, _, st, pe, N, hst, hM3, hN, hNy, hq⟩ := k3
  obtain ⟨b3, m1, m2, _⟩ := k2.raw _ _ _ _ _ hM3
  have hbb : b3 = w.heap.size + 1 := by
   rcases k1.mu (M.next + 1) (by rw [hy]; simp) with h | h | ⟨_, _, _, _, h, _⟩
   ·rw [m1, hy] at h; cases h; rfl
   ·rw [m1] at h; cases h
   ·rw [hy] at h; cases h
  subst hbb
  obtain ⟨_, e5, e6⟩ := gam_turn k2 hM3 m1 (.loop (loopR fn a.tmps ps assign body w.heap.size .exhausted pe)) (by intro c ty fr e; cases e)
  have hgN := gam_unraw e6 hN hNy
  refine ⟨pe, _, run_endLoop m2 hst, ?_⟩
  have hfin := hfr μ3 _ (k1.trans e5)
  have hevN := hev3.trans e5
  match pe, hq with
  | none, hq => exact ⟨μ3, _, N, .normal, hevN, hgN, hfin, trivial, hq⟩
  | some .ret, hq => exact wpIn_ret ⟨μ3, _, N, .ret, hevN, hgN, hfin, trivial, hq⟩
  | some (.exit id), hq => exact wpIn_exit ⟨μ3, _, N, .exit id, hevN, hgN, hfin, rfl, hq⟩
 | panicked ch =>
  obtain ⟨x, v, rfl, q1, q2⟩ := k3
  exact ⟨μ3, _, M3, .panic x, hev3, k2, hfr μ3 w3 k1, ⟨v, rfl, q1⟩, q2⟩
 | outgrown => exact k3.elim
def MarksOK (K : Mem → Prop) : List ADef → Mem → Prop
 | [], M => K M
 | d :: ds, M => ∃ y N, d = markD y ∧ M.get y = some deferO ∧ N.le M ∧ N.get y = none ∧ MarksOK K ds N
def fnPostM (τ : Tab) (fn : Func) (R : AEnd → Mem → Prop) : AX → AF → Mem → Prop
 | .normal, f, M | .ret, f, M => MarksOK (fun N => ∃ r, resA τ N ⟨f.t, []⟩ fn.results = some r ∧ R (.ret r) N) f.d M
 | .panic v, f, M => MarksOK (fun N => R (.pan v) N) f.d M
 | .exit _, _, _ => False
theorem leavesM_of {P : Program} {fn : Func} {n : Nat} {F : Frm} {μ0 : Mu} {w0 : World} {tmps : Array Value} {K : Mem → Prop} {R : Ending → World → Prop} {u : FrameMode} (hu : u ≠ .run)
  (hK : ∀ (M : Mem) (μ : Mu) (w : World), K M → Evo w0 μ0 w μ → Gam μ F M w → LeavesIn Fence.wide n P fn tmps R [] u w) :
  ∀ (ds : List ADef) (rs : List Deferred) (M : Mem) (μ : Mu) (w : World), MarksOK K ds M → Evo w0 μ0 w μ → Gam μ F M w → DefRep μ F w ds rs → LeavesInM Fence.wide n P fn tmps R rs u w
 | [], [], M, μ, w, h, he, hg, _ => hK M μ w h he hg
 | [], _ :: _, _, _, _, _, _, _, hd => hd.elim
 | _ :: _, [], _, _, _, _, _, _, hd => hd.elim
 | d :: ds, r :: rs, M, μ, w, h, he, hg, hd => by
  obtain ⟨y, N, rfl, hM, hN, hy, hrest⟩ := h
  obtain ⟨⟨_, _, hm⟩, hds⟩ := hd
  obtain ⟨b, k1, k2, _⟩ := hg.raw y _ _ _ _ hM
  obtain ⟨_, e5, e6⟩ := gam_turn hg hM k1 (.deferred none) (by intro c ty fr e; cases e)
  refine ⟨hu, .inl ⟨b, _, (hm y rfl).2 b k1, run_takeDeferred k2, ?_⟩⟩
  exact leavesM_of hu hK ds rs N μ _ hrest (he.trans e5) (gam_unraw e6 hN hy) (hds.evo e5)
theorem acalls_of_m {P : Program} {τ : Tab} (hτ : TabOK P τ) {g : FuncId} {fn : Func} {c : Code} (hf : P.funcs[g]? = some fn) (hb : fn.body = some c) (hn : fn.name ≠ "runtime.NumGoroutine") {args : List AV} {M : Mem} {R : AEnd → Mem → Prop}
  (hlen : args.length ≤ fn.ntmps) (h : W none P fn.ntmps c (fnPostM τ fn R) (initF args) M) : ACalls P g args M R := by
 refine ⟨⟨fn, c, hf, hb, hn⟩, fun μ F w vs hg hv => ?_⟩
 refine (callsIn_wide (n := 9)).1 ?_
 refine (callsIn_of_wp_marks (F := Fence.wide) (n := 9) (R := callPost F μ w R) hf hb trivial ?_ rfl).mono (fun e w' hp => hp)
 refine wpIn_mono (h.run μ F w _ hg (initF_rep hlen hv)) ?_
 rintro e a' w' ⟨μ', f', M', x, h1, h2, h3, h4, h5⟩
 have hret : ∀ (N : Mem) (μ1 : Mu) (w1 : World), (∃ r, resA τ N ⟨f'.t, []⟩ fn.results = some r ∧ R (.ret r) N) → Evo w' μ' w1 μ1 → Gam μ1 F N w1 → LeavesIn Fence.wide 9 P fn a'.tmps (callPost F μ w R) [] .returning w1 := by
  rintro N μ1 w1 ⟨r, q1, q2⟩ q3 q4
  have hr1 : RepF μ1 F w1 fn.ntmps ⟨f'.t, []⟩ { tmps := a'.tmps, defers := [] } := ⟨h3.size, fun t => (h3.tmps t).evo q3, trivial, fun p hp => by cases hp⟩
  obtain ⟨v, hv', hrep⟩ := run_resA (P := P) hτ q4 hr1 q1
  exact ⟨v, hv', μ1, N, h1.trans q3, q4, r, hrep, q2⟩
 cases e with
 | normal =>
  cases x <;> first | exact h4.elim | skip
  exact leavesM_of (w0 := w') (μ0 := μ') (by simp) (fun N μ1 w1 q1 q2 q3 => hret N μ1 w1 q1 q2 q3) _ _ _ _ _ h5 (Evo.refl _ _) h2 h3.defs
 | exit id => cases x <;> first | exact h4.elim | exact h5.elim
 | goto l => cases x <;> exact h4.elim
 | ret =>
  cases x <;> first | exact h4.elim | skip
  exact leavesM_of (w0 := w') (μ0 := μ') (by simp) (fun N μ1 w1 q1 q2 q3 => hret N μ1 w1 q1 q2 q3) _ _ _ _ _ h5 (Evo.refl _ _) h2 h3.defs
 | panic ch =>
  cases x <;> first | exact h4.elim | skip
  obtain ⟨v, rfl, hrep⟩ := h4
  have hpan : ∀ (N : Mem) (μ1 : Mu) (w1 : World), R (.pan _) N → Evo w' μ' w1 μ1 → Gam μ1 F N w1 → LeavesIn Fence.wide 9 P fn a'.tmps (callPost F μ w R) [] (.panicking [{ v, recovered := false }]) w1 :=
   fun N μ1 w1 q1 q2 q3 => ⟨μ1, N, h1.trans q2, q3, _, v, rfl, hrep.evo q2, q1⟩
  exact leavesM_of (w0 := w') (μ0 := μ') (by simp) (fun N μ1 w1 q1 q2 q3 => hpan N μ1 w1 q1 q2 q3) _ _ _ _ _ h5 (Evo.refl _ _) h2 h3.defs
 | outgrown => cases x <;> exact h4.elim
end Go.Ab
/- Slices of own objects, by rules that reckon: made of their elements, appended to, indexed; frozen where a variable holds them. -/
set_option linter.unusedVariables false
set_option linter.unusedSimpArgs false
namespace Go.Ab
open Go.RowKit
/-- A slice made of its elements, as an object. -/
theorem opE_buildO {P : Program} {τ : Tab} (hτ : TabOK P τ) {t e : TypeId} {ti ei : TI} (ht : lookup τ t = some ti) (hk : ti.k = .slice e) (he : lookup τ e = some ei) (hpos : 0 < ei.size) {n : Nat} {ps : Array (Nat × Operand)} {ty : TypeId} {ρ : Operand → AV} {M : Mem}
  (hn : ps.size = n) (hidx : idxOK ps.toList 0 = true) (hsz : sizedAll ei.size (ps.toList.map fun p => ρ p.2) = true) (hbig : n * ei.size ≤ 16777216) :
  OpE P (.buildSlice t n ps) ty ρ M (.osl M.next 0 n n ei.size) (M.push (.cells (flat (ps.toList.map fun p => ρ p.2)))) := by
 intro μ F w ρc o hg ho hty hr
 obtain ⟨ft, dt, zt, HT⟩ := TI.spec hτ ht
 obtain ⟨fe, de, ze, HE⟩ := TI.spec hτ he
 have hfit := HT.fits
 rw [hk] at hfit
 have hdd : dt = .slice e := by
  cases dt <;> simp [TK.fits] at hfit
  rw [hfit]
 subst hdd
 have hrp : ∀ p, p ∈ ps.toList → Rep μ F w (ρ p.2) (ρc p.2) := by
  intro p hp
  refine hr p.2 ?_
  simp only [Op.operands]
  rw [List.mem_toArray, List.mem_map]
  exact ⟨p, hp, rfl⟩
 have hsp := sizedAll_spec hsz
 have hzc := HE.zcells μ F w
 have hzs : ze.cells.size = ei.size := by rw [hzc.size, HE.len]
 let z0 : Array Value := (Array.range (n * ei.size)).map fun k => ze.cells[k % ze.cells.size]!
 have hz0 : Cells μ F w (List.replicate (n * ei.size) .top) z0 := by
  refine ⟨by simp [z0], ?_, ?_⟩
  ·intro i u hu
   have hi : i < n * ei.size := by
    have := (Array.getElem?_eq_some_iff.1 hu).1
    simpa [z0] using this
   have hm : i % ze.cells.size < ze.cells.size := Nat.mod_lt _ (by omega)
   simp only [z0, Array.getElem?_map, Array.getElem?_range, hi, if_true, Option.map_some, Option.some.injEq] at hu
   rw [getElem!_pos ze.cells _ hm] at hu
   exact hzc.one _ u (by rw [Array.getElem?_eq_getElem hm, hu])
  ·intro i y u hy hu
   rw [List.getElem?_replicate] at hy
   split at hy <;> cases hy
   exact .top _
 have hlen : (ps.toList.map fun p => (p.1, ρ p.2)).length = n := by simp [hn]
 have hfull := afill_full ei.size (ps.toList.map fun p => (p.1, ρ p.2)) 0 [] (by simp) (by
  have : ∀ (l : List (Nat × Operand)) (k : Nat), idxOK l k = true → idxOK (l.map fun p => (p.1, ρ p.2)) k = true := by
   intro l
   induction l with
   | nil => intro k _; rfl
   | cons p r ih =>
    intro k h
    simp only [idxOK, List.map_cons, Bool.and_eq_true] at h ⊢
    exact ⟨h.1, ih _ h.2⟩
  exact this _ _ hidx) (by
  intro p hp
  obtain ⟨q, hq, rfl⟩ := List.mem_map.1 hp
  exact hsp _ (List.mem_map.2 ⟨q, hq, rfl⟩))
 rw [hlen, List.nil_append, List.nil_append, List.map_map] at hfull
 obtain ⟨c', hc', hcells⟩ := fill_rel (μ := μ) (F := F) (w := w) (place := placeA ei.size) (placec := fun i => some (i * ei.size, ei.size)) (ρ := ρ) (ρc := ρc) (fun i q hq => hq) ps.toList _ z0 _ hz0 hrp hfull
 have hb := below_push w (.cells c' e)
 have hnew : ({ w with heap := w.heap.push (.cells c' e) } : World).heap[w.heap.size]? = some (.cells c' e (0, 0)) := by simp
 have hpm : (ps.map fun p => (p.1, ρc p.2)).toList = ps.toList.map fun p => (p.1, ρc p.2) := by simp
 obtain ⟨hev, hG⟩ := gam_push hg hb (l := flat (ps.toList.map fun p : Nat × Operand => ρ p.2)) (Nat.le_refl _) hnew hcells.size hcells.one hcells.rep
 refine ⟨_, _, .slice (some ⟨w.heap.size, 0, none⟩) n n, _, ?_, .inl rfl, hev, hG, rep_osl (by simp [Mu.put])⟩
 have hze : (zeroValue e).run P w = .ok ze w := by simp [zeroValue, typeInfo, HE.info, HE.zero]
 simp only [execOp, ho, Instr.buildSlice, Sem.run_bind, run_underlying HT.und, Result.andThen_ok, run_sizeOf w HE.info, HE.cellsOf]
 rw [if_neg (by simpa using hbig)]
 by_cases h0 : n * ei.size = 0
 ·rw [if_pos h0]
  have hz' : (Array.range (n * ei.size)).map (fun k => (#[] : Array Value)[k % (#[] : Array Value).size]!) = z0 := by simp [z0, h0]
  simp only [Sem.run_bind, Sem.run_pure, Result.andThen_ok, hz', hpm, hc']
  simp [newRow]
 ·rw [if_neg h0]
  simp only [Sem.run_bind, hze, Sem.run_pure, Result.andThen_ok]
  have hz' : (Array.range (n * ei.size)).map (fun k => ze.cells[k % ze.cells.size]!) = z0 := rfl
  simp only [hz', hpm, hc']
  simp [newRow]
section
variable {P : Program} {τ : Tab} {ops : Array Oper} {cls : Nat → Cls} {Q : AX → AF → Mem → Prop} {ds : List ADef} {ls : List Nat} {i : Nat} {t : List (Nat × AV)} {M : Mem}
def olitOp (τ : Tab) (ds : List ADef) (t : List (Nat × AV)) (M : Mem) (d : Nat) (ty : TypeId) (n : Nat) (ps : Array (Nat × Operand)) : Option (List (Nat × AV) × List AV) :=
 match lookup τ ty with
 | some ti =>
  match ti.k with
  | .slice e =>
   match lookup τ e with
   | some ei =>
    match decide (0 < ei.size), decide (ps.size = n), idxOK ps.toList 0, sizedAll ei.size (ps.toList.map fun p => AF.ev ⟨t, ds⟩ p.2), decide (n * ei.size ≤ 16777216), forceL (flat (ps.toList.map fun p => AF.ev ⟨t, ds⟩ p.2)) with
    | true, true, true, true, true, some ys => some ((d, .osl M.next 0 n n ei.size) :: t, ys)
    | _, _, _, _, _, _ => none
   | none => none
  | _ => none
 | none => none
def stepOlit (τ : Tab) (ops : Array Oper) (cls : Nat → Cls) (ds : List ADef) (i : Nat) (t : List (Nat × AV)) (M : Mem) (d : Nat) : Option (List (Nat × AV) × List AV) :=
 match ops[i]? with
 | some o =>
  match wantedA ops ⟨t, ds⟩ o, decide (o.dst = some d), isE (cls i), o.op with
  | some true, true, true, .buildSlice ty n ps => olitOp τ ds t M d ty n ps
  | _, _, _, _ => none
 | none => none
/-- A slice literal, as an own object. -/
theorem DW_orow (d : Nat) (hτ : TabOK P τ) {t' : List (Nat × AV)} {ys : List AV} (hs : stepOlit τ ops cls ds i t M d = some (t', ys)) (h : DW P ops cls Q ds ls t' (M.push (.cells ys))) : DW P ops cls Q ds (i :: ls) t M := by
 unfold stepOlit at hs
 split at hs
 ·rename_i o hi
  split at hs
  ·rename_i ty n ps hw hd hc ho
   unfold olitOp at hs
   split at hs
   ·rename_i ti ht
    split at hs
    ·rename_i e hk
     split at hs
     ·rename_i ei he
      split at hs
      ·rename_i ys' hp hn hidx hsz hbig hys
       cases hs
       have := forceL_spec hys
       subst this
       exact DW_ofE hi hw (of_decide_eq_true hd) hc (by rw [ho]; exact opE_buildO hτ ht hk he (of_decide_eq_true hp) (of_decide_eq_true hn) hidx hsz (of_decide_eq_true hbig)) h
      ·cases hs
     ·cases hs
    ·cases hs
   ·cases hs
  ·cases hs
 ·cases hs
structure OApp where
 d : Nat
 id : Nat
 n : Nat
 cap : Nat
 sz : Nat
 bt : Nat
 l : List AV
 ys : List AV
def oappOp (τ : Tab) (ds : List ADef) (t : List (Nat × AV)) (M : Mem) (d : Nat) (ty tx : TypeId) (s y : Operand) : Option OApp :=
 match AF.ev ⟨t, ds⟩ s with
 | .osl id 0 n cap sz =>
  match M.get id, lookup τ ty, lookup τ tx with
  | some (.cells l), some ti, some xi =>
   match ti.k with
   | .slice e =>
    match lookup τ e with
    | some ei =>
     match decide (0 < ei.size), srcFits xi.k (AF.ev ⟨t, ds⟩ y), decide (sz = ei.size), srcOf ei.size (AF.ev ⟨t, ds⟩ y) with
     | true, true, true, some ys => some ⟨d, id, n, cap, sz, ei.bytes, l, ys⟩
     | _, _, _, _ => none
    | none => none
   | _ => none
  | _, _, _ => none
 | _ => none
def stepOapp (τ : Tab) (ops : Array Oper) (cls : Nat → Cls) (ds : List ADef) (i : Nat) (t : List (Nat × AV)) (M : Mem) : Option OApp :=
 match ops[i]? with
 | some o =>
  match wantedA ops ⟨t, ds⟩ o, o.dst, isE (cls i), o.op with
  | some true, some d, true, .call { callee := .builtin .append, args := ⟨[s, y]⟩, argTypes := ⟨[ty, tx]⟩ } => oappOp τ ds t M d ty tx s y
  | _, _, _, _ => none
 | none => none
/-- append to an own slice. -/
theorem DW_oappA (hτ : TabOK P τ) {d id n cap sz bt : Nat} {l ys : List AV} (hs : stepOapp τ ops cls ds i t M = some ⟨d, id, n, cap, sz, bt, l, ys⟩) (hl : l.length = cap * sz) (hnc : n ≤ cap) (hb : (n + ys.length) * bt ≤ 140737488355328) (hlen : n + ys.length ≤ 140737488355328)
  (h : ∀ (cap' : Nat) (l' : List AV), n + ys.length ≤ cap' → l'.length = cap' * sz → l'.take ((n + ys.length) * sz) = l.take (n * sz) ++ flat ys → DW P ops cls Q ds ls ((d, .osl M.next 0 (n + ys.length) cap' sz) :: t) ((M.drop id).push (.cells l'))) : DW P ops cls Q ds (i :: ls) t M := by
 unfold stepOapp at hs
 split at hs
 ·rename_i o hi
  split at hs
  ·rename_i d' s y ty tx hw hd hc ho
   unfold oappOp at hs
   split at hs
   ·rename_i id' n' cap' sz' hS
    split at hs
    ·rename_i l' ti xi hM ht hxi
     split at hs
     ·rename_i e hk
      split at hs
      ·rename_i ei he
       split at hs
       ·rename_i ys' hp hf hsz hX
        cases hs
        exact DW_oapp hτ hi hw hd hc ho hS hM ht hk he hp hxi (of_decide_eq_true hsz) hf hX hl hnc hb hlen h
       ·cases hs
      ·cases hs
     ·cases hs
    ·cases hs
   ·cases hs
  ·cases hs
 ·cases hs
def stepOix (τ : Tab) (ops : Array Oper) (cls : Nat → Cls) (ds : List ADef) (i : Nat) (t : List (Nat × AV)) (M : Mem) : Option (List (Nat × AV)) :=
 match ops[i]? with
 | some o =>
  match wantedA ops ⟨t, ds⟩ o, o.dst, notP (cls i), o.op with
  | some true, some d, true, .indexAddr ty X I => (match AF.ev ⟨t, ds⟩ X, AF.ev ⟨t, ds⟩ I with
   | .osl id off n cap sz, .int k j => (match M.get id, lookup τ ty with
    | some (.cells l), some ti => (match ti.k with
     | .slice e => (match lookup τ e with
      | some ei => (match decide (0 ≤ j), decide (j < n), decide (sz = ei.size) with
       | true, true, true => some ((d, .ptr id (off + j.toNat * sz)) :: t)
       | _, _, _ => none)
      | none => none)
     | _ => none)
    | _, _ => none)
   | _, _ => none)
  | _, _, _, _ => none
 | none => none
/-- The place of an own slice's element. -/
theorem DW_oix (hτ : TabOK P τ) {t' : List (Nat × AV)} (hs : stepOix τ ops cls ds i t M = some t') (h : DW P ops cls Q ds ls t' M) : DW P ops cls Q ds (i :: ls) t M := by
 unfold stepOix at hs
 split at hs
 ·rename_i o hi
  split at hs
  ·rename_i d ty X I hw hd hc ho
   split at hs
   ·rename_i id off n cap sz k j hX hI
    split at hs
    ·rename_i l ti hM ht
     split at hs
     ·rename_i e hk
      split at hs
      ·rename_i ei he
       split at hs
       ·rename_i h0 hj hsz
        cases hs
        exact DW_ofR hi hw hd hc (by rw [ho]; exact opR_oindex hτ ht hk he hX hM hI (of_decide_eq_true h0) (of_decide_eq_true hj) (of_decide_eq_true hsz)) h
       ·cases hs
      ·cases hs
     ·cases hs
    ·cases hs
   ·cases hs
  ·cases hs
 ·cases hs
def stepOlen (τ : Tab) (ops : Array Oper) (cls : Nat → Cls) (ds : List ADef) (i : Nat) (t : List (Nat × AV)) (M : Mem) : Option (List (Nat × AV)) :=
 match ops[i]? with
 | some o =>
  match wantedA ops ⟨t, ds⟩ o, o.dst, notP (cls i), o.op with
  | some true, some d, true, .call { callee := .builtin .len, args := ⟨[x]⟩, argTypes := ⟨[ty]⟩ } => (match AF.ev ⟨t, ds⟩ x with
   | .osl id off n cap sz => (match M.get id, lookup τ ty with
    | some (.cells l), some ti => (match ti.k with
     | .slice e => some ((d, .int .i64 n) :: t)
     | _ => none)
    | _, _ => none)
   | _ => none)
  | _, _, _, _ => none
 | none => none
/-- len of an own slice. -/
theorem DW_olenA (hτ : TabOK P τ) {t' : List (Nat × AV)} (hs : stepOlen τ ops cls ds i t M = some t') (h : DW P ops cls Q ds ls t' M) : DW P ops cls Q ds (i :: ls) t M := by
 unfold stepOlen at hs
 split at hs
 ·rename_i o hi
  split at hs
  ·rename_i d x ty hw hd hc ho
   split at hs
   ·rename_i id off n cap sz hX
    split at hs
    ·rename_i l ti hM ht
     split at hs
     ·rename_i e hk
      cases hs
      exact DW_olen hτ hi hw hd hc ho hX hM ht hk h
     ·cases hs
    ·cases hs
   ·cases hs
  ·cases hs
 ·cases hs
end
theorem rep_frozen {μ μ2 : Mu} {F : Frm} {w : World} {id b n cap : Nat} {M : Mem} {l xs : List AV} (hg : Gam μ F M w) (hM : M.get id = some (.cells l)) (hb : μ id = some (.at b)) (hx : l.take n = xs) (hnl : n ≤ l.length) (hnc : n ≤ cap) (h1 : ∀ x, x ∈ xs → x.cells = [x])
  (k2 : ∀ b o, Own μ2 b o → ∃ i, i ≠ id ∧ (μ i = some (.at b) ∨ ∃ e g, μ i = some (.spare (some (b, e)) g) ∧ e ≤ o)) (k3 : Evo w μ w μ2) : Rep μ2 F w (.sl 1 xs .none) (.slice (some ⟨b, 0, none⟩) n cap) := by
 obtain ⟨b', c, ty, o1, o2, o3, o4, o5⟩ := hg.obj id l hM
 rw [hb] at o1
 cases o1
 have hlen : xs.length = n := by rw [← hx, List.length_take]; omega
 rw [← hlen]
 have key : ∀ (p : Nat) (x : AV) (q : Nat) (y : AV), xs[p]? = some x → x.cells[q]? = some y → q = 0 ∧ y = x ∧ l[p]? = some x ∧ p < l.length := by
  intro p x q y hp hq
  rw [h1 x (List.mem_of_getElem? hp)] at hq
  have hpn : p < n := by rw [← hlen]; exact (List.getElem?_eq_some_iff.1 hp).1
  rw [← hx, List.getElem?_take, if_pos hpn] at hp
  cases q with
  | zero => simp at hq; exact ⟨rfl, hq.symm, hp, by omega⟩
  | succ q => simp at hq
 have hcell : ∀ p, p < l.length → c[p]? = some (c.getD p undef) := by
  intro p hp
  have : p < c.size := by omega
  simp [Array.getD, this]
 refine .sl 1 xs .none _ _ ⟨b, 0, none⟩ (fun p => c.getD p undef) ?_ (by omega) (fun _ => ⟨rfl, rfl⟩) ?_ ?_ ?_ trivial
 ·intro x hx'
  rw [h1 x hx']
  rfl
 ·intro p x q y hp hq
  obtain ⟨rfl, rfl, h4, h5⟩ := key p x q y hp hq
  rw [Nat.mul_one, Nat.add_zero]
  exact o4 p _ (hcell p h5)
 ·intro p x q y hp hq
  obtain ⟨rfl, rfl, h4, h5⟩ := key p x q y hp hq
  simp only [Nat.mul_one, Nat.add_zero, Nat.zero_add]
  refine ⟨by rw [cell_mk o2]; exact hcell p h5, hg.frm b p ⟨id, .inl hb⟩, ?_⟩
  intro ho
  obtain ⟨i', hi', h6 | ⟨e', g', h6, _⟩⟩ := k2 b p ho
  ·exact hi' (hg.inj i' id b (.inl h6) (.inl hb))
  ·exact hi' (hg.inj i' id b (.inr ⟨e', g', h6⟩) (.inl hb))
 ·intro p x q y hp hq
  obtain ⟨rfl, rfl, h4, h5⟩ := key p x q y hp hq
  rw [Nat.mul_one, Nat.add_zero]
  exact (o5 p _ _ h4 (hcell p h5)).evo k3
end Go.Ab
/- Ranges over iterators that have a contract. -/
set_option linter.unusedVariables false
set_option linter.unusedSimpArgs false
namespace Go.Ab
open Go.RowKit
/-- An iterator's contract: whatever holds before each yield and is carried on by it (the loop's record lies there), out have come at its end. -/
def AIter (P : Program) (gf : FuncId) (lb : List AV) {α : Type} (enc : α → List AV) (ok : List α → α → Prop) (out : List α) : Prop :=
 ∀ (y : Nat) (J : List α → Mem → Prop) (M : Mem), (∀ L N, J L N → ∃ o vs t, N.get y = some (.raw none o vs t)) →
  (∀ L x N, J L N → ok L x → AYields P y (enc x) N fun e N' => e = .ret (.bool true) ∧ J (L ++ [x]) N') → J [] M →
  ACalls P gf (.yld y :: lb) M fun e N => e = .ret (.tup []) ∧ J out N
theorem W_rangeJ {P : Program} {n : Nat} {g : Operand} {ps : Array Tmp} {assign body : Code} {Q : AX → AF → Mem → Prop} {f : AF} {M : Mem} {gf : FuncId} {lb : List AV} {α : Type} {enc : α → List AV} {ok : List α → α → Prop} {out : List α}
  (hg : f.ev g = .fn (.func gf) [] lb) (hit : AIter P gf lb enc ok out) (K : AObj → List α → Mem → Prop) (hps : ∀ x, ps.toList.length = (enc x).length) (hpn : (ps.toList.all fun p => decide (p < n)) = true)
  (hK : ∀ O L N, K O L N → N.get (M.next + 1) = some O) (h0 : ∀ O, K O [] ⟨M.next + 2, (M.next + 1, O) :: (M.next, deferO) :: M.objs⟩)
  (hround : ∀ (O O1 : AObj) (L : List α) (x : α) (N : Mem) (l : Nat), K O L N → ok L x →
   W (some l) P n assign (thenX (fun f1 M1 => M1.get (M.next + 1) = some O ∧ W (some l) P n body (fun e _ N' => e = .normal ∧ N'.get (M.next + 1) = some O1 ∧ K O (L ++ [x]) (N'.set (M.next + 1) O)) f1 (M1.set (M.next + 1) O1)) (fun _ _ _ => False)) ⟨parT ps.toList (enc x) f.t, []⟩ N)
  (hdone : ∀ O N, K O out N → ∃ N', N'.le N ∧ N'.get (M.next + 1) = none ∧ Q .normal ⟨f.t, markD M.next :: f.d⟩ N') :
  W none P n (.rangeFunc g ps assign body) Q f M := by
 refine W_range hg fun fn tmps D hn => ?_
 refine (hit (M.next + 1) (fun L N => K (.raw none (.loop (loopR fn tmps ps assign body D .ready none)) tmps f.t) L N) _ (fun L N h => ⟨_, _, _, hK _ _ _ h⟩) ?_ (h0 _)).mono ?_
 ·intro L x N hJ hok
  refine ayields_of (hK _ _ _ hJ) hn (hps x) hpn fun l => ?_
  refine (hround _ (.raw none (.loop (loopR fn tmps ps assign body D .busy none)) tmps f.t) L x N l hJ hok).mono ?_
  rintro x1 f1 M1 h1
  cases x1 with
  | normal =>
   refine ⟨h1.1, h1.2.mono ?_⟩
   rintro x2 f2 M2 ⟨rfl, h3, h4⟩
   exact ⟨h3, rfl, h4⟩
  | exit id => exact h1.elim
  | ret => exact h1.elim
  | panic v => exact h1.elim
 ·rintro e N ⟨rfl, hJ⟩
  obtain ⟨N', h1, h2, h3⟩ := hdone _ N hJ
  exact ⟨.ready, none, N', by simp, hK _ _ _ hJ, h1, h2, h3⟩
/-- A function's end behind one range. -/
theorem marks1 {K : Mem → Prop} {y : Nat} {M N : Mem} (hM : M.get y = some deferO) (hN : N.le M) (hy : N.get y = none) (h : K N) : MarksOK K [markD y] M := ⟨y, N, rfl, hM, hN, hy, h⟩
theorem Mem.le_trans {A B C : Mem} (h : A.le B) (k : B.le C) : A.le C := ⟨h.1.trans k.1, fun i o hi => k.2 i o (h.2 i o hi)⟩
/-- string(b), b an own slice. -/
theorem opR_ob2s {P : Program} {τ : Tab} (hτ : TabOK P τ) {s d e : TypeId} {si di ei : TI} (hs : lookup τ s = some si) (hks : si.k = .slice e) (he : lookup τ e = some ei) (hke : ei.k = .int .u8) (hd : lookup τ d = some di) (hkd : di.k = .str) {X : Operand} {ty : TypeId} {ρ : Operand → AV} {M : Mem} {id n cap : Nat} {l : List AV} {bs : List UInt8}
  (hX : ρ X = .osl id 0 n cap 1) (hM : M.get id = some (.cells l)) (hl : l.take n = bs.map byteAV) (hnl : n ≤ l.length) (hnc : n ≤ cap) : OpR P (.convert s d X) ty ρ M (.str bs) := by
 intro μ F w ρc o hg ho hty hr
 have hx := hr X (by simp [Op.operands])
 rw [hX] at hx
 obtain ⟨b, hb, hv⟩ := gam_osl hg hM hx
 have hid : id < M.next := (hg.dom id).1 (by rw [hb]; simp)
 obtain ⟨μ2, k1, k2, k3, k4⟩ := gam_kill hg hid
 have hG := k4 (M.drop id) rfl (fun j => Mem.get_drop M id j)
 have hrep := rep_frozen hg hM hb hl hnl hnc (fun x hx => by obtain ⟨c, _, rfl⟩ := List.mem_map.1 hx; rfl) k2 k3
 obtain ⟨v, w', h1, h2, h3⟩ := opP_b2s (P := P) hτ hs hks he hke hd hkd (x := X) (ty := ty) (ρ := fun _ => .sl 1 (bs.map byteAV) .none) rfl μ2 F w ρc o hG.fit ho hty (fun y hy => by
  have : y = X := by simpa [Op.operands] using hy
  subst this
  rw [hv]
  exact hrep)
 refine ⟨v, w', h1, h2, ?_⟩
 cases h3
 exact .str _
theorem DW_ob2s {P : Program} {τ : Tab} {ops : Array Oper} {cls : Nat → Cls} {Q : AX → AF → Mem → Prop} {ds : List ADef} {ls : List Nat} {i : Nat} {o : Oper} {t : List (Nat × AV)} {M : Mem} (hτ : TabOK P τ) {d : Nat} (hi : ops[i]? = some o) (hw : wantedA ops ⟨t, ds⟩ o = some true) (hd : o.dst = some d) (hc : notP (cls i) = true)
  {s e dt : TypeId} {X : Operand} (ho : o.op = .convert s dt X) {si di ei : TI} (hs : lookup τ s = some si) (hks : si.k = .slice e) (he : lookup τ e = some ei) (hke : ei.k = .int .u8) (hdt : lookup τ dt = some di) (hkd : di.k = .str) {id n cap : Nat} {l : List AV} {bs : List UInt8}
  (hX : AF.ev ⟨t, ds⟩ X = .osl id 0 n cap 1) (hM : M.get id = some (.cells l)) (hl : l.take n = bs.map byteAV) (hnl : n ≤ l.length) (hnc : n ≤ cap) (h : DW P ops cls Q ds ls ((d, .str bs) :: t) M) : DW P ops cls Q ds (i :: ls) t M :=
 DW_ofR hi hw hd hc (by rw [ho]; exact opR_ob2s hτ hs hks he hke hdt hkd hX hM hl hnl hnc) h
end Go.Ab
/- Calls that hand back what they made: the objects are forgotten at the end. -/
set_option linter.unusedVariables false
set_option linter.unusedSimpArgs false
namespace Go.Ab
open Go.RowKit
theorem closed1 {x : AV} (hx : Closed x) : ∀ z, z ∈ [x] → Closed z := by
 intro z hz
 simp only [List.mem_cons, List.not_mem_nil, or_false] at hz
 subst hz
 exact hx
theorem closed2 {x y : AV} (hx : Closed x) (hy : Closed y) : ∀ z, z ∈ [x, y] → Closed z := by
 intro z hz
 simp only [List.mem_cons, List.not_mem_nil, or_false] at hz
 rcases hz with rfl | rfl
 ·exact hx
 ·exact hy
theorem closed3 {x y u : AV} (hx : Closed x) (hy : Closed y) (hu : Closed u) : ∀ z, z ∈ [x, y, u] → Closed z := by
 intro z hz
 simp only [List.mem_cons, List.not_mem_nil, or_false] at hz
 rcases hz with rfl | rfl | rfl
 ·exact hx
 ·exact hy
 ·exact hu
theorem SubC.tup2 {k : Nat} {a b c d : AV} (h1 : SubC k a c) (h2 : SubC k b d) : SubC k (.tup [a, b]) (.tup [c, d]) := by
 intro μ F w v hr
 obtain ⟨r, rfl, hs, hv⟩ := hr.tup_inv
 refine .tup _ _ hs ?_
 intro i x u hx hu
 match i with
 | 0 => simp at hx; subst hx; exact h1 μ F w u (hv 0 a u rfl hu)
 | 1 => simp at hx; subst hx; exact h2 μ F w u (hv 1 b u rfl hu)
 | i + 2 => simp at hx
theorem SubC.tup3 {k : Nat} {a b c a' b' c' : AV} (h1 : SubC k a a') (h2 : SubC k b b') (h3 : SubC k c c') : SubC k (.tup [a, b, c]) (.tup [a', b', c']) := by
 intro μ F w v hr
 obtain ⟨r, rfl, hs, hv⟩ := hr.tup_inv
 refine .tup _ _ hs ?_
 intro i x u hx hu
 match i with
 | 0 => simp at hx; subst hx; exact h1 μ F w u (hv 0 a u rfl hu)
 | 1 => simp at hx; subst hx; exact h2 μ F w u (hv 1 b u rfl hu)
 | 2 => simp at hx; subst hx; exact h3 μ F w u (hv 2 c u rfl hu)
 | i + 3 => simp at hx
theorem Sub.tup2 {a b c d : AV} (h1 : Sub a c) (h2 : Sub b d) : Sub (.tup [a, b]) (.tup [c, d]) := by
 intro μ F w v hr
 obtain ⟨r, rfl, hs, hv⟩ := hr.tup_inv
 refine .tup _ _ hs ?_
 intro i x u hx hu
 match i with
 | 0 => simp at hx; subst hx; exact h1 μ F w u (hv 0 a u rfl hu)
 | 1 => simp at hx; subst hx; exact h2 μ F w u (hv 1 b u rfl hu)
 | i + 2 => simp at hx
theorem closed_slmap {α : Type} {f : α → AV} {sz : Nat} {l : List α} (h : ∀ a, Closed (f a)) (hc : ∀ a, ∀ c, c ∈ (f a).cells → Closed c) : Closed (.sl sz (l.map f) .none) := by
 refine closed_sl (.inl rfl) ?_ ?_
 ·intro x hx
  obtain ⟨a, _, rfl⟩ := List.mem_map.1 hx
  exact h a
 ·intro x hx
  obtain ⟨a, _, rfl⟩ := List.mem_map.1 hx
  exact hc a
theorem closed_strs {l : List (List UInt8)} : Closed (.sl 1 (l.map .str) .none) :=
 closed_slmap (fun _ => closed_str) (fun a c hc => by simp [AV.cells] at hc; subst hc; exact closed_str)
/-- A slice's tag is forgotten, and the objects too. -/
theorem SubC.untag {k sz : Nat} {xs : List AV} {t : Tag} (h : Closed (.sl sz xs .none)) : SubC k (.sl sz xs t) (.sl sz xs .none) := SubC.pre Sub.untag (SubC.of_closed h)
theorem SubC.nil {k sz sz' : Nat} {t : Tag} : SubC k (.sl sz [] t) (.sl sz' [] .none) :=
 SubC.pre (y := .sl sz' [] .none) (fun μ F w v h => Sub.empty (.inl rfl) μ F w v (rep_untag h)) (SubC.of_closed (closed_sl (.inl rfl) (by simp) (by simp)))
/-- A call that hands back a value of its own making. -/
theorem pure_sub {P : Program} {g : FuncId} {args : List AV} {y : AV} (ha : ∀ x, x ∈ args → Closed x) (hy : Closed y) (h : ACalls P g args ⟨0, []⟩ (fun e _ => ∃ x, e = .ret x ∧ SubC 0 x y)) : APure P g args y := by
 refine apure_of ha hy ?_
 refine ACalls.mono (h.joint (R' := fun e _ => e = .ret y) ?_ ?_) (fun e M he => he)
 ·rintro x M' ⟨z, e, hs⟩
  cases e
  exact ⟨_, ⟨0, []⟩, rfl, Joint.cut (Nat.le_refl _) (Nat.zero_le _) rfl ⟨hs, trivial⟩ trivial⟩
 ·rintro x M' ⟨z, e, _⟩
  cases e
def tokM (g : Nat) : Mem := ⟨1, [(0, .spare g)]⟩
theorem tokM_of {g : Nat} {M : Mem} (hn : 1 = M.next) (h1 : M.get 0 = some (.spare g)) : (tokM g).le M := Mem.le_cons h1 (Mem.le_nil hn)
end Go.Ab
