/- Parts of the proof, one behind the other: AbB2, Tab, AbB3. No further condition. -/
import Derived.Test.YtmgkebghojhocaaGreatDoorQV03
import Derived.Test.YtmgkebghojhocaaGreatDoorProg
import Derived.KernelRfl
set_option linter.unusedVariables false
set_option linter.unusedSimpArgs false
/- Regions in the order of the text; calls; functions. -/
set_option linter.unusedVariables false
set_option linter.unusedSimpArgs false
namespace Go.Ab
open Go.RowKit
/-- The rest of a region whose order is the text's. -/
def WL (r : Option Nat) (P : Program) (n : Nat) (ops : Array Oper) (Q : AX → AF → Mem → Prop) (rest : List Oper) (f : AF) (M : Mem) : Prop :=
 ∀ (μ : Mu) (F : Frm) (w : World) (a : Act), Gam μ F M w → RepF μ F w n f a → ∀ Q' : Exit → Act → World → Prop, (∀ e a' w', Post n Q μ F w e a' w' → Q' e a' w') → wpListIn (fn0 r) 9 P ops Q' rest a w
def wantedA (ops : Array Oper) (f : AF) (o : Oper) : Option Bool :=
 match o.guard with
 | none => some true
 | some (j, b) =>
  match (ops[j]?).bind (·.dst) with
  | some d => (match f.get d with | .bool c => some (c == b) | .tup [] => some false | _ => none)
  | none => none
theorem rep_undef {μ : Mu} {F : Frm} {w : World} : Rep μ F w (.tup []) undef := .tup _ _ rfl (by simp)
theorem wanted_undef {μ : Mu} {F : Frm} {w : World} {ops : Array Oper} {o : Oper} {tmps : Array Value} {j d : Nat} {want : Bool} (hg : o.guard = some (j, want)) (hd : (ops[j]?).bind (·.dst) = some d) (hv : Rep μ F w (.tup []) (tmps.getD d undef)) :
  Region.wanted o (yielded ops tmps) = false := by
 simp only [Region.wanted, hg, yielded, hd, Option.bind_some]
 cases ht : tmps[d]? with
 | none => rfl
 | some u =>
  rw [Array.getD_eq_getD_getElem?, ht] at hv
  simp only [Option.getD_some] at hv
  obtain ⟨c, rfl, _⟩ := hv.tup_inv
  rfl
theorem wanted_of {μ : Mu} {F : Frm} {w : World} {n : Nat} {f : AF} {a : Act} (hr : RepF μ F w n f a) {ops : Array Oper} {o : Oper} {b : Bool} (h : wantedA ops f o = some b) : Region.wanted o (yielded ops a.tmps) = b := by
 unfold wantedA at h
 split at h
 ·rename_i hg
  cases h
  simp [Region.wanted, hg]
 ·rename_i j want hg
  split at h
  ·rename_i d hd
   split at h
   ·rename_i c hc
    cases h
    have hv := hr.tmps d
    rw [hc] at hv
    generalize hu : a.tmps.getD d undef = u at hv
    cases hv
    have hlt : d < a.tmps.size := by
     rcases Nat.lt_or_ge d a.tmps.size with h | h
     ·exact h
     ·simp [Array.getD, Nat.not_lt.2 h, undef] at hu
    have hget : a.tmps[d]? = some (.bool c) := by
     rw [Array.getElem?_eq_getElem hlt]
     simp [Array.getD, hlt] at hu
     rw [hu]
    simp only [Region.wanted, hg, yielded, hd, Option.bind_some, hget]
    cases c <;> cases want <;> rfl
   ·rename_i hc
    cases h
    have hv := hr.tmps d
    rw [hc] at hv
    exact wanted_undef hg hd hv
   ·cases h
  ·cases h
def notDefer : Op → Bool
 | .defer _ => false
 | _ => true
theorem notDefer_spec {op : Op} (h : notDefer op = true) : ∀ c, op ≠ .defer c := by
 rintro c rfl
 cases h
def dstOK (ds : List ADef) (o : Oper) (n : Nat) : Bool := notDefer o.op && match o.dst with | some d => decide (d < n) && (keepT ds).all (fun p => !(p.1 == d)) | none => true
theorem dstOK_spec {ds : List ADef} {o : Oper} {n : Nat} (h : dstOK ds o n = true) : ∀ d, o.dst = some d → d < n ∧ ∀ p, p ∈ keepT ds → p.1 ≠ d := by
 intro d hd
 simp only [dstOK, hd, Bool.and_eq_true, decide_eq_true_eq, List.all_eq_true, Bool.not_eq_true', beq_eq_false_iff_ne] at h
 exact h.2
theorem dstOK_nd {ds : List ADef} {o : Oper} {n : Nat} (h : dstOK ds o n = true) : ∀ c, o.op ≠ .defer c := notDefer_spec ((Bool.and_eq_true _ _ ▸ h : _ ∧ _).1)
section
variable {r : Option Nat} {P : Program} {n : Nat} {ops : Array Oper} {Q : AX → AF → Mem → Prop} {rest : List Oper} {o : Oper} {f : AF} {M : Mem}
theorem W_region {id : Nat} {ops : Array Oper} (h : WL r P n ops Q ops.toList f M) : W r P n (.region id ops false) Q f M :=
 ⟨fun μ F w a hg hr => wpIn_region_list (h μ F w a hg hr _ fun _ _ _ hp => hp)⟩
theorem WL_nil (h : Q .normal f M) : WL r P n ops Q [] f M :=
 fun μ F w a hg hr Q' hQ => hQ _ _ _ ⟨μ, f, M, .normal, Evo.refl _ _, hg, hr, trivial, h⟩
theorem WL_op (hw : wantedA ops f o = some true) (hd : dstOK f.d o n = true) {x : AV} {M' : Mem} (ho : OpE P o.op o.type f.ev M x M') (h : WL r P n ops Q rest (f.put o.dst x) M') : WL r P n ops Q (o :: rest) f M := by
 intro μ F w a hg hr Q' hQ
 unfold wpListIn
 rw [wanted_of hr hw, if_pos rfl]
 obtain ⟨μ', nx, v, w', h1, h2, h3, h4, h5⟩ := ho μ F w a.eval o hg rfl rfl (fun y _ => hr.ev y)
 have hgo : wpListIn (fn0 r) 9 P ops Q' rest (a.put o.dst v) w' := h μ' F w' _ h4 ((hr.evo h3).put (dstOK_spec hd) h5) Q' fun e a' w'' hp => hQ _ _ _ (hp.trans h3)
 exact upon_val h1 h2 hgo
/-- An operation that only reckons. -/
theorem WL_P (hw : wantedA ops f o = some true) (hd : dstOK f.d o n = true) {x : AV} (ho : OpP P o.op o.type f.ev x) (h : WL r P n ops Q rest (f.put o.dst x) M) : WL r P n ops Q (o :: rest) f M := WL_op hw hd ho.toR.toE h
end
/-- A function of the program's own text. -/
def Enters (P : Program) (g : FuncId) : Prop := ∃ fn c, P.funcs[g]? = some fn ∧ fn.body = some c ∧ fn.name ≠ "runtime.NumGoroutine"
theorem run_enter {P : Program} {g : FuncId} (h : Enters P g) (args : Array Value) (w : World) : (callFunc g args).run P w = .ok (.enter g args) w := by
 obtain ⟨fn, c, h1, h2, h3⟩ := h
 simp [callFunc, h1, h2, h3]
/-- A call's contract. -/
def ACalls (P : Program) (g : FuncId) (args : List AV) (M : Mem) (R : AEnd → Mem → Prop) : Prop :=
 Enters P g ∧ ∀ (μ : Mu) (F : Frm) (w : World) (vs : Array Value), Gam μ F M w → RepL μ F w args vs →
  Calls P g vs w fun e w' => ∃ μ' M', Evo w μ w' μ' ∧ Gam μ' F M' w' ∧
   match e with
   | .returned v => ∃ x, Rep μ' F w' x v ∧ R (.ret x) M'
   | .panicked ch => ∃ x v, ch = [{ v, recovered := false }] ∧ Rep μ' F w' x v ∧ R (.pan x) M'
   | .outgrown => False
theorem ACalls.mono {P : Program} {g : FuncId} {args : List AV} {M : Mem} {R R' : AEnd → Mem → Prop} (h : ACalls P g args M R) (hr : ∀ e M, R e M → R' e M) : ACalls P g args M R' := by
 refine ⟨h.1, fun μ F w vs hg hv => (h.2 μ F w vs hg hv).mono ?_⟩
 rintro e w' ⟨μ', M', h1, h2, h3⟩
 refine ⟨μ', M', h1, h2, ?_⟩
 cases e with
 | returned v => obtain ⟨x, h4, h5⟩ := h3; exact ⟨x, h4, hr _ _ h5⟩
 | panicked ch => obtain ⟨x, v, h4, h5, h6⟩ := h3; exact ⟨x, v, h4, h5, hr _ _ h6⟩
 | outgrown => exact h3
theorem ACalls.le {P : Program} {g : FuncId} {args : List AV} {M N : Mem} {R : AEnd → Mem → Prop} (hM : N.le M) (h : ACalls P g args N R) : ACalls P g args M R :=
 ⟨h.1, fun μ F w vs hg hv => h.2 μ F w vs (hg.le hM) hv⟩
/-- It hands back just this, whatever the objects are, and leaves them. -/
def APure (P : Program) (g : FuncId) (args : List AV) (r : AV) : Prop := ∀ M, ACalls P g args M fun e M' => e = .ret r ∧ M' = M
section
variable {r : Option Nat} {P : Program} {n : Nat} {ops : Array Oper} {Q : AX → AF → Mem → Prop} {rest : List Oper} {o : Oper} {f : AF} {M : Mem}
end
def initT : List AV → Nat → List (Nat × AV)
 | [], _ => []
 | a :: r, i => (i, a) :: initT r (i + 1)
theorem lookup_initT : ∀ (l : List AV) (k i : Nat), lookup (initT l k) i = if k ≤ i ∧ i < k + l.length then l[i - k]? else none
 | [], k, i => by simp [initT, lookup]
 | a :: r, k, i => by
  simp only [initT, lookup, List.length_cons]
  by_cases h : i = k
  ·subst h
   simp
  ·rw [if_neg h, lookup_initT r (k + 1) i]
   by_cases h2 : k + 1 ≤ i ∧ i < k + 1 + r.length
   ·rw [if_pos h2, if_pos (by omega)]
    obtain ⟨m, rfl⟩ : ∃ m, i = k + 1 + m := ⟨i - (k + 1), by omega⟩
    rw [show k + 1 + m - (k + 1) = m from by omega, show k + 1 + m - k = m + 1 from by omega]
    rfl
   ·rw [if_neg h2, if_neg (by omega)]
def initF (args : List AV) : AF := ⟨initT args 0, []⟩
/-- A result. -/
def resOf (τ : Tab) (M : Mem) (f : AF) : ResultVar → Option AV
 | .tmp t => some (f.get t)
 | .cell a t => aloadM M τ t (f.get a)
def ress (τ : Tab) (M : Mem) (f : AF) : List ResultVar → Option (List AV)
 | [] => some []
 | r :: l => match resOf τ M f r, ress τ M f l with | some x, some xs => some (x :: xs) | _, _ => none
def resA (τ : Tab) (M : Mem) (f : AF) (rs : Array ResultVar) : Option AV :=
 match ress τ M f rs.toList with
 | some [x] => some x
 | some xs => some (.tup xs)
 | none => none
/-- What one result runs to. -/
def resSem (tmps : Array Value) : ResultVar → Sem Value
 | .tmp t => pure (tmps.getD t undef)
 | .cell a t => do loadVar t (← asAddr (tmps.getD a undef))
theorem run_resOf {P : Program} {τ : Tab} (hτ : TabOK P τ) {μ : Mu} {F : Frm} {M : Mem} {w : World} {n : Nat} {f : AF} {a : Act} (hg : Gam μ F M w) (hr : RepF μ F w n f a) {r : ResultVar} {x : AV} (h : resOf τ M f r = some x) :
  ∃ v, (resSem a.tmps r).run P w = .ok v w ∧ Rep μ F w x v := by
 cases r with
 | tmp t =>
  simp only [resOf, Option.some.injEq] at h
  subst h
  exact ⟨_, rfl, hr.tmps t⟩
 | cell c t =>
  simp only [resOf] at h
  obtain ⟨b, off, v, hv, hl, hrep⟩ := run_aloadM (P := P) hτ h hg (hr.tmps c)
  refine ⟨v, ?_, hrep⟩
  simp only [resSem, hv, asAddr, Sem.run_bind, Sem.run_pure, Result.andThen_ok, hl]
theorem run_ress {P : Program} {τ : Tab} (hτ : TabOK P τ) {μ : Mu} {F : Frm} {M : Mem} {w : World} {n : Nat} {f : AF} {a : Act} (hg : Gam μ F M w) (hr : RepF μ F w n f a) : ∀ {rs : List ResultVar} {xs : List AV}, ress τ M f rs = some xs →
  ∃ vs : List Value, (rs.mapM (resSem a.tmps)).run P w = .ok vs w ∧ vs.length = xs.length ∧ ∀ (i : Nat) (x : AV) (v : Value), xs[i]? = some x → vs[i]? = some v → Rep μ F w x v
 | [], xs, h => by
  simp only [ress, Option.some.injEq] at h
  subst h
  exact ⟨[], by simp, rfl, by simp⟩
 | r :: l, xs, h => by
  simp only [ress] at h
  split at h
  case h_2 => cases h
  rename_i x ys h1 h2
  cases h
  obtain ⟨v, hv, hx⟩ := run_resOf (P := P) hτ hg hr h1
  obtain ⟨vs, hvs, hl, hxs⟩ := run_ress hτ hg hr h2
  refine ⟨v :: vs, by simp [List.mapM_cons, hv, hvs], by simp [hl], ?_⟩
  intro i y u hy hu
  cases i with
  | zero => simp at hy hu; subst hy; subst hu; exact hx
  | succ i => exact hxs i y u (by simpa using hy) (by simpa using hu)
theorem run_resA {P : Program} {τ : Tab} (hτ : TabOK P τ) {μ : Mu} {F : Frm} {M : Mem} {w : World} {n : Nat} {f : AF} {a : Act} (hg : Gam μ F M w) (hr : RepF μ F w n f a) {fn : Func} {x : AV} (h : resA τ M f fn.results = some x) :
  ∃ v, (results fn a.tmps).run P w = .ok v w ∧ Rep μ F w x v := by
 unfold resA at h
 have hres : results fn a.tmps = (do let vs ← fn.results.mapM (resSem a.tmps); pure (if h : vs.size = 1 then vs[0] else .tuple vs)) := by
  unfold results
  congr 1
 cases hx : ress τ M f fn.results.toList with
 | none => rw [hx] at h; simp at h
 | some xs =>
  rw [hx] at h
  obtain ⟨vs, hvs, hl, hxs⟩ := run_ress (P := P) hτ hg hr hx
  have hrun : (fn.results.mapM (resSem a.tmps)).run P w = .ok vs.toArray w := by
   rw [Array.mapM_eq_mapM_toList]
   simp [hvs]
  rw [hres]
  simp only [Sem.run_bind, hrun, Result.andThen_ok, Sem.run_pure]
  match xs, vs, hl, hxs, h with
  | [y], [v], _, hxs, h =>
   simp only [Option.some.injEq] at h
   subst h
   exact ⟨v, rfl, hxs 0 y v rfl rfl⟩
  | [], [], _, hxs, h =>
   simp only [Option.some.injEq] at h
   subst h
   exact ⟨.tuple #[], rfl, .tup _ _ rfl (by simp)⟩
  | y :: z :: l, v :: u :: r, hl, hxs, h =>
   simp only [Option.some.injEq] at h
   subst h
   refine ⟨.tuple (v :: u :: r).toArray, ?_, .tup _ _ (by simpa using hl) (fun i x q hx hq => hxs i x q hx (by simpa using hq))⟩
   rw [dif_neg (by simp)]
/-- A function's contract out of the walk of its body (no deferred calls). -/
def fnPost (τ : Tab) (fn : Func) (R : AEnd → Mem → Prop) : AX → AF → Mem → Prop
 | .normal, f, M | .ret, f, M => f.d = [] ∧ ∃ r, resA τ M f fn.results = some r ∧ R (.ret r) M
 | .panic v, f, M => f.d = [] ∧ R (.pan v) M
 | .exit _, _, _ => False
theorem defrep_nil {μ : Mu} {F : Frm} {w : World} {l : List Deferred} (h : DefRep μ F w [] l) : l = [] := by
 cases l with
 | nil => rfl
 | cons d r => exact h.elim
theorem initF_rep {μ : Mu} {F : Frm} {w : World} {n : Nat} {args : List AV} {vs : Array Value} (hlen : args.length ≤ n) (hv : RepL μ F w args vs) : RepF μ F w n (initF args) { tmps := vs ++ Array.replicate (n - vs.size) undef, defers := [] } := by
 refine ⟨by simp [hv.1]; omega, ?_, trivial, fun p hp => by cases hp⟩
 intro t
 simp only [AF.get, initF, lookup_initT, Nat.zero_le, true_and, Nat.zero_add, Nat.sub_zero]
 by_cases ht : t < args.length
 ·rw [if_pos ht]
  have hvt : t < vs.size := by rw [hv.1]; exact ht
  have h1 := hv.2 t _ _ (List.getElem?_eq_getElem ht) (Array.getElem?_eq_getElem hvt)
  rw [List.getElem?_eq_getElem ht]
  simp only [Option.getD_some]
  rw [Array.getD_eq_getD_getElem?, Array.getElem?_append_left hvt, Array.getElem?_eq_getElem hvt]
  exact h1
 ·rw [if_neg ht]
  exact .top _
theorem acalls_of {P : Program} {τ : Tab} (hτ : TabOK P τ) {g : FuncId} {fn : Func} {c : Code} (hf : P.funcs[g]? = some fn) (hb : fn.body = some c) (hn : fn.name ≠ "runtime.NumGoroutine") {args : List AV} {M : Mem} {R : AEnd → Mem → Prop}
  (hlen : args.length ≤ fn.ntmps) (h : W none P fn.ntmps c (fnPost τ fn R) (initF args) M) : ACalls P g args M R := by
 refine ⟨⟨fn, c, hf, hb, hn⟩, fun μ F w vs hg hv => ?_⟩
 refine calls_of_wp hf hb ?_
 have hr := initF_rep (μ := μ) (F := F) (w := w) hlen hv
 refine wp_mono (wp_of0 (h.run μ F w _ hg hr)) ?_
 rintro e a' w' ⟨μ', f', M', x, h1, h2, h3, h4, h5⟩
 cases e with
 | normal =>
  cases x <;> first | exact h4.elim | skip
  obtain ⟨hd, r, hr', hR⟩ := h5
  obtain ⟨v, hv', hrep⟩ := run_resA (P := P) hτ h2 h3 hr'
  have hdd := h3.defs
  rw [hd] at hdd
  exact ⟨defrep_nil hdd, v, hv', μ', M', h1, h2, r, hrep, hR⟩
 | exit id => cases x <;> first | exact h4.elim | exact h5.elim
 | goto l => cases x <;> exact h4.elim
 | ret =>
  cases x <;> first | exact h4.elim | skip
  obtain ⟨hd, r, hr', hR⟩ := h5
  obtain ⟨v, hv', hrep⟩ := run_resA (P := P) hτ h2 h3 hr'
  have hdd := h3.defs
  rw [hd] at hdd
  exact ⟨defrep_nil hdd, v, hv', μ', M', h1, h2, r, hrep, hR⟩
 | panic ch =>
  cases x <;> first | exact h4.elim | skip
  obtain ⟨hd, hR⟩ := h5
  obtain ⟨v, rfl, hrep⟩ := h4
  have hdd := h3.defs
  rw [hd] at hdd
  exact ⟨defrep_nil hdd, μ', M', h1, h2, _, v, rfl, hrep, hR⟩
 | outgrown => cases x <;> exact h4.elim
/-- What stands for x does so whatever objects there are, as long as its memory is no object's. -/
def Closed (x : AV) : Prop := ∀ (μ μ' : Mu) (F F' : Frm) (w : World) (v : Value), (∀ b o, Free μ F b o → Free μ' F' b o) → Rep μ F w x v → Rep μ' F' w x v
theorem closed_int {k : IntKind} {n : Int} : Closed (.int k n) := by intro μ μ' F F' w v hf h; cases h; exact .int _ _
theorem closed_bool {b : Bool} : Closed (.bool b) := by intro μ μ' F F' w v hf h; cases h; exact .bool _
theorem closed_str {s : List UInt8} : Closed (.str s) := by intro μ μ' F F' w v hf h; cases h; exact .str _
theorem closed_nilptr : Closed .nilptr := by intro μ μ' F F' w v hf h; cases h; exact .nilptr
theorem closed_nilIface : Closed .nilIface := by intro μ μ' F F' w v hf h; cases h; exact .nilIface
theorem closed_nilFunc : Closed .nilFunc := by intro μ μ' F F' w v hf h; cases h; exact .nilFunc
theorem closed_nilmap : Closed .nilmap := by intro μ μ' F F' w v hf h; cases h; exact .nilmap
theorem closed_top : Closed .top := by intro μ μ' F F' w v hf h; exact .top _
theorem closed_iface {t : TypeId} {x : AV} (hx : Closed x) : Closed (.iface t x) := by
 intro μ μ' F F' w v hf h
 cases h with
 | iface _ _ u hu => exact .iface _ _ _ (hx μ μ' F F' w u hf hu)
theorem closed_agg {l : List AV} (hl : ∀ x, x ∈ l → Closed x) : Closed (.agg l) := by
 intro μ μ' F F' w v hf h
 obtain ⟨c, rfl, h1, h2, h3⟩ := h.agg_inv
 exact .agg _ _ h1 (fun i x u hx hu => hl x (List.mem_of_getElem? hx) μ μ' F F' w u hf (h2 i x u hx hu)) h3
theorem closed_tup {l : List AV} (hl : ∀ x, x ∈ l → Closed x) : Closed (.tup l) := by
 intro μ μ' F F' w v hf h
 obtain ⟨c, rfl, h1, h2⟩ := h.tup_inv
 exact .tup _ _ h1 (fun i x u hx hu => hl x (List.mem_of_getElem? hx) μ μ' F F' w u hf (h2 i x u hx hu))
theorem closed_fn {g : Fn} {l1 l2 : List AV} (h1 : ∀ x, x ∈ l1 → Closed x) (h2 : ∀ x, x ∈ l2 → Closed x) : Closed (.fn g l1 l2) := by
 intro μ μ' F F' w v hf h
 obtain ⟨c1, c2, rfl, g1, g2, g3, g4⟩ := h.fn_inv
 exact .fn _ _ _ _ _ g1 g2 (fun i x u hx hu => h1 x (List.mem_of_getElem? hx) μ μ' F F' w u hf (g3 i x u hx hu)) (fun i x u hx hu => h2 x (List.mem_of_getElem? hx) μ μ' F F' w u hf (g4 i x u hx hu))
theorem closed_ref {l : List AV} (hl : ∀ x, x ∈ l → Closed x) : Closed (.ref l) := by
 intro μ μ' F F' w v hf h
 obtain ⟨b, o, vals, rfl, h1, h2, h3⟩ := h.ref_inv
 exact .ref _ _ _ vals h1 (fun j c hc => ⟨(h2 j c hc).1, hf _ _ (h2 j c hc).2⟩) (fun j c hc => hl c (List.mem_of_getElem? hc) μ μ' F F' w _ hf (h3 j c hc))
theorem closed_sl {sz : Nat} {xs : List AV} {t : Tag} (ht : t = .none ∨ t = .full) (hl : ∀ x, x ∈ xs → Closed x) (hc : ∀ x, x ∈ xs → (∀ c, c ∈ x.cells → Closed c)) : Closed (.sl sz xs t) := by
 intro μ μ' F F' w v hf h
 obtain ⟨A, cap, ad, vals, rfl, h1, h2, h3, h4, h5, h6, h7⟩ := h.sl_inv
 refine .sl _ _ _ _ _ ad vals h1 h2 h3 h4 (fun i x j c hx hj => ⟨(h5 i x j c hx hj).1, hf _ _ (h5 i x j c hx hj).2⟩)
  (fun i x j c hx hj => hc x (List.mem_of_getElem? hx) c (List.mem_of_getElem? hj) μ μ' F F' w _ hf (h6 i x j c hx hj)) ?_
 rcases ht with rfl | rfl
 ·trivial
 ·exact h7
/-- What a slice's tag said is forgotten. -/
theorem rep_untag {μ : Mu} {F : Frm} {w : World} {sz : Nat} {xs : List AV} {t : Tag} {v : Value} (h : Rep μ F w (.sl sz xs t) v) : Rep μ F w (.sl sz xs .none) v := by
 obtain ⟨A, cap, ad, vals, rfl, h1, h2, h3, h4, h5, h6, h7⟩ := h.sl_inv
 exact .sl _ _ _ _ _ ad vals h1 h2 h3 h4 h5 h6 trivial
/-- A call that needs no objects: it leaves the caller's alone. -/
theorem acalls_frame {P : Program} {g : FuncId} {args : List AV} {R : AEnd → Prop} (ha : ∀ x, x ∈ args → Closed x) (h : ACalls P g args ⟨0, []⟩ fun e _ => R e) (hR : ∀ e, R e → match e with | .ret x => Closed x | .pan x => Closed x) (M : Mem) :
  ACalls P g args M fun e M' => R e ∧ M' = M := by
 refine ⟨h.1, fun μ F w vs hg hv => ?_⟩
 let μ0 : Mu := fun _ => none
 let F0 : Frm := fun b o => F b o ∨ Own μ b o
 have hno : ∀ b o, ¬ Own μ0 b o := by rintro b o ⟨id, h | ⟨e, g, h, _⟩⟩ <;> cases h
 have hfree : ∀ b o, Free μ F b o → Free μ0 F0 b o := fun b o hf => ⟨fun h => h.elim hf.1 hf.2, hno b o⟩
 have hg0 : Gam μ0 F0 ⟨0, []⟩ w := by
  refine { dom := fun id => (by simp [μ0]), obj := fun id l hM => (by cases hM), spare := fun id g hM => (by cases hM), raw := fun id g o vs t hM => (by cases hM), inj := ?_, frm := fun b o ho => absurd ho (hno b o), fit := ⟨fun b o ho => absurd ho (hno b o), ?_⟩ }
  ·rintro i j b (h | ⟨_, _, h⟩) _ <;> cases h
  ·rintro b o (h | h)
   ·exact hg.fit.frm b o h
   ·exact hg.fit.own b o h
 refine (h.2 μ0 F0 w vs hg0 ⟨hv.1, fun i x v hx hv' => ha x (List.mem_of_getElem? hx) μ μ0 F F0 w v hfree (hv.2 i x v hx hv')⟩).mono ?_
 rintro e w' ⟨μ', M', h1, h2, h3⟩
 have hb : Below w.heap.size w w' := ⟨h1.os, h1.tape, h1.output, h1.size, fun k hk => h1.same k hk (hno k)⟩
 have hfree' : ∀ b o, Free μ' F0 b o → Free μ F b o := fun b o hf => ⟨fun h => hf.1 (.inl h), fun h => hf.1 (.inr h)⟩
 refine ⟨μ, M, Evo.of_below μ hb, hg.below hb, ?_⟩
 cases e with
 | returned v =>
  obtain ⟨x, h4, h5⟩ := h3
  exact ⟨x, hR _ h5 μ' μ F0 F w' v hfree' h4, h5, rfl⟩
 | panicked ch =>
  obtain ⟨x, v, h4, h5, h6⟩ := h3
  exact ⟨x, v, h4, hR _ h6 μ' μ F0 F w' v hfree' h5, h6, rfl⟩
 | outgrown => exact h3
theorem apure_of {P : Program} {g : FuncId} {args : List AV} {r : AV} (ha : ∀ x, x ∈ args → Closed x) (hr : Closed r) (h : ACalls P g args ⟨0, []⟩ fun e _ => e = .ret r) : APure P g args r :=
 fun M => acalls_frame (R := fun e => e = .ret r) ha h (fun e he => by subst he; exact hr) M
end Go.Ab
/- The seat's types. -/
namespace Go.Proofs.YtmgkebghojhocaaGreatDoor
def tab : Go.Ab.Tab := [
 (1, ⟨1, 8, .other, [.nilFunc]⟩),
 (2, ⟨1, 8, .int .i64, [.int .i64 0]⟩),
 (3, ⟨1, 8, .int .i64, [.int .i64 0]⟩),
 (4, ⟨1, 1, .bool, [.bool false]⟩),
 (5, ⟨1, 1, .int .u8, [.int .u8 0]⟩),
 (6, ⟨1, 1, .int .u8, [.int .u8 0]⟩),
 (7, ⟨4, 24, .struct [(0, 2), (1, 3), (2, 4), (3, 6)], [.int .i64 0, .int .i64 0, .bool false, .int .u8 0]⟩),
 (8, ⟨4, 24, .struct [(0, 2), (1, 3), (2, 4), (3, 6)], [.int .i64 0, .int .i64 0, .bool false, .int .u8 0]⟩),
 (9, ⟨1, 16, .str, [.str []]⟩),
 (10, ⟨1, 16, .str, [.str []]⟩),
 (11, ⟨1, 16, .str, [.str []]⟩),
 (12, ⟨1, 8, .int .u64, [.int .u64 0]⟩),
 (13, ⟨2, 24, .struct [(0, 9), (1, 12)], [.str [], .int .u64 0]⟩),
 (14, ⟨2, 24, .struct [(0, 9), (1, 12)], [.str [], .int .u64 0]⟩),
 (15, ⟨1, 8, .ptr 273, [.nilptr]⟩),
 (16, ⟨1, 8, .ptr 276, [.nilptr]⟩),
 (17, ⟨1, 8, .ptr 283, [.nilptr]⟩),
 (18, ⟨1, 8, .struct [(0, 17)], [.nilptr]⟩),
 (19, ⟨1, 8, .struct [(0, 17)], [.nilptr]⟩),
 (20, ⟨1, 16, .iface, [.nilIface]⟩),
 (21, ⟨1, 4, .int .i32, [.int .i32 0]⟩),
 (22, ⟨1, 24, .slice 57, [.sl 0 [] .full]⟩),
 (23, ⟨1, 24, .slice 96, [.sl 0 [] .full]⟩),
 (24, ⟨1, 24, .slice 100, [.sl 0 [] .full]⟩),
 (25, ⟨5, 88, .struct [(0, 3), (1, 3), (2, 22), (3, 23), (4, 24)], [.int .i64 0, .int .i64 0, .sl 0 [] .full, .sl 0 [] .full, .sl 0 [] .full]⟩),
 (26, ⟨5, 88, .struct [(0, 3), (1, 3), (2, 22), (3, 23), (4, 24)], [.int .i64 0, .int .i64 0, .sl 0 [] .full, .sl 0 [] .full, .sl 0 [] .full]⟩),
 (27, ⟨1, 8, .other, [.nilFunc]⟩),
 (28, ⟨1, 8, .other, [.nilFunc]⟩),
 (29, ⟨1, 24, .slice 9, [.sl 0 [] .full]⟩),
 (30, ⟨1, 8, .int .i64, [.int .i64 0]⟩),
 (32, ⟨1, 8, .other, [.nilFunc]⟩),
 (33, ⟨1, 8, .other, [.nilFunc]⟩),
 (34, ⟨1, 8, .other, [.nilFunc]⟩),
 (35, ⟨1, 8, .other, [.nilFunc]⟩),
 (36, ⟨1, 8, .other, [.nilFunc]⟩),
 (38, ⟨1, 8, .other, [.nilFunc]⟩),
 (39, ⟨1, 8, .other, [.nilFunc]⟩),
 (40, ⟨1, 8, .other, [.nilFunc]⟩),
 (41, ⟨1, 8, .other, [.nilFunc]⟩),
 (42, ⟨1, 24, .slice 121, [.sl 0 [] .full]⟩),
 (43, ⟨1, 8, .other, [.nilFunc]⟩),
 (44, ⟨1, 8, .ptr 191, [.nilptr]⟩),
 (45, ⟨1, 8, .other, [.nilFunc]⟩),
 (47, ⟨1, 8, .other, [.nilFunc]⟩),
 (48, ⟨1, 8, .other, [.nilFunc]⟩),
 (49, ⟨1, 24, .slice 3, [.sl 0 [] .full]⟩),
 (50, ⟨3, 40, .struct [(0, 3), (1, 3), (2, 49)], [.int .i64 0, .int .i64 0, .sl 0 [] .full]⟩),
 (51, ⟨3, 40, .struct [(0, 3), (1, 3), (2, 49)], [.int .i64 0, .int .i64 0, .sl 0 [] .full]⟩),
 (53, ⟨1, 8, .other, [.nilFunc]⟩),
 (54, ⟨2, 24, .struct [(0, 9), (1, 3)], [.str [], .int .i64 0]⟩),
 (55, ⟨2, 24, .struct [(0, 9), (1, 3)], [.str [], .int .i64 0]⟩),
 (56, ⟨3, 40, .struct [(0, 55), (2, 9)], [.str [], .int .i64 0, .str []]⟩),
 (57, ⟨3, 40, .struct [(0, 55), (2, 9)], [.str [], .int .i64 0, .str []]⟩),
 (59, ⟨1, 8, .other, [.nilFunc]⟩),
 (60, ⟨1, 8, .other, [.nilFunc]⟩),
 (61, ⟨1, 8, .other, [.nilFunc]⟩),
 (62, ⟨1, 8, .other, [.nilFunc]⟩),
 (63, ⟨1, 8, .other, [.nilFunc]⟩),
 (64, ⟨1, 8, .other, [.nilFunc]⟩),
 (65, ⟨1, 8, .other, [.nilFunc]⟩),
 (66, ⟨1, 8, .other, [.nilFunc]⟩),
 (67, ⟨1, 24, .slice 77, [.sl 0 [] .full]⟩),
 (69, ⟨1, 8, .other, [.nilFunc]⟩),
 (70, ⟨1, 8, .other, [.nilFunc]⟩),
 (71, ⟨1, 8, .other, [.nilFunc]⟩),
 (72, ⟨1, 8, .other, [.nilFunc]⟩),
 (73, ⟨1, 8, .other, [.nilFunc]⟩),
 (74, ⟨1, 8, .other, [.nilFunc]⟩),
 (75, ⟨1, 8, .other, [.nilFunc]⟩),
 (76, ⟨2, 24, .struct [(0, 9), (1, 3)], [.str [], .int .i64 0]⟩),
 (77, ⟨2, 24, .struct [(0, 9), (1, 3)], [.str [], .int .i64 0]⟩),
 (78, ⟨1, 8, .other, [.nilFunc]⟩),
 (79, ⟨5, 64, .struct [(0, 9), (1, 3), (2, 51)], [.str [], .int .i64 0, .int .i64 0, .int .i64 0, .sl 0 [] .full]⟩),
 (80, ⟨5, 64, .struct [(0, 9), (1, 3), (2, 51)], [.str [], .int .i64 0, .int .i64 0, .int .i64 0, .sl 0 [] .full]⟩),
 (82, ⟨1, 8, .other, [.nilFunc]⟩),
 (83, ⟨1, 24, .slice 80, [.sl 0 [] .full]⟩),
 (85, ⟨1, 8, .other, [.nilFunc]⟩),
 (86, ⟨1, 8, .other, [.nilFunc]⟩),
 (87, ⟨1, 8, .other, [.nilFunc]⟩),
 (88, ⟨1, 8, .other, [.nilFunc]⟩),
 (89, ⟨1, 8, .other, [.nilFunc]⟩),
 (90, ⟨1, 8, .other, [.nilFunc]⟩),
 (91, ⟨1, 8, .other, [.nilFunc]⟩),
 (93, ⟨1, 8, .other, [.nilFunc]⟩),
 (94, ⟨1, 8, .other, [.nilFunc]⟩),
 (95, ⟨2, 16, .struct [(0, 3), (1, 3)], [.int .i64 0, .int .i64 0]⟩),
 (96, ⟨2, 16, .struct [(0, 3), (1, 3)], [.int .i64 0, .int .i64 0]⟩),
 (97, ⟨2, 16, .struct [(0, 30), (1, 3)], [.int .i64 0, .int .i64 0]⟩),
 (98, ⟨2, 16, .struct [(0, 30), (1, 3)], [.int .i64 0, .int .i64 0]⟩),
 (99, ⟨4, 32, .struct [(0, 3), (1, 3), (2, 98)], [.int .i64 0, .int .i64 0, .int .i64 0, .int .i64 0]⟩),
 (100, ⟨4, 32, .struct [(0, 3), (1, 3), (2, 98)], [.int .i64 0, .int .i64 0, .int .i64 0, .int .i64 0]⟩),
 (101, ⟨1, 8, .other, [.nilFunc]⟩),
 (102, ⟨1, 8, .other, [.nilFunc]⟩),
 (103, ⟨1, 8, .other, [.nilFunc]⟩),
 (104, ⟨1, 8, .other, [.nilFunc]⟩),
 (105, ⟨1, 8, .other, [.nilFunc]⟩),
 (106, ⟨1, 8, .other, [.nilFunc]⟩),
 (107, ⟨1, 8, .other, [.nilFunc]⟩),
 (109, ⟨1, 8, .other, [.nilFunc]⟩),
 (110, ⟨1, 8, .other, [.nilFunc]⟩),
 (111, ⟨1, 8, .other, [.nilFunc]⟩),
 (113, ⟨1, 8, .other, [.nilFunc]⟩),
 (115, ⟨1, 8, .other, [.nilFunc]⟩),
 (117, ⟨1, 8, .other, [.nilFunc]⟩),
 (118, ⟨1, 8, .other, [.nilFunc]⟩),
 (119, ⟨1, 24, .slice 188, [.sl 0 [] .full]⟩),
 (120, ⟨2, 32, .struct [(0, 3), (1, 119)], [.int .i64 0, .sl 0 [] .full]⟩),
 (121, ⟨2, 32, .struct [(0, 3), (1, 119)], [.int .i64 0, .sl 0 [] .full]⟩),
 (122, ⟨1, 8, .other, [.nilFunc]⟩),
 (124, ⟨1, 8, .other, [.nilFunc]⟩),
 (125, ⟨1, 24, .slice 55, [.sl 0 [] .full]⟩),
 (127, ⟨1, 8, .other, [.nilFunc]⟩),
 (128, ⟨1, 8, .other, [.nilFunc]⟩),
 (129, ⟨1, 8, .other, [.nilFunc]⟩),
 (130, ⟨1, 8, .other, [.nilFunc]⟩),
 (131, ⟨1, 8, .other, [.nilFunc]⟩),
 (133, ⟨1, 8, .other, [.nilFunc]⟩),
 (134, ⟨1, 8, .other, [.nilFunc]⟩),
 (135, ⟨1, 16, .iface, [.nilIface]⟩),
 (136, ⟨1, 16, .iface, [.nilIface]⟩),
 (137, ⟨1, 8, .other, [.nilFunc]⟩),
 (138, ⟨1, 8, .other, [.nilFunc]⟩),
 (139, ⟨1, 8, .other, [.nilFunc]⟩),
 (140, ⟨1, 8, .other, [.nilFunc]⟩),
 (142, ⟨1, 8, .other, [.nilFunc]⟩),
 (143, ⟨1, 8, .other, [.nilFunc]⟩),
 (144, ⟨1, 8, .other, [.nilFunc]⟩),
 (145, ⟨1, 8, .ptr 30, [.nilptr]⟩),
 (146, ⟨1, 24, .slice 149, [.sl 0 [] .full]⟩),
 (147, ⟨1, 8, .other, [.nilFunc]⟩),
 (148, ⟨6, 72, .struct [(0, 55), (2, 51), (5, 4)], [.str [], .int .i64 0, .int .i64 0, .int .i64 0, .sl 0 [] .full, .bool false]⟩),
 (149, ⟨6, 72, .struct [(0, 55), (2, 51), (5, 4)], [.str [], .int .i64 0, .int .i64 0, .int .i64 0, .sl 0 [] .full, .bool false]⟩),
 (150, ⟨1, 8, .other, [.nilFunc]⟩),
 (151, ⟨1, 8, .other, [.nilFunc]⟩),
 (152, ⟨4, 32, .array 4 3, [.int .i64 0, .int .i64 0, .int .i64 0, .int .i64 0]⟩),
 (153, ⟨1, 8, .other, [.nilFunc]⟩),
 (154, ⟨1, 8, .other, [.nilFunc]⟩),
 (155, ⟨16, 128, .array 4 152, [.int .i64 0, .int .i64 0, .int .i64 0, .int .i64 0, .int .i64 0, .int .i64 0, .int .i64 0, .int .i64 0, .int .i64 0, .int .i64 0, .int .i64 0, .int .i64 0, .int .i64 0, .int .i64 0, .int .i64 0, .int .i64 0]⟩),
 (156, ⟨1, 8, .other, [.nilFunc]⟩),
 (157, ⟨1, 8, .other, [.nilFunc]⟩),
 (158, ⟨1, 8, .other, [.nilFunc]⟩),
 (159, ⟨1, 8, .other, [.nilFunc]⟩),
 (160, ⟨1, 8, .other, [.nilFunc]⟩),
 (162, ⟨1, 8, .other, [.nilFunc]⟩),
 (163, ⟨1, 8, .ptr 216, [.nilptr]⟩),
 (165, ⟨1, 8, .other, [.nilFunc]⟩),
 (166, ⟨1, 8, .other, [.nilFunc]⟩),
 (167, ⟨1, 8, .other, [.nilFunc]⟩),
 (168, ⟨1, 8, .other, [.nilFunc]⟩),
 (169, ⟨1, 8, .ptr 172, [.nilptr]⟩),
 (170, ⟨1, 24, .slice 5, [.sl 0 [] .full]⟩),
 (171, ⟨2, 32, .struct [(0, 169), (1, 170)], [.nilptr, .sl 0 [] .full]⟩),
 (172, ⟨2, 32, .struct [(0, 169), (1, 170)], [.nilptr, .sl 0 [] .full]⟩),
 (173, ⟨1, 8, .other, [.nilFunc]⟩),
 (174, ⟨1, 16, .iface, [.nilIface]⟩),
 (175, ⟨1, 16, .iface, [.nilIface]⟩),
 (177, ⟨1, 8, .other, [.nilFunc]⟩),
 (178, ⟨1, 8, .other, [.nilFunc]⟩),
 (179, ⟨1, 8, .other, [.nilFunc]⟩),
 (180, ⟨1, 8, .other, [.nilFunc]⟩),
 (181, ⟨4, 32, .struct [(0, 3), (1, 3), (2, 98)], [.int .i64 0, .int .i64 0, .int .i64 0, .int .i64 0]⟩),
 (182, ⟨1, 8, .other, [.nilFunc]⟩),
 (184, ⟨1, 8, .other, [.nilFunc]⟩),
 (186, ⟨1, 8, .other, [.nilFunc]⟩),
 (187, ⟨5, 64, .struct [(0, 9), (1, 4), (2, 51)], [.str [], .bool false, .int .i64 0, .int .i64 0, .sl 0 [] .full]⟩),
 (188, ⟨5, 64, .struct [(0, 9), (1, 4), (2, 51)], [.str [], .bool false, .int .i64 0, .int .i64 0, .sl 0 [] .full]⟩),
 (189, ⟨1, 24, .slice 57, [.sl 0 [] .full]⟩),
 (190, ⟨1, 16, .struct [(0, 136)], [.nilIface]⟩),
 (191, ⟨1, 16, .struct [(0, 136)], [.nilIface]⟩),
 (192, ⟨1, 8, .other, [.nilFunc]⟩),
 (193, ⟨1, 8, .other, [.nilFunc]⟩),
 (194, ⟨1, 8, .other, [.nilFunc]⟩),
 (195, ⟨1, 8, .other, [.nilFunc]⟩),
 (196, ⟨1, 24, .slice 136, [.sl 0 [] .full]⟩),
 (197, ⟨2, 32, .struct [(0, 196), (1, 3)], [.sl 0 [] .full, .int .i64 0]⟩),
 (198, ⟨2, 32, .struct [(0, 196), (1, 3)], [.sl 0 [] .full, .int .i64 0]⟩),
 (200, ⟨1, 8, .other, [.nilFunc]⟩),
 (201, ⟨1, 8, .other, [.nilFunc]⟩),
 (202, ⟨1, 8, .ptr 204, [.nilptr]⟩),
 (203, ⟨1, 16, .struct [(0, 9)], [.str []]⟩),
 (204, ⟨1, 16, .struct [(0, 9)], [.str []]⟩),
 (205, ⟨1, 8, .other, [.nilFunc]⟩),
 (206, ⟨1, 8, .other, [.nilFunc]⟩),
 (207, ⟨1, 8, .other, [.nilFunc]⟩),
 (208, ⟨1, 8, .other, [.nilFunc]⟩),
 (209, ⟨1, 8, .other, [.nilFunc]⟩),
 (211, ⟨1, 8, .other, [.nilFunc]⟩),
 (212, ⟨1, 8, .other, [.nilFunc]⟩),
 (213, ⟨1, 8, .other, [.nilFunc]⟩),
 (214, ⟨1, 8, .other, [.nilFunc]⟩),
 (215, ⟨3, 40, .struct [(0, 44), (1, 213), (2, 22)], [.nilptr, .nilFunc, .sl 0 [] .full]⟩),
 (216, ⟨3, 40, .struct [(0, 44), (1, 213), (2, 22)], [.nilptr, .nilFunc, .sl 0 [] .full]⟩),
 (217, ⟨1, 8, .other, [.nilFunc]⟩),
 (218, ⟨1, 8, .other, [.nilFunc]⟩),
 (219, ⟨1, 8, .other, [.nilFunc]⟩),
 (220, ⟨1, 8, .other, [.nilFunc]⟩),
 (221, ⟨1, 8, .ptr 5, [.nilptr]⟩),
 (222, ⟨1, 8, .other, [.nilFunc]⟩),
 (223, ⟨1, 8, .other, [.nilFunc]⟩),
 (224, ⟨1, 8, .int .u64, [.int .u64 0]⟩),
 (225, ⟨1, 8, .other, [.nilFunc]⟩),
 (226, ⟨1, 8, .other, [.nilFunc]⟩),
 (227, ⟨1, 8, .other, [.nilFunc]⟩),
 (228, ⟨5, 64, .struct [(0, 9), (1, 4), (2, 51)], [.str [], .bool false, .int .i64 0, .int .i64 0, .sl 0 [] .full]⟩),
 (229, ⟨1, 8, .other, [.nilFunc]⟩),
 (230, ⟨1, 8, .other, [.nilFunc]⟩),
 (231, ⟨1, 8, .other, [.nilFunc]⟩),
 (232, ⟨1, 24, .slice 196, [.sl 0 [] .full]⟩),
 (233, ⟨1, 8, .other, [.nilFunc]⟩),
 (234, ⟨1, 8, .other, [.nilFunc]⟩),
 (235, ⟨1, 8, .other, [.nilFunc]⟩),
 (237, ⟨1, 8, .other, [.nilFunc]⟩),
 (239, ⟨1, 8, .other, [.nilFunc]⟩),
 (240, ⟨1, 8, .other, [.nilFunc]⟩),
 (241, ⟨1, 8, .other, [.nilFunc]⟩),
 (242, ⟨2, 24, .struct [(0, 9), (1, 3)], [.str [], .int .i64 0]⟩),
 (243, ⟨1, 8, .other, [.nilFunc]⟩),
 (244, ⟨1, 8, .other, [.nilFunc]⟩),
 (245, ⟨1, 8, .other, [.nilFunc]⟩),
 (246, ⟨1, 8, .other, [.nilFunc]⟩),
 (247, ⟨1, 8, .other, [.nilFunc]⟩),
 (248, ⟨1, 8, .other, [.nilFunc]⟩),
 (249, ⟨1, 8, .other, [.nilFunc]⟩),
 (250, ⟨1, 8, .other, [.nilFunc]⟩),
 (251, ⟨1, 8, .other, [.nilFunc]⟩),
 (252, ⟨1, 8, .other, [.nilFunc]⟩),
 (253, ⟨1, 8, .other, [.nilFunc]⟩),
 (255, ⟨1, 8, .other, [.nilFunc]⟩),
 (256, ⟨1, 8, .other, [.nilFunc]⟩),
 (257, ⟨1, 8, .other, [.nilFunc]⟩),
 (258, ⟨256, 256, .array 256 4, [.bool false, .bool false, .bool false, .bool false, .bool false, .bool false, .bool false, .bool false, .bool false, .bool false, .bool false, .bool false, .bool false, .bool false, .bool false, .bool false, .bool false, .bool false, .bool false, .bool false, .bool false, .bool false, .bool false, .bool false, .bool false, .bool false, .bool false, .bool false, .bool false, .bool false, .bool false, .bool false, .bool false, .bool false, .bool false, .bool false, .bool false, .bool false, .bool false, .bool false, .bool false, .bool false, .bool false, .bool false, .bool false, .bool false, .bool false, .bool false, .bool false, .bool false, .bool false, .bool false, .bool false, .bool false, .bool false, .bool false, .bool false, .bool false, .bool false, .bool false, .bool false, .bool false, .bool false, .bool false, .bool false, .bool false, .bool false, .bool false, .bool false, .bool false, .bool false, .bool false, .bool false, .bool false, .bool false, .bool false, .bool false, .bool false, .bool false, .bool false, .bool false, .bool false, .bool false, .bool false, .bool false, .bool false, .bool false, .bool false, .bool false, .bool false, .bool false, .bool false, .bool false, .bool false, .bool false, .bool false, .bool false, .bool false, .bool false, .bool false, .bool false, .bool false, .bool false, .bool false, .bool false, .bool false, .bool false, .bool false, .bool false, .bool false, .bool false, .bool false, .bool false, .bool false, .bool false, .bool false, .bool false, .bool false, .bool false, .bool false, .bool false, .bool false, .bool false, .bool false, .bool false, .bool false, .bool false, .bool false, .bool false, .bool false, .bool false, .bool false, .bool false, .bool false, .bool false, .bool false, .bool false, .bool false, .bool false, .bool false, .bool false, .bool false, .bool false, .bool false, .bool false, .bool false, .bool false, .bool false, .bool false, .bool false, .bool false, .bool false, .bool false, .bool false, .bool false, .bool false, .bool false, .bool false, .bool false, .bool false, .bool false, .bool false, .bool false, .bool false, .bool false, .bool false, .bool false, .bool false, .bool false, .bool false, .bool false, .bool false, .bool false, .bool false, .bool false, .bool false, .bool false, .bool false, .bool false, .bool false, .bool false, .bool false, .bool false, .bool false, .bool false, .bool false, .bool false, .bool false, .bool false, .bool false, .bool false, .bool false, .bool false, .bool false, .bool false, .bool false, .bool false, .bool false, .bool false, .bool false, .bool false, .bool false, .bool false, .bool false, .bool false, .bool false, .bool false, .bool false, .bool false, .bool false, .bool false, .bool false, .bool false, .bool false, .bool false, .bool false, .bool false, .bool false, .bool false, .bool false, .bool false, .bool false, .bool false, .bool false, .bool false, .bool false, .bool false, .bool false, .bool false, .bool false, .bool false, .bool false, .bool false, .bool false, .bool false, .bool false, .bool false, .bool false, .bool false, .bool false, .bool false, .bool false, .bool false, .bool false, .bool false, .bool false, .bool false, .bool false, .bool false, .bool false, .bool false, .bool false, .bool false, .bool false, .bool false, .bool false]⟩),
 (259, ⟨256, 256, .array 256 4, [.bool false, .bool false, .bool false, .bool false, .bool false, .bool false, .bool false, .bool false, .bool false, .bool false, .bool false, .bool false, .bool false, .bool false, .bool false, .bool false, .bool false, .bool false, .bool false, .bool false, .bool false, .bool false, .bool false, .bool false, .bool false, .bool false, .bool false, .bool false, .bool false, .bool false, .bool false, .bool false, .bool false, .bool false, .bool false, .bool false, .bool false, .bool false, .bool false, .bool false, .bool false, .bool false, .bool false, .bool false, .bool false, .bool false, .bool false, .bool false, .bool false, .bool false, .bool false, .bool false, .bool false, .bool false, .bool false, .bool false, .bool false, .bool false, .bool false, .bool false, .bool false, .bool false, .bool false, .bool false, .bool false, .bool false, .bool false, .bool false, .bool false, .bool false, .bool false, .bool false, .bool false, .bool false, .bool false, .bool false, .bool false, .bool false, .bool false, .bool false, .bool false, .bool false, .bool false, .bool false, .bool false, .bool false, .bool false, .bool false, .bool false, .bool false, .bool false, .bool false, .bool false, .bool false, .bool false, .bool false, .bool false, .bool false, .bool false, .bool false, .bool false, .bool false, .bool false, .bool false, .bool false, .bool false, .bool false, .bool false, .bool false, .bool false, .bool false, .bool false, .bool false, .bool false, .bool false, .bool false, .bool false, .bool false, .bool false, .bool false, .bool false, .bool false, .bool false, .bool false, .bool false, .bool false, .bool false, .bool false, .bool false, .bool false, .bool false, .bool false, .bool false, .bool false, .bool false, .bool false, .bool false, .bool false, .bool false, .bool false, .bool false, .bool false, .bool false, .bool false, .bool false, .bool false, .bool false, .bool false, .bool false, .bool false, .bool false, .bool false, .bool false, .bool false, .bool false, .bool false, .bool false, .bool false, .bool false, .bool false, .bool false, .bool false, .bool false, .bool false, .bool false, .bool false, .bool false, .bool false, .bool false, .bool false, .bool false, .bool false, .bool false, .bool false, .bool false, .bool false, .bool false, .bool false, .bool false, .bool false, .bool false, .bool false, .bool false, .bool false, .bool false, .bool false, .bool false, .bool false, .bool false, .bool false, .bool false, .bool false, .bool false, .bool false, .bool false, .bool false, .bool false, .bool false, .bool false, .bool false, .bool false, .bool false, .bool false, .bool false, .bool false, .bool false, .bool false, .bool false, .bool false, .bool false, .bool false, .bool false, .bool false, .bool false, .bool false, .bool false, .bool false, .bool false, .bool false, .bool false, .bool false, .bool false, .bool false, .bool false, .bool false, .bool false, .bool false, .bool false, .bool false, .bool false, .bool false, .bool false, .bool false, .bool false, .bool false, .bool false, .bool false, .bool false, .bool false, .bool false, .bool false, .bool false, .bool false, .bool false, .bool false, .bool false, .bool false, .bool false, .bool false, .bool false, .bool false, .bool false, .bool false, .bool false, .bool false, .bool false]⟩),
 (261, ⟨1, 8, .other, [.nilFunc]⟩),
 (262, ⟨1, 8, .other, [.nilFunc]⟩),
 (263, ⟨1, 8, .other, [.nilFunc]⟩),
 (264, ⟨1, 8, .ptr 259, [.nilptr]⟩),
 (265, ⟨256, 256, .array 256 5, [.int .u8 0, .int .u8 0, .int .u8 0, .int .u8 0, .int .u8 0, .int .u8 0, .int .u8 0, .int .u8 0, .int .u8 0, .int .u8 0, .int .u8 0, .int .u8 0, .int .u8 0, .int .u8 0, .int .u8 0, .int .u8 0, .int .u8 0, .int .u8 0, .int .u8 0, .int .u8 0, .int .u8 0, .int .u8 0, .int .u8 0, .int .u8 0, .int .u8 0, .int .u8 0, .int .u8 0, .int .u8 0, .int .u8 0, .int .u8 0, .int .u8 0, .int .u8 0, .int .u8 0, .int .u8 0, .int .u8 0, .int .u8 0, .int .u8 0, .int .u8 0, .int .u8 0, .int .u8 0, .int .u8 0, .int .u8 0, .int .u8 0, .int .u8 0, .int .u8 0, .int .u8 0, .int .u8 0, .int .u8 0, .int .u8 0, .int .u8 0, .int .u8 0, .int .u8 0, .int .u8 0, .int .u8 0, .int .u8 0, .int .u8 0, .int .u8 0, .int .u8 0, .int .u8 0, .int .u8 0, .int .u8 0, .int .u8 0, .int .u8 0, .int .u8 0, .int .u8 0, .int .u8 0, .int .u8 0, .int .u8 0, .int .u8 0, .int .u8 0, .int .u8 0, .int .u8 0, .int .u8 0, .int .u8 0, .int .u8 0, .int .u8 0, .int .u8 0, .int .u8 0, .int .u8 0, .int .u8 0, .int .u8 0, .int .u8 0, .int .u8 0, .int .u8 0, .int .u8 0, .int .u8 0, .int .u8 0, .int .u8 0, .int .u8 0, .int .u8 0, .int .u8 0, .int .u8 0, .int .u8 0, .int .u8 0, .int .u8 0, .int .u8 0, .int .u8 0, .int .u8 0, .int .u8 0, .int .u8 0, .int .u8 0, .int .u8 0, .int .u8 0, .int .u8 0, .int .u8 0, .int .u8 0, .int .u8 0, .int .u8 0, .int .u8 0, .int .u8 0, .int .u8 0, .int .u8 0, .int .u8 0, .int .u8 0, .int .u8 0, .int .u8 0, .int .u8 0, .int .u8 0, .int .u8 0, .int .u8 0, .int .u8 0, .int .u8 0, .int .u8 0, .int .u8 0, .int .u8 0, .int .u8 0, .int .u8 0, .int .u8 0, .int .u8 0, .int .u8 0, .int .u8 0, .int .u8 0, .int .u8 0, .int .u8 0, .int .u8 0, .int .u8 0, .int .u8 0, .int .u8 0, .int .u8 0, .int .u8 0, .int .u8 0, .int .u8 0, .int .u8 0, .int .u8 0, .int .u8 0, .int .u8 0, .int .u8 0, .int .u8 0, .int .u8 0, .int .u8 0, .int .u8 0, .int .u8 0, .int .u8 0, .int .u8 0, .int .u8 0, .int .u8 0, .int .u8 0, .int .u8 0, .int .u8 0, .int .u8 0, .int .u8 0, .int .u8 0, .int .u8 0, .int .u8 0, .int .u8 0, .int .u8 0, .int .u8 0, .int .u8 0, .int .u8 0, .int .u8 0, .int .u8 0, .int .u8 0, .int .u8 0, .int .u8 0, .int .u8 0, .int .u8 0, .int .u8 0, .int .u8 0, .int .u8 0, .int .u8 0, .int .u8 0, .int .u8 0, .int .u8 0, .int .u8 0, .int .u8 0, .int .u8 0, .int .u8 0, .int .u8 0, .int .u8 0, .int .u8 0, .int .u8 0, .int .u8 0, .int .u8 0, .int .u8 0, .int .u8 0, .int .u8 0, .int .u8 0, .int .u8 0, .int .u8 0, .int .u8 0, .int .u8 0, .int .u8 0, .int .u8 0, .int .u8 0, .int .u8 0, .int .u8 0, .int .u8 0, .int .u8 0, .int .u8 0, .int .u8 0, .int .u8 0, .int .u8 0, .int .u8 0, .int .u8 0, .int .u8 0, .int .u8 0, .int .u8 0, .int .u8 0, .int .u8 0, .int .u8 0, .int .u8 0, .int .u8 0, .int .u8 0, .int .u8 0, .int .u8 0, .int .u8 0, .int .u8 0, .int .u8 0, .int .u8 0, .int .u8 0, .int .u8 0, .int .u8 0, .int .u8 0, .int .u8 0, .int .u8 0, .int .u8 0, .int .u8 0, .int .u8 0, .int .u8 0, .int .u8 0, .int .u8 0, .int .u8 0, .int .u8 0, .int .u8 0, .int .u8 0, .int .u8 0, .int .u8 0, .int .u8 0, .int .u8 0, .int .u8 0, .int .u8 0, .int .u8 0, .int .u8 0, .int .u8 0, .int .u8 0, .int .u8 0]⟩),
 (266, ⟨2, 2, .struct [(0, 5), (1, 5)], [.int .u8 0, .int .u8 0]⟩),
 (267, ⟨2, 2, .struct [(0, 5), (1, 5)], [.int .u8 0, .int .u8 0]⟩),
 (268, ⟨32, 32, .array 16 267, [.int .u8 0, .int .u8 0, .int .u8 0, .int .u8 0, .int .u8 0, .int .u8 0, .int .u8 0, .int .u8 0, .int .u8 0, .int .u8 0, .int .u8 0, .int .u8 0, .int .u8 0, .int .u8 0, .int .u8 0, .int .u8 0, .int .u8 0, .int .u8 0, .int .u8 0, .int .u8 0, .int .u8 0, .int .u8 0, .int .u8 0, .int .u8 0, .int .u8 0, .int .u8 0, .int .u8 0, .int .u8 0, .int .u8 0, .int .u8 0, .int .u8 0, .int .u8 0]⟩),
 (269, ⟨1, 4, .int .u32, [.int .u32 0]⟩),
 (271, ⟨1, 8, .other, [.nilFunc]⟩),
 (272, ⟨4, 40, .struct [(0, 17), (1, 17), (2, 17), (3, 9)], [.nilptr, .nilptr, .nilptr, .str []]⟩),
 (273, ⟨4, 40, .struct [(0, 17), (1, 17), (2, 17), (3, 9)], [.nilptr, .nilptr, .nilptr, .str []]⟩),
 (274, ⟨0, 0, .array 0 16, []⟩),
 (275, ⟨0, 0, .struct [(0, 274)], []⟩),
 (276, ⟨0, 0, .struct [(0, 274)], []⟩),
 (277, ⟨1, 1, .int .u8, [.int .u8 0]⟩),
 (278, ⟨1, 1, .int .u8, [.int .u8 0]⟩),
 (279, ⟨1, 8, .other, [.nilFunc]⟩),
 (280, ⟨1, 4, .int .i32, [.int .i32 0]⟩),
 (281, ⟨1, 4, .int .i32, [.int .i32 0]⟩),
 (282, ⟨11, 48, .struct [(0, 12), (1, 12), (2, 269), (3, 277), (4, 5), (5, 5), (6, 278), (7, 279), (8, 221), (9, 280), (10, 281)], [.int .u64 0, .int .u64 0, .int .u32 0, .int .u8 0, .int .u8 0, .int .u8 0, .int .u8 0, .nilFunc, .nilptr, .int .i32 0, .int .i32 0]⟩),
 (283, ⟨11, 48, .struct [(0, 12), (1, 12), (2, 269), (3, 277), (4, 5), (5, 5), (6, 278), (7, 279), (8, 221), (9, 280), (10, 281)], [.int .u64 0, .int .u64 0, .int .u32 0, .int .u8 0, .int .u8 0, .int .u8 0, .int .u8 0, .nilFunc, .nilptr, .int .i32 0, .int .i32 0]⟩),
 (284, ⟨1, 8, .other, [.nilFunc]⟩),
 (286, ⟨1, 8, .other, [.nilFunc]⟩),
 (287, ⟨1, 8, .other, [.nilFunc]⟩),
 (288, ⟨1, 8, .other, [.nilFunc]⟩),
 (289, ⟨1, 8, .other, [.nilFunc]⟩),
 (290, ⟨1, 8, .other, [.nilFunc]⟩),
 (291, ⟨1, 24, .slice 22, [.sl 0 [] .full]⟩),
 (292, ⟨1, 8, .other, [.nilFunc]⟩),
 (293, ⟨1, 8, .other, [.nilFunc]⟩),
 (294, ⟨1, 8, .other, [.nilFunc]⟩),
 (295, ⟨1, 8, .other, [.nilFunc]⟩),
 (296, ⟨1, 8, .other, [.nilFunc]⟩),
 (297, ⟨1, 8, .other, [.nilFunc]⟩),
 (298, ⟨1, 8, .other, [.nilFunc]⟩),
 (300, ⟨1, 8, .other, [.nilFunc]⟩),
 (301, ⟨1, 8, .other, [.nilFunc]⟩),
 (302, ⟨1, 24, .slice 189, [.sl 0 [] .full]⟩),
 (303, ⟨1, 8, .other, [.nilFunc]⟩)]
def eqs : List Go.TypeId := [55, 57, 77, 96, 98, 100, 181, 204, 242]
theorem tabOK : Go.Ab.TabOK Tryz.prog tab := Go.Ab.tabOK_of (by kernel_rfl)
end Go.Proofs.YtmgkebghojhocaaGreatDoor
/- One step of a walk, reckoned. -/
set_option linter.unusedVariables false
set_option linter.unusedSimpArgs false
namespace Go.Ab
open Go.RowKit
def isBools : AV → AV → Bool
 | .bool _, .bool _ => true
 | _, _ => false
def boolT (τ : Tab) (t : TypeId) : Bool := match lookup τ t with | some i => (match i.k with | .bool => true | _ => false) | none => false
theorem boolT_spec {P : Program} {τ : Tab} (hτ : TabOK P τ) {t : TypeId} (h : boolT τ t = true) : P.underlying t = some .bool := by
 unfold boolT at h
 split at h
 case h_2 => cases h
 rename_i i hi
 obtain ⟨f, d, z, H⟩ := TI.spec hτ hi
 have hf := H.fits
 split at h
 case h_2 => cases h
 rename_i hk
 rw [hk] at hf
 cases d <;> simp [TK.fits] at hf
 exact H.und
/-- An array's element, at a place that is known. -/
def arrAt (τ : Tab) (t : TypeId) (ix : AV) : Option (Nat × TI) :=
 match lookup τ t, ix with
 | some i, .int _ n => (match i.k with | .array len e => (match lookup τ e with | some ei => if 0 ≤ n ∧ n < len then some (n.toNat, ei) else none | none => none) | _ => none)
 | _, _ => none
/-- What only reckons. -/
def stepP (τ : Tab) (ρ : Operand → AV) (op : Op) : Option AV :=
 match op with
 | .move x => some (ρ x)
 | .assign x => some (ρ x)
 | .pick c a b => apick (ρ c) (ρ a) (ρ b)
 | .binOp b xt x y _ => if isBools (ρ x) (ρ y) = true then (if boolT τ xt = true then abin b (ρ x) (ρ y) else none) else abin b (ρ x) (ρ y)
 | .unOp u _ x => aun u (ρ x)
 | .convert s d x => aconv τ s d (ρ x)
 | .makeInterface t x => amake τ t (ρ x)
 | .makeFunc g a b => some (.fn g (a.toList.map ρ) (b.toList.map ρ))
 | .extract t i => aext (ρ t) i
 | .field t x j => afield τ t j (ρ x)
 | .load t x => aload τ t (ρ x)
 | .fieldAddr t x j => afaddr τ t j (ρ x)
 | .call { callee := .builtin .len, args := ⟨[x]⟩, argTypes := ⟨[t]⟩ } => alenT τ t (ρ x)
 | .call { callee := .builtin .min, args := ⟨[x, y]⟩, argTypes := _ } => amm false (ρ x) (ρ y)
 | .call { callee := .builtin .max, args := ⟨[x, y]⟩, argTypes := _ } => amm true (ρ x) (ρ y)
 | _ => none
theorem stepP_sound {P : Program} {τ : Tab} (hτ : TabOK P τ) {ρ : Operand → AV} {op : Op} {ty : TypeId} {x : AV} (h : stepP τ ρ op = some x) : OpP P op ty ρ x := by
 unfold stepP at h
 split at h
 ·cases h; exact opP_move
 ·cases h; exact opP_assign
 ·exact opP_pick h
 ·split at h
  ·split at h
   ·rename_i hb; exact opP_bin (fun _ => boolT_spec hτ hb) h
   ·cases h
  ·rename_i hb
   refine opP_bin ?_ h
   rintro ⟨p, q, e1, e2⟩
   rw [e1, e2] at hb
   exact absurd rfl hb
 ·exact opP_un h
 ·exact opP_conv hτ h
 ·exact opP_make hτ h
 ·cases h; exact opP_func
 ·exact opP_ext h
 ·exact opP_field hτ h
 ·exact opP_load hτ h
 ·exact opP_faddr hτ h
 ·exact opP_len hτ h
 ·exact opP_min h
 ·exact opP_max h
 ·cases h
/-- What reads the objects. -/
def stepR (τ : Tab) (ρ : Operand → AV) (M : Mem) (op : Op) : Option AV :=
 match op with
 | .load t x => aloadM M τ t (ρ x)
 | .fieldAddr t x j => afaddrM M τ t j (ρ x)
 | .nilCheck x => anil M (ρ x)
 | _ => none
theorem stepR_sound {P : Program} {τ : Tab} (hτ : TabOK P τ) {ρ : Operand → AV} {M : Mem} {op : Op} {ty : TypeId} {x : AV} (h : stepR τ ρ M op = some x) : OpR P op ty ρ M x := by
 unfold stepR at h
 split at h
 ·exact opR_load hτ h
 ·exact opR_faddr hτ h
 ·exact opR_nil h
 ·cases h
def stepStore (τ : Tab) (M : Mem) (t : TypeId) (x y : AV) : Option Mem :=
 match x with
 | .ptr id off =>
  match M.get id, lookup τ t with
  | some (.cells l), some i => if y.solid = true ∧ y.cells.length = i.size ∧ off + i.size ≤ l.length then some (M.set id (.cells (writeAt l off y.cells))) else none
  | _, _ => none
 | _ => none
/-- What turns them. -/
def stepE (τ : Tab) (ρ : Operand → AV) (M : Mem) (op : Op) : Option (AV × Mem) :=
 match op with
 | .box _ x => if (ρ x).solid = true then some (.ptr M.next 0, M.push (.cells (ρ x).cells)) else none
 | .alloc t => (match lookup τ t with | some i => if (i.agg = true ∨ i.size = 1) ∧ i.zv.solid = true then some (.ptr M.next 0, M.push (.cells i.zv.cells)) else none | none => none)
 | .store t x y => (match stepStore τ M t (ρ x) (ρ y) with | some M' => some (.top, M') | none => none)
 | _ => none
theorem stepE_sound {P : Program} {τ : Tab} (hτ : TabOK P τ) {ρ : Operand → AV} {M M' : Mem} {op : Op} {ty : TypeId} {x : AV} (h : stepE τ ρ M op = some (x, M')) : OpE P op ty ρ M x M' := by
 unfold stepE at h
 split at h
 ·split at h
  ·rename_i hs; cases h; exact opE_box hs
  ·cases h
 ·split at h
  case h_2 => cases h
  rename_i i hi
  split at h
  ·rename_i hs; cases h; exact opE_alloc hτ hi hs.1 hs.2
  ·cases h
 ·split at h
  case h_2 => cases h
  rename_i M1 hM
  cases h
  unfold stepStore at hM
  split at hM
  case h_2 => cases hM
  rename_i id off e
  split at hM
  case h_2 => cases hM
  rename_i l i hl hi
  split at hM
  case isFalse => cases hM
  rename_i hs
  cases hM
  exact opE_store hτ hi e hl hs.1 hs.2.1 hs.2.2
 ·cases h
/-- The value, laid open (so that the walk's frames hold values, not what makes them). -/
def AV.force : AV → Option AV
 | .int k n => some (.int k n)
 | .bool b => some (.bool b)
 | .str s => some (.str s)
 | .sl z xs t => some (.sl z xs t)
 | .ptr i o => some (.ptr i o)
 | .ref c => some (.ref c)
 | .nilptr => some .nilptr
 | .nilIface => some .nilIface
 | .iface t v => some (.iface t v)
 | .nilFunc => some .nilFunc
 | .fn f a b => some (.fn f a b)
 | .agg l => some (.agg l)
 | .tup l => some (.tup l)
 | .map i => some (.map i)
 | .nilmap => some .nilmap
 | .osl i o n c z => some (.osl i o n c z)
 | .yld i => some (.yld i)
 | .bsl i g n c => some (.bsl i g n c)
 | .top => some .top
theorem AV.force_spec {x y : AV} (h : x.force = some y) : x = y := by cases x <;> (simp only [AV.force, Option.some.injEq] at h; exact h)
def Mem.force : Mem → Option Mem
 | ⟨n, l⟩ => some ⟨n, l⟩
theorem Mem.force_spec {x y : Mem} (h : x.force = some y) : x = y := by cases x; simp only [Mem.force, Option.some.injEq] at h; exact h
end Go.Ab
