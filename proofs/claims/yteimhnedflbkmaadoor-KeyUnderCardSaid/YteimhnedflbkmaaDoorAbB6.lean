/- The rules of a walk: one for each kind of operation, for regions of either kind. -/
import Derived.Test.YteimhnedflbkmaaDoorAbB5
set_option linter.unusedVariables false
set_option linter.unusedSimpArgs false
namespace Go.Ab
open Go.RowKit

theorem SC.of_P {P : Program} {o : Oper} {c : Cls} {ρ : Operand → AV} {M : Mem} {K Kp : AV → Mem → Prop} {x : AV} (h : OpP P o.op o.type ρ x) (hk : K x M) : SC P o c ρ M K Kp := by
  cases c with
  | P => exact ⟨x, fun N => OpG.of_E (OpR.toE (M := N) h.toR) ⟨rfl, rfl⟩, hk⟩
  | R => exact ⟨x, OpG.of_E (OpR.toE (M := M) h.toR) ⟨rfl, rfl⟩, hk⟩
  | E => exact OpG.of_E (OpR.toE (M := M) h.toR) hk

def notP : Cls → Bool
  | .P => false
  | _ => true
def isE : Cls → Bool
  | .E => true
  | _ => false

theorem SC.of_R {P : Program} {o : Oper} {c : Cls} (hc : notP c = true) {ρ : Operand → AV} {M : Mem} {K Kp : AV → Mem → Prop} {x : AV} (h : OpR P o.op o.type ρ M x) (hk : K x M) : SC P o c ρ M K Kp := by
  cases c with
  | P => cases hc
  | R => exact ⟨x, OpG.of_E h.toE ⟨rfl, rfl⟩, hk⟩
  | E => exact OpG.of_E h.toE hk

theorem SC.of_E {P : Program} {o : Oper} {c : Cls} (hc : isE c = true) {ρ : Operand → AV} {M M' : Mem} {K Kp : AV → Mem → Prop} {x : AV} (h : OpE P o.op o.type ρ M x M') (hk : K x M') : SC P o c ρ M K Kp := by
  cases c with
  | E => exact OpG.of_E h hk
  | _ => cases hc

theorem opG_call {P : Program} {o : Oper} {x : Operand} {as : Array Operand} {ts : Array TypeId} (ho : o.op = .call { callee := .value x, args := as, argTypes := ts }) {ρ : Operand → AV} {M : Mem} {g : FuncId} {fi ca : List AV}
    (hx : ρ x = .fn (.func g) fi ca) {R : AEnd → Mem → Prop} (hc : ACalls P g (fi ++ as.toList.map ρ ++ ca) M R) {K Kp : AV → Mem → Prop} (h1 : ∀ u M', R (.ret u) M' → K u M') (h2 : ∀ u M', R (.pan u) M' → Kp u M') : OpG P o ρ M K Kp := by
  intro μ F w a hg hr next Q' g1 g2
  have hv := hr x (by simp [ho, Op.operands, Call.operands])
  rw [hx] at hv
  obtain ⟨c1, c2, he, hs1, hs2, f1, f2⟩ := hv.fn_inv
  have hargs : RepL μ F w (as.toList.map ρ) (as.map a.eval) := RepL.map fun y hy => hr y (by simp [ho, Op.operands, Call.operands, hy])
  have hall : RepL μ F w (fi ++ as.toList.map ρ ++ ca) (c1 ++ as.map a.eval ++ c2) := (RepL.app ⟨hs1, f1⟩ hargs).app ⟨hs2, f2⟩
  have hcall := hc.2 μ F w _ hg hall
  have hrun : (execOp a.eval o).run P w = .ok (.enter g (c1 ++ as.map a.eval ++ c2)) w := by
    simp [execOp, ho, resolve, he, Deferred.ofValue, invoke, run_enter hc.1]
  unfold Oper.wp
  rw [hrun]
  simp only [Oper.upon]
  refine hcall.mono ?_
  rintro e w' ⟨μ', M', e1, e2, e3⟩
  cases e with
  | returned v =>
    obtain ⟨u, e4, e5⟩ := e3
    exact g1 μ' M' w' v u e1 e2 e4 (h1 u M' e5)
  | panicked ch =>
    obtain ⟨u, v, rfl, e4, e5⟩ := e3
    exact g2 μ' M' w' v u e1 e2 e4 (h2 u M' e5)
  | outgrown => exact e3.elim

section
variable {P : Program} {τ : Tab} {ops : Array Oper} {cls : Nat → Cls} {Q : AX → AF → Mem → Prop} {ds : List ADef} {l : List Nat} {i : Nat} {o : Oper} {t : List (Nat × AV)} {M M' : Mem} {x : AV}

theorem DW_nil (h : Q .normal ⟨t, ds⟩ M) : DW P ops cls Q ds [] t M := ⟨h⟩

theorem DW_run (hi : ops[i]? = some o) (hw : wantedA ops ⟨t, ds⟩ o = some true) (h : SC P o (cls i) (AF.ev ⟨t, ds⟩) M (fun x M' => DW P ops cls Q ds l (AF.put ⟨t, ds⟩ o.dst x).t M') fun v M' => Q (.panic v) ⟨[], ds⟩ M') :
    DW P ops cls Q ds (i :: l) t M := by
  refine ⟨?_⟩
  unfold DWr
  simp only [hi, hw]
  exact SC.mono h fun u N _ hu => hu.run

/-- An operation that is passed over. -/
theorem DW_no {d : Nat} (hi : ops[i]? = some o) (hw : wantedA ops ⟨t, ds⟩ o = some false) (hd : o.dst = some d) (h : DW P ops cls Q ds l ((d, .tup []) :: t) M) : DW P ops cls Q ds (i :: l) t M := by
  refine ⟨?_⟩
  unfold DWr
  simp only [hi, hw]
  simpa [AF.put, hd] using h.run
theorem DW_no0 (hi : ops[i]? = some o) (hw : wantedA ops ⟨t, ds⟩ o = some false) (hd : o.dst = none) (h : DW P ops cls Q ds l t M) : DW P ops cls Q ds (i :: l) t M := by
  refine ⟨?_⟩
  unfold DWr
  simp only [hi, hw]
  simpa [AF.put, hd] using h.run

theorem DW_ofP {d : Nat} (hi : ops[i]? = some o) (hw : wantedA ops ⟨t, ds⟩ o = some true) (hd : o.dst = some d) (ho : OpP P o.op o.type (AF.ev ⟨t, ds⟩) x) (h : DW P ops cls Q ds l ((d, x) :: t) M) : DW P ops cls Q ds (i :: l) t M :=
  DW_run hi hw (SC.of_P ho (by simpa [AF.put, hd] using h))
theorem DW_ofR {d : Nat} (hi : ops[i]? = some o) (hw : wantedA ops ⟨t, ds⟩ o = some true) (hd : o.dst = some d) (hc : notP (cls i) = true) (ho : OpR P o.op o.type (AF.ev ⟨t, ds⟩) M x) (h : DW P ops cls Q ds l ((d, x) :: t) M) : DW P ops cls Q ds (i :: l) t M :=
  DW_run hi hw (SC.of_R hc ho (by simpa [AF.put, hd] using h))
theorem DW_ofE {d : Nat} (hi : ops[i]? = some o) (hw : wantedA ops ⟨t, ds⟩ o = some true) (hd : o.dst = some d) (hc : isE (cls i) = true) (ho : OpE P o.op o.type (AF.ev ⟨t, ds⟩) M x M') (h : DW P ops cls Q ds l ((d, x) :: t) M') : DW P ops cls Q ds (i :: l) t M :=
  DW_run hi hw (SC.of_E hc ho (by simpa [AF.put, hd] using h))
theorem DW_ofE0 (hi : ops[i]? = some o) (hw : wantedA ops ⟨t, ds⟩ o = some true) (hd : o.dst = none) (hc : isE (cls i) = true) (ho : OpE P o.op o.type (AF.ev ⟨t, ds⟩) M x M') (h : DW P ops cls Q ds l t M') : DW P ops cls Q ds (i :: l) t M :=
  DW_run hi hw (SC.of_E hc ho (by simpa [AF.put, hd] using h))

def forceP (x : Option AV) : Option AV := match x with | some y => y.force | none => none
theorem forceP_spec {y : Option AV} (h : forceP y = some x) : y = some x := by
  cases y with
  | none => cases h
  | some z => exact congrArg some (AV.force_spec h)
/-- The memory's newest object, laid open. -/
def Mem.forceN : Mem → Option Mem
  | ⟨n, (i, .cells (c :: r)) :: l⟩ => (match c.force with | some c' => some ⟨n, (i, .cells (c' :: r)) :: l⟩ | none => none)
  | ⟨n, l⟩ => some ⟨n, l⟩

theorem Mem.forceN_spec {x y : Mem} (h : x.forceN = some y) : x = y := by
  unfold Mem.forceN at h
  split at h
  · split at h
    · rename_i hc
      cases h
      rw [AV.force_spec hc]
    · cases h
  · cases h; rfl

def forceE (x : Option (AV × Mem)) : Option (AV × Mem) := match x with | some (y, N) => (match y.force, N.forceN with | some z, some N' => some (z, N') | _, _ => none) | none => none
theorem forceE_spec {y : Option (AV × Mem)} (h : forceE y = some (x, M')) : y = some (x, M') := by
  unfold forceE at h
  split at h
  case h_2 => cases h
  split at h
  case h_2 => cases h
  rename_i h1 h2
  cases h
  rw [AV.force_spec h1, Mem.forceN_spec h2]

/-- What more only reckons. -/
def stepP2 (τ : Tab) (ρ : Operand → AV) (op : Op) : Option AV :=
  match op with
  | .build t ps => abuild τ t (ps.toList.map fun p => (p.1, ρ p.2))
  | .indexAddr t x ix => aarr τ t (ρ x) (ρ ix)
  | .nilCheck x => (match ρ x with | .ref c => some (.ref c) | .fn (.func g) a b => some (.fn (.func g) a b) | _ => none)
  | op => stepP τ ρ op

theorem opP_nil {P : Program} {x : Operand} {ty : TypeId} {ρ : Operand → AV} {r : AV} (h : (match ρ x with | .ref c => some (AV.ref c) | .fn (.func g) a b => some (.fn (.func g) a b) | _ => none) = some r) : OpP P (.nilCheck x) ty ρ r := by
  refine opP_of_same ?_
  intro μ F w ρc o ho ht hr
  have hx := hr x (by simp [Op.operands])
  split at h
  · rename_i cells e
    cases h
    have hx' := hx
    rw [e] at hx hx'
    obtain ⟨b, off, hv⟩ := rep_ref_form hx
    rw [hv] at hx'
    exact ⟨_, by simp [execOp, ho, hv], hx'⟩
  · rename_i g l1 l2 e
    cases h
    have hx' := hx
    rw [e] at hx hx'
    obtain ⟨c1, c2, hv, _⟩ := hx.fn_inv
    rw [hv] at hx'
    exact ⟨_, by simp [execOp, ho, hv], hx'⟩
  · cases h

theorem stepP2_sound (hτ : TabOK P τ) {ρ : Operand → AV} {op : Op} {ty : TypeId} (h : stepP2 τ ρ op = some x) : OpP P op ty ρ x := by
  unfold stepP2 at h
  split at h
  · exact opP_build hτ h
  · exact opP_arr hτ h
  · exact opP_nil h
  · exact stepP_sound hτ h

def stepR2 (τ : Tab) (ρ : Operand → AV) (M : Mem) (op : Op) : Option AV :=
  match op with
  | .indexAddr t x ix => aarrM M τ t (ρ x) (ρ ix)
  | op => stepR τ ρ M op

theorem stepR2_sound (hτ : TabOK P τ) {ρ : Operand → AV} {op : Op} {ty : TypeId} (h : stepR2 τ ρ M op = some x) : OpR P op ty ρ M x := by
  unfold stepR2 at h
  split at h
  · exact opR_arr hτ h
  · exact stepR_sound hτ h

/-- One step, reckoned. -/
theorem DW_P (hτ : TabOK P τ) {d : Nat} (hi : ops[i]? = some o) (hw : wantedA ops ⟨t, ds⟩ o = some true) (hd : o.dst = some d) (ho : forceP (stepP2 τ (AF.ev ⟨t, ds⟩) o.op) = some x) (h : DW P ops cls Q ds l ((d, x) :: t) M) : DW P ops cls Q ds (i :: l) t M :=
  DW_ofP hi hw hd (stepP2_sound hτ (forceP_spec ho)) h
theorem DW_R (hτ : TabOK P τ) {d : Nat} (hi : ops[i]? = some o) (hw : wantedA ops ⟨t, ds⟩ o = some true) (hd : o.dst = some d) (ho : forceP (stepR2 τ (AF.ev ⟨t, ds⟩) M o.op) = some x) (hc : notP (cls i) = true) (h : DW P ops cls Q ds l ((d, x) :: t) M) : DW P ops cls Q ds (i :: l) t M :=
  DW_ofR hi hw hd hc (stepR2_sound hτ (forceP_spec ho)) h
theorem DW_E (hτ : TabOK P τ) {d : Nat} (hi : ops[i]? = some o) (hw : wantedA ops ⟨t, ds⟩ o = some true) (hd : o.dst = some d) (ho : forceE (stepE τ (AF.ev ⟨t, ds⟩) M o.op) = some (x, M')) (hc : isE (cls i) = true) (h : DW P ops cls Q ds l ((d, x) :: t) M') : DW P ops cls Q ds (i :: l) t M :=
  DW_ofE hi hw hd hc (stepE_sound hτ (forceE_spec ho)) h
theorem DW_E0 (hτ : TabOK P τ) (hi : ops[i]? = some o) (hw : wantedA ops ⟨t, ds⟩ o = some true) (hd : o.dst = none) (ho : forceE (stepE τ (AF.ev ⟨t, ds⟩) M o.op) = some (x, M')) (hc : isE (cls i) = true) (h : DW P ops cls Q ds l t M') : DW P ops cls Q ds (i :: l) t M :=
  DW_ofE0 hi hw hd hc (stepE_sound hτ (forceE_spec ho)) h

/-- A call. -/
theorem DW_call {d : Nat} (hi : ops[i]? = some o) (hw : wantedA ops ⟨t, ds⟩ o = some true) (hd : o.dst = some d) {y : Operand} {as : Array Operand} {ts : Array TypeId} (ho : o.op = .call { callee := .value y, args := as, argTypes := ts })
    {g : FuncId} {fi ca : List AV} (hx : AF.ev ⟨t, ds⟩ y = .fn (.func g) fi ca) (hc : isE (cls i) = true) {R : AEnd → Mem → Prop} (hcall : ACalls P g (fi ++ as.toList.map (AF.ev ⟨t, ds⟩) ++ ca) M R)
    (h1 : ∀ u M', R (.ret u) M' → DW P ops cls Q ds l ((d, u) :: t) M') (h2 : ∀ u M', R (.pan u) M' → Q (.panic u) ⟨[], ds⟩ M') : DW P ops cls Q ds (i :: l) t M := by
  refine DW_run hi hw ?_
  have : SC P o .E (AF.ev ⟨t, ds⟩) M (fun x M' => DW P ops cls Q ds l (AF.put ⟨t, ds⟩ o.dst x).t M') fun v M' => Q (.panic v) ⟨[], ds⟩ M' :=
    opG_call ho hx hcall (fun u M' hu => by simpa [AF.put, hd] using h1 u M' hu) h2
  generalize cls i = c at hc ⊢
  cases c with
  | E => exact this
  | _ => cases hc
theorem DW_call0 (hi : ops[i]? = some o) (hw : wantedA ops ⟨t, ds⟩ o = some true) (hd : o.dst = none) {y : Operand} {as : Array Operand} {ts : Array TypeId} (ho : o.op = .call { callee := .value y, args := as, argTypes := ts })
    {g : FuncId} {fi ca : List AV} (hx : AF.ev ⟨t, ds⟩ y = .fn (.func g) fi ca) (hc : isE (cls i) = true) {R : AEnd → Mem → Prop} (hcall : ACalls P g (fi ++ as.toList.map (AF.ev ⟨t, ds⟩) ++ ca) M R)
    (h1 : ∀ u M', R (.ret u) M' → DW P ops cls Q ds l t M') (h2 : ∀ u M', R (.pan u) M' → Q (.panic u) ⟨[], ds⟩ M') : DW P ops cls Q ds (i :: l) t M := by
  refine DW_run hi hw ?_
  have : SC P o .E (AF.ev ⟨t, ds⟩) M (fun x M' => DW P ops cls Q ds l (AF.put ⟨t, ds⟩ o.dst x).t M') fun v M' => Q (.panic v) ⟨[], ds⟩ M' :=
    opG_call ho hx hcall (fun u M' hu => by simpa [AF.put, hd] using h1 u M' hu) h2
  generalize cls i = c at hc ⊢
  cases c with
  | E => exact this
  | _ => cases hc

/-- A call that hands back just this, and leaves the objects. -/
theorem DW_pure {d : Nat} (hi : ops[i]? = some o) (hw : wantedA ops ⟨t, ds⟩ o = some true) (hd : o.dst = some d) {y : Operand} {as : Array Operand} {ts : Array TypeId} (ho : o.op = .call { callee := .value y, args := as, argTypes := ts })
    {g : FuncId} {fi ca : List AV} (hx : AF.ev ⟨t, ds⟩ y = .fn (.func g) fi ca) (hcall : APure P g (fi ++ as.toList.map (AF.ev ⟨t, ds⟩) ++ ca) x)
    (h : DW P ops cls Q ds l ((d, x) :: t) M) : DW P ops cls Q ds (i :: l) t M := by
  refine DW_run hi hw ?_
  have key : ∀ N, OpG P o (AF.ev ⟨t, ds⟩) N (fun u M' => u = x ∧ M' = N) fun _ _ => False := fun N =>
    opG_call ho hx (hcall N) (fun u M' hu => by obtain ⟨e1, e2⟩ := hu; cases e1; exact ⟨rfl, e2⟩) (fun u M' hu => by cases hu.1)
  have hk : DW P ops cls Q ds l (AF.put ⟨t, ds⟩ o.dst x).t M := by simpa [AF.put, hd] using h
  generalize cls i = c
  cases c with
  | P => exact ⟨x, key, hk⟩
  | R => exact ⟨x, key M, hk⟩
  | E =>
    refine (opG_call ho hx (hcall M) (fun u M' hu => ?_) (fun u M' hu => by cases hu.1) : OpG P o _ M _ _)
    obtain ⟨e1, e2⟩ := hu
    cases e1
    subst e2
    exact hk

/-- The program's own panic. -/
theorem DW_panic (hi : ops[i]? = some o) (hw : wantedA ops ⟨t, ds⟩ o = some true) {y : Operand} (ho : o.op = .panic y) {ty : TypeId} {z : AV} (hx : AF.ev ⟨t, ds⟩ y = .iface ty z) (hc : isE (cls i) = true) (h : Q (.panic (.iface ty z)) ⟨[], ds⟩ M) : DW P ops cls Q ds (i :: l) t M := by
  refine DW_run hi hw ?_
  have : OpG P o (AF.ev ⟨t, ds⟩) M (fun x M' => DW P ops cls Q ds l (AF.put ⟨t, ds⟩ o.dst x).t M') fun v M' => Q (.panic v) ⟨[], ds⟩ M' := by
    intro μ F w a hg hr next Q' g1 g2
    have hv := hr y (by simp [ho, Op.operands])
    rw [hx] at hv
    generalize hu : a.eval y = u at hv
    have hv0 := hv
    cases hv with
    | iface _ _ v hy =>
      unfold Oper.wp
      have hrun : (execOp a.eval o).run P w = .halt (.panic (.iface ty v)) w := by simp [execOp, ho, hu, Instr.panic]
      rw [hrun]
      exact g2 μ M w _ _ (Evo.refl _ _) hg hv0 h
  generalize cls i = c at hc ⊢
  cases c with
  | E => exact this
  | _ => cases hc

/-- An element of a slice. -/
theorem DW_index (hτ : TabOK P τ) {d : Nat} (hi : ops[i]? = some o) (hw : wantedA ops ⟨t, ds⟩ o = some true) (hd : o.dst = some d) {ty e : TypeId} {X I : Operand} (ho : o.op = .indexAddr ty X I) {sz : Nat} {xs : List AV} {tag : Tag}
    (hX : AF.ev ⟨t, ds⟩ X = .sl sz xs tag) {k : IntKind} {n : Int} (hI : AF.ev ⟨t, ds⟩ I = .int k n) {ti ei : TI} (ht : lookup τ ty = some ti) (hk : ti.k = .slice e) (he : lookup τ e = some ei) (hsz : sz = ei.size) (h0 : 0 ≤ n) (hel : xs[n.toNat]? = some x)
    (h : DW P ops cls Q ds l ((d, .ref x.cells) :: t) M) : DW P ops cls Q ds (i :: l) t M :=
  DW_ofP hi hw hd (by rw [ho]; exact opP_index hτ ht hk he hX hI h0 hel hsz) h

/-- A byte of a string. -/
theorem DW_byte (hτ : TabOK P τ) {d : Nat} (hi : ops[i]? = some o) (hw : wantedA ops ⟨t, ds⟩ o = some true) (hd : o.dst = some d) {ty : TypeId} {X I : Operand} (ho : o.op = .index ty X I) {s : List UInt8} (hX : AF.ev ⟨t, ds⟩ X = .str s)
    {k : IntKind} {n : Int} (hI : AF.ev ⟨t, ds⟩ I = .int k n) {ti : TI} (ht : lookup τ ty = some ti) (hk : ti.k = .str) (h0 : 0 ≤ n) {c : UInt8} (hel : s[n.toNat]? = some c) (h : DW P ops cls Q ds l ((d, .int .u8 c.toNat) :: t) M) : DW P ops cls Q ds (i :: l) t M :=
  DW_ofP hi hw hd (by rw [ho]; exact opP_byte hτ ht hk hX hI h0 hel) h

/-- A slice of its elements. -/
theorem DW_lit (hτ : TabOK P τ) {d : Nat} (hi : ops[i]? = some o) (hw : wantedA ops ⟨t, ds⟩ o = some true) (hd : o.dst = some d) {ty e : TypeId} {n : Nat} {ps : Array (Nat × Operand)} (ho : o.op = .buildSlice ty n ps) {ti ei : TI} (ht : lookup τ ty = some ti) (hk : ti.k = .slice e)
    (he : lookup τ e = some ei) (hpos : decide (0 < ei.size) = true) (hn : ps.size = n) (hidx : idxOK ps.toList 0 = true) (hsz : sizedAll ei.size (ps.toList.map fun p => AF.ev ⟨t, ds⟩ p.2) = true) (hbig : decide (n * ei.size ≤ 16777216) = true)
    (h : DW P ops cls Q ds l ((d, .sl ei.size (ps.toList.map fun p => AF.ev ⟨t, ds⟩ p.2) .full) :: t) M) : DW P ops cls Q ds (i :: l) t M :=
  DW_ofP hi hw hd (by rw [ho]; exact opP_buildSlice hτ ht hk he (of_decide_eq_true hpos) hn hidx hsz (of_decide_eq_true hbig)) h

/-- s[lo:hi] of a string. -/
theorem DW_substr (hτ : TabOK P τ) {d : Nat} (hi : ops[i]? = some o) (hw : wantedA ops ⟨t, ds⟩ o = some true) (hd : o.dst = some d) {ty : TypeId} {X : Operand} {L H : Option Operand} (ho : o.op = .slice ty X L H none) {s : List UInt8} {lo hi' : Int} (hX : AF.ev ⟨t, ds⟩ X = .str s)
    {ti : TI} (ht : lookup τ ty = some ti) (hk : ti.k = .str) (hL : bnd (L.map (AF.ev ⟨t, ds⟩)) 0 = some lo) (hH : bnd (H.map (AF.ev ⟨t, ds⟩)) s.length = some hi') (h0 : 0 ≤ lo) (h1 : lo ≤ hi') (h2 : hi' ≤ s.length)
    (h : DW P ops cls Q ds l ((d, .str ((s.take hi'.toNat).drop lo.toNat)) :: t) M) : DW P ops cls Q ds (i :: l) t M :=
  DW_ofP hi hw hd (by rw [ho]; exact opP_substr hτ ht hk hX hL hH h0 h1 h2) h

/-- s[lo:hi] of a slice. -/
theorem DW_slice (hτ : TabOK P τ) {d : Nat} (hi : ops[i]? = some o) (hw : wantedA ops ⟨t, ds⟩ o = some true) (hd : o.dst = some d) {ty e : TypeId} {X : Operand} {L H : Option Operand} (ho : o.op = .slice ty X L H none) {sz : Nat} {xs : List AV} {tg : Tag} {lo hi' : Int}
    (hX : AF.ev ⟨t, ds⟩ X = .sl sz xs tg) {ti ei : TI} (ht : lookup τ ty = some ti) (hk : ti.k = .slice e) (he : lookup τ e = some ei) (hsz : sz = ei.size) (hL : bnd (L.map (AF.ev ⟨t, ds⟩)) 0 = some lo) (hH : bnd (H.map (AF.ev ⟨t, ds⟩)) xs.length = some hi')
    (h0 : 0 ≤ lo) (h1 : lo ≤ hi') (h2 : hi' ≤ xs.length) (h : DW P ops cls Q ds l ((d, .sl sz ((xs.take hi'.toNat).drop lo.toNat) .none) :: t) M) : DW P ops cls Q ds (i :: l) t M :=
  DW_ofP hi hw hd (by rw [ho]; exact opP_slice hτ ht hk he hX hL hH h0 h1 h2 hsz) h

/-- Strings joined. -/
theorem DW_concat {d : Nat} (hi : ops[i]? = some o) (hw : wantedA ops ⟨t, ds⟩ o = some true) (hd : o.dst = some d) {xt yt : TypeId} {X Y : Operand} (ho : o.op = .binOp .add xt X Y yt) {a b : List UInt8} (hX : AF.ev ⟨t, ds⟩ X = .str a) (hY : AF.ev ⟨t, ds⟩ Y = .str b)
    (hl : a.length + b.length ≤ 9223372036854775807) (h : DW P ops cls Q ds l ((d, .str (a ++ b)) :: t) M) : DW P ops cls Q ds (i :: l) t M :=
  DW_ofP hi hw hd (by rw [ho]; exact opP_concat hX hY hl) h

/-- append, the first by this slice. -/
theorem DW_append (hτ : TabOK P τ) {d : Nat} (hi : ops[i]? = some o) (hw : wantedA ops ⟨t, ds⟩ o = some true) (hd : o.dst = some d) {ty tx e : TypeId} {s y : Operand} (ho : o.op = .call { callee := .builtin .append, args := #[s, y], argTypes := #[ty, tx] })
    {sz : Nat} {xs ys : List AV} (hS : AF.ev ⟨t, ds⟩ s = .sl sz xs .full) {ti ei xi : TI} (ht : lookup τ ty = some ti) (hk : ti.k = .slice e) (he : lookup τ e = some ei) (hp : decide (0 < ei.size) = true) (hxi : lookup τ tx = some xi)
    (hf : srcFits xi.k (AF.ev ⟨t, ds⟩ y) = true) (hX : srcOf ei.size (AF.ev ⟨t, ds⟩ y) = some ys) (hc : isE (cls i) = true) (hsz : sz = ei.size ∨ xs = []) (hb : (xs.length + ys.length) * ei.bytes ≤ 140737488355328) (hl : xs.length + ys.length ≤ 140737488355328)
    (h : DW P ops cls Q ds l ((d, .sl ei.size (xs ++ ys) (.tok M.next 0)) :: t) (M.push (.spare 0))) : DW P ops cls Q ds (i :: l) t M :=
  DW_ofE hi hw hd hc (by rw [ho]; exact opE_append hτ ⟨ht, hk, he, of_decide_eq_true hp⟩ hxi hS hsz hf hX hb hl (.inl ⟨rfl, rfl, rfl, rfl⟩)) h

/-- append, by its owner. -/
theorem DW_append_own (hτ : TabOK P τ) {d : Nat} (hi : ops[i]? = some o) (hw : wantedA ops ⟨t, ds⟩ o = some true) (hd : o.dst = some d) {ty tx e : TypeId} {s y : Operand} (ho : o.op = .call { callee := .builtin .append, args := #[s, y], argTypes := #[ty, tx] })
    {sz id g : Nat} {xs ys : List AV} (hS : AF.ev ⟨t, ds⟩ s = .sl sz xs (.tok id g)) (hM : M.get id = some (.spare g)) {ti ei xi : TI} (ht : lookup τ ty = some ti) (hk : ti.k = .slice e) (he : lookup τ e = some ei) (hp : decide (0 < ei.size) = true) (hxi : lookup τ tx = some xi)
    (hf : srcFits xi.k (AF.ev ⟨t, ds⟩ y) = true) (hX : srcOf ei.size (AF.ev ⟨t, ds⟩ y) = some ys) (hc : isE (cls i) = true) (hsz : sz = ei.size) (hb : (xs.length + ys.length) * ei.bytes ≤ 140737488355328) (hl : xs.length + ys.length ≤ 140737488355328)
    (h : DW P ops cls Q ds l ((d, .sl ei.size (xs ++ ys) (.tok id (g + 1))) :: t) (M.set id (.spare (g + 1)))) : DW P ops cls Q ds (i :: l) t M :=
  DW_ofE hi hw hd hc (by rw [ho]; exact opE_append hτ ⟨ht, hk, he, of_decide_eq_true hp⟩ hxi hS (.inl hsz) hf hX hb hl (.inr ⟨g, hsz, rfl, hM, rfl, rfl⟩)) h
end

/-- A region whose order is the text's. -/
theorem dw_plain {P : Program} {n : Nat} {ops : Array Oper} {Q : AX → AF → Mem → Prop} {ds : List ADef} (hd : (ops.all fun o => dstOK o n) = true) (hQ : ∀ v t M, Q (.panic v) ⟨[], ds⟩ M → Q (.panic v) ⟨t, ds⟩ M) : ∀ (rest : List Oper) (k : Nat) (t : List (Nat × AV)) (M : Mem), (∀ j, rest[j]? = ops[k + j]?) →
    DWr P ops (fun _ => .E) Q ds (List.range' k rest.length) t M → WL P n ops Q rest ⟨t, ds⟩ M
  | [], k, t, M, _, h => WL_nil h
  | o :: rest, k, t, M, hl, h => by
    have h0 : ops[k]? = some o := by simpa using (hl 0).symm
    have hl' : ∀ j, rest[j]? = ops[k + 1 + j]? := fun j => by have := hl (j + 1); simpa [Nat.add_assoc, Nat.add_comm 1 j] using this
    have hdo := dstOK_spec ((Array.all_eq_true_iff_forall_mem.1 hd) o (Array.mem_of_getElem? h0))
    simp only [List.length_cons, List.range'_succ] at h
    unfold DWr at h
    simp only [h0] at h
    intro μ F w a hg hr Q' hQ'
    unfold wpList
    split at h
    · rename_i hw
      rw [wanted_of hr hw]
      refine .inl (h μ F w a hg (fun y _ => hr.ev y) _ _ ?_ ?_)
      · intro μ' M' w' v u e1 e2 e3 e4
        have hput : AF.put ⟨t, ds⟩ o.dst u = ⟨(AF.put ⟨t, ds⟩ o.dst u).t, ds⟩ := by cases o.dst <;> rfl
        have hrf := (hr.evo e1).put hdo e3
        rw [hput] at hrf
        exact dw_plain hd hQ rest (k + 1) _ M' hl' e4 μ' F w' _ e2 hrf Q' fun e a' w'' hp => hQ' _ _ _ (hp.trans e1)
      · intro μ' M' w' v u e1 e2 e3 e4
        exact hQ' _ _ _ ⟨μ', ⟨[], ds⟩, M', .panic u, e1, e2, (hr.evo e1).le ⟨rfl, fun _ => Sub.top⟩, ⟨v, rfl, e3⟩, e4⟩
    · rename_i hw
      rw [wanted_of hr hw]
      have hput : AF.put ⟨t, ds⟩ o.dst (.tup []) = ⟨(AF.put ⟨t, ds⟩ o.dst (.tup [])).t, ds⟩ := by cases o.dst <;> rfl
      have hrf := hr.put (v := undef) hdo rep_undef
      rw [hput] at hrf
      exact dw_plain hd hQ rest (k + 1) _ M hl' h μ F w _ hg hrf Q' hQ'
    · exact h.elim

theorem W_text {P : Program} {n id : Nat} {ops : Array Oper} {Q : AX → AF → Mem → Prop} {ds : List ADef} {t : List (Nat × AV)} {M : Mem} (hd : (ops.toList.all fun o => dstOK o n) = true) (hQ : ∀ v t M, Q (.panic v) ⟨[], ds⟩ M → Q (.panic v) ⟨t, ds⟩ M)
    (h : DW P ops (fun _ => .E) Q ds (List.range' 0 ops.toList.length) t M) : W P n (.region id ops false) Q ⟨t, ds⟩ M :=
  W_region (dw_plain (by rw [← Array.all_toList]; exact hd) hQ ops.toList 0 t M (fun j => by simp) h.run)

end Go.Ab
