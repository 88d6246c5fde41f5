/- One step of a walk, reckoned. -/
import Derived.Test.YteimhnedflbkmaaDoorAbB2
set_option linter.unusedVariables false
set_option linter.unusedSimpArgs false
namespace Go.Ab
open Go.RowKit

def isBools : AV → AV → Bool
  | .bool _, .bool _ => true
  | _, _ => false

def boolT (τ : Tab) (t : TypeId) : Bool := match lookup τ t with | some i => (match i.k with | .bool => true | _ => false) | none => false

theorem boolT_spec {P : Program} {τ : Tab} (hτ : TabOK P τ) {t : TypeId} (h : boolT τ t = true) : P.underlying t = some .bool := by
  unfold boolT at h
  split at h
  case h_2 => cases h
  rename_i i hi
  obtain ⟨f, d, z, H⟩ := TI.spec hτ hi
  have hf := H.fits
  split at h
  case h_2 => cases h
  rename_i hk
  rw [hk] at hf
  cases d <;> simp [TK.fits] at hf
  exact H.und

/-- An array's element, at a place that is known. -/
def arrAt (τ : Tab) (t : TypeId) (ix : AV) : Option (Nat × TI) :=
  match lookup τ t, ix with
  | some i, .int _ n => (match i.k with | .array len e => (match lookup τ e with | some ei => if 0 ≤ n ∧ n < len then some (n.toNat, ei) else none | none => none) | _ => none)
  | _, _ => none

/-- What only reckons. -/
def stepP (τ : Tab) (ρ : Operand → AV) (op : Op) : Option AV :=
  match op with
  | .move x => some (ρ x)
  | .assign x => some (ρ x)
  | .pick c a b => apick (ρ c) (ρ a) (ρ b)
  | .binOp b xt x y _ => if isBools (ρ x) (ρ y) = true then (if boolT τ xt = true then abin b (ρ x) (ρ y) else none) else abin b (ρ x) (ρ y)
  | .unOp u _ x => aun u (ρ x)
  | .convert s d x => aconv τ s d (ρ x)
  | .makeInterface t x => amake τ t (ρ x)
  | .makeFunc g a b => some (.fn g (a.toList.map ρ) (b.toList.map ρ))
  | .extract t i => aext (ρ t) i
  | .field t x j => afield τ t j (ρ x)
  | .load t x => aload τ t (ρ x)
  | .fieldAddr t x j => afaddr τ t j (ρ x)
  | .call { callee := .builtin .len, args := ⟨[x]⟩, argTypes := ⟨[t]⟩ } => alenT τ t (ρ x)
  | .call { callee := .builtin .min, args := ⟨[x, y]⟩, argTypes := _ } => amm false (ρ x) (ρ y)
  | .call { callee := .builtin .max, args := ⟨[x, y]⟩, argTypes := _ } => amm true (ρ x) (ρ y)
  | _ => none

theorem stepP_sound {P : Program} {τ : Tab} (hτ : TabOK P τ) {ρ : Operand → AV} {op : Op} {ty : TypeId} {x : AV} (h : stepP τ ρ op = some x) : OpP P op ty ρ x := by
  unfold stepP at h
  split at h
  · cases h; exact opP_move
  · cases h; exact opP_assign
  · exact opP_pick h
  · split at h
    · split at h
      · rename_i hb; exact opP_bin (fun _ => boolT_spec hτ hb) h
      · cases h
    · rename_i hb
      refine opP_bin ?_ h
      rintro ⟨p, q, e1, e2⟩
      rw [e1, e2] at hb
      exact absurd rfl hb
  · exact opP_un h
  · exact opP_conv hτ h
  · exact opP_make hτ h
  · cases h; exact opP_func
  · exact opP_ext h
  · exact opP_field hτ h
  · exact opP_load hτ h
  · exact opP_faddr hτ h
  · exact opP_len hτ h
  · exact opP_min h
  · exact opP_max h
  · cases h

/-- What reads the objects. -/
def stepR (τ : Tab) (ρ : Operand → AV) (M : Mem) (op : Op) : Option AV :=
  match op with
  | .load t x => aloadM M τ t (ρ x)
  | .fieldAddr t x j => afaddrM M τ t j (ρ x)
  | .nilCheck x => anil M (ρ x)
  | _ => none

theorem stepR_sound {P : Program} {τ : Tab} (hτ : TabOK P τ) {ρ : Operand → AV} {M : Mem} {op : Op} {ty : TypeId} {x : AV} (h : stepR τ ρ M op = some x) : OpR P op ty ρ M x := by
  unfold stepR at h
  split at h
  · exact opR_load hτ h
  · exact opR_faddr hτ h
  · exact opR_nil h
  · cases h

def stepStore (τ : Tab) (M : Mem) (t : TypeId) (x y : AV) : Option Mem :=
  match x with
  | .ptr id off =>
    match M.get id, lookup τ t with
    | some (.cells l), some i => if y.solid = true ∧ y.cells.length = i.size ∧ off + i.size ≤ l.length then some (M.set id (.cells (writeAt l off y.cells))) else none
    | _, _ => none
  | _ => none

/-- What turns them. -/
def stepE (τ : Tab) (ρ : Operand → AV) (M : Mem) (op : Op) : Option (AV × Mem) :=
  match op with
  | .box _ x => if (ρ x).solid = true then some (.ptr M.next 0, M.push (.cells (ρ x).cells)) else none
  | .alloc t => (match lookup τ t with | some i => if (i.agg = true ∨ i.size = 1) ∧ i.zv.solid = true then some (.ptr M.next 0, M.push (.cells i.zv.cells)) else none | none => none)
  | .store t x y => (match stepStore τ M t (ρ x) (ρ y) with | some M' => some (.top, M') | none => none)
  | _ => none

theorem stepE_sound {P : Program} {τ : Tab} (hτ : TabOK P τ) {ρ : Operand → AV} {M M' : Mem} {op : Op} {ty : TypeId} {x : AV} (h : stepE τ ρ M op = some (x, M')) : OpE P op ty ρ M x M' := by
  unfold stepE at h
  split at h
  · split at h
    · rename_i hs; cases h; exact opE_box hs
    · cases h
  · split at h
    case h_2 => cases h
    rename_i i hi
    split at h
    · rename_i hs; cases h; exact opE_alloc hτ hi hs.1 hs.2
    · cases h
  · split at h
    case h_2 => cases h
    rename_i M1 hM
    cases h
    unfold stepStore at hM
    split at hM
    case h_2 => cases hM
    rename_i id off e
    split at hM
    case h_2 => cases hM
    rename_i l i hl hi
    split at hM
    case isFalse => cases hM
    rename_i hs
    cases hM
    exact opE_store hτ hi e hl hs.1 hs.2.1 hs.2.2
  · cases h

def astep (τ : Tab) (ρ : Operand → AV) (M : Mem) (op : Op) : Option (AV × Mem) :=
  match stepP τ ρ op with
  | some x => some (x, M)
  | none => match stepR τ ρ M op with
    | some x => some (x, M)
    | none => stepE τ ρ M op

theorem astep_sound {P : Program} {τ : Tab} (hτ : TabOK P τ) {ρ : Operand → AV} {M M' : Mem} {op : Op} {ty : TypeId} {x : AV} (h : astep τ ρ M op = some (x, M')) : OpE P op ty ρ M x M' := by
  unfold astep at h
  split at h
  · rename_i y hy; cases h; exact (stepP_sound hτ hy).toR.toE
  · split at h
    · rename_i y hy; cases h; exact (stepR_sound hτ hy).toE
    · exact stepE_sound hτ h

/-- The value, laid open (so that the walk's frames hold values, not what makes them). -/
def AV.force : AV → Option AV
  | .int k n => some (.int k n)
  | .bool b => some (.bool b)
  | .str s => some (.str s)
  | .sl z xs t => some (.sl z xs t)
  | .ptr i o => some (.ptr i o)
  | .ref c => some (.ref c)
  | .nilptr => some .nilptr
  | .nilIface => some .nilIface
  | .iface t v => some (.iface t v)
  | .nilFunc => some .nilFunc
  | .fn f a b => some (.fn f a b)
  | .agg l => some (.agg l)
  | .tup l => some (.tup l)
  | .map i => some (.map i)
  | .nilmap => some .nilmap
  | .osl i o n c z => some (.osl i o n c z)
  | .top => some .top

theorem AV.force_spec {x y : AV} (h : x.force = some y) : x = y := by cases x <;> (simp only [AV.force, Option.some.injEq] at h; exact h)

def Mem.force : Mem → Option Mem
  | ⟨n, l⟩ => some ⟨n, l⟩

theorem Mem.force_spec {x y : Mem} (h : x.force = some y) : x = y := by cases x; simp only [Mem.force, Option.some.injEq] at h; exact h

def astepF (τ : Tab) (ρ : Operand → AV) (M : Mem) (op : Op) : Option (AV × Mem) :=
  match astep τ ρ M op with
  | some (x, N) => (match x.force with | some y => (match N.force with | some N' => some (y, N') | none => none) | none => none)
  | none => none

theorem astepF_spec {τ : Tab} {ρ : Operand → AV} {M M' : Mem} {op : Op} {x : AV} (h : astepF τ ρ M op = some (x, M')) : astep τ ρ M op = some (x, M') := by
  unfold astepF at h
  split at h
  case h_2 => cases h
  rename_i y N hy
  split at h
  case h_2 => cases h
  rename_i z hz
  split at h
  case h_2 => cases h
  rename_i N' hN
  cases h
  rw [hy, AV.force_spec hz, Mem.force_spec hN]

section
variable {P : Program} {τ : Tab} {n : Nat} {ops : Array Oper} {Q : AX → AF → Mem → Prop} {rest : List Oper} {o : Oper} {t : List (Nat × AV)} {ds : List ADef} {M M' : Mem} {x : AV}

theorem WL_step (hτ : TabOK P τ) {d : Nat} (hw : wantedA ops ⟨t, ds⟩ o = some true) (hd : o.dst = some d) (hn : decide (d < n) = true)
    (ho : astepF τ (AF.ev ⟨t, ds⟩) M o.op = some (x, M')) (h : WL P n ops Q rest ⟨(d, x) :: t, ds⟩ M') : WL P n ops Q (o :: rest) ⟨t, ds⟩ M := by
  refine WL_op hw (by simpa [dstOK, hd] using hn) (astep_sound hτ (astepF_spec ho)) ?_
  simpa [AF.put, hd] using h

theorem WL_step0 (hτ : TabOK P τ) (hw : wantedA ops ⟨t, ds⟩ o = some true) (hd : o.dst = none)
    (ho : astepF τ (AF.ev ⟨t, ds⟩) M o.op = some (x, M')) (h : WL P n ops Q rest ⟨t, ds⟩ M') : WL P n ops Q (o :: rest) ⟨t, ds⟩ M := by
  refine WL_op hw (by simp [dstOK, hd]) (astep_sound hτ (astepF_spec ho)) ?_
  simpa [AF.put, hd] using h

theorem WL_no {d : Nat} (hw : wantedA ops ⟨t, ds⟩ o = some false) (hd : o.dst = some d) (hn : decide (d < n) = true)
    (h : WL P n ops Q rest ⟨(d, .tup []) :: t, ds⟩ M) : WL P n ops Q (o :: rest) ⟨t, ds⟩ M := by
  refine WL_skip hw (by simpa [dstOK, hd] using hn) ?_
  simpa [AF.put, hd] using h

theorem WL_no0 (hw : wantedA ops ⟨t, ds⟩ o = some false) (hd : o.dst = none) (h : WL P n ops Q rest ⟨t, ds⟩ M) : WL P n ops Q (o :: rest) ⟨t, ds⟩ M := by
  refine WL_skip hw (by simp [dstOK, hd]) ?_
  simpa [AF.put, hd] using h

theorem put_some {o : Oper} {d : Nat} (hd : o.dst = some d) : AF.put ⟨t, ds⟩ o.dst x = ⟨(d, x) :: t, ds⟩ := by simp [AF.put, hd]
end

/-- An element of a slice. -/
theorem WL_index {P : Program} {τ : Tab} (hτ : TabOK P τ) {n : Nat} {ops : Array Oper} {Q : AX → AF → Mem → Prop} {rest : List Oper} {o : Oper} {f : List (Nat × AV)} {ds : List ADef} {M : Mem} {d : Nat} (hw : wantedA ops ⟨f, ds⟩ o = some true) (hd : o.dst = some d) (hn : decide (d < n) = true)
    {t e : TypeId} {X I : Operand} (ho : o.op = .indexAddr t X I) {sz : Nat} {xs : List AV} {tag : Tag} (hX : AF.ev ⟨f, ds⟩ X = .sl sz xs tag) {k : IntKind} {i : Int} (hI : AF.ev ⟨f, ds⟩ I = .int k i)
    {ti ei : TI} (ht : lookup τ t = some ti) (hk : ti.k = .slice e) (he : lookup τ e = some ei) (hsz : sz = ei.size) (h0 : 0 ≤ i) {x : AV} (hel : xs[i.toNat]? = some x)
    (h : WL P n ops Q rest ⟨(d, (.ref x.cells)) :: f, ds⟩ M) : WL P n ops Q (o :: rest) ⟨f, ds⟩ M :=
  WL_P hw (by simpa [dstOK, hd] using hn) (by rw [ho]; exact opP_index hτ ht hk he hX hI h0 hel hsz) (by rw [put_some hd]; exact h)

/-- A byte of a string. -/
theorem WL_byte {P : Program} {τ : Tab} (hτ : TabOK P τ) {n : Nat} {ops : Array Oper} {Q : AX → AF → Mem → Prop} {rest : List Oper} {o : Oper} {f : List (Nat × AV)} {ds : List ADef} {M : Mem} {d : Nat} (hw : wantedA ops ⟨f, ds⟩ o = some true) (hd : o.dst = some d) (hn : decide (d < n) = true)
    {t : TypeId} {X I : Operand} (ho : o.op = .index t X I) {s : List UInt8} (hX : AF.ev ⟨f, ds⟩ X = .str s) {k : IntKind} {i : Int} (hI : AF.ev ⟨f, ds⟩ I = .int k i)
    {ti : TI} (ht : lookup τ t = some ti) (hk : ti.k = .str) (h0 : 0 ≤ i) {c : UInt8} (hel : s[i.toNat]? = some c)
    (h : WL P n ops Q rest ⟨(d, (.int .u8 c.toNat)) :: f, ds⟩ M) : WL P n ops Q (o :: rest) ⟨f, ds⟩ M :=
  WL_P hw (by simpa [dstOK, hd] using hn) (by rw [ho]; exact opP_byte hτ ht hk hX hI h0 hel) (by rw [put_some hd]; exact h)

/-- append, the first by this slice. -/
theorem WL_append {P : Program} {τ : Tab} (hτ : TabOK P τ) {n : Nat} {ops : Array Oper} {Q : AX → AF → Mem → Prop} {rest : List Oper} {o : Oper} {f : List (Nat × AV)} {ds : List ADef} {M : Mem} {d : Nat} (hw : wantedA ops ⟨f, ds⟩ o = some true) (hd : o.dst = some d) (hn : decide (d < n) = true)
    {t tx e : TypeId} {s x : Operand} (ho : o.op = .call { callee := .builtin .append, args := #[s, x], argTypes := #[t, tx] }) {sz : Nat} {xs ys : List AV} (hS : AF.ev ⟨f, ds⟩ s = .sl sz xs .full)
    {ti ei xi : TI} (ht : lookup τ t = some ti) (hk : ti.k = .slice e) (he : lookup τ e = some ei) (hp : 0 < ei.size) (hxi : lookup τ tx = some xi) (hf : srcFits xi.k (AF.ev ⟨f, ds⟩ x) = true) (hX : srcOf ei.size (AF.ev ⟨f, ds⟩ x) = some ys)
    (hsz : sz = ei.size ∨ xs = []) (hb : (xs.length + ys.length) * ei.bytes ≤ 140737488355328) (hl : xs.length + ys.length ≤ 140737488355328)
    (h : WL P n ops Q rest ⟨(d, (.sl ei.size (xs ++ ys) (.tok M.next 0))) :: f, ds⟩ (M.push (.spare 0))) : WL P n ops Q (o :: rest) ⟨f, ds⟩ M :=
  WL_op hw (by simpa [dstOK, hd] using hn) (by rw [ho]; exact opE_append hτ ⟨ht, hk, he, hp⟩ hxi hS hsz hf hX hb hl (.inl ⟨rfl, rfl, rfl, rfl⟩)) (by rw [put_some hd]; exact h)

/-- append, by its owner. -/
theorem WL_append_own {P : Program} {τ : Tab} (hτ : TabOK P τ) {n : Nat} {ops : Array Oper} {Q : AX → AF → Mem → Prop} {rest : List Oper} {o : Oper} {f : List (Nat × AV)} {ds : List ADef} {M : Mem} {d : Nat} (hw : wantedA ops ⟨f, ds⟩ o = some true) (hd : o.dst = some d) (hn : decide (d < n) = true)
    {t tx e : TypeId} {s x : Operand} (ho : o.op = .call { callee := .builtin .append, args := #[s, x], argTypes := #[t, tx] }) {sz id g : Nat} {xs ys : List AV} (hS : AF.ev ⟨f, ds⟩ s = .sl sz xs (.tok id g)) (hM : M.get id = some (.spare g))
    {ti ei xi : TI} (ht : lookup τ t = some ti) (hk : ti.k = .slice e) (he : lookup τ e = some ei) (hp : 0 < ei.size) (hxi : lookup τ tx = some xi) (hf : srcFits xi.k (AF.ev ⟨f, ds⟩ x) = true) (hX : srcOf ei.size (AF.ev ⟨f, ds⟩ x) = some ys)
    (hsz : sz = ei.size) (hb : (xs.length + ys.length) * ei.bytes ≤ 140737488355328) (hl : xs.length + ys.length ≤ 140737488355328)
    (h : WL P n ops Q rest ⟨(d, (.sl ei.size (xs ++ ys) (.tok id (g + 1)))) :: f, ds⟩ (M.set id (.spare (g + 1)))) : WL P n ops Q (o :: rest) ⟨f, ds⟩ M :=
  WL_op hw (by simpa [dstOK, hd] using hn) (by rw [ho]; exact opE_append hτ ⟨ht, hk, he, hp⟩ hxi hS (.inl hsz) hf hX hb hl (.inr ⟨g, hsz, rfl, hM, rfl, rfl⟩)) (by rw [put_some hd]; exact h)

end Go.Ab
