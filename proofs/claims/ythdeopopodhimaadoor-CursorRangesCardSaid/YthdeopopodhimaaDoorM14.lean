/- Parts of the proof, one behind the other: AbF1, PrA, Row4. No further condition. -/
import Derived.Test.YthdeopopodhimaaDoorM08
import Derived.Test.YthdeopopodhimaaDoorM11
import Derived.Test.YthdeopopodhimaaDoorM13
import Derived.Test.YthdeopopodhimaaDoorTie
import Derived.Test.YthdeopopodhimaaDoorCards
import Derived.Test.YthdeopopodhimaaDoorM06
import Derived.ProofKit
import Derived.OpenShut
import Derived.LaidMore
import Derived.Lay
import Derived.SevenTiedAt
import Derived.Stop.Joined
set_option linter.unusedVariables false
set_option linter.unusedSimpArgs false
/- Rules that reckon by themselves: one for all plain code, one for append by a slice's owner, one for rows of elements. -/
set_option linter.unusedVariables false
set_option linter.unusedSimpArgs false
namespace Go.Ab
open Go.RowKit

def stepW (P : Program) (n : Nat) (c : Code) (Q : AX → AF → Mem → Prop) (f : AF) (M : Mem) : Option Prop :=
  match c with
  | .seq c d => some (W P n c (thenX (fun f M => W P n d Q f M) Q) f M)
  | .region _ ops false => (match f with
    | ⟨t, ds⟩ => match (ops.toList.all fun o => dstOK ds o n) with
      | true => some (DW P ops (fun _ => .E) Q ds (List.range' 0 ops.toList.length) t M)
      | false => none)
  | .block id c => some (W P n c (blockX id Q) f M)
  | .skip => some (Q .normal f M)
  | .exit id => some (Q (.exit id) f M)
  | .ret => some (Q .ret f M)
  | .scope c => some (W P n c Q f M)
  | .label _ => some (Q .normal f M)
  | .cond c d e => (match f.ev c with
    | .bool true => some (W P n d Q f M)
    | .bool false => some (W P n e Q f M)
    | _ => none)
  | _ => none
theorem W_A {P : Program} {n : Nat} {c : Code} {Q : AX → AF → Mem → Prop} {f : AF} {M : Mem} {G : Prop} (hs : stepW P n c Q f M = some G) (h : G) : W P n c Q f M := by
  unfold stepW at hs
  split at hs <;> try (cases hs; done)
  · cases hs; exact W_seq h
  · rename_i id ops
    obtain ⟨t, ds⟩ := f
    simp only at hs
    split at hs
    · rename_i hd
      cases hs
      exact W_text hd (fun _ _ _ h => h) h
    · cases hs
  · cases hs; exact W_block h
  · cases hs; exact W_skip h
  · cases hs; exact W_exit h
  · cases hs; exact W_ret h
  · cases hs; exact W_scope h
  · cases hs; exact W_label h
  · split at hs
    · rename_i hc; cases hs; exact W_true hc h
    · rename_i hc; cases hs; exact W_false hc h
    · cases hs

section
variable {P : Program} {τ : Tab} {ops : Array Oper} {cls : Nat → Cls} {Q : AX → AF → Mem → Prop} {ds : List ADef} {ls : List Nat} {i : Nat} {o : Oper} {t : List (Nat × AV)} {M : Mem}

def appOp (τ : Tab) (ds : List ADef) (t : List (Nat × AV)) (M : Mem) (d : Nat) (ty tx : TypeId) (s y : Operand) : Option (List (Nat × AV) × Mem × Nat × Nat × Nat × Nat) :=
  match AF.ev ⟨t, ds⟩ s with
  | .sl sz xs (.tok id g) =>
    match M.get id, lookup τ ty, lookup τ tx with
    | some (.spare g'), some ti, some xi =>
      match ti.k with
      | .slice e =>
        match lookup τ e with
        | some ei =>
          match decide (0 < ei.size), srcFits xi.k (AF.ev ⟨t, ds⟩ y), decide (sz = ei.size), srcOf ei.size (AF.ev ⟨t, ds⟩ y) with
          | true, true, true, some ys => some ((d, .sl ei.size (xs ++ ys) (.tok id (g + 1))) :: t, M.set id (.spare (g + 1)), (xs.length + ys.length) * ei.bytes, xs.length + ys.length, g', g)
          | _, _, _, _ => none
        | none => none
      | _ => none
    | _, _, _ => none
  | _ => none
def stepApp (τ : Tab) (ops : Array Oper) (cls : Nat → Cls) (ds : List ADef) (i : Nat) (t : List (Nat × AV)) (M : Mem) : Option (List (Nat × AV) × Mem × Nat × Nat × Nat × Nat) :=
  match ops[i]? with
  | some o =>
    match wantedA ops ⟨t, ds⟩ o, o.dst, isE (cls i), o.op with
    | some true, some d, true, .call { callee := .builtin .append, args := ⟨[s, y]⟩, argTypes := ⟨[ty, tx]⟩ } => appOp τ ds t M d ty tx s y
    | _, _, _, _ => none
  | none => none
theorem DW_app (hτ : TabOK P τ) {t' : List (Nat × AV)} {M' : Mem} {nb nl g1 g2 : Nat} (hs : stepApp τ ops cls ds i t M = some (t', M', nb, nl, g1, g2)) (hgg : g1 = g2) (hb : nb ≤ 140737488355328) (hl : nl ≤ 140737488355328) (h : DW P ops cls Q ds ls t' M') : DW P ops cls Q ds (i :: ls) t M := by
  unfold stepApp at hs
  split at hs
  · rename_i o hi
    split at hs
    · rename_i d s y ty tx hw hd hc ho
      unfold appOp at hs
      split at hs
      · rename_i sz xs id g hS
        split at hs
        · rename_i g' ti xi hM ht hxi
          split at hs
          · rename_i e hk
            split at hs
            · rename_i ei he
              split at hs
              · rename_i ys hp hf hsz hX
                cases hs
                subst hgg
                exact DW_append_own hτ hi hw hd ho hS hM ht hk he hp hxi hf hX hc (of_decide_eq_true hsz) hb hl h
              · cases hs
            · cases hs
          · cases hs
        · cases hs
      · cases hs
    · cases hs
  · cases hs

def litOp (τ : Tab) (ds : List ADef) (t : List (Nat × AV)) (d : Nat) (ty : TypeId) (n : Nat) (ps : Array (Nat × Operand)) : Option (List (Nat × AV)) :=
  match lookup τ ty with
  | some ti =>
    match ti.k with
    | .slice e =>
      match lookup τ e with
      | some ei =>
        match decide (0 < ei.size), decide (ps.size = n), idxOK ps.toList 0, sizedAll ei.size (ps.toList.map fun p => AF.ev ⟨t, ds⟩ p.2), decide (n * ei.size ≤ 16777216), forceL (ps.toList.map fun p => AF.ev ⟨t, ds⟩ p.2) with
        | true, true, true, true, true, some ys => some ((d, .sl ei.size ys .full) :: t)
        | _, _, _, _, _, _ => none
      | none => none
    | _ => none
  | none => none
def stepLit (τ : Tab) (ops : Array Oper) (ds : List ADef) (i : Nat) (t : List (Nat × AV)) : Option (List (Nat × AV)) :=
  match ops[i]? with
  | some o =>
    match wantedA ops ⟨t, ds⟩ o, o.dst, o.op with
    | some true, some d, .buildSlice ty n ps => litOp τ ds t d ty n ps
    | _, _, _ => none
  | none => none
theorem DW_row (hτ : TabOK P τ) {t' : List (Nat × AV)} (hs : stepLit τ ops ds i t = some t') (h : DW P ops cls Q ds ls t' M) : DW P ops cls Q ds (i :: ls) t M := by
  unfold stepLit at hs
  split at hs
  · rename_i o hi
    split at hs
    · rename_i d ty n ps hw hd ho
      unfold litOp at hs
      split at hs
      · rename_i ti ht
        split at hs
        · rename_i e hk
          split at hs
          · rename_i ei he
            split at hs
            · rename_i ys hp hn hidx hsz hbig hys
              cases hs
              exact DW_lits hτ hi hw hd ho ht hk he hp (of_decide_eq_true hn) hidx hsz hbig hys h
            · cases hs
          · cases hs
        · cases hs
      · cases hs
    · cases hs
  · cases hs

/-- An element of a slice, by a fact on the list. -/
def ixOp (τ : Tab) (ds : List ADef) (t : List (Nat × AV)) (ty : TypeId) (X I : Operand) : Option (List AV × Int) :=
  match AF.ev ⟨t, ds⟩ X, AF.ev ⟨t, ds⟩ I, lookup τ ty with
  | .sl sz xs _, .int _ n, some ti =>
    match ti.k with
    | .slice e =>
      match lookup τ e with
      | some ei => (match decide (sz = ei.size) with | true => some (xs, n) | false => none)
      | none => none
    | _ => none
  | _, _, _ => none
def stepIx (τ : Tab) (ops : Array Oper) (ds : List ADef) (i : Nat) (t : List (Nat × AV)) : Option (Nat × List AV × Int) :=
  match ops[i]? with
  | some o =>
    match wantedA ops ⟨t, ds⟩ o, o.dst, o.op with
    | some true, some d, .indexAddr ty X I => (match ixOp τ ds t ty X I with | some (xs, n) => some (d, xs, n) | none => none)
    | _, _, _ => none
  | none => none
theorem DW_ix (hτ : TabOK P τ) {d : Nat} {xs : List AV} {n : Int} {x : AV} (hs : stepIx τ ops ds i t = some (d, xs, n)) (hx : 0 ≤ n ∧ xs[n.toNat]? = some x) (h : DW P ops cls Q ds ls ((d, .ref x.cells) :: t) M) : DW P ops cls Q ds (i :: ls) t M := by
  unfold stepIx at hs
  split at hs
  · rename_i o hi
    split at hs
    · rename_i d' ty X I hw hd ho
      split at hs
      · rename_i xs' n' hix
        cases hs
        unfold ixOp at hix
        split at hix
        · rename_i sz xs2 tag k n2 ti hX hI ht
          split at hix
          · rename_i e hk
            split at hix
            · rename_i ei he
              split at hix
              · rename_i hsz
                cases hix
                exact DW_index hτ hi hw hd ho hX hI ht hk he (of_decide_eq_true hsz) hx.1 hx.2 h
              · cases hix
            · cases hix
          · cases hix
        · cases hix
      · cases hs
    · cases hs
  · cases hs
theorem ixN {α : Type} {f : α → AV} {l : List α} {i : Nat} {y : α} (h : l[i]? = some y) : 0 ≤ (i : Int) ∧ (l.map f)[((i : Int)).toNat]? = some (f y) := ⟨Int.natCast_nonneg _, map_get h⟩
theorem ixZ {α : Type} {f : α → AV} {l : List α} {n : Int} {i : Nat} {y : α} (hn : n = i) (h : l[i]? = some y) : 0 ≤ n ∧ (l.map f)[n.toNat]? = some (f y) := ⟨by omega, map_getZ hn h⟩

/-- A byte of a text, by a fact on the list. -/
def stepBy (τ : Tab) (ops : Array Oper) (ds : List ADef) (i : Nat) (t : List (Nat × AV)) : Option (Nat × List UInt8 × Int) :=
  match ops[i]? with
  | some o =>
    match wantedA ops ⟨t, ds⟩ o, o.dst, o.op with
    | some true, some d, .index ty X I =>
      (match AF.ev ⟨t, ds⟩ X, AF.ev ⟨t, ds⟩ I, lookup τ ty with
      | .str s, .int _ n, some ti => (match ti.k with | .str => some (d, s, n) | _ => none)
      | _, _, _ => none)
    | _, _, _ => none
  | none => none
theorem DW_by (hτ : TabOK P τ) {d : Nat} {s : List UInt8} {n : Int} {c : UInt8} (hs : stepBy τ ops ds i t = some (d, s, n)) (hx : 0 ≤ n ∧ s[n.toNat]? = some c) (h : DW P ops cls Q ds ls ((d, .int .u8 c.toNat) :: t) M) : DW P ops cls Q ds (i :: ls) t M := by
  unfold stepBy at hs
  split at hs
  · rename_i o hi
    split at hs
    · rename_i d' ty X I hw hd ho
      split at hs
      · rename_i s' k n' ti hX hI ht
        split at hs
        · rename_i hk
          cases hs
          exact DW_byte hτ hi hw hd ho hX hI ht hk hx.1 hx.2 h
        · cases hs
      · cases hs
    · cases hs
  · cases hs
theorem byN {s : List UInt8} {i : Nat} {c : UInt8} (h : s[i]? = some c) : 0 ≤ (i : Int) ∧ s[((i : Int)).toNat]? = some c := ⟨Int.natCast_nonneg _, h⟩

/-- A step that only reckons, and its value read otherwise. -/
def stepV (τ : Tab) (es : List TypeId) (ops : Array Oper) (ds : List ADef) (i : Nat) (t : List (Nat × AV)) : Option (Nat × AV) :=
  match ops[i]? with
  | some o => (match wantedA ops ⟨t, ds⟩ o, o.dst, forceP (stepP3 τ es (AF.ev ⟨t, ds⟩) o.op) with
    | some true, some d, some x => some (d, x)
    | _, _, _ => none)
  | none => none
theorem stepV_spec {es : List TypeId} {d : Nat} {x : AV} (hs : stepV τ es ops ds i t = some (d, x)) : ∃ o, ops[i]? = some o ∧ wantedA ops ⟨t, ds⟩ o = some true ∧ o.dst = some d ∧ forceP (stepP3 τ es (AF.ev ⟨t, ds⟩) o.op) = some x := by
  unfold stepV at hs
  split at hs
  · rename_i o hi
    split at hs
    · rename_i d' x' hw hd hx
      cases hs
      exact ⟨o, hi, hw, hd, hx⟩
    · cases hs
  · cases hs
theorem DW_VB {es : List TypeId} (hT : TabOK P τ ∧ EqTab P es) {d : Nat} {x y : Bool} (hs : stepV τ es ops ds i t = some (d, .bool x)) (hx : x = y) (h : DW P ops cls Q ds ls ((d, .bool y) :: t) M) : DW P ops cls Q ds (i :: ls) t M := by
  obtain ⟨o, hi, hw, hd, ho⟩ := stepV_spec hs
  exact DW_V hT hi hw hd ho (congrArg AV.bool hx) h
theorem DW_VI {es : List TypeId} (hT : TabOK P τ ∧ EqTab P es) {d : Nat} {k : IntKind} {x y : Int} (hs : stepV τ es ops ds i t = some (d, .int k x)) (hx : x = y) (h : DW P ops cls Q ds ls ((d, .int k y) :: t) M) : DW P ops cls Q ds (i :: ls) t M := by
  obtain ⟨o, hi, hw, hd, ho⟩ := stepV_spec hs
  exact DW_V hT hi hw hd ho (congrArg (AV.int k) hx) h
theorem DW_VS {es : List TypeId} (hT : TabOK P τ ∧ EqTab P es) {d : Nat} {x y : List UInt8} (hs : stepV τ es ops ds i t = some (d, .str x)) (hx : x = y) (h : DW P ops cls Q ds ls ((d, .str y) :: t) M) : DW P ops cls Q ds (i :: ls) t M := by
  obtain ⟨o, hi, hw, hd, ho⟩ := stepV_spec hs
  exact DW_V hT hi hw hd ho (congrArg AV.str hx) h

/-- What is called, and with what. -/
def stepC (ops : Array Oper) (ds : List ADef) (i : Nat) (t : List (Nat × AV)) : Option (Option Nat × FuncId × List AV) :=
  match ops[i]? with
  | some o => (match wantedA ops ⟨t, ds⟩ o, o.op with
    | some true, .call { callee := .value y, args := ags, argTypes := _ } => (match AF.ev ⟨t, ds⟩ y with
      | .fn (.func g) fi ca => some (o.dst, g, fi ++ ags.toList.map (AF.ev ⟨t, ds⟩) ++ ca)
      | _ => none)
    | _, _ => none)
  | none => none
theorem stepC_spec {dst : Option Nat} {g : FuncId} {args : List AV} (hs : stepC ops ds i t = some (dst, g, args)) : ∃ o y ags ts fi ca, ops[i]? = some o ∧ wantedA ops ⟨t, ds⟩ o = some true ∧ o.dst = dst ∧ o.op = .call { callee := .value y, args := ags, argTypes := ts } ∧ AF.ev ⟨t, ds⟩ y = .fn (.func g) fi ca ∧ args = fi ++ ags.toList.map (AF.ev ⟨t, ds⟩) ++ ca := by
  unfold stepC at hs
  split at hs
  · rename_i o hi
    split at hs
    · rename_i y ags ts hw ho
      split at hs
      · rename_i g' fi ca hx
        cases hs
        exact ⟨o, y, ags, ts, fi, ca, hi, hw, rfl, ho, hx, rfl⟩
      · cases hs
    · cases hs
  · cases hs
/-- A call that hands back just this. -/
theorem DW_C {d : Nat} {g : FuncId} {args : List AV} {x : AV} (hs : stepC ops ds i t = some (some d, g, args)) (hc : APure P g args x) (h : DW P ops cls Q ds ls ((d, x) :: t) M) : DW P ops cls Q ds (i :: ls) t M := by
  obtain ⟨o, y, ags, ts, fi, ca, hi, hw, hd, ho, hx, rfl⟩ := stepC_spec hs
  exact DW_pure hi hw hd ho hx hc h
/-- A call by its contract. -/
theorem DW_CM {d : Nat} {g : FuncId} {args : List AV} {R : AEnd → Mem → Prop} (hs : stepC ops ds i t = some (some d, g, args)) (hc : isE (cls i) = true) (hcall : ACalls P g args M R)
    (h1 : ∀ u M', R (.ret u) M' → DW P ops cls Q ds ls ((d, u) :: t) M') (h2 : ∀ u M', R (.pan u) M' → Q (.panic u) ⟨keepT ds, ds⟩ M') : DW P ops cls Q ds (i :: ls) t M := by
  obtain ⟨o, y, ags, ts, fi, ca, hi, hw, hd, ho, hx, rfl⟩ := stepC_spec hs
  exact DW_call hi hw hd ho hx hc hcall h1 h2
theorem DW_CM0 {g : FuncId} {args : List AV} {R : AEnd → Mem → Prop} (hs : stepC ops ds i t = some (none, g, args)) (hc : isE (cls i) = true) (hcall : ACalls P g args M R)
    (h1 : ∀ u M', R (.ret u) M' → DW P ops cls Q ds ls t M') (h2 : ∀ u M', R (.pan u) M' → Q (.panic u) ⟨keepT ds, ds⟩ M') : DW P ops cls Q ds (i :: ls) t M := by
  obtain ⟨o, y, ags, ts, fi, ca, hi, hw, hd, ho, hx, rfl⟩ := stepC_spec hs
  exact DW_call0 hi hw hd ho hx hc hcall h1 h2
/-- A method of an interface's value that hands back just this. -/
def stepI (ops : Array Oper) (ds : List ADef) (i : Nat) (t : List (Nat × AV)) : Option (Nat × TypeId × String × List AV) :=
  match ops[i]? with
  | some o => (match wantedA ops ⟨t, ds⟩ o, o.dst, o.op with
    | some true, some d, .call { callee := .invoke y name, args := ags, argTypes := _ } => (match AF.ev ⟨t, ds⟩ y with
      | .iface ty z => some (d, ty, name, z :: ags.toList.map (AF.ev ⟨t, ds⟩))
      | _ => none)
    | _, _, _ => none)
  | none => none
theorem DW_I {d : Nat} {ty : TypeId} {name : String} {args : List AV} {x : AV} {g : FuncId} (hs : stepI ops ds i t = some (d, ty, name, args)) (hm : methF P ty name = some g) (hc : APure P g args x) (h : DW P ops cls Q ds ls ((d, x) :: t) M) : DW P ops cls Q ds (i :: ls) t M := by
  unfold stepI at hs
  split at hs
  · rename_i o hi
    split at hs
    · rename_i d' y nm ags ts hw hd ho
      split at hs
      · rename_i ty' z hx
        cases hs
        exact DW_invoke hi hw hd ho hx hm hc h
      · cases hs
    · cases hs
  · cases hs

/-- A variable's box, as an object. -/
def stepBx (τ : Tab) (ops : Array Oper) (cls : Nat → Cls) (ds : List ADef) (i : Nat) (t : List (Nat × AV)) (M : Mem) (d : Nat) : Option (List (Nat × AV) × Mem) :=
  match ops[i]? with
  | some o => (match wantedA ops ⟨t, ds⟩ o, decide (o.dst = some d), isE (cls i), o.op with
    | some true, true, true, .box ty x => (match forceE (stepE τ (AF.ev ⟨t, ds⟩) M (.box ty x)) with | some (y, N) => some ((d, y) :: t, N) | none => none)
    | _, _, _, _ => none)
  | none => none
theorem DW_box (d : Nat) (hτ : TabOK P τ) {t' : List (Nat × AV)} {M' : Mem} (hs : stepBx τ ops cls ds i t M d = some (t', M')) (h : DW P ops cls Q ds ls t' M') : DW P ops cls Q ds (i :: ls) t M := by
  unfold stepBx at hs
  split at hs
  · rename_i o hi
    split at hs
    · rename_i ty x hw hd hc ho
      split at hs
      · rename_i y N hy
        cases hs
        exact DW_E hτ hi hw (of_decide_eq_true hd) (by rw [ho]; exact hy) hc h
      · cases hs
    · cases hs
  · cases hs

/-- Pointers and interfaces held against nil. -/
theorem ptr_tab (hτ : TabOK P τ) {ts e : TypeId} {ti : TI} (h : lookup τ ts = some ti) (hk : ti.k = .ptr e) : P.underlying ts = some (.pointer (P.pointee ts)) := by
  obtain ⟨f, dd, z, H⟩ := TI.spec hτ h
  have hf := H.fits
  rw [hk] at hf
  have hu := H.und
  cases dd <;> simp [TK.fits] at hf
  simp [Program.pointee, hu]
theorem iface_tab (hτ : TabOK P τ) {ts : TypeId} {ti : TI} (h : lookup τ ts = some ti) (hk : ti.k = .iface) : P.underlying ts = some (.interface (P.methodsAt ts)) := by
  obtain ⟨f, dd, z, H⟩ := TI.spec hτ h
  have hf := H.fits
  rw [hk] at hf
  have hu := H.und
  cases dd <;> simp [TK.fits] at hf
  simp [Program.methodsAt, hu]
def isCmp : BinOp → Bool
  | .eql | .neq => true
  | _ => false
theorem isCmp_spec {b : BinOp} (h : isCmp b = true) : b = .eql ∨ b = .neq := by cases b <;> simp [isCmp] at h <;> simp
def nilOp (c : Cls) (M : Mem) (b : BinOp) (k : TK) (x y : AV) : Option Bool :=
  match k, x, y with
  | .ptr _, .ref _, .nilptr => some (isNeq b)
  | .ptr _, .nilptr, .nilptr => some (!isNeq b)
  | .ptr _, .ptr id _, .nilptr => (match notP c, M.get id with | true, some (.cells _) => some (isNeq b) | _, _ => none)
  | _, _, _ => none
def stepNil (τ : Tab) (ops : Array Oper) (cls : Nat → Cls) (ds : List ADef) (i : Nat) (t : List (Nat × AV)) (M : Mem) : Option (Nat × Bool) :=
  match ops[i]? with
  | some o => (match wantedA ops ⟨t, ds⟩ o, o.dst, o.op with
    | some true, some d, .binOp b ts x y _ => (match isCmp b, lookup τ ts with
      | true, some ti => (match nilOp (cls i) M b ti.k (AF.ev ⟨t, ds⟩ x) (AF.ev ⟨t, ds⟩ y) with | some r => some (d, r) | none => none)
      | _, _ => none)
    | _, _, _ => none)
  | none => none
theorem DW_nilc (hτ : TabOK P τ) {d : Nat} {r : Bool} (hs : stepNil τ ops cls ds i t M = some (d, r)) (h : DW P ops cls Q ds ls ((d, .bool r) :: t) M) : DW P ops cls Q ds (i :: ls) t M := by
  unfold stepNil at hs
  split at hs
  · rename_i o hi
    split at hs
    · rename_i d' b ts x y yt hw hd ho
      split at hs
      · rename_i ti hb ht
        split at hs
        · rename_i r' hr
          cases hs
          unfold nilOp at hr
          split at hr
          · rename_i e c hx hk hxx hyy
            cases hr
            exact DW_refnil hi hw hd ho (isCmp_spec hb) (ptr_tab hτ ht hk) hxx hyy h
          · rename_i e hk hxx hyy
            cases hr
            exact DW_nilnil hi hw hd ho (isCmp_spec hb) (ptr_tab hτ ht hk) hxx hyy h
          · rename_i e id off hk hxx hyy
            split at hr
            · rename_i l hc hM
              cases hr
              exact DW_ptrnil hi hw hd ho (isCmp_spec hb) hc (ptr_tab hτ ht hk) hxx hM hyy h
            · cases hr
          · cases hr
        · cases hs
      · cases hs
    · cases hs
  · cases hs

/-- append, the first to a slice without spare room. -/
def appOp0 (τ : Tab) (ds : List ADef) (t : List (Nat × AV)) (M : Mem) (d : Nat) (ty tx : TypeId) (s y : Operand) : Option (List (Nat × AV) × Mem × Nat × Nat) :=
  match AF.ev ⟨t, ds⟩ s with
  | .sl sz xs .full =>
    match lookup τ ty, lookup τ tx with
    | some ti, some xi =>
      match ti.k with
      | .slice e =>
        match lookup τ e with
        | some ei =>
          match decide (0 < ei.size), srcFits xi.k (AF.ev ⟨t, ds⟩ y), (decide (sz = ei.size) || xs.isEmpty), srcOf ei.size (AF.ev ⟨t, ds⟩ y) with
          | true, true, true, some ys => some ((d, .sl ei.size (xs ++ ys) (.tok M.next 0)) :: t, M.push (.spare 0), (xs.length + ys.length) * ei.bytes, xs.length + ys.length)
          | _, _, _, _ => none
        | none => none
      | _ => none
    | _, _ => none
  | _ => none
def stepApp0 (τ : Tab) (ops : Array Oper) (cls : Nat → Cls) (ds : List ADef) (i : Nat) (t : List (Nat × AV)) (M : Mem) : Option (List (Nat × AV) × Mem × Nat × Nat) :=
  match ops[i]? with
  | some o =>
    match wantedA ops ⟨t, ds⟩ o, o.dst, isE (cls i), o.op with
    | some true, some d, true, .call { callee := .builtin .append, args := ⟨[s, y]⟩, argTypes := ⟨[ty, tx]⟩ } => appOp0 τ ds t M d ty tx s y
    | _, _, _, _ => none
  | none => none
theorem DW_app0 (hτ : TabOK P τ) {t' : List (Nat × AV)} {M' : Mem} {nb nl : Nat} (hs : stepApp0 τ ops cls ds i t M = some (t', M', nb, nl)) (hb : nb ≤ 140737488355328) (hl : nl ≤ 140737488355328) (h : DW P ops cls Q ds ls t' M') : DW P ops cls Q ds (i :: ls) t M := by
  unfold stepApp0 at hs
  split at hs
  · rename_i o hi
    split at hs
    · rename_i d s y ty tx hw hd hc ho
      unfold appOp0 at hs
      split at hs
      · rename_i sz xs hS
        split at hs
        · rename_i ti xi ht hxi
          split at hs
          · rename_i e hk
            split at hs
            · rename_i ei he
              split at hs
              · rename_i ys hp hf hsz hX
                cases hs
                have hsz' : sz = ei.size ∨ xs = [] := by
                  rcases Bool.or_eq_true_iff.1 hsz with h | h
                  · exact .inl (of_decide_eq_true h)
                  · exact .inr (List.isEmpty_iff.1 h)
                exact DW_append hτ hi hw hd ho hS ht hk he hp hxi hf hX hc hsz' hb hl h
              · cases hs
            · cases hs
          · cases hs
        · cases hs
      · cases hs
    · cases hs
  · cases hs
end
attribute [simp] closed_int closed_bool closed_str closed_nilptr closed_nilIface closed_nilFunc closed_nilmap closed_top
theorem closedL_nil : ∀ x, x ∈ ([] : List AV) → Closed x := by simp
theorem closedL_cons {x : AV} {l : List AV} (h : Closed x) (hl : ∀ y, y ∈ l → Closed y) : ∀ y, y ∈ x :: l → Closed y := by
  intro y hy
  rcases List.mem_cons.1 hy with rfl | hy
  · exact h
  · exact hl y hy
end Go.Ab

/- Rows of pairs: the same, too many, rising, found in. No further condition. -/
set_option linter.unusedVariables false
set_option linter.unusedSimpArgs false
namespace Go.Proofs.YthdeopopodhimaaDoor
open Go.Ab

theorem pr_eqB (p q : Pr) : (((p.key.path == q.key.path) && ((decide (p.key.time = q.key.time)) && true)) && ((p.val == q.val) && true)) = decide (p = q) := by
  obtain ⟨⟨a, b⟩, c⟩ := p
  obtain ⟨⟨d, e⟩, f⟩ := q
  rw [Bool.eq_iff_iff]
  simp [and_assoc]
theorem pr_neB (p q : Pr) : (!(((p.key.path == q.key.path) && ((decide (p.key.time = q.key.time)) && true)) && ((p.val == q.val) && true))) = !decide (p = q) := by rw [pr_eqB]
theorem len_map {α : Type} (f : α → AV) (l : List α) : ((l.map f).length : Int) = (l.length : Int) := by simp
theorem take_all {α : Type} (l : List α) : l.take l.length = l := List.take_length

set_option maxRecDepth 100000 in
set_option maxHeartbeats 8000000 in
theorem same_ok (a b : List Pr) (ta tb : Tag) (ha : a.length < 1000000) (hb : b.length < 1000000) : APure Tryd.prog 11 [.sl 3 (a.map Pr.av) ta, .sl 3 (b.map Pr.av) tb] (.bool (decide (a = b))) := by
  intro M
  refine acalls_of tabOK Tryd.func11 rfl (by decide) (by simp [Tryd.f11]) ?_
  have la := len_map Pr.av a
  have lb := len_map Pr.av b
  by_cases hl : a.length = b.length
  · have d0 : (!decide ((a.length : Int) = (b.length : Int))) = false := by simp; omega
    repeat' (first | refine DW_VB tabs rfl d0 ?_ | refine DW_VI tabs rfl (by first | exact la | exact lb) ?_ | refine DW_A tabs rfl ?_ | refine DW_nil ?_ | refine W_A rfl ?_ | refine W_draw mixed [0, 1, 4, 5, 2, 3, 6, 7, 8] [.P, .P, .R, .R, .P, .P, .R, .R, .P] rfl rfl (by kernel_rfl) ?_)
    refine W_count a.length (fun i f N => N = M ∧ (a.take i = b.take i) ∧ f = ⟨[(0, .sl 3 (a.map Pr.av) ta), (1, .sl 3 (b.map Pr.av) tb), (5, .int .i64 (i : Int))], []⟩) (Nat.zero_le _) ⟨rfl, by simp, rfl⟩ (Joint.le ?_ (Mem.le_refl _)) ?_
    · skip
      repeat (refine AF.le_cons rfl ?_)
      exact AF.le_nil rfl
    rintro i f N hi ⟨rfl, hinv, rfl⟩
    by_cases h1 : i < a.length
    · have d1 : decide ((i : Int) < (a.length : Int)) = true := by simp; omega
      have hx : a[i]? = some a[i] := List.getElem?_eq_getElem h1
      have fi := wrap_succ (i := i) (by omega)
      have ht := take_succ hx
      have hm := List.getElem_mem h1
      generalize a[i] = x at hx ht hm
      have hy : b[i]? = some b[i] := List.getElem?_eq_getElem (by omega)
      have hu := take_succ hy
      generalize b[i] = y at hy hu
      by_cases h3 : x = y
      · have d3 := (pr_neB x y).trans (show (!decide (x = y)) = false by simp [h3])
        repeat' (first | refine DW_VB tabs rfl (by first | exact d1 | exact d3) ?_ | refine DW_VI tabs rfl (by first | exact fi | exact la | exact lb) ?_ | refine DW_A tabs rfl ?_ | refine DW_nil ?_ | refine W_A rfl ?_ | refine DW_ix tabOK rfl (ixN hx) ?_ | refine DW_ix tabOK rfl (ixN hy) ?_ | refine W_draw mixed [0, 1, 4, 5, 2, 3, 6, 7, 8] [.P, .P, .R, .R, .P, .P, .R, .R, .P] rfl rfl (by kernel_rfl) ?_)
        refine ⟨h1, _, _, ⟨rfl, by rw [ht, hu, hinv, h3], rfl⟩, Joint.le ?_ (Mem.le_refl _)⟩
        repeat (refine AF.le_cons rfl ?_)
        exact AF.le_nil rfl
      · have d3 := (pr_neB x y).trans (show (!decide (x = y)) = true by simp [h3])
        have e : decide (a = b) = false := by
          refine decide_eq_false fun e => h3 ?_
          subst e
          rw [hx] at hy
          cases hy
          rfl
        rw [e]
        repeat' (first | refine DW_VB tabs rfl (by first | exact d1 | exact d3) ?_ | refine DW_VI tabs rfl (by first | exact fi | exact la | exact lb) ?_ | refine DW_A tabs rfl ?_ | refine DW_nil ?_ | refine W_A rfl ?_ | refine DW_ix tabOK rfl (ixN hx) ?_ | refine DW_ix tabOK rfl (ixN hy) ?_ | refine W_draw mixed [0, 1, 4, 5, 2, 3, 6, 7, 8] [.P, .P, .R, .R, .P, .P, .R, .R, .P] rfl rfl (by kernel_rfl) ?_)
        exact ⟨rfl, _, rfl, rfl, rfl⟩
    · have d1 : decide ((i : Int) < (a.length : Int)) = false := by simp; omega
      obtain rfl : i = a.length := by omega
      rw [take_all, hl, take_all] at hinv
      have e : decide (a = b) = true := by simp [hinv]
      rw [e]
      repeat' (first | refine DW_VB tabs rfl d1 ?_ | refine DW_VI tabs rfl la ?_ | refine DW_A tabs rfl ?_ | refine DW_nil ?_ | refine W_A rfl ?_ | refine W_draw mixed [0, 1, 4, 5, 2, 3, 6, 7, 8] [.P, .P, .R, .R, .P, .P, .R, .R, .P] rfl rfl (by kernel_rfl) ?_)
      exact ⟨rfl, _, rfl, rfl, rfl⟩
  · have d0 : (!decide ((a.length : Int) = (b.length : Int))) = true := by simp; omega
    have e : decide (a = b) = false := decide_eq_false fun e => hl (by rw [e])
    rw [e]
    repeat' (first | refine DW_VB tabs rfl d0 ?_ | refine DW_VI tabs rfl (by first | exact la | exact lb) ?_ | refine DW_A tabs rfl ?_ | refine DW_nil ?_ | refine W_A rfl ?_ | refine W_draw mixed [0, 1, 4, 5, 2, 3, 6, 7, 8] [.P, .P, .R, .R, .P, .P, .R, .R, .P] rfl rfl (by kernel_rfl) ?_)
    exact ⟨rfl, _, rfl, rfl, rfl⟩

def bigP (p : Pr) : Bool := decide (200 < p.key.path.length) || decide (300 < p.val.length)
def bigB (l : List Pr) : Bool := decide (80 < l.length) || l.any bigP
theorem bigB_no {l : List Pr} (h : bigB l = false) : l.length ≤ 80 ∧ ∀ p, p ∈ l → p.key.path.length ≤ 200 ∧ p.val.length ≤ 300 := by
  unfold bigB bigP at h
  simp only [Bool.or_eq_false_iff, decide_eq_false_iff_not, List.any_eq_false, Bool.or_eq_true, decide_eq_true_eq, not_or] at h
  exact ⟨by omega, fun p hp => by have := h.2 p hp; omega⟩
set_option maxRecDepth 100000 in
set_option maxHeartbeats 8000000 in
theorem big_ok (l : List Pr) (tg : Tag) (hl : l.length < 4611686018427387904) : APure Tryd.prog 23 [.sl 3 (l.map Pr.av) tg] (.bool (bigB l)) := by
  intro M
  refine acalls_of tabOK Tryd.func23 rfl (by decide) (by simp [Tryd.f23]) ?_
  have la := len_map Pr.av l
  unfold bigB
  by_cases h80 : 80 < l.length
  · have d1 : decide ((0 : Int) < (l.length : Int)) = true := by simp; omega
    have d2 : decide ((l.length : Int) ≤ 80) = false := by simp; omega
    have d3 : decide ((80 : Int) < (l.length : Int)) = true := by simp; omega
    have e : decide (80 < l.length) = true := by simp [h80]
    rw [e]
    repeat' (first | refine DW_VB tabs rfl (by first | exact d1 | exact d2) ?_ | refine DW_VI tabs rfl la ?_ | refine DW_A tabs rfl ?_ | refine DW_nil ?_ | refine W_A rfl ?_)
    refine W_count 0 (fun i f N => N = M ∧ f = ⟨[(0, .sl 3 (l.map Pr.av) tg), (3, .int .i64 (i : Int))], []⟩) (Nat.zero_le _) ⟨rfl, rfl⟩ (Joint.le ?_ (Mem.le_refl _)) ?_
    · skip
      repeat (refine AF.le_cons rfl ?_)
      exact AF.le_nil rfl
    rintro i f N hi ⟨rfl, rfl⟩
    obtain rfl : i = 0 := by omega
    repeat' (first | refine DW_VB tabs rfl (by first | exact d1 | exact d2 | exact d3) ?_ | refine DW_VI tabs rfl la ?_ | refine DW_A tabs rfl ?_ | refine DW_nil ?_ | refine W_A rfl ?_)
    exact ⟨rfl, _, rfl, rfl, rfl⟩
  · have d2 : decide ((l.length : Int) ≤ 80) = true := by simp; omega
    have d3 : decide ((80 : Int) < (l.length : Int)) = false := by simp; omega
    have e : decide (80 < l.length) = false := by simp; omega
    rw [e, Bool.false_or]
    repeat' (first | refine DW_VB tabs rfl d2 ?_ | refine DW_VI tabs rfl la ?_ | refine DW_A tabs rfl ?_ | refine DW_nil ?_ | refine W_A rfl ?_)
    refine W_count l.length (fun i f N => N = M ∧ ((l.take i).any bigP = false) ∧ f = ⟨[(0, .sl 3 (l.map Pr.av) tg), (3, .int .i64 (i : Int))], []⟩) (Nat.zero_le _) ⟨rfl, by simp, rfl⟩ (Joint.le ?_ (Mem.le_refl _)) ?_
    · skip
      repeat (refine AF.le_cons rfl ?_)
      exact AF.le_nil rfl
    rintro i f N hi ⟨rfl, hinv, rfl⟩
    by_cases h1 : i < l.length
    · have d1 : decide ((i : Int) < (l.length : Int)) = true := by simp; omega
      have hx : l[i]? = some l[i] := List.getElem?_eq_getElem h1
      have fi := wrap_succ (i := i) (by omega)
      have ht := take_succ hx
      have hm := List.getElem_mem h1
      generalize l[i] = x at hx ht hm
      have e2 : (l.take (i + 1)).any bigP = bigP x := by rw [ht, List.any_append, hinv]; simp
      have hs : bigP x = true → l.any bigP = true := fun h => List.any_eq_true.2 ⟨x, List.mem_of_getElem? hx, h⟩
      unfold bigP at hs e2
      by_cases h5 : 200 < x.key.path.length
      · have d5 : decide ((200 : Int) < (x.key.path.length : Int)) = true := by simp; omega
        rw [show l.any bigP = true from hs (by simp [h5])]
        repeat' (first | refine DW_VB tabs rfl (by first | exact d1 | exact d2 | exact d5) ?_ | refine DW_VI tabs rfl (by first | exact la | exact fi) ?_ | refine DW_A tabs rfl ?_ | refine DW_nil ?_ | refine W_A rfl ?_ | refine DW_ix tabOK rfl (ixN hx) ?_)
        exact ⟨rfl, _, rfl, rfl, rfl⟩
      · have d5 : decide ((200 : Int) < (x.key.path.length : Int)) = false := by simp; omega
        by_cases h6 : 300 < x.val.length
        · have d6 : decide ((300 : Int) < (x.val.length : Int)) = true := by simp; omega
          rw [show l.any bigP = true from hs (by simp [h6])]
          repeat' (first | refine DW_VB tabs rfl (by first | exact d1 | exact d2 | exact d5 | exact d6) ?_ | refine DW_VI tabs rfl (by first | exact la | exact fi) ?_ | refine DW_A tabs rfl ?_ | refine DW_nil ?_ | refine W_A rfl ?_ | refine DW_ix tabOK rfl (ixN hx) ?_)
          exact ⟨rfl, _, rfl, rfl, rfl⟩
        · have d6 : decide ((300 : Int) < (x.val.length : Int)) = false := by simp; omega
          repeat' (first | refine DW_VB tabs rfl (by first | exact d1 | exact d2 | exact d5 | exact d6) ?_ | refine DW_VI tabs rfl (by first | exact la | exact fi) ?_ | refine DW_A tabs rfl ?_ | refine DW_nil ?_ | refine W_A rfl ?_ | refine DW_ix tabOK rfl (ixN hx) ?_)
          refine ⟨h1, _, _, ⟨rfl, by rw [show bigP = (fun p => decide (200 < p.key.path.length) || decide (300 < p.val.length)) from rfl, e2]; simp [h5, h6], rfl⟩, Joint.le ?_ (Mem.le_refl _)⟩
          repeat (refine AF.le_cons rfl ?_)
          exact AF.le_nil rfl
    · have d1 : decide ((i : Int) < (l.length : Int)) = false := by simp; omega
      obtain rfl : i = l.length := by omega
      rw [take_all] at hinv
      rw [hinv]
      repeat' (first | refine DW_VB tabs rfl (by first | exact d1 | exact d2 | exact d3) ?_ | refine DW_VI tabs rfl la ?_ | refine DW_A tabs rfl ?_ | refine DW_nil ?_ | refine W_A rfl ?_)
      exact ⟨rfl, _, rfl, rfl, rfl⟩

theorem rise_adj : ∀ l : List Pr, (∀ (j : Nat) a b, l[j]? = some a → l[j + 1]? = some b → rless a.key b.key = true) → Rise l
  | [], _ => List.Pairwise.nil
  | [a], _ => List.pairwise_cons.2 ⟨by simp, List.Pairwise.nil⟩
  | a :: b :: r, h => by
    have ih := rise_adj (b :: r) (fun j x y hx hy => h (j + 1) x y hx hy)
    have h0 := h 0 a b rfl rfl
    refine List.pairwise_cons.2 ⟨fun x hx => ?_, ih⟩
    rcases List.mem_cons.1 hx with rfl | hx
    · exact h0
    · exact rless_trans h0 ((List.pairwise_cons.1 ih).1 x hx)
theorem rise_at {l : List Pr} (h : Rise l) {i j : Nat} {a b : Pr} (hij : i < j) (ha : l[i]? = some a) (hb : l[j]? = some b) : rless a.key b.key = true := by
  obtain ⟨h1, rfl⟩ := List.getElem?_eq_some_iff.1 ha
  obtain ⟨h2, rfl⟩ := List.getElem?_eq_some_iff.1 hb
  exact List.pairwise_iff_getElem.1 h i j h1 h2 hij

set_option maxRecDepth 100000 in
set_option maxHeartbeats 8000000 in
theorem isRise_ok (l : List Pr) (tg : Tag) (hl : l.length < 1000000) : APure Tryd.prog 9 [.sl 3 (l.map Pr.av) tg] (.bool (decide (Rise l))) := by
  intro M
  refine acalls_of tabOK Tryd.func9 rfl (by decide) (by simp [Tryd.f9]) ?_
  have la := len_map Pr.av l
  by_cases h0 : l = []
  · subst h0
    repeat' (first | refine DW_A tabs rfl ?_ | refine DW_nil ?_ | refine W_A rfl ?_ | refine W_draw mixed [0, 1, 2, 6, 7, 3, 4, 5, 8, 9, 10, 11, 12] [.P, .P, .P, .R, .R, .R, .P, .P, .R, .R, .R, .P, .P] rfl rfl (by kernel_rfl) ?_)
    refine W_count 0 (fun i f N => N = M ∧ f = ⟨[(0, .sl 3 ([].map Pr.av) tg), (3, .int .i64 ((i + 1 : Nat) : Int))], []⟩) (Nat.zero_le _) ⟨rfl, rfl⟩ (Joint.le ?_ (Mem.le_refl _)) ?_
    · skip
      repeat (refine AF.le_cons rfl ?_)
      exact AF.le_nil rfl
    rintro i f N hi ⟨rfl, rfl⟩
    obtain rfl : i = 0 := by omega
    repeat' (first | refine DW_A tabs rfl ?_ | refine DW_nil ?_ | refine W_A rfl ?_ | refine W_draw mixed [0, 1, 2, 6, 7, 3, 4, 5, 8, 9, 10, 11, 12] [.P, .P, .P, .R, .R, .R, .P, .P, .R, .R, .R, .P, .P] rfl rfl (by kernel_rfl) ?_)
    exact ⟨rfl, _, rfl, by rw [decide_eq_true (List.Pairwise.nil : Rise [])]; rfl, rfl⟩
  · have hpos : 0 < l.length := List.length_pos_iff.2 h0
    repeat' (first | refine DW_A tabs rfl ?_ | refine DW_nil ?_ | refine W_A rfl ?_ | refine W_draw mixed [0, 1, 2, 6, 7, 3, 4, 5, 8, 9, 10, 11, 12] [.P, .P, .P, .R, .R, .R, .P, .P, .R, .R, .R, .P, .P] rfl rfl (by kernel_rfl) ?_)
    refine W_count (l.length - 1) (fun i f N => N = M ∧ (∀ (j : Nat) a b, j < i → l[j]? = some a → l[j + 1]? = some b → rless a.key b.key = true) ∧ f = ⟨[(0, .sl 3 (l.map Pr.av) tg), (3, .int .i64 ((i + 1 : Nat) : Int))], []⟩) (Nat.zero_le _) ⟨rfl, fun j a b hj => absurd hj (Nat.not_lt_zero _), rfl⟩ (Joint.le ?_ (Mem.le_refl _)) ?_
    · skip
      repeat (refine AF.le_cons rfl ?_)
      exact AF.le_nil rfl
    rintro i f N hi ⟨rfl, hinv, rfl⟩
    by_cases h1 : i < l.length - 1
    · have d1 : decide (((i + 1 : Nat) : Int) < (l.length : Int)) = true := by simp; omega
      have hx : l[i]? = some l[i] := List.getElem?_eq_getElem (by omega)
      have hy : l[i + 1]? = some l[i + 1] := List.getElem?_eq_getElem (by omega)
      have fi := wrap_succ (i := i + 1) (by omega)
      have w1 : IntKind.wrap .i64 (((i + 1 : Nat) : Int) - 1) = (i : Int) := (Go.Ab.wrap_small (by omega) (by omega)).trans (by omega)
      generalize l[i] = x at hx
      generalize l[i + 1] = y at hy
      have kl := rless_ok x.key y.key
      cases h3 : rless x.key y.key
      · rw [h3] at kl
        have e : decide (Rise l) = false := decide_eq_false fun hr => by rw [rise_at hr (Nat.lt_succ_self i) hx hy] at h3; cases h3
        rw [e]
        repeat' (first | refine DW_VB tabs rfl d1 ?_ | refine DW_VI tabs rfl (by first | exact fi | exact la | exact w1) ?_ | refine DW_A tabs rfl ?_ | refine DW_nil ?_ | refine W_A rfl ?_ | refine DW_C rfl kl ?_ | refine DW_ix tabOK rfl (ixN hx) ?_ | refine DW_ix tabOK rfl (ixN hy) ?_ | refine W_draw mixed [0, 1, 2, 6, 7, 3, 4, 5, 8, 9, 10, 11, 12] [.P, .P, .P, .R, .R, .R, .P, .P, .R, .R, .R, .P, .P] rfl rfl (by kernel_rfl) ?_)
        exact ⟨rfl, _, rfl, rfl, rfl⟩
      · rw [h3] at kl
        repeat' (first | refine DW_VB tabs rfl d1 ?_ | refine DW_VI tabs rfl (by first | exact fi | exact la | exact w1) ?_ | refine DW_A tabs rfl ?_ | refine DW_nil ?_ | refine W_A rfl ?_ | refine DW_C rfl kl ?_ | refine DW_ix tabOK rfl (ixN hx) ?_ | refine DW_ix tabOK rfl (ixN hy) ?_ | refine W_draw mixed [0, 1, 2, 6, 7, 3, 4, 5, 8, 9, 10, 11, 12] [.P, .P, .P, .R, .R, .R, .P, .P, .R, .R, .R, .P, .P] rfl rfl (by kernel_rfl) ?_)
        refine ⟨h1, _, _, ⟨rfl, ?_, rfl⟩, Joint.le ?_ (Mem.le_refl _)⟩
        · intro j a b hj ha hb
          by_cases hji : j = i
          · subst hji
            rw [hx] at ha; rw [hy] at hb
            cases ha; cases hb
            exact h3
          · exact hinv j a b (by omega) ha hb
        · skip
          repeat (refine AF.le_cons rfl ?_)
          exact AF.le_nil rfl
    · have d1 : decide (((i + 1 : Nat) : Int) < (l.length : Int)) = false := by simp; omega
      have e : decide (Rise l) = true := decide_eq_true (rise_adj l fun j a b ha hb => hinv j a b (by have := (List.getElem?_eq_some_iff.1 hb).1; omega) ha hb)
      rw [e]
      repeat' (first | refine DW_VB tabs rfl d1 ?_ | refine DW_VI tabs rfl la ?_ | refine DW_A tabs rfl ?_ | refine DW_nil ?_ | refine W_A rfl ?_ | refine W_draw mixed [0, 1, 2, 6, 7, 3, 4, 5, 8, 9, 10, 11, 12] [.P, .P, .P, .R, .R, .R, .P, .P, .R, .R, .R, .P, .P] rfl rfl (by kernel_rfl) ?_)
      exact ⟨rfl, _, rfl, rfl, rfl⟩

theorem findP_at {l : List Pr} {k : Ky} {i : Nat} (h : ∀ (j : Nat) a, j < i → l[j]? = some a → rless a.key k = true) (hi : ∀ a, l[i]? = some a → rless a.key k = false) (hl : i ≤ l.length) : findP l k = i := by
  induction l generalizing i with
  | nil => simp at hl; subst hl; rfl
  | cons q r ih =>
    unfold findP at ih ⊢
    rw [List.takeWhile_cons]
    cases i with
    | zero => rw [if_neg (by rw [hi q rfl]; simp)]; rfl
    | succ i =>
      rw [if_pos (h 0 q (by omega) rfl), List.length_cons, ih (i := i) (fun j a hj ha => h (j + 1) a (by omega) ha) (fun a ha => hi a ha) (by simpa using hl)]
set_option maxRecDepth 100000 in
set_option maxHeartbeats 8000000 in
theorem rFind_ok (l : List Pr) (tg : Tag) (hl : l.length < 1000000) (k : Ky) : APure Tryd.prog 36 [.sl 3 (l.map Pr.av) tg, k.av] (.tup [.int .i64 (findP l k), .bool (hasP l k)]) := by
  intro M
  refine acalls_of tabOK Tryd.func36 rfl (by decide) (by simp [Tryd.f36]) ?_
  have la := len_map Pr.av l
  repeat' (first | refine DW_A tabs rfl ?_ | refine DW_nil ?_ | refine W_A rfl ?_ | refine W_draw mixed [0, 1, 2, 3, 4, 5, 6, 7, 8, 9, 10, 11, 12] [.P, .P, .P, .P, .P, .P, .P, .R, .R, .R, .R, .P, .P] rfl rfl (by kernel_rfl) ?_ | refine W_draw mixed [0, 1, 2, 3, 4, 5, 6, 7, 14, 8, 9, 10, 11, 12, 13, 15] [.P, .P, .P, .P, .P, .P, .P, .P, .R, .R, .R, .R, .P, .P, .P, .P] rfl rfl (by kernel_rfl) ?_)
  refine W_count l.length (fun i f N => N = M ∧ (∀ (j : Nat) a, j < i → l[j]? = some a → rless a.key k = true) ∧ f = ⟨[(0, .sl 3 (l.map Pr.av) tg), (3, .ref [.str k.path, .int .i64 k.time]), (6, .int .i64 (i : Int))], []⟩) (Nat.zero_le _) ⟨rfl, by simp, rfl⟩ (Joint.le ?_ (Mem.le_refl _)) ?_
  · skip
    repeat (refine AF.le_cons rfl ?_)
    exact AF.le_nil rfl
  rintro i f N hi ⟨rfl, hinv, rfl⟩
  by_cases h1 : i < l.length
  · have d1 : decide ((i : Int) < (l.length : Int)) = true := by simp; omega
    have hx : l[i]? = some l[i] := List.getElem?_eq_getElem h1
    have fi := wrap_succ (i := i) (by omega)
    have ht := take_succ hx
    have hm := List.getElem_mem h1
    generalize l[i] = x at hx ht hm
    have kl := rless_ok x.key k
    cases h3 : rless x.key k
    · rw [h3] at kl
      have e := findP_at hinv (fun a ha => by rw [hx] at ha; cases ha; exact h3) (by omega)
      have ce := key_eqB x.key k
      unfold hasP
      rw [e, hx]
      repeat' (first | refine DW_VB tabs rfl (by first | exact d1 | exact ce) ?_ | refine DW_VI tabs rfl (by first | exact fi | exact la) ?_ | refine DW_A tabs rfl ?_ | refine DW_nil ?_ | refine W_A rfl ?_ | refine DW_C rfl kl ?_ | refine DW_ix tabOK rfl (ixN hx) ?_ | refine W_draw mixed [0, 1, 2, 3, 4, 5, 6, 7, 8, 9, 10, 11, 12] [.P, .P, .P, .P, .P, .P, .P, .R, .R, .R, .R, .P, .P] rfl rfl (by kernel_rfl) ?_ | refine W_draw mixed [0, 1, 2, 3, 4, 5, 6, 7, 14, 8, 9, 10, 11, 12, 13, 15] [.P, .P, .P, .P, .P, .P, .P, .P, .R, .R, .R, .R, .P, .P, .P, .P] rfl rfl (by kernel_rfl) ?_)
      exact ⟨rfl, _, rfl, rfl, rfl⟩
    · rw [h3] at kl
      repeat' (first | refine DW_VB tabs rfl d1 ?_ | refine DW_VI tabs rfl (by first | exact fi | exact la) ?_ | refine DW_A tabs rfl ?_ | refine DW_nil ?_ | refine W_A rfl ?_ | refine DW_C rfl kl ?_ | refine DW_ix tabOK rfl (ixN hx) ?_ | refine W_draw mixed [0, 1, 2, 3, 4, 5, 6, 7, 8, 9, 10, 11, 12] [.P, .P, .P, .P, .P, .P, .P, .R, .R, .R, .R, .P, .P] rfl rfl (by kernel_rfl) ?_ | refine W_draw mixed [0, 1, 2, 3, 4, 5, 6, 7, 14, 8, 9, 10, 11, 12, 13, 15] [.P, .P, .P, .P, .P, .P, .P, .P, .R, .R, .R, .R, .P, .P, .P, .P] rfl rfl (by kernel_rfl) ?_)
      refine ⟨h1, _, _, ⟨rfl, ?_, rfl⟩, Joint.le ?_ (Mem.le_refl _)⟩
      · intro j a hj ha
        by_cases hji : j = i
        · subst hji
          rw [hx] at ha
          cases ha
          exact h3
        · exact hinv j a (by omega) ha
      · skip
        repeat (refine AF.le_cons rfl ?_)
        exact AF.le_nil rfl
  · have d1 : decide ((i : Int) < (l.length : Int)) = false := by simp; omega
    obtain rfl : i = l.length := by omega
    have e := findP_at (i := l.length) hinv (fun a ha => by rw [List.getElem?_eq_none (Nat.le_refl _)] at ha; cases ha) (Nat.le_refl _)
    unfold hasP
    rw [e, List.getElem?_eq_none (Nat.le_refl _)]
    repeat' (first | refine DW_VB tabs rfl d1 ?_ | refine DW_VI tabs rfl (by first | exact fi | exact la) ?_ | refine DW_A tabs rfl ?_ | refine DW_nil ?_ | refine W_A rfl ?_ | refine W_draw mixed [0, 1, 2, 3, 4, 5, 6, 7, 8, 9, 10, 11, 12] [.P, .P, .P, .P, .P, .P, .P, .R, .R, .R, .R, .P, .P] rfl rfl (by kernel_rfl) ?_ | refine W_draw mixed [0, 1, 2, 3, 4, 5, 6, 7, 14, 8, 9, 10, 11, 12, 13, 15] [.P, .P, .P, .P, .P, .P, .P, .P, .R, .R, .R, .R, .P, .P, .P, .P] rfl rfl (by kernel_rfl) ?_)
    exact ⟨rfl, _, rfl, rfl, rfl⟩
end Go.Proofs.YthdeopopodhimaaDoor

/- Helps for the rows: arguments read as values. No further condition. -/
set_option linter.unusedVariables false
set_option linter.unusedSimpArgs false
namespace Go.Proofs.YthdeopopodhimaaDoor
open Go.Ab Go.RowKit Go.ChangeShapes Go.WideShapes Go.ChangeAt

theorem Tryd.own : ownKnob Tryd.prog.godebug = none := by kernel_rfl
theorem Tryd.laidOut : laidOutB Tryd.prog = true := by kernel_rfl

set_option maxRecDepth 100000 in
theorem one_str {t : TypeId} {W : World} {base : Nat} {v : Value} (ht : Tryd.prog.underlying t = some .string) (h : Value.okWide Tryd.prog W .any base t v) : v.cells.toList = [v] := by
  obtain ⟨s, rfl⟩ := okWide_string ht h
  rfl
set_option maxRecDepth 100000 in
theorem one_int {t : TypeId} {k : IntKind} {W : World} {base : Nat} {v : Value} (ht : Tryd.prog.underlying t = some (.int k)) (h : Value.okWide Tryd.prog W .any base t v) : v.cells.toList = [v] := by
  obtain ⟨n, rfl⟩ := okWide_int ht h
  rfl
set_option maxRecDepth 100000 in
theorem one_slice {e t : TypeId} {W : World} {base : Nat} {v : Value} (ht : Tryd.prog.underlying t = some (.slice e)) (h : Value.okWide Tryd.prog W .any base t v) : v.cells.toList = [v] := by
  obtain ⟨a, l, c, rfl⟩ := okWide_slice ht h
  rfl
theorem str_of {n : Nat} {t : TypeId} {x : AV} (h : Go.Ab.shape tab n t [x]) (hk : (lookup tab t).map (·.k) = some .str) : ∃ s : Bytes, x = .str s ∧ s.length ≤ reachBytes := by
  cases n with
  | zero => exact h.elim
  | succ n =>
    simp only [Go.Ab.shape] at h
    cases hl : lookup tab t with
    | none => rw [hl] at h; exact h.elim
    | some i =>
      rw [hl] at h hk
      simp only [Option.map_some, Option.some.injEq] at hk
      simp only [hk] at h
      obtain ⟨s, hs, hb⟩ := h
      cases hs
      exact ⟨s, rfl, hb⟩
theorem int_of {n : Nat} {t : TypeId} {k : IntKind} {x : AV} (h : Go.Ab.shape tab n t [x]) (hk : (lookup tab t).map (·.k) = some (.int k)) : ∃ m : Int, x = .int k m ∧ (Lit.int k m).wf = true := by
  cases n with
  | zero => exact h.elim
  | succ n =>
    simp only [Go.Ab.shape] at h
    cases hl : lookup tab t with
    | none => rw [hl] at h; exact h.elim
    | some i =>
      rw [hl] at h hk
      simp only [Option.map_some, Option.some.injEq] at hk
      simp only [hk] at h
      obtain ⟨s, hs, hb⟩ := h
      cases hs
      exact ⟨s, rfl, hb⟩
theorem i64_of {m : Int} (h : (Lit.int .i64 m).wf = true) : -9223372036854775808 ≤ m ∧ m < 9223372036854775808 := by
  simp [Lit.wf, IntKind.min, IntKind.max, IntKind.signed, IntKind.bits] at h
  omega

theorem key_of {l : List AV} (h : Go.Ab.shape tab 8 24 l) : ∃ k : Ky, AV.agg l = k.av ∧ k.path.length ≤ reachBytes := by
  obtain ⟨a, b, rfl, ⟨p, rfl, hb⟩, a2, b2, rfl, ⟨t, rfl, _⟩, rfl⟩ := h
  exact ⟨⟨p, t⟩, rfl, hb⟩
theorem prs_of {x : AV} (h : Go.Ab.shape tab 8 22 [x]) : ∃ l : List Pr, x = .sl 3 (l.map Pr.av) .none ∧ l.length ≤ reachBytes := by
  obtain ⟨xs, hx, hb, hall⟩ := h
  cases hx
  obtain ⟨l, rfl⟩ := list_of (f := Pr.av) (xs := xs) fun y hy => by
    obtain ⟨c, rfl, a, b, rfl, ⟨c1, d1, rfl, ⟨p, rfl, _⟩, c2, d2, rfl, ⟨t, rfl, _⟩, rfl⟩, a2, b2, rfl, ⟨v, rfl, _⟩, rfl⟩ := hall y hy
    exact ⟨⟨⟨p, t⟩, v⟩, rfl⟩
  exact ⟨l, rfl, by simpa using hb⟩
end Go.Proofs.YthdeopopodhimaaDoor
