/- Equality of structs. -/
import Derived.Test.YteimhnedflbkmaaDoorAbC5
import Derived.Laws.StructEq
set_option linter.unusedVariables false
set_option linter.unusedSimpArgs false
namespace Go.Ab
open Go.RowKit

/-- A part of a row of cells. -/
def pieceA (τ : Tab) (ft : TypeId) (o : Nat) (l : List AV) : Option AV :=
  match lookup τ ft with
  | some fi => if fi.agg = true then some (.agg ((l.drop o).take fi.size)) else l[o]?
  | none => none

theorem run_piece {P : Program} {τ : Tab} (hτ : TabOK P τ) {μ : Mu} {F : Frm} {w : World} {l : List AV} {c : Array Value} (hs : c.size = l.length)
    (hc : ∀ (i : Nat) (x : AV) (u : Value), l[i]? = some x → c[i]? = some u → Rep μ F w x u) (hone : ∀ (i : Nat) (u : Value), c[i]? = some u → u.oneCell' = true)
    {ft : TypeId} {off : Nat} {r : AV} (h : pieceA τ ft off l = some r) : ∃ v, (part ft c off).run P w = .ok v w ∧ Rep μ F w r v := by
  unfold pieceA at h
  split at h
  case h_2 => cases h
  rename_i fi hfi
  obtain ⟨ff, fd, fz, H⟩ := TI.spec hτ hfi
  have ha := H.isAgg w
  split at h
  · rename_i hagg
    cases h
    refine ⟨.agg (c.extract off (off + fi.size)), ?_, ?_⟩
    · simp [part, ha, hagg, run_sizeOf w H.info, H.size, H.cellsOf]
    · have hsz : ∀ i : Nat, (c.extract off (off + fi.size))[i]? = if i < fi.size then c[off + i]? else none := by
        intro i
        rw [Array.getElem?_extract]
        by_cases hi : i < fi.size
        · rw [if_pos hi]
          by_cases hb : off + i < c.size
          · rw [if_pos (by omega)]
          · rw [if_neg (by omega), Array.getElem?_eq_none (by omega)]
        · rw [if_neg hi, if_neg (by omega)]
      have hsl : ∀ i : Nat, ((l.drop off).take fi.size)[i]? = if i < fi.size then l[off + i]? else none := by
        intro i
        rw [List.getElem?_take]
        split
        · rw [List.getElem?_drop]
        · rfl
      refine .agg _ _ ?_ ?_ ?_
      · simp only [Array.size_extract, List.length_take, List.length_drop]
        omega
      · intro i y u hy hu'
        rw [hsl] at hy
        rw [hsz] at hu'
        split at hy
        · rename_i hi
          rw [if_pos hi] at hu'
          exact hc _ _ _ hy hu'
        · cases hy
      · intro i u hu'
        rw [hsz] at hu'
        split at hu'
        · exact hone _ _ hu'
        · cases hu'
  · rename_i hagg
    have hi : off < c.size := by rw [hs]; exact (List.getElem?_eq_some_iff.1 h).1
    refine ⟨c[off], ?_, hc _ r _ h (Array.getElem?_eq_getElem hi)⟩
    simp [part, ha, hagg, Array.getElem?_eq_getElem hi]

def aeqs (τ : Tab) (eq : TypeId → AV → AV → Option Bool) : List (Nat × TypeId) → List AV → List AV → Option Bool
  | [], _, _ => some true
  | (o, ft) :: r, l, m =>
    match pieceA τ ft o l, pieceA τ ft o m with
    | some u, some v => (match eq ft u v, aeqs τ eq r l m with | some b, some c => some (b && c) | _, _ => none)
    | _, _ => none

def aeq (τ : Tab) (es : List TypeId) : Nat → TypeId → AV → AV → Option Bool
  | 0, _, _, _ => none
  | k + 1, t, x, y =>
    match lookup τ t with
    | none => none
    | some i =>
      match i.k, x, y with
      | .int _, .int p a, .int q b => if p = q then some (decide (a = b)) else none
      | .bool, .bool a, .bool b => some (a == b)
      | .str, .str a, .str b => some (a == b)
      | .struct fs, .agg l, .agg m => if es.contains t = true then aeqs τ (aeq τ es k) fs l m else none
      | _, _, _ => none

/-- Structs of these types may be compared. -/
def EqTab (P : Program) (es : List TypeId) : Prop :=
  ∀ t, t ∈ es → P.stoodInHeld t = false ∧ P.eqGuardType P.depth t = false ∧ ((P.fieldsOf t).toList.all fun f => f.name != "_") = true

def eqTabB (P : Program) (es : List TypeId) : Bool := es.all fun t => !P.stoodInHeld t && !P.eqGuardType P.depth t && (P.fieldsOf t).toList.all fun f => f.name != "_"

theorem eqTab_of {P : Program} {es : List TypeId} (h : eqTabB P es = true) : EqTab P es := by
  intro t ht
  have := List.all_eq_true.1 h t ht
  simp only [Bool.and_eq_true, Bool.not_eq_true'] at this
  exact ⟨this.1.1, this.1.2, this.2⟩

theorem run_aeqs {P : Program} {τ : Tab} (hτ : TabOK P τ) {μ : Mu} {F : Frm} {w : World} {l m : List AV} {xs ys : Array Value} (hs : xs.size = l.length) (hs2 : ys.size = m.length)
    (hc : ∀ (i : Nat) (x : AV) (u : Value), l[i]? = some x → xs[i]? = some u → Rep μ F w x u) (hone : ∀ (i : Nat) (u : Value), xs[i]? = some u → u.oneCell' = true)
    (hc2 : ∀ (i : Nat) (x : AV) (u : Value), m[i]? = some x → ys[i]? = some u → Rep μ F w x u) (hone2 : ∀ (i : Nat) (u : Value), ys[i]? = some u → u.oneCell' = true)
    {eq : TypeId → AV → AV → Option Bool} {d : Nat} (heq : ∀ t x y b vx vy, eq t x y = some b → Rep μ F w x vx → Rep μ F w y vy → (Op.equalIn d t vx vy).run P w = .ok b w) :
    ∀ (gs : List Field) (b : Bool), (gs.all fun f => f.name != "_") = true → aeqs τ eq (gs.map fun f => (f.offset, f.type)) l m = some b → (Op.eqFields d xs ys gs).run P w = .ok b w
  | [], b, _, h => by
    simp only [List.map_nil, aeqs, Option.some.injEq] at h
    subst h
    simp [Op.eqFields]
  | g :: gs, b, hn, h => by
    simp only [List.all_cons, Bool.and_eq_true] at hn
    simp only [List.map_cons, aeqs] at h
    split at h
    case h_2 => cases h
    rename_i u v hu hv
    split at h
    case h_2 => cases h
    rename_i p q hp hq
    cases h
    obtain ⟨vu, h1, h2⟩ := run_piece hτ hs hc hone hu
    obtain ⟨vv, h3, h4⟩ := run_piece hτ hs2 hc2 hone2 hv
    have h5 := heq _ _ _ _ _ _ hp h2 h4
    have h6 := run_aeqs hτ hs hs2 hc hone hc2 hone2 heq gs q hn.2 hq
    have hne : g.name ≠ "_" := by simpa using hn.1
    simp only [Op.eqFields, hne, ne_eq, not_false_eq_true, if_true, Sem.run_bind, h1, h3, h5, Result.andThen_ok]
    cases p
    · simp
    · simp [h6]

theorem run_aeq {P : Program} {τ : Tab} (hτ : TabOK P τ) {es : List TypeId} (hes : EqTab P es) {μ : Mu} {F : Frm} {w : World} : ∀ (k d : Nat), k ≤ d → ∀ (t : TypeId) (x y : AV) (b : Bool) (vx vy : Value), aeq τ es k t x y = some b →
    Rep μ F w x vx → Rep μ F w y vy → (Op.equalIn d t vx vy).run P w = .ok b w
  | 0, _, _, _, _, _, _, _, _, h, _, _ => by cases h
  | k + 1, 0, hd, _, _, _, _, _, _, _, _, _ => by omega
  | k + 1, d + 1, hd, t, x, y, b, vx, vy, h, hx, hy => by
    simp only [aeq] at h
    split at h
    case h_1 => cases h
    rename_i i hi
    obtain ⟨f, fd, z, H⟩ := TI.spec hτ hi
    have hf := H.fits
    split at h
    · rename_i hk
      split at h
      case isFalse => cases h
      rename_i hpq
      cases h
      subst hpq
      cases hx
      cases hy
      rw [hk] at hf
      cases fd <;> simp [TK.fits] at hf
      rw [run_equalIn_int w d t _ _ _ _ H.und]
      congr 1
    · rename_i hk
      cases h
      cases hx
      cases hy
      rw [hk] at hf
      cases fd <;> simp [TK.fits] at hf
      exact run_equalIn_bool' w d t _ _ H.und
    · rename_i hk
      cases h
      cases hx
      cases hy
      rw [hk] at hf
      cases fd <;> simp [TK.fits] at hf
      rw [run_equalIn_string w d t _ _ H.und, data_toList, data_toList]
    · rename_i fs l m hk
      split at h
      case isFalse => cases h
      rename_i hmem
      obtain ⟨hs1, hs2, hs3⟩ := hes t (by simpa using hmem)
      rw [hk] at hf
      cases fd <;> simp [TK.fits] at hf
      rename_i gs
      obtain ⟨c1, rfl, a1, a2, a3⟩ := hx.agg_inv
      obtain ⟨c2, rfl, b1, b2, b3⟩ := hy.agg_inv
      have hfo : P.fieldsOf t = gs := by simp [Program.fieldsOf, H.und]
      rw [run_equalIn_struct w d t c1 c2 (by rw [hfo]; exact H.und) hs1]
      refine run_aeqs hτ a1 b1 a2 a3 b2 b3 (eq := aeq τ es k) (d := d) (fun t x y b vx vy h hx hy => run_aeq hτ hes k d (by omega) t x y b vx vy h hx hy) _ b hs3 ?_
      rw [hfo, hf]
      exact h
    · cases h

def aeqTop (τ : Tab) (es : List TypeId) (op : BinOp) (t : TypeId) (x y : AV) : Option AV :=
  match x, y with
  | .agg _, .agg _ =>
    if es.contains t = true then
      match op, aeq τ es 64 t x y with
      | .eql, some b => some (.bool b)
      | .neq, some b => some (.bool (!b))
      | _, _ => none
    else none
  | _, _ => none

theorem opP_eq {P : Program} {τ : Tab} (hτ : TabOK P τ) {es : List TypeId} (hes : EqTab P es) {b : BinOp} {xt yt : TypeId} {x y : Operand} {ty : TypeId} {ρ : Operand → AV} {r : AV} (h : aeqTop τ es b xt (ρ x) (ρ y) = some r) : OpP P (.binOp b xt x y yt) ty ρ r := by
  refine opP_of_same ?_
  intro μ F w ρc o ho ht hr
  have hx := hr x (by simp [Op.operands])
  have hy := hr y (by simp [Op.operands])
  generalize hvx : ρc x = vx at hx
  generalize hvy : ρc y = vy at hy
  unfold aeqTop at h
  split at h
  case h_2 => cases h
  rename_i l m e1 e2
  rw [e1] at hx
  rw [e2] at hy
  have hx0 := hx
  have hy0 := hy
  obtain ⟨c1, rfl, _⟩ := hx.agg_inv
  obtain ⟨c2, rfl, _⟩ := hy.agg_inv
  split at h
  case isFalse => cases h
  rename_i hmem
  have hg := (hes xt (by simpa using hmem)).2.1
  split at h
  · rename_i q hq
    cases h
    have := run_aeq hτ hes 64 10000 (by omega) xt (.agg l) (.agg m) q _ _ (e1 ▸ e2 ▸ hq) hx0 hy0
    exact ⟨.bool q, by simp only [execOp, ho, hvx, hvy, Sem.run_bind, run_eqGuard_agg w .eql xt x y c1 c2 hg, run_eql_struct, this, Result.andThen_ok]; rfl, .bool _⟩
  · rename_i q hq
    cases h
    have := run_aeq hτ hes 64 10000 (by omega) xt (.agg l) (.agg m) q _ _ (e1 ▸ e2 ▸ hq) hx0 hy0
    exact ⟨.bool (!q), by simp only [execOp, ho, hvx, hvy, Sem.run_bind, run_eqGuard_agg w .neq xt x y c1 c2 hg, run_neq_struct, this, Result.andThen_ok]; rfl, .bool _⟩
  · cases h

def forceL : List AV → Option (List AV)
  | [] => some []
  | a :: r => (match a.force with | some x => (match forceL r with | some y => some (x :: y) | none => none) | none => none)

theorem forceL_spec : ∀ {l m : List AV}, forceL l = some m → l = m
  | [], m, h => by cases h; rfl
  | a :: r, m, h => by
    simp only [forceL] at h
    split at h
    case h_2 => cases h
    rename_i x hx
    split at h
    case h_2 => cases h
    rename_i y hy
    cases h
    rw [AV.force_spec hx, forceL_spec hy]

def abox (x : AV) : Option AV :=
  match x with
  | .agg l => some (.ref l)
  | v => (match v.force with | some u => if u.solid = true then some (.ref [u]) else none | none => none)

theorem abox_spec {x r : AV} (h : abox x = some r) : x.solid = true ∧ r = .ref x.cells := by
  cases x <;> simp only [abox, AV.force] at h <;> first
    | (cases h; exact ⟨rfl, rfl⟩)
    | (split at h
       · rename_i hs; cases h; exact ⟨hs, rfl⟩
       · cases h)

/-- What only reckons, equality of structs with it. -/
def stepP3 (τ : Tab) (es : List TypeId) (ρ : Operand → AV) (op : Op) : Option AV :=
  match op with
  | .binOp b xt x y yt => (match aeqTop τ es b xt (ρ x) (ρ y) with | some r => some r | none => (match stepP2 τ ρ (.binOp b xt x y yt) with | some r => some r | none => abin3 b (ρ x) (ρ y)))
  | .box _ x => abox (ρ x)
  | .build t ps => (match stepP2 τ ρ (.build t ps) with | some (.agg l) => (match forceL l with | some m => some (.agg m) | none => none) | _ => none)
  | op => stepP2 τ ρ op

theorem stepP3_sound {P : Program} {τ : Tab} (hτ : TabOK P τ) {es : List TypeId} (hes : EqTab P es) {ρ : Operand → AV} {op : Op} {ty : TypeId} {x : AV} (h : stepP3 τ es ρ op = some x) : OpP P op ty ρ x := by
  unfold stepP3 at h
  split at h
  · split at h
    · rename_i r hr
      cases h
      exact opP_eq hτ hes hr
    · split at h
      · rename_i r hr
        cases h
        exact stepP2_sound hτ hr
      · exact opP_bin3 h
  · have hs := abox_spec h
    rw [hs.2]
    exact opP_box hs.1
  · split at h
    case h_2 => cases h
    rename_i l hl
    split at h
    case h_2 => cases h
    rename_i m hm
    cases h
    rw [← forceL_spec hm]
    exact stepP2_sound hτ hl
  · exact stepP2_sound hτ h

/-- A slice of its elements. -/
theorem DW_lits {P : Program} {τ : Tab} (hτ : TabOK P τ) {ops : Array Oper} {cls : Nat → Cls} {Q : AX → AF → Mem → Prop} {ds : List ADef} {l : List Nat} {i : Nat} {o : Oper} {t : List (Nat × AV)} {M : Mem} {d : Nat} (hi : ops[i]? = some o) (hw : wantedA ops ⟨t, ds⟩ o = some true) (hd : o.dst = some d) {ty e : TypeId} {n : Nat} {ps : Array (Nat × Operand)} (ho : o.op = .buildSlice ty n ps) {ti ei : TI} (ht : lookup τ ty = some ti) (hk : ti.k = .slice e)
    (he : lookup τ e = some ei) (hpos : decide (0 < ei.size) = true) (hn : ps.size = n) (hidx : idxOK ps.toList 0 = true) (hsz : sizedAll ei.size (ps.toList.map fun p => AF.ev ⟨t, ds⟩ p.2) = true) (hbig : decide (n * ei.size ≤ 16777216) = true)
    {ys : List AV} (hys : forceL (ps.toList.map fun p => AF.ev ⟨t, ds⟩ p.2) = some ys) (h : DW P ops cls Q ds l ((d, .sl ei.size ys .full) :: t) M) : DW P ops cls Q ds (i :: l) t M :=
  DW_lit hτ hi hw hd ho ht hk he hpos hn hidx hsz hbig (by rw [forceL_spec hys]; exact h)

theorem DW_Q {P : Program} {τ : Tab} {es : List TypeId} (hT : TabOK P τ ∧ EqTab P es) {ops : Array Oper} {cls : Nat → Cls} {Q : AX → AF → Mem → Prop} {ds : List ADef} {l : List Nat} {i : Nat} {o : Oper} {t : List (Nat × AV)} {M : Mem} {x : AV} {d : Nat}
    (hi : ops[i]? = some o) (hw : wantedA ops ⟨t, ds⟩ o = some true) (hd : o.dst = some d) (ho : forceP (stepP3 τ es (AF.ev ⟨t, ds⟩) o.op) = some x) (h : DW P ops cls Q ds l ((d, x) :: t) M) : DW P ops cls Q ds (i :: l) t M :=
  DW_ofP hi hw hd (stepP3_sound hT.1 hT.2 (forceP_spec ho)) h

end Go.Ab
