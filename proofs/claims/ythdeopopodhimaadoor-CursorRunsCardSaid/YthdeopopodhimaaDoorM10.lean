/- Parts of the proof, one behind the other: AbE2, AbE3, TreeA, TreeB. No further condition. -/
import Derived.Test.YthdeopopodhimaaDoorM09
import Derived.WideLaws
import Derived.Test.YthdeopopodhimaaDoorM08
set_option linter.unusedVariables false
set_option linter.unusedSimpArgs false
/- append of so many zeros, caps, interfaces held against nil, methods as values. -/
set_option linter.unusedVariables false
set_option linter.unusedSimpArgs false
namespace Go.Ab
open Go.RowKit

theorem run_append_zeros {P : Program} {t tx ty e : TypeId} {k : IntKind} {i : TypeInfo} {z : Value} (ht : P.underlying t = some (.slice e)) (hx : P.underlying tx = some (.int k)) (hi : P.info? e = some i) (hz : i.zero = some z) (n : Nat) (h0 : 0 < n) (h1 : n ≤ 140737488355328) (h2 : n * i.bytes ≤ 140737488355328) (hsz : 0 < i.size) (w : World) (A : Option Addr) (hold : (Builtin.firstCells i.size 0 (.slice A 0 0)).run P w.drew = .ok #[] w.drew) :
    (Builtin.append_ #[t, tx] ty #[.slice A 0 0, .int .i64 n]).run P w =
      .ok (.slice (some ⟨w.heap.size, 0, none⟩) n (grownCap w n 0 e))
        (w.drew.alloc (.cells (Builtin.zeroCells z.cells n ++ Builtin.zeroCells z.cells (grownCap w n 0 e - n)) e)) := by
  have hw : IntKind.wrap .i64 (n : Int) = n := wrap_small (by omega) (by omega)
  have a1 : ¬ ((n : Int) < 0) := by omega
  have a2 : ¬ (281474976710656 < (n : Int) * (i.bytes : Int)) := by
    have : ((n * i.bytes : Nat) : Int) = (n : Int) * (i.bytes : Int) := by push_cast; rfl
    omega
  have a3 : ¬ (9223372036854775807 < (n : Int)) := by omega
  have a4 : ¬ n = 0 := by omega
  have a5 : ¬ i.size = 0 := by omega
  have hcap : Builtin.nextslicecap n 0 = n := by unfold Builtin.nextslicecap; rw [if_pos (by omega)]
  have a6 : ¬ (281474976710656 < n * i.bytes) := by omega
  have a7 : ¬ ((n : Int) ≤ 0) := by omega
  have a8 : ¬ (9223372036854775807 < max (n : Int) 0) := by omega
  have a9 : ¬ (n = 0 ∨ i.size = 0) := by omega
  simp [Builtin.append_, run_underlying ht, run_underlying hx, sizeOf, typeInfo, zeroValue, hi, hz, hw, a1, a2, a3, a4, a5, a6, a7, a8, a9, hcap, Question.forced, newRow, grownCap, hold, asInt, asIntOf]
  intro h
  exact absurd (Nat.mul_eq_zero.1 h) a9

/-- append of zeros to nil: a new object. -/
theorem opG_append_zeros {P : Program} {τ : Tab} (hτ : TabOK P τ) {t tx e : TypeId} {ti ei xi : TI} (hin : AppIn P τ t e ti ei) (hxi : lookup τ tx = some xi) (hxk : xi.k = .int .i64) {o : Oper} {s x : Operand}
    (ho : o.op = .call { callee := .builtin .append, args := #[s, x], argTypes := #[t, tx] }) {ρ : Operand → AV} {M : Mem} {sz n : Nat} (hS : ρ s = .sl sz [] .full) (hX : ρ x = .int .i64 (n : Int)) (h0 : 0 < n)
    (hb : n * ei.bytes ≤ 140737488355328) (hlen : n ≤ 140737488355328) {Kp : AV → Mem → Prop} :
    OpG P o ρ M (fun u M' => ∃ (cap' : Nat) (l' : List AV), n ≤ cap' ∧ l'.length = cap' * ei.size ∧ u = .osl M.next 0 n cap' ei.size ∧ M' = M.push (.cells l')) Kp := by
  intro μ F w a hg hr next Q' hnext _
  have hs := hr s (by simp [ho, Op.operands, Call.operands])
  have hx := hr x (by simp [ho, Op.operands, Call.operands])
  rw [hS] at hs
  rw [hX] at hx
  generalize hxe : a.eval x = xe at hx
  cases hx
  generalize hse : a.eval s = se at hs
  have hsv : ∃ A, se = .slice A 0 0 := by
    cases hs with
    | sl _ _ _ A cap ad vals hsz hcap hA hone hcell hrep htag =>
      have : cap = 0 := htag
      subst this
      exact ⟨A, rfl⟩
  obtain ⟨A, rfl⟩ := hsv
  obtain ⟨ft, dt, zt, HT⟩ := TI.spec hτ hin.tl
  obtain ⟨fe, de, ze, HE⟩ := TI.spec hτ hin.el
  obtain ⟨fx, dx, zx, HX⟩ := TI.spec hτ hxi
  have hfi := HT.fits
  rw [hin.tk] at hfi
  have hdd : dt = .slice e := by
    cases dt <;> simp [TK.fits] at hfi
    rw [hfi]
  subst hdd
  have hfx := HX.fits
  rw [hxk] at hfx
  have hdx : dx = .int .i64 := by
    cases dx <;> simp [TK.fits] at hfx
    rw [hfx]
  subst hdx
  have hex : ∀ v w', (Builtin.append_ #[t, tx] o.type #[a.eval s, a.eval x]).run P w = .ok v w' → (execOp a.eval o).run P w = .ok (.value v) w' := by
    intro v w' h
    simp [execOp, ho, resolve, invoke, builtin, h]
  unfold Oper.wp
  have hold : (Builtin.firstCells fe.size 0 (.slice A 0 0)).run P w.drew = .ok #[] w.drew := by
    cases A with
    | none => simp [Builtin.firstCells]
    | some ad => simp [Builtin.firstCells, loadCells, loadCellsFrom]
  have hrun := run_append_zeros (ty := o.type) (P := P) HT.und HX.und HE.info HE.zero n h0 hlen (by rw [HE.bytes]; exact hb) (by rw [HE.size]; exact hin.pos) w A hold
  have hge := grownCap_ge w n 0 e
  generalize hcap : grownCap w n 0 e = cap' at hrun hge
  let c' : Array Value := Builtin.zeroCells ze.cells n ++ Builtin.zeroCells ze.cells (cap' - n)
  let w' : World := w.drew.alloc (.cells c' e)
  have hzs : ze.cells.size = ei.size := by
    have := (sameCells_get HE.cells).1
    simp only [Array.length_toList] at this
    rw [this, HE.len]
  have hc's : c'.size = cap' * ei.size := by
    simp only [c', Array.size_append, size_zeroCells, hzs, ← Nat.add_mul]
    rw [Nat.add_sub_cancel' hge]
  have hheap : w'.heap[w.heap.size]? = some (.cells c' e (0, 0)) := heap_alloc_new w.drew _
  have hbelow : Below w.heap.size w w' := ⟨rfl, rfl, rfl, by simp [w', World.alloc], fun k hk => heap_alloc_old w.drew _ hk⟩
  let l' : List AV := List.replicate (cap' * ei.size) .top
  have hl' : l'.length = cap' * ei.size := by simp [l']
  have hone : ∀ (m : Nat) (v : Value), v ∈ Builtin.zeroCells ze.cells m → v.oneCell' = true := fun m v hm => zeroCells_one (z := ze.cells) (fun u hu => by
      obtain ⟨j, hj⟩ := List.getElem?_of_mem (Array.mem_toList_iff.2 hu)
      have hjl : j < ei.zero.length := by
        rw [HE.len, ← hzs, ← Array.length_toList]
        exact (List.getElem?_eq_some_iff.1 hj).1
      obtain ⟨rfl, hp⟩ := (sameCells_get HE.cells).2 j u _ (by simpa using hj) (List.getElem?_eq_getElem hjl)
      exact one_toV hp) (by rw [hzs]; exact hin.pos) _ v hm
  obtain ⟨hev, hG⟩ := gam_push hg hbelow (l := l') (c := c') (ty := e) (b := w.heap.size) (Nat.le_refl _) hheap (by rw [hc's, hl']) (by
      intro i v hi
      have hm := Array.mem_of_getElem? hi
      rcases Array.mem_append.1 hm with h | h
      · exact hone _ v h
      · exact hone _ v h) (by
      intro i q v hq hi
      have := List.mem_of_getElem? hq
      rw [List.mem_replicate] at this
      rw [this.2]
      exact .top _)
  rw [hse, hxe] at hex
  rw [hex _ _ hrun]
  exact hnext _ _ _ _ _ hev hG (rep_osl (b := w.heap.size) (by simp [Mu.put])) ⟨cap', l', hge, hl', rfl, rfl⟩

theorem rep_full {μ : Mu} {F : Frm} {w : World} {sz : Nat} {xs : List AV} {v : Value} (h : Rep μ F w (.sl sz xs .full) v) : ∃ A, v = .slice A xs.length xs.length := by
  cases h with
  | sl _ _ _ A cap ad vals hsz hcap hA hone hcell hrep htag =>
    have : cap = xs.length := htag
    subst this
    exact ⟨A, rfl⟩

theorem opP_cap {P : Program} {τ : Tab} (hτ : TabOK P τ) {t e : TypeId} {ti : TI} (ht : lookup τ t = some ti) (hk : ti.k = .slice e) {x : Operand} {ty : TypeId} {ρ : Operand → AV} {sz : Nat} {xs : List AV} (hx : ρ x = .sl sz xs .full) :
    OpP P (.call { callee := .builtin .cap, args := #[x], argTypes := #[t] }) ty ρ (.int .i64 xs.length) := by
  refine opP_of_same ?_
  intro μ F w ρc o ho hty hr
  have h := hr x (by simp [Op.operands, Call.operands])
  rw [hx] at h
  obtain ⟨A, hv⟩ := rep_full h
  obtain ⟨ft, dt, zt, HT⟩ := TI.spec hτ ht
  have hfi := HT.fits
  rw [hk] at hfi
  have hdd : dt = .slice e := by
    cases dt <;> simp [TK.fits] at hfi
    rw [hfi]
  subst hdd
  exact ⟨.int .i64 xs.length, by simp [execOp, ho, resolve, invoke, builtin, hv, Builtin.cap_, run_underlying HT.und, goInt], .int _ _⟩

theorem opP_inil {P : Program} {t yt : TypeId} {x y : Operand} {ty : TypeId} {ρ : Operand → AV} {u : TypeId} {z : AV} (ht : P.underlying t = some (.interface (P.methodsAt t))) (hx : ρ x = .iface u z) (hy : ρ y = .nilIface) :
    OpP P (.binOp .eql t x y yt) ty ρ (.bool false) := by
  refine opP_of_same ?_
  intro μ F w ρc o ho hty hr
  have h1 := hr x (by simp [Op.operands])
  have h2 := hr y (by simp [Op.operands])
  rw [hx] at h1
  rw [hy] at h2
  generalize hv1 : ρc x = v1 at h1
  generalize hv2 : ρc y = v2 at h2
  cases h1
  cases h2
  exact ⟨.bool false, by simp [execOp, ho, hv1, hv2, eqGuard, run_eql_held_nil w t _ _ ht], .bool _⟩

theorem run_nilAhead {P : Program} {t : TypeId} {name : String} {g : FuncId} (h : methF P t name = some g) (v : Value) (w : World) (k : Nat) : (nilAhead (k + 1) t v name).run P w = .ok (some false) w := by
  unfold methF at h
  split at h
  case h_2 => cases h
  rename_i i hi
  split at h
  case h_2 => cases h
  rename_i m hm
  split at h
  case h_2 => cases h
  rename_i hp hf hn
  cases h
  have hu : ∃ d, P.underlying t = some d ∧ ∀ e, d ≠ .pointer e := by
    cases hd : P.underlying t with
    | none => rw [hd] at hn; cases hn
    | some d =>
      refine ⟨d, rfl, ?_⟩
      rintro e rfl
      rw [hd] at hn
      cases hn
  obtain ⟨d, hd, hne⟩ := hu
  unfold nilAhead
  simp only [Sem.run_bind, typeInfo, hi, hm, hp, hf, followBlind, Result.andThen_ok]
  simp [hi, hm, hp, hf, followBlind, run_underlying hd]
  cases d <;> first | exact absurd rfl (hne _) | simp

theorem opP_nilfn {P : Program} {x : Operand} {ty : TypeId} {ρ : Operand → AV} {name : String} {u : TypeId} {z : AV} {b : List AV} {g : FuncId} (hx : ρ x = .fn (.method name) [.iface u z] b) (hm : methF P u name = some g) : OpP P (.nilCheck x) ty ρ (.fn (.method name) [.iface u z] b) := by
  refine opP_of_same ?_
  intro μ F w ρc o ho ht hr
  have h := hr x (by simp [Op.operands])
  rw [hx] at h
  have h' := h
  obtain ⟨c1, c2, hv, hs1, hs2, f1, f2⟩ := h.fn_inv
  rw [hv] at h'
  have h0 : 0 < c1.size := by rw [hs1]; simp
  have hc := f1 0 (.iface u z) c1[0] rfl (Array.getElem?_eq_getElem h0)
  have hg : c1[0]? = some c1[0] := Array.getElem?_eq_getElem h0
  generalize c1[0] = y at hc hg
  cases hc with
  | iface _ _ q hq =>
  have hk : ∃ k, P.types.size + Made.depth = k + 1 := ⟨P.types.size + (Made.depth - 1), rfl⟩
  obtain ⟨k, hk⟩ := hk
  refine ⟨_, ?_, h'⟩
  simp [execOp, ho, hv, hg, hk, run_nilAhead hm]

section
variable {P : Program} {τ : Tab} {ops : Array Oper} {cls : Nat → Cls} {Q : AX → AF → Mem → Prop} {ds : List ADef} {ls : List Nat} {i : Nat} {o : Oper} {t : List (Nat × AV)} {M : Mem}

/-- append of zeros to nil: an own slice. -/
theorem DW_zapp (hτ : TabOK P τ) {d : Nat} (hi : ops[i]? = some o) (hw : wantedA ops ⟨t, ds⟩ o = some true) (hd : o.dst = some d) (hc : isE (cls i) = true) {ty tx e : TypeId} {s x : Operand} (ho : o.op = .call { callee := .builtin .append, args := #[s, x], argTypes := #[ty, tx] })
    {sz n : Nat} (hS : AF.ev ⟨t, ds⟩ s = .sl sz [] .full) (hX : AF.ev ⟨t, ds⟩ x = .int .i64 (n : Int)) {ti ei xi : TI} (ht : lookup τ ty = some ti) (hk : ti.k = .slice e) (he : lookup τ e = some ei) (hp : decide (0 < ei.size) = true) (hxi : lookup τ tx = some xi) (hxk : xi.k = .int .i64)
    (h0 : 0 < n) (hb : n * ei.bytes ≤ 140737488355328) (hlen : n ≤ 140737488355328)
    (h : ∀ (cap' : Nat) (l' : List AV), n ≤ cap' → l'.length = cap' * ei.size → DW P ops cls Q ds ls ((d, .osl M.next 0 n cap' ei.size) :: t) (M.push (.cells l'))) : DW P ops cls Q ds (i :: ls) t M := by
  refine DW_run hi hw ?_
  generalize cls i = c at hc ⊢
  cases c with
  | E =>
    refine OpG.mono (opG_append_zeros hτ ⟨ht, hk, he, of_decide_eq_true hp⟩ hxi hxk ho hS hX h0 hb hlen) ?_
    rintro u M' ⟨cap', l', h1, h2, rfl, rfl⟩
    have := h cap' l' h1 h2
    simpa [AF.put, hd] using this
  | _ => cases hc
theorem DW_cap (hτ : TabOK P τ) {d : Nat} (hi : ops[i]? = some o) (hw : wantedA ops ⟨t, ds⟩ o = some true) (hd : o.dst = some d) {x : Operand} {ts : TypeId} (ho : o.op = .call { callee := .builtin .cap, args := #[x], argTypes := #[ts] }) {sz : Nat} {xs : List AV} (hx : AF.ev ⟨t, ds⟩ x = .sl sz xs .full) {e : TypeId} {ti : TI} (ht : lookup τ ts = some ti) (hk : ti.k = .slice e)
    (h : DW P ops cls Q ds ls ((d, .int .i64 xs.length) :: t) M) : DW P ops cls Q ds (i :: ls) t M :=
  DW_ofP hi hw hd (by rw [ho]; exact opP_cap hτ ht hk hx) h
theorem DW_inil {d : Nat} (hi : ops[i]? = some o) (hw : wantedA ops ⟨t, ds⟩ o = some true) (hd : o.dst = some d) {ts yt : TypeId} {x y : Operand} (ho : o.op = .binOp .eql ts x y yt) (ht : P.underlying ts = some (.interface (P.methodsAt ts))) {u : TypeId} {z : AV} (hx : AF.ev ⟨t, ds⟩ x = .iface u z) (hy : AF.ev ⟨t, ds⟩ y = .nilIface)
    (h : DW P ops cls Q ds ls ((d, .bool false) :: t) M) : DW P ops cls Q ds (i :: ls) t M :=
  DW_ofP hi hw hd (by rw [ho]; exact opP_inil ht hx hy) h
theorem DW_nilfn {d : Nat} (hi : ops[i]? = some o) (hw : wantedA ops ⟨t, ds⟩ o = some true) (hd : o.dst = some d) {x : Operand} (ho : o.op = .nilCheck x) {name : String} {u : TypeId} {z : AV} {b : List AV} {g : FuncId} (hx : AF.ev ⟨t, ds⟩ x = .fn (.method name) [.iface u z] b) (hm : methF P u name = some g)
    (h : DW P ops cls Q ds ls ((d, .fn (.method name) [.iface u z] b) :: t) M) : DW P ops cls Q ds (i :: ls) t M :=
  DW_ofP hi hw hd (by rw [ho]; exact opP_nilfn hx hm) h
end
end Go.Ab

/- Parts of rows that are told one by one. -/
set_option linter.unusedVariables false
set_option linter.unusedSimpArgs false
namespace Go.Ab
open Go.RowKit
theorem opP_slice00 {P : Program} {τ : Tab} (hτ : TabOK P τ) {t e : TypeId} {ti ei : TI} (ht : lookup τ t = some ti) (hk : ti.k = .slice e) (he : lookup τ e = some ei) {X : Operand} {H : Option Operand} {ty : TypeId} {ρ : Operand → AV} {sz : Nat}
    (hX : ρ X = .sl sz [] .full) (hH : bnd (H.map ρ) 0 = some 0) : OpP P (.slice t X none H none) ty ρ (.sl sz [] .full) := by
  refine opP_of_same ?_
  intro μ F w ρc o ho hty hr
  have hx := hr X (by simp [Op.operands])
  rw [hX] at hx
  have hx0 := hx
  generalize hv : ρc X = v at hx hx0
  obtain ⟨A, cap, ad, vals, rfl, hs, hcap, hA, hone, hcell, hrep, htag⟩ := hx.sl_inv
  have hc0 : cap = 0 := htag
  subst hc0
  obtain ⟨ft, dt, zt, HT⟩ := TI.spec hτ ht
  obtain ⟨fe, de, ze, HE⟩ := TI.spec hτ he
  have hf := HT.fits
  rw [hk] at hf
  have hdd : dt = .slice e := by
    cases dt <;> simp [TK.fits] at hf
    rw [hf]
  subst hdd
  have hb := run_bounds (P := P) (w := w) (isS := true) (n := 0) (m := 0) (L := none) (.inl ⟨rfl, rfl⟩) (bnd_spec hH fun x hx => hr x (by simp [Op.operands, hx])) (Int.le_refl 0) (Int.le_refl 0) (by omega)
  refine ⟨.slice A 0 0, ?_, hx0⟩
  simp only [execOp, ho, hv, Instr.sliceAt, Sem.run_bind, run_underlying HT.und, Result.andThen_ok, Instr.slice, Option.map_none, List.length_nil, hb, run_sizeOf w HE.info, HE.cellsOf, Sem.run_pure]
  simp
section
variable {P : Program} {τ : Tab} {ops : Array Oper} {cls : Nat → Cls} {Q : AX → AF → Mem → Prop} {ds : List ADef} {ls : List Nat} {i : Nat} {o : Oper} {t : List (Nat × AV)} {M : Mem}

/-- nil[:0] -/
theorem DW_slice00 (hτ : TabOK P τ) {d : Nat} (hi : ops[i]? = some o) (hw : wantedA ops ⟨t, ds⟩ o = some true) (hd : o.dst = some d) {ty e : TypeId} {X : Operand} {H : Option Operand} (ho : o.op = .slice ty X none H none) {sz : Nat}
    (hX : AF.ev ⟨t, ds⟩ X = .sl sz [] .full) {ti ei : TI} (ht : lookup τ ty = some ti) (hk : ti.k = .slice e) (he : lookup τ e = some ei) (hH : bnd (H.map (AF.ev ⟨t, ds⟩)) 0 = some 0)
    (h : DW P ops cls Q ds ls ((d, .sl sz [] .full) :: t) M) : DW P ops cls Q ds (i :: ls) t M :=
  DW_ofP hi hw hd (by rw [ho]; exact opP_slice00 hτ ht hk he hX hH) h
/-- l[lo:] -/
theorem DW_from (hτ : TabOK P τ) {d : Nat} (hi : ops[i]? = some o) (hw : wantedA ops ⟨t, ds⟩ o = some true) (hd : o.dst = some d) {ty e : TypeId} {X : Operand} {L : Option Operand} (ho : o.op = .slice ty X L none none) {α : Type} {f : α → AV} {l : List α} {sz : Nat} {tg : Tag} {lo : Nat}
    (hX : AF.ev ⟨t, ds⟩ X = .sl sz (l.map f) tg) {ti ei : TI} (ht : lookup τ ty = some ti) (hk : ti.k = .slice e) (he : lookup τ e = some ei) (hsz : sz = ei.size) (hL : bnd (L.map (AF.ev ⟨t, ds⟩)) 0 = some (lo : Int)) (h1 : lo ≤ l.length)
    (h : DW P ops cls Q ds ls ((d, .sl sz ((l.drop lo).map f) .none) :: t) M) : DW P ops cls Q ds (i :: ls) t M := by
  refine DW_slice hτ hi hw hd ho hX ht hk he hsz hL (hi' := ((l.map f).length : Int)) rfl (by omega) (by simp; omega) (Int.le_refl _) ?_
  have e1 : ((l.map f).take (((l.map f).length : Int)).toNat).drop ((lo : Int)).toNat = (l.drop lo).map f := by
    have : (l.map f).take (((l.map f).length : Int)).toNat = l.map f := List.take_of_length_le (by simp)
    rw [this]
    simp
  rw [e1]
  exact h
/-- l[:hi] -/
theorem DW_to (hτ : TabOK P τ) {d : Nat} (hi : ops[i]? = some o) (hw : wantedA ops ⟨t, ds⟩ o = some true) (hd : o.dst = some d) {ty e : TypeId} {X : Operand} {H : Option Operand} (ho : o.op = .slice ty X none H none) {α : Type} {f : α → AV} {l : List α} {sz : Nat} {tg : Tag} {n : Nat}
    (hX : AF.ev ⟨t, ds⟩ X = .sl sz (l.map f) tg) {ti ei : TI} (ht : lookup τ ty = some ti) (hk : ti.k = .slice e) (he : lookup τ e = some ei) (hsz : sz = ei.size) (hH : bnd (H.map (AF.ev ⟨t, ds⟩)) (l.map f).length = some (n : Int)) (h1 : n ≤ l.length)
    (h : DW P ops cls Q ds ls ((d, .sl sz ((l.take n).map f) .none) :: t) M) : DW P ops cls Q ds (i :: ls) t M := by
  refine DW_slice hτ hi hw hd ho hX ht hk he hsz (lo := 0) rfl hH (by omega) (by omega) (by simp; omega) ?_
  have e1 : ((l.map f).take ((n : Int)).toNat).drop ((0 : Int)).toNat = (l.take n).map f := by simp
  rw [e1]
  exact h
/-- l[lo:hi] -/
theorem DW_mid (hτ : TabOK P τ) {d : Nat} (hi : ops[i]? = some o) (hw : wantedA ops ⟨t, ds⟩ o = some true) (hd : o.dst = some d) {ty e : TypeId} {X : Operand} {L H : Option Operand} (ho : o.op = .slice ty X L H none) {α : Type} {f : α → AV} {l : List α} {sz : Nat} {tg : Tag} {lo n : Nat}
    (hX : AF.ev ⟨t, ds⟩ X = .sl sz (l.map f) tg) {ti ei : TI} (ht : lookup τ ty = some ti) (hk : ti.k = .slice e) (he : lookup τ e = some ei) (hsz : sz = ei.size) (hL : bnd (L.map (AF.ev ⟨t, ds⟩)) 0 = some (lo : Int)) (hH : bnd (H.map (AF.ev ⟨t, ds⟩)) (l.map f).length = some (n : Int)) (h0 : lo ≤ n) (h1 : n ≤ l.length)
    (h : DW P ops cls Q ds ls ((d, .sl sz (((l.take n).drop lo).map f) .none) :: t) M) : DW P ops cls Q ds (i :: ls) t M := by
  refine DW_slice hτ hi hw hd ho hX ht hk he hsz hL hH (by omega) (by omega) (by simp; omega) ?_
  have e1 : ((l.map f).take ((n : Int)).toNat).drop ((lo : Int)).toNat = ((l.take n).drop lo).map f := by simp
  rw [e1]
  exact h
end
end Go.Ab

/- Rows of pairs: a key's place is found, a pair is put. No further condition. -/
set_option linter.unusedVariables false
set_option linter.unusedSimpArgs false
namespace Go.Proofs.YthdeopopodhimaaDoor
open Go.Ab

theorem closed_pr (p : Pr) : Closed p.av := closed_agg (closed3 closed_str closed_int closed_str)
theorem closed_prs (l : List Pr) : Closed (.sl 3 (l.map Pr.av) .none) := by
  refine closed_slmap (fun a => closed_pr a) ?_
  intro a c hc
  have : c ∈ [AV.str a.key.path, .int .i64 a.key.time, .str a.val] := hc
  exact closed3 closed_str closed_int closed_str c this

/-- The first at which something holds, or -1. -/
def idxI {α : Type} (l : List α) (p : α → Bool) : Int := if l.findIdx p < l.length then (l.findIdx p : Int) else -1
theorem idx_none {α : Type} {l : List α} {p : α → Bool} (h : ∀ (j : Nat) x, l[j]? = some x → p x = false) : idxI l p = -1 := by
  unfold idxI
  rw [if_neg]
  intro hl
  have h1 := List.findIdx_getElem (w := hl)
  rw [h _ _ (List.getElem?_eq_getElem hl)] at h1
  cases h1
theorem idx_hit {α : Type} {l : List α} {p : α → Bool} {i : Nat} {x : α} (h : ∀ (j : Nat) y, j < i → l[j]? = some y → p y = false) (hx : l[i]? = some x) (hp : p x = true) : idxI l p = i := by
  obtain ⟨hi, rfl⟩ := List.getElem?_eq_some_iff.1 hx
  have h1 : l.findIdx p = i := by
    rw [List.findIdx_eq hi]
    refine ⟨hp, fun j hj => ?_⟩
    have := h j l[j] hj (List.getElem?_eq_getElem (by omega))
    simpa using this
  unfold idxI
  rw [h1, if_pos hi]

set_option maxRecDepth 100000 in
theorem indexP_ok (l : List Pr) (tg : Tag) (hl : l.length < 1000000) (g : FuncId) (fi ca : List AV) (p : Pr → Bool) (hp : ∀ x, x ∈ l → APure Tryd.prog g (fi ++ [x.av] ++ ca) (.bool (p x))) : APure Tryd.prog 104 [.sl 3 (l.map Pr.av) tg, .fn (.func g) fi ca] (.int .i64 (idxI l p)) := by
  intro M
  refine acalls_of tabOK Tryd.func104 rfl (by decide) (by simp [Tryd.f104]) ?_
  have la : ((l.map Pr.av).length : Int) = (l.length : Int) := by simp
  repeat' (first | (show DW _ _ _ _ _ _ _ _; first | refine DW_V tabs rfl rfl rfl rfl (congrArg (AV.int _) la) ?_ | refine DW_A tabs rfl ?_ | refine DW_nil ?_ | refine DW_lits tabOK rfl rfl rfl rfl rfl rfl rfl rfl rfl rfl rfl rfl rfl ?_ | refine DW_append_own tabOK rfl rfl rfl rfl rfl rfl rfl rfl rfl rfl rfl rfl rfl rfl rfl (by simp; omega) (by simp; omega) ?_) | (show W _ _ _ _ _ _; first | refine W_seq ?_ | refine W_text rfl (fun _ _ _ h => h) ?_ | refine W_block ?_ | refine W_skip ?_ | refine W_exit ?_ | refine W_ret ?_ | refine W_true rfl ?_ | refine W_false rfl ?_ | refine W_cond rfl (fun _ => ?_) (fun _ => ?_)))
  refine W_count l.length (fun i f N => N = M ∧ (∀ (j : Nat) y, j < i → l[j]? = some y → p y = false) ∧ f = ⟨[(0, .sl 3 (l.map Pr.av) tg), (1, .fn (.func g) fi ca), (7, .int .i64 (l.length : Int)), (8, .int .i64 (i : Int))], []⟩) (Nat.zero_le _) ⟨rfl, fun j y hj => absurd hj (Nat.not_lt_zero _), rfl⟩ (Joint.le ?_ (Mem.le_refl _)) ?_
  · skip
    repeat (refine AF.le_cons rfl ?_)
    exact AF.le_nil rfl
  · rintro i f N hi ⟨rfl, hno, rfl⟩
    by_cases h1 : i < l.length
    · have d1 : decide ((i : Int) < (l.length : Int)) = true := by simp; omega
      have hx : l[i]? = some l[i] := List.getElem?_eq_getElem h1
      have fi := wrap_succ (i := i) (by omega)
      have hk := hp l[i] (List.getElem_mem h1)
      generalize l[i] = x at hx hk
      cases hpx : p x
      · rw [hpx] at hk
        repeat' (first | (show DW _ _ _ _ _ _ _ _; first | refine DW_V tabs rfl rfl rfl rfl (congrArg AV.bool d1) ?_ | refine DW_V tabs rfl rfl rfl rfl (congrArg (AV.int _) fi) ?_ | refine DW_V tabs rfl rfl rfl rfl (congrArg (AV.int _) la) ?_ | refine DW_A tabs rfl ?_ | refine DW_nil ?_ | refine DW_lits tabOK rfl rfl rfl rfl rfl rfl rfl rfl rfl rfl rfl rfl rfl ?_ | refine DW_append_own tabOK rfl rfl rfl rfl rfl rfl rfl rfl rfl rfl rfl rfl rfl rfl rfl (by simp; omega) (by simp; omega) ?_) | (show W _ _ _ _ _ _; first | refine W_seq ?_ | refine W_text rfl (fun _ _ _ h => h) ?_ | refine W_block ?_ | refine W_skip ?_ | refine W_exit ?_ | refine W_ret ?_ | refine W_true rfl ?_ | refine W_false rfl ?_ | refine W_cond rfl (fun _ => ?_) (fun _ => ?_)))
        refine DW_index tabOK rfl rfl rfl rfl rfl rfl rfl rfl rfl rfl (Int.natCast_nonneg _) (map_get hx) ?_
        repeat' (first | (show DW _ _ _ _ _ _ _ _; first | refine DW_V tabs rfl rfl rfl rfl (congrArg AV.bool d1) ?_ | refine DW_V tabs rfl rfl rfl rfl (congrArg (AV.int _) fi) ?_ | refine DW_V tabs rfl rfl rfl rfl (congrArg (AV.int _) la) ?_ | refine DW_A tabs rfl ?_ | refine DW_nil ?_ | refine DW_lits tabOK rfl rfl rfl rfl rfl rfl rfl rfl rfl rfl rfl rfl rfl ?_ | refine DW_pure rfl rfl rfl rfl rfl hk ?_ | refine DW_append_own tabOK rfl rfl rfl rfl rfl rfl rfl rfl rfl rfl rfl rfl rfl rfl rfl (by simp; omega) (by simp; omega) ?_) | (show W _ _ _ _ _ _; first | refine W_seq ?_ | refine W_text rfl (fun _ _ _ h => h) ?_ | refine W_block ?_ | refine W_skip ?_ | refine W_exit ?_ | refine W_ret ?_ | refine W_true rfl ?_ | refine W_false rfl ?_ | refine W_cond rfl (fun _ => ?_) (fun _ => ?_)))
        refine ⟨h1, _, _, ⟨rfl, ?_, rfl⟩, Joint.le ?_ (Mem.le_refl _)⟩
        · intro j y hj hy
          by_cases hji : j = i
          · subst hji
            rw [hx] at hy
            cases hy
            exact hpx
          · exact hno j y (by omega) hy
        · skip
          repeat (refine AF.le_cons rfl ?_)
          exact AF.le_nil rfl
      · rw [hpx] at hk
        repeat' (first | (show DW _ _ _ _ _ _ _ _; first | refine DW_V tabs rfl rfl rfl rfl (congrArg AV.bool d1) ?_ | refine DW_V tabs rfl rfl rfl rfl (congrArg (AV.int _) fi) ?_ | refine DW_V tabs rfl rfl rfl rfl (congrArg (AV.int _) la) ?_ | refine DW_A tabs rfl ?_ | refine DW_nil ?_ | refine DW_lits tabOK rfl rfl rfl rfl rfl rfl rfl rfl rfl rfl rfl rfl rfl ?_ | refine DW_append_own tabOK rfl rfl rfl rfl rfl rfl rfl rfl rfl rfl rfl rfl rfl rfl rfl (by simp; omega) (by simp; omega) ?_) | (show W _ _ _ _ _ _; first | refine W_seq ?_ | refine W_text rfl (fun _ _ _ h => h) ?_ | refine W_block ?_ | refine W_skip ?_ | refine W_exit ?_ | refine W_ret ?_ | refine W_true rfl ?_ | refine W_false rfl ?_ | refine W_cond rfl (fun _ => ?_) (fun _ => ?_)))
        refine DW_index tabOK rfl rfl rfl rfl rfl rfl rfl rfl rfl rfl (Int.natCast_nonneg _) (map_get hx) ?_
        repeat' (first | (show DW _ _ _ _ _ _ _ _; first | refine DW_V tabs rfl rfl rfl rfl (congrArg AV.bool d1) ?_ | refine DW_V tabs rfl rfl rfl rfl (congrArg (AV.int _) fi) ?_ | refine DW_V tabs rfl rfl rfl rfl (congrArg (AV.int _) la) ?_ | refine DW_A tabs rfl ?_ | refine DW_nil ?_ | refine DW_lits tabOK rfl rfl rfl rfl rfl rfl rfl rfl rfl rfl rfl rfl rfl ?_ | refine DW_pure rfl rfl rfl rfl rfl hk ?_ | refine DW_append_own tabOK rfl rfl rfl rfl rfl rfl rfl rfl rfl rfl rfl rfl rfl rfl rfl (by simp; omega) (by simp; omega) ?_) | (show W _ _ _ _ _ _; first | refine W_seq ?_ | refine W_text rfl (fun _ _ _ h => h) ?_ | refine W_block ?_ | refine W_skip ?_ | refine W_exit ?_ | refine W_ret ?_ | refine W_true rfl ?_ | refine W_false rfl ?_ | refine W_cond rfl (fun _ => ?_) (fun _ => ?_)))
        exact ⟨rfl, _, rfl, by rw [idx_hit hno hx hpx]; rfl, rfl⟩
    · have d1 : decide ((i : Int) < (l.length : Int)) = false := by simp; omega
      obtain rfl : i = l.length := by omega
      repeat' (first | (show DW _ _ _ _ _ _ _ _; first | refine DW_V tabs rfl rfl rfl rfl (congrArg AV.bool d1) ?_ | refine DW_A tabs rfl ?_ | refine DW_nil ?_ | refine DW_lits tabOK rfl rfl rfl rfl rfl rfl rfl rfl rfl rfl rfl rfl rfl ?_ | refine DW_append_own tabOK rfl rfl rfl rfl rfl rfl rfl rfl rfl rfl rfl rfl rfl rfl rfl (by simp; omega) (by simp; omega) ?_) | (show W _ _ _ _ _ _; first | refine W_seq ?_ | refine W_text rfl (fun _ _ _ h => h) ?_ | refine W_block ?_ | refine W_skip ?_ | refine W_exit ?_ | refine W_ret ?_ | refine W_true rfl ?_ | refine W_false rfl ?_ | refine W_cond rfl (fun _ => ?_) (fun _ => ?_)))
      exact ⟨rfl, _, rfl, by rw [idx_none (fun j y hy => hno j y (List.getElem?_eq_some_iff.1 hy).1 hy)]; rfl, rfl⟩

theorem behind_ok (x : Pr) (k : Ky) : APure Tryd.prog 103 [x.av, .ref [.str k.path, .int .i64 k.time]] (.bool (!rless x.key k)) := by
  intro M
  refine acalls_of tabOK Tryd.func103 rfl (by decide) (by simp [Tryd.f103]) ?_
  have kl := less_ok x.key k
  rw [toS_neg] at kl
  repeat' (first | (show DW _ _ _ _ _ _ _ _; first | refine DW_A tabs rfl ?_ | refine DW_nil ?_ | refine DW_lits tabOK rfl rfl rfl rfl rfl rfl rfl rfl rfl rfl rfl rfl rfl ?_ | refine DW_pure rfl rfl rfl rfl rfl kl ?_ | refine DW_append_own tabOK rfl rfl rfl rfl rfl rfl rfl rfl rfl rfl rfl rfl rfl rfl rfl (by simp; omega) (by simp; omega) ?_) | (show W _ _ _ _ _ _; first | refine W_seq ?_ | refine W_text rfl (fun _ _ _ h => h) ?_ | refine W_block ?_ | refine W_skip ?_ | refine W_exit ?_ | refine W_ret ?_ | refine W_true rfl ?_ | refine W_false rfl ?_ | refine W_cond rfl (fun _ => ?_) (fun _ => ?_)))
  exact ⟨rfl, _, rfl, rfl, rfl⟩

theorem find_idx (l : List Pr) (k : Ky) : (l.findIdx fun x => !rless x.key k) = findP l k := by
  induction l with
  | nil => rfl
  | cons q r ih =>
    unfold findP at ih ⊢
    rw [List.findIdx_cons, List.takeWhile_cons]
    cases h : rless q.key k
    · simp
    · simp [ih]
theorem findP_le (l : List Pr) (k : Ky) : findP l k ≤ l.length := by
  unfold findP
  exact (List.takeWhile_sublist _).length_le
def hasP (l : List Pr) (k : Ky) : Bool := match l[findP l k]? with
  | some q => decide (q.key = k)
  | none => false
theorem key_eqB (a b : Ky) : ((a.path == b.path) && ((decide (a.time = b.time)) && true)) = decide (a = b) := by
  obtain ⟨p, t⟩ := a
  obtain ⟨q, u⟩ := b
  rw [Bool.eq_iff_iff]
  simp

set_option maxRecDepth 100000 in
theorem nFind_ok (l : List Pr) (tg : Tag) (hl : l.length < 1000000) (k : Ky) : APure Tryd.prog 100 [.sl 3 (l.map Pr.av) tg, k.av] (.tup [.int .i64 (findP l k), .bool (hasP l k)]) := by
  intro M
  refine acalls_of tabOK Tryd.func100 rfl (by decide) (by simp [Tryd.f100]) ?_
  have kf := indexP_ok l tg hl 103 [] [.ref [.str k.path, .int .i64 k.time]] (fun x => !rless x.key k) (fun x _ => behind_ok x k)
  have la : ((l.map Pr.av).length : Int) = (l.length : Int) := by simp
  have hle := findP_le l k
  unfold idxI at kf
  rw [find_idx] at kf
  unfold hasP
  by_cases h1 : findP l k < l.length
  · rw [if_pos h1] at kf
    have hx : l[findP l k]? = some l[findP l k] := List.getElem?_eq_getElem h1
    generalize l[findP l k] = q at hx
    generalize findP l k = n at kf hx h1 hle
    rw [hx]
    have d1 : decide ((n : Int) < 0) = false := by simp
    have ce := key_eqB q.key k
    repeat' (first | (show DW _ _ _ _ _ _ _ _; first | refine DW_V tabs rfl rfl rfl rfl (congrArg AV.bool d1) ?_ | refine DW_V tabs rfl rfl rfl rfl (congrArg (AV.int _) la) ?_ | refine DW_A tabs rfl ?_ | refine DW_nil ?_ | refine DW_lits tabOK rfl rfl rfl rfl rfl rfl rfl rfl rfl rfl rfl rfl rfl ?_ | refine DW_pure rfl rfl rfl rfl rfl kf ?_ | refine DW_append_own tabOK rfl rfl rfl rfl rfl rfl rfl rfl rfl rfl rfl rfl rfl rfl rfl (by simp; omega) (by simp; omega) ?_) | (show W _ _ _ _ _ _; first | refine W_seq ?_ | refine W_text rfl (fun _ _ _ h => h) ?_ | refine W_block ?_ | refine W_skip ?_ | refine W_exit ?_ | refine W_ret ?_ | refine W_true rfl ?_ | refine W_false rfl ?_ | refine W_cond rfl (fun _ => ?_) (fun _ => ?_) | refine W_draw mixed [0, 1, 2, 8, 3, 4, 5, 6, 7, 9] [.P, .P, .P, .R, .R, .R, .R, .P, .P, .P] rfl rfl (by kernel_rfl) ?_))
    refine DW_index tabOK rfl rfl rfl rfl rfl rfl rfl rfl rfl rfl (Int.natCast_nonneg _) (map_get hx) ?_
    repeat' (first | (show DW _ _ _ _ _ _ _ _; first | refine DW_V tabs rfl rfl rfl rfl (congrArg AV.bool ce) ?_ | refine DW_A tabs rfl ?_ | refine DW_nil ?_ | refine DW_lits tabOK rfl rfl rfl rfl rfl rfl rfl rfl rfl rfl rfl rfl rfl ?_ | refine DW_append_own tabOK rfl rfl rfl rfl rfl rfl rfl rfl rfl rfl rfl rfl rfl rfl rfl (by simp; omega) (by simp; omega) ?_) | (show W _ _ _ _ _ _; first | refine W_seq ?_ | refine W_text rfl (fun _ _ _ h => h) ?_ | refine W_block ?_ | refine W_skip ?_ | refine W_exit ?_ | refine W_ret ?_ | refine W_true rfl ?_ | refine W_false rfl ?_ | refine W_cond rfl (fun _ => ?_) (fun _ => ?_) | refine W_draw mixed [0, 1, 2, 8, 3, 4, 5, 6, 7, 9] [.P, .P, .P, .R, .R, .R, .R, .P, .P, .P] rfl rfl (by kernel_rfl) ?_))
    exact ⟨rfl, _, rfl, rfl, rfl⟩
  · rw [if_neg h1] at kf
    have h2 : findP l k = l.length := by omega
    rw [h2, List.getElem?_eq_none (Nat.le_refl _)]
    repeat' (first | (show DW _ _ _ _ _ _ _ _; first | refine DW_V tabs rfl rfl rfl rfl (congrArg (AV.int _) la) ?_ | refine DW_A tabs rfl ?_ | refine DW_nil ?_ | refine DW_lits tabOK rfl rfl rfl rfl rfl rfl rfl rfl rfl rfl rfl rfl rfl ?_ | refine DW_pure rfl rfl rfl rfl rfl kf ?_ | refine DW_append_own tabOK rfl rfl rfl rfl rfl rfl rfl rfl rfl rfl rfl rfl rfl rfl rfl (by simp; omega) (by simp; omega) ?_) | (show W _ _ _ _ _ _; first | refine W_seq ?_ | refine W_text rfl (fun _ _ _ h => h) ?_ | refine W_block ?_ | refine W_skip ?_ | refine W_exit ?_ | refine W_ret ?_ | refine W_true rfl ?_ | refine W_false rfl ?_ | refine W_cond rfl (fun _ => ?_) (fun _ => ?_) | refine W_draw mixed [0, 1, 2, 8, 3, 4, 5, 6, 7, 9] [.P, .P, .P, .R, .R, .R, .R, .P, .P, .P] rfl rfl (by kernel_rfl) ?_))
    exact ⟨rfl, _, rfl, rfl, rfl⟩

def tgB (b : Bool) : Tag := if b = true then .full else .none
def rowA (r : List Pr × Bool) : AV := .sl 3 (r.1.map Pr.av) (tgB r.2)
theorem closed_row (r : List Pr × Bool) : Closed (rowA r) := by
  obtain ⟨l, b⟩ := r
  have h1 : ∀ x, x ∈ l.map Pr.av → Closed x := by
    intro x hx
    obtain ⟨a, _, rfl⟩ := List.mem_map.1 hx
    exact closed_pr a
  have h2 : ∀ x, x ∈ l.map Pr.av → ∀ c, c ∈ x.cells → Closed c := by
    intro x hx c hc
    obtain ⟨a, _, rfl⟩ := List.mem_map.1 hx
    have : c ∈ [AV.str a.key.path, .int .i64 a.key.time, .str a.val] := hc
    exact closed3 closed_str closed_int closed_str c this
  cases b
  · exact closed_sl (.inl rfl) h1 h2
  · exact closed_sl (.inr rfl) h1 h2
theorem closed_rows (rows : List (List Pr × Bool)) (b : Bool) : Closed (.sl 1 (rows.map rowA) (tgB b)) := by
  have h1 : ∀ x, x ∈ rows.map rowA → Closed x := by
    intro x hx
    obtain ⟨a, _, rfl⟩ := List.mem_map.1 hx
    exact closed_row a
  have h2 : ∀ x, x ∈ rows.map rowA → ∀ c, c ∈ x.cells → Closed c := by
    intro x hx c hc
    obtain ⟨a, _, rfl⟩ := List.mem_map.1 hx
    have : c = rowA a := by simpa [rowA, AV.cells] using hc
    exact this ▸ closed_row a
  cases b
  · exact closed_sl (.inl rfl) h1 h2
  · exact closed_sl (.inr rfl) h1 h2
def flatR (rows : List (List Pr × Bool)) : List Pr := (rows.map (·.1)).flatten
theorem flatR_succ {rows : List (List Pr × Bool)} {i : Nat} {r : List Pr × Bool} (h : rows[i]? = some r) : flatR (rows.take (i + 1)) = flatR (rows.take i) ++ r.1 := by
  unfold flatR
  rw [take_succ h]
  simp
theorem prs_app {a b : List Pr} {t : Tag} : AV.sl 3 (a.map Pr.av ++ b.map Pr.av) t = .sl 3 ((a ++ b).map Pr.av) t := by simp
theorem flatR_len {n : Nat} : ∀ (rows : List (List Pr × Bool)), (∀ r, r ∈ rows → r.1.length ≤ n) → (flatR rows).length ≤ rows.length * n
  | [], _ => by simp [flatR]
  | r :: s, h => by
    have ih := flatR_len s (fun x hx => h x (by simp [hx]))
    have h1 := h r (by simp)
    unfold flatR at ih ⊢
    rw [List.map_cons, List.flatten_cons, List.length_append, List.length_cons, Nat.succ_mul]
    omega

set_option maxRecDepth 100000 in
theorem joinedP_ok (rows : List (List Pr × Bool)) (b : Bool) (hr : rows.length < 1000) (hl : ∀ r, r ∈ rows → r.1.length ≤ 100000) : APure Tryd.prog 106 [.sl 1 (rows.map rowA) (tgB b)] (.sl 3 ((flatR rows).map Pr.av) .none) := by
  refine pure_sub (closed1 (closed_rows rows b)) (closed_prs _) ?_
  refine acalls_of tabOK Tryd.func106 rfl (by decide) (by simp [Tryd.f106]) ?_
  have la : ((rows.map rowA).length : Int) = (rows.length : Int) := by simp
  repeat' (first | (show DW _ _ _ _ _ _ _ _; first | refine DW_V tabs rfl rfl rfl rfl (congrArg (AV.int _) la) ?_ | refine DW_A tabs rfl ?_ | refine DW_nil ?_ | refine DW_lits tabOK rfl rfl rfl rfl rfl rfl rfl rfl rfl rfl rfl rfl rfl ?_ | refine DW_append_own tabOK rfl rfl rfl rfl rfl rfl rfl rfl rfl rfl rfl rfl rfl rfl rfl (by simp; omega) (by simp; omega) ?_) | (show W _ _ _ _ _ _; first | refine W_seq ?_ | refine W_text rfl (fun _ _ _ h => h) ?_ | refine W_block ?_ | refine W_skip ?_ | refine W_exit ?_ | refine W_ret ?_ | refine W_true rfl ?_ | refine W_false rfl ?_ | refine W_cond rfl (fun _ => ?_) (fun _ => ?_)))
  refine W_count rows.length (fun i f N => ∃ (g : Nat), N = tokM g ∧ f = ⟨[(3, .sl 3 ((flatR (rows.take i)).map Pr.av) (.tok 0 g)), (6, .sl 1 (rows.map rowA) (tgB b)), (7, .int .i64 (rows.length : Int)), (8, .int .i64 (i : Int))], []⟩) (Nat.zero_le _) ⟨0, rfl, rfl⟩
    ((Joint.tok 3 rfl (sz' := 3) (.inr rfl)).trans (Joint.le ?_ (tokM_of rfl rfl))) ?_
  · skip
    repeat (refine AF.le_cons rfl ?_)
    exact AF.le_nil rfl
  · rintro i f N hi ⟨g, rfl, rfl⟩
    by_cases h1 : i < rows.length
    · have d1 : decide ((i : Int) < (rows.length : Int)) = true := by simp; omega
      have hx : rows[i]? = some rows[i] := List.getElem?_eq_getElem h1
      have fi := wrap_succ (i := i) (by omega)
      have hfl := flatR_len (rows.take i) (fun r hr => hl r (List.mem_of_mem_take hr))
      have htl : (rows.take i).length ≤ 1000 := by simp; omega
      have hml : (flatR (rows.take i)).length ≤ 1000 * 100000 := Nat.le_trans hfl (Nat.mul_le_mul_right _ htl)
      have hri := hl rows[i] (List.getElem_mem h1)
      have hs := flatR_succ hx
      generalize rows[i] = r at hx hri hs
      repeat' (first | (show DW _ _ _ _ _ _ _ _; first | refine DW_V tabs rfl rfl rfl rfl (congrArg AV.bool d1) ?_ | refine DW_V tabs rfl rfl rfl rfl (congrArg (AV.int _) fi) ?_ | refine DW_V tabs rfl rfl rfl rfl (congrArg (AV.int _) la) ?_ | refine DW_A tabs rfl ?_ | refine DW_nil ?_ | refine DW_lits tabOK rfl rfl rfl rfl rfl rfl rfl rfl rfl rfl rfl rfl rfl ?_ | refine DW_append_own tabOK rfl rfl rfl rfl rfl rfl rfl rfl rfl rfl rfl rfl rfl rfl rfl (by simp; omega) (by simp; omega) ?_) | (show W _ _ _ _ _ _; first | refine W_seq ?_ | refine W_text rfl (fun _ _ _ h => h) ?_ | refine W_block ?_ | refine W_skip ?_ | refine W_exit ?_ | refine W_ret ?_ | refine W_true rfl ?_ | refine W_false rfl ?_ | refine W_cond rfl (fun _ => ?_) (fun _ => ?_)))
      refine DW_index tabOK rfl rfl rfl rfl rfl rfl rfl rfl rfl rfl (Int.natCast_nonneg _) (map_get hx) ?_
      repeat' (first | (show DW _ _ _ _ _ _ _ _; first | refine DW_V tabs rfl rfl rfl rfl (congrArg (AV.int _) fi) ?_ | refine DW_V tabs rfl rfl rfl rfl (congrArg (AV.int _) la) ?_ | refine DW_A tabs rfl ?_ | refine DW_nil ?_ | refine DW_lits tabOK rfl rfl rfl rfl rfl rfl rfl rfl rfl rfl rfl rfl rfl ?_ | refine DW_append_own tabOK rfl rfl rfl rfl rfl rfl rfl rfl rfl rfl rfl rfl rfl rfl rfl (by simp; omega) (by simp; omega) ?_) | (show W _ _ _ _ _ _; first | refine W_seq ?_ | refine W_text rfl (fun _ _ _ h => h) ?_ | refine W_block ?_ | refine W_skip ?_ | refine W_exit ?_ | refine W_ret ?_ | refine W_true rfl ?_ | refine W_false rfl ?_ | refine W_cond rfl (fun _ => ?_) (fun _ => ?_)))
      refine ⟨h1, _, _, ⟨g + 1, rfl, rfl⟩, Joint.le (AF.le_cons ?_ (AF.le_cons rfl (AF.le_cons rfl (AF.le_cons rfl (AF.le_nil rfl))))) (tokM_of rfl rfl)⟩
      rw [hs]
      exact prs_app
    · have d1 : decide ((i : Int) < (rows.length : Int)) = false := by simp; omega
      obtain rfl : i = rows.length := by omega
      repeat' (first | (show DW _ _ _ _ _ _ _ _; first | refine DW_V tabs rfl rfl rfl rfl (congrArg AV.bool d1) ?_ | refine DW_A tabs rfl ?_ | refine DW_nil ?_ | refine DW_lits tabOK rfl rfl rfl rfl rfl rfl rfl rfl rfl rfl rfl rfl rfl ?_ | refine DW_append_own tabOK rfl rfl rfl rfl rfl rfl rfl rfl rfl rfl rfl rfl rfl rfl rfl (by simp; omega) (by simp; omega) ?_) | (show W _ _ _ _ _ _; first | refine W_seq ?_ | refine W_text rfl (fun _ _ _ h => h) ?_ | refine W_block ?_ | refine W_skip ?_ | refine W_exit ?_ | refine W_ret ?_ | refine W_true rfl ?_ | refine W_false rfl ?_ | refine W_cond rfl (fun _ => ?_) (fun _ => ?_)))
      rw [List.take_length]
      exact ⟨rfl, _, rfl, _, rfl, SubC.untag (closed_prs _)⟩
end Go.Proofs.YthdeopopodhimaaDoor

/- Rows of pairs: a pair is put, a row is halved; leaves are made. No further condition. -/
set_option linter.unusedVariables false
set_option linter.unusedSimpArgs false
namespace Go.Proofs.YthdeopopodhimaaDoor
open Go.Ab

theorem putP_cut (l : List Pr) (p : Pr) : putP l p = l.take (findP l p.key) ++ ([p] ++ if hasP l p.key = true then l.drop (findP l p.key + 1) else l.drop (findP l p.key)) := by
  induction l with
  | nil => rfl
  | cons q r ih =>
    cases h : rless q.key p.key
    · have e1 : findP (q :: r) p.key = 0 := by unfold findP; rw [List.takeWhile_cons, if_neg (by simp [h])]; rfl
      have e2 : hasP (q :: r) p.key = decide (q.key = p.key) := by unfold hasP; rw [e1]; rfl
      rw [putP, if_neg (by simp [h]), e1, e2]
      by_cases he : q.key = p.key
      · simp [he]
      · simp [he]
    · have e1 : findP (q :: r) p.key = findP r p.key + 1 := by unfold findP; rw [List.takeWhile_cons, if_pos h]; rfl
      have e2 : hasP (q :: r) p.key = hasP r p.key := by unfold hasP; rw [e1]; rfl
      rw [putP, if_pos h, e1, e2, ih]
      simp
theorem hasP_lt {l : List Pr} {k : Ky} (h : hasP l k = true) : findP l k < l.length := by
  unfold hasP at h
  cases hx : l[findP l k]? with
  | none => rw [hx] at h; cases h
  | some q => exact (List.getElem?_eq_some_iff.1 hx).1

set_option maxRecDepth 100000 in
theorem nPut_ok (l : List Pr) (hl : l.length < 100000) (p : Pr) : APure Tryd.prog 102 [.sl 3 (l.map Pr.av) .none, p.av] (.sl 3 ((putP l p).map Pr.av) .none) := by
  intro M
  refine acalls_of tabOK Tryd.func102 rfl (by decide) (by simp [Tryd.f102]) ?_
  have kf := nFind_ok l .none (by omega) p.key
  have hle := findP_le l p.key
  have hj := joinedP_ok
  rw [putP_cut]
  have hh := @hasP_lt l p.key
  generalize findP l p.key = n at kf hle hh
  cases hp : hasP l p.key
  · rw [hp] at kf
    rw [if_neg (by simp)]
    have kj := joinedP_ok [(l.take n, false), ([p], true), (l.drop n, false)] true (by simp) (by simp; omega)
    have e : flatR [(l.take n, false), ([p], true), (l.drop n, false)] = l.take n ++ ([p] ++ l.drop n) := by simp [flatR]
    rw [e] at kj
    repeat' (first | (show DW _ _ _ _ _ _ _ _; first | refine DW_A tabs rfl ?_ | refine DW_nil ?_ | refine DW_lits tabOK rfl rfl rfl rfl rfl rfl rfl rfl rfl rfl rfl rfl rfl ?_ | refine DW_pure rfl rfl rfl rfl rfl kf ?_ | refine DW_append_own tabOK rfl rfl rfl rfl rfl rfl rfl rfl rfl rfl rfl rfl rfl rfl rfl (by simp; omega) (by simp; omega) ?_) | (show W _ _ _ _ _ _; first | refine W_seq ?_ | refine W_text rfl (fun _ _ _ h => h) ?_ | refine W_block ?_ | refine W_skip ?_ | refine W_exit ?_ | refine W_ret ?_ | refine W_true rfl ?_ | refine W_false rfl ?_ | refine W_cond rfl (fun _ => ?_) (fun _ => ?_) | refine W_draw mixed [0, 1, 2, 5, 3, 4, 6, 7, 8] [.P, .P, .P, .R, .P, .P, .P, .P, .P] rfl rfl (by kernel_rfl) ?_))
    refine DW_from tabOK rfl rfl rfl rfl (lo := n) rfl rfl rfl rfl rfl rfl hle ?_
    repeat' (first | (show DW _ _ _ _ _ _ _ _; first | refine DW_A tabs rfl ?_ | refine DW_nil ?_ | refine DW_lits tabOK rfl rfl rfl rfl rfl rfl rfl rfl rfl rfl rfl rfl rfl ?_ | refine DW_pure rfl rfl rfl rfl rfl kf ?_ | refine DW_append_own tabOK rfl rfl rfl rfl rfl rfl rfl rfl rfl rfl rfl rfl rfl rfl rfl (by simp; omega) (by simp; omega) ?_) | (show W _ _ _ _ _ _; first | refine W_seq ?_ | refine W_text rfl (fun _ _ _ h => h) ?_ | refine W_block ?_ | refine W_skip ?_ | refine W_exit ?_ | refine W_ret ?_ | refine W_true rfl ?_ | refine W_false rfl ?_ | refine W_cond rfl (fun _ => ?_) (fun _ => ?_) | refine W_draw mixed [0, 1, 2, 5, 3, 4, 6, 7, 8] [.P, .P, .P, .R, .P, .P, .P, .P, .P] rfl rfl (by kernel_rfl) ?_))
    refine DW_to tabOK rfl rfl rfl rfl (n := n) rfl rfl rfl rfl rfl rfl hle ?_
    repeat' (first | (show DW _ _ _ _ _ _ _ _; first | refine DW_A tabs rfl ?_ | refine DW_nil ?_ | refine DW_lits tabOK rfl rfl rfl rfl rfl rfl rfl rfl rfl rfl rfl rfl rfl ?_ | refine DW_pure rfl rfl rfl rfl rfl kj ?_ | refine DW_append_own tabOK rfl rfl rfl rfl rfl rfl rfl rfl rfl rfl rfl rfl rfl rfl rfl (by simp; omega) (by simp; omega) ?_) | (show W _ _ _ _ _ _; first | refine W_seq ?_ | refine W_text rfl (fun _ _ _ h => h) ?_ | refine W_block ?_ | refine W_skip ?_ | refine W_exit ?_ | refine W_ret ?_ | refine W_true rfl ?_ | refine W_false rfl ?_ | refine W_cond rfl (fun _ => ?_) (fun _ => ?_) | refine W_draw mixed [0, 1, 2, 5, 3, 4, 6, 7, 8] [.P, .P, .P, .R, .P, .P, .P, .P, .P] rfl rfl (by kernel_rfl) ?_))
    exact ⟨rfl, _, rfl, rfl, rfl⟩
  · have hlt := hh hp
    rw [hp] at kf
    rw [if_pos rfl]
    have kj := joinedP_ok [(l.take n, false), ([p], true), (l.drop (n + 1), false)] true (by simp) (by simp; omega)
    have e : flatR [(l.take n, false), ([p], true), (l.drop (n + 1), false)] = l.take n ++ ([p] ++ l.drop (n + 1)) := by simp [flatR]
    rw [e] at kj
    repeat' (first | (show DW _ _ _ _ _ _ _ _; first | refine DW_A tabs rfl ?_ | refine DW_nil ?_ | refine DW_lits tabOK rfl rfl rfl rfl rfl rfl rfl rfl rfl rfl rfl rfl rfl ?_ | refine DW_pure rfl rfl rfl rfl rfl kf ?_ | refine DW_append_own tabOK rfl rfl rfl rfl rfl rfl rfl rfl rfl rfl rfl rfl rfl rfl rfl (by simp; omega) (by simp; omega) ?_) | (show W _ _ _ _ _ _; first | refine W_seq ?_ | refine W_text rfl (fun _ _ _ h => h) ?_ | refine W_block ?_ | refine W_skip ?_ | refine W_exit ?_ | refine W_ret ?_ | refine W_true rfl ?_ | refine W_false rfl ?_ | refine W_cond rfl (fun _ => ?_) (fun _ => ?_) | refine W_draw mixed [0, 1, 2, 5, 3, 4, 6, 7, 8] [.P, .P, .P, .R, .P, .P, .P, .P, .P] rfl rfl (by kernel_rfl) ?_))
    refine DW_from tabOK rfl rfl rfl rfl (lo := n) rfl rfl rfl rfl rfl rfl hle ?_
    repeat' (first | (show DW _ _ _ _ _ _ _ _; first | refine DW_A tabs rfl ?_ | refine DW_nil ?_ | refine DW_lits tabOK rfl rfl rfl rfl rfl rfl rfl rfl rfl rfl rfl rfl rfl ?_ | refine DW_append_own tabOK rfl rfl rfl rfl rfl rfl rfl rfl rfl rfl rfl rfl rfl rfl rfl (by simp; omega) (by simp; omega) ?_) | (show W _ _ _ _ _ _; first | refine W_seq ?_ | refine W_text rfl (fun _ _ _ h => h) ?_ | refine W_block ?_ | refine W_skip ?_ | refine W_exit ?_ | refine W_ret ?_ | refine W_true rfl ?_ | refine W_false rfl ?_ | refine W_cond rfl (fun _ => ?_) (fun _ => ?_) | refine W_draw mixed [0, 1, 2, 5, 3, 4, 6, 7, 8] [.P, .P, .P, .R, .P, .P, .P, .P, .P] rfl rfl (by kernel_rfl) ?_))
    refine DW_from tabOK rfl rfl rfl rfl (lo := 1) rfl rfl rfl rfl rfl rfl (by simp; omega) ?_
    rw [List.drop_drop]
    repeat' (first | (show DW _ _ _ _ _ _ _ _; first | refine DW_A tabs rfl ?_ | refine DW_nil ?_ | refine DW_lits tabOK rfl rfl rfl rfl rfl rfl rfl rfl rfl rfl rfl rfl rfl ?_ | refine DW_append_own tabOK rfl rfl rfl rfl rfl rfl rfl rfl rfl rfl rfl rfl rfl rfl rfl (by simp; omega) (by simp; omega) ?_) | (show W _ _ _ _ _ _; first | refine W_seq ?_ | refine W_text rfl (fun _ _ _ h => h) ?_ | refine W_block ?_ | refine W_skip ?_ | refine W_exit ?_ | refine W_ret ?_ | refine W_true rfl ?_ | refine W_false rfl ?_ | refine W_cond rfl (fun _ => ?_) (fun _ => ?_) | refine W_draw mixed [0, 1, 2, 5, 3, 4, 6, 7, 8] [.P, .P, .P, .R, .P, .P, .P, .P, .P] rfl rfl (by kernel_rfl) ?_))
    refine DW_to tabOK rfl rfl rfl rfl (n := n) rfl rfl rfl rfl rfl rfl hle ?_
    repeat' (first | (show DW _ _ _ _ _ _ _ _; first | refine DW_A tabs rfl ?_ | refine DW_nil ?_ | refine DW_lits tabOK rfl rfl rfl rfl rfl rfl rfl rfl rfl rfl rfl rfl rfl ?_ | refine DW_pure rfl rfl rfl rfl rfl kj ?_ | refine DW_append_own tabOK rfl rfl rfl rfl rfl rfl rfl rfl rfl rfl rfl rfl rfl rfl rfl (by simp; omega) (by simp; omega) ?_) | (show W _ _ _ _ _ _; first | refine W_seq ?_ | refine W_text rfl (fun _ _ _ h => h) ?_ | refine W_block ?_ | refine W_skip ?_ | refine W_exit ?_ | refine W_ret ?_ | refine W_true rfl ?_ | refine W_false rfl ?_ | refine W_cond rfl (fun _ => ?_) (fun _ => ?_) | refine W_draw mixed [0, 1, 2, 5, 3, 4, 6, 7, 8] [.P, .P, .P, .R, .P, .P, .P, .P, .P] rfl rfl (by kernel_rfl) ?_))
    exact ⟨rfl, _, rfl, rfl, rfl⟩
end Go.Proofs.YthdeopopodhimaaDoor
