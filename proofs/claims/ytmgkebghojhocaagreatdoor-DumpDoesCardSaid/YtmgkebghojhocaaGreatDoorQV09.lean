/- Parts of the proof, one behind the other: AbE2, AbE3, AbE4, AbF1, Base, ByteA. No further condition. -/
import Derived.Test.YtmgkebghojhocaaGreatDoorQV08
import Derived.WideLaws
import Derived.Laws.Pointers
import Derived.Test.YtmgkebghojhocaaGreatDoorQV07
import Derived.Test.YtmgkebghojhocaaGreatDoorQV04
import Derived.Test.YtmgkebghojhocaaGreatDoorChecked
set_option linter.unusedVariables false
set_option linter.unusedSimpArgs false
/- append of so many zeros, caps, interfaces held against nil, methods as values. -/
set_option linter.unusedVariables false
set_option linter.unusedSimpArgs false
namespace Go.Ab
open Go.RowKit
theorem run_append_zeros {P : Program} {t tx ty e : TypeId} {k : IntKind} {i : TypeInfo} {z : Value} (ht : P.underlying t = some (.slice e)) (hx : P.underlying tx = some (.int k)) (hi : P.info? e = some i) (hz : i.zero = some z) (n : Nat) (h0 : 0 < n) (h1 : n ≤ 140737488355328) (h2 : n * i.bytes ≤ 140737488355328) (hsz : 0 < i.size) (w : World) (A : Option Addr) (hold : (Builtin.firstCells i.size 0 (.slice A 0 0)).run P w.drew = .ok #[] w.drew) :
  (Builtin.append_ #[t, tx] ty #[.slice A 0 0, .int .i64 n]).run P w =
   .ok (.slice (some ⟨w.heap.size, 0, none⟩) n (grownCap w n 0 e))
    (w.drew.alloc (.cells (Builtin.zeroCells z.cells n ++ Builtin.zeroCells z.cells (grownCap w n 0 e - n)) e)) := by
 have hw : IntKind.wrap .i64 (n : Int) = n := wrap_small (by omega) (by omega)
 have a1 : ¬ ((n : Int) < 0) := by omega
 have a2 : ¬ (281474976710656 < (n : Int) * (i.bytes : Int)) := by
  have : ((n * i.bytes : Nat) : Int) = (n : Int) * (i.bytes : Int) := by push_cast; rfl
  omega
 have a3 : ¬ (9223372036854775807 < (n : Int)) := by omega
 have a4 : ¬ n = 0 := by omega
 have a5 : ¬ i.size = 0 := by omega
 have hcap : Builtin.nextslicecap n 0 = n := by unfold Builtin.nextslicecap; rw [if_pos (by omega)]
 have a6 : ¬ (281474976710656 < n * i.bytes) := by omega
 have a7 : ¬ ((n : Int) ≤ 0) := by omega
 have a8 : ¬ (9223372036854775807 < max (n : Int) 0) := by omega
 have a9 : ¬ (n = 0 ∨ i.size = 0) := by omega
 simp [Builtin.append_, run_underlying ht, run_underlying hx, sizeOf, typeInfo, zeroValue, hi, hz, hw, a1, a2, a3, a4, a5, a6, a7, a8, a9, hcap, Question.forced, newRow, grownCap, hold, asInt, asIntOf]
 intro h
 exact absurd (Nat.mul_eq_zero.1 h) a9
/-- append of zeros to nil: a new object. -/
theorem opG_append_zeros {P : Program} {τ : Tab} (hτ : TabOK P τ) {t tx e : TypeId} {ti ei xi : TI} (hin : AppIn P τ t e ti ei) (hxi : lookup τ tx = some xi) (hxk : xi.k = .int .i64) {o : Oper} {s x : Operand}
  (ho : o.op = .call { callee := .builtin .append, args := #[s, x], argTypes := #[t, tx] }) {ρ : Operand → AV} {M : Mem} {sz n : Nat} (hS : ρ s = .sl sz [] .full) (hX : ρ x = .int .i64 (n : Int)) (h0 : 0 < n)
  (hb : n * ei.bytes ≤ 140737488355328) (hlen : n ≤ 140737488355328) {Kp : AV → Mem → Prop} :
  OpG P o ρ M (fun u M' => ∃ (cap' : Nat) (l' : List AV), n ≤ cap' ∧ l'.length = cap' * ei.size ∧ u = .osl M.next 0 n cap' ei.size ∧ M' = M.push (.cells l')) Kp := by
 intro μ F w a hg hr next Q' hnext _
 have hs := hr s (by simp [ho, Op.operands, Call.operands])
 have hx := hr x (by simp [ho, Op.operands, Call.operands])
 rw [hS] at hs
 rw [hX] at hx
 generalize hxe : a.eval x = xe at hx
 cases hx
 generalize hse : a.eval s = se at hs
 have hsv : ∃ A, se = .slice A 0 0 := by
  cases hs with
  | sl _ _ _ A cap ad vals hsz hcap hA hone hcell hrep htag =>
   have : cap = 0 := htag
   subst this
   exact ⟨A, rfl⟩
 obtain ⟨A, rfl⟩ := hsv
 obtain ⟨ft, dt, zt, HT⟩ := TI.spec hτ hin.tl
 obtain ⟨fe, de, ze, HE⟩ := TI.spec hτ hin.el
 obtain ⟨fx, dx, zx, HX⟩ := TI.spec hτ hxi
 have hfi := HT.fits
 rw [hin.tk] at hfi
 have hdd : dt = .slice e := by
  cases dt <;> simp [TK.fits] at hfi
  rw [hfi]
 subst hdd
 have hfx := HX.fits
 rw [hxk] at hfx
 have hdx : dx = .int .i64 := by
  cases dx <;> simp [TK.fits] at hfx
  rw [hfx]
 subst hdx
 have hex : ∀ v w', (Builtin.append_ #[t, tx] o.type #[a.eval s, a.eval x]).run P w = .ok v w' → (execOp a.eval o).run P w = .ok (.value v) w' := by
  intro v w' h
  simp [execOp, ho, resolve, invoke, builtin, h]
 unfold Oper.wp
 have hold : (Builtin.firstCells fe.size 0 (.slice A 0 0)).run P w.drew = .ok #[] w.drew := by
  cases A with
  | none => simp [Builtin.firstCells]
  | some ad => simp [Builtin.firstCells, loadCells, loadCellsFrom]
 have hrun := run_append_zeros (ty := o.type) (P := P) HT.und HX.und HE.info HE.zero n h0 hlen (by rw [HE.bytes]; exact hb) (by rw [HE.size]; exact hin.pos) w A hold
 have hge := grownCap_ge w n 0 e
 generalize hcap : grownCap w n 0 e = cap' at hrun hge
 let c' : Array Value := Builtin.zeroCells ze.cells n ++ Builtin.zeroCells ze.cells (cap' - n)
 let w' : World := w.drew.alloc (.cells c' e)
 have hzs : ze.cells.size = ei.size := by
  have := (sameCells_get HE.cells).1
  simp only [Array.length_toList] at this
  rw [this, HE.len]
 have hc's : c'.size = cap' * ei.size := by
  simp only [c', Array.size_append, size_zeroCells, hzs, ← Nat.add_mul]
  rw [Nat.add_sub_cancel' hge]
 have hheap : w'.heap[w.heap.size]? = some (.cells c' e (0, 0)) := heap_alloc_new w.drew _
 have hbelow : Below w.heap.size w w' := ⟨rfl, rfl, rfl, by simp [w', World.alloc], fun k hk => heap_alloc_old w.drew _ hk⟩
 let l' : List AV := List.replicate (cap' * ei.size) .top
 have hl' : l'.length = cap' * ei.size := by simp [l']
 have hone : ∀ (m : Nat) (v : Value), v ∈ Builtin.zeroCells ze.cells m → v.oneCell' = true := fun m v hm => zeroCells_one (z := ze.cells) (fun u hu => by
   obtain ⟨j, hj⟩ := List.getElem?_of_mem (Array.mem_toList_iff.2 hu)
   have hjl : j < ei.zero.length := by
    rw [HE.len, ← hzs, ← Array.length_toList]
    exact (List.getElem?_eq_some_iff.1 hj).1
   obtain ⟨rfl, hp⟩ := (sameCells_get HE.cells).2 j u _ (by simpa using hj) (List.getElem?_eq_getElem hjl)
   exact one_toV hp) (by rw [hzs]; exact hin.pos) _ v hm
 obtain ⟨hev, hG⟩ := gam_push hg hbelow (l := l') (c := c') (ty := e) (b := w.heap.size) (Nat.le_refl _) hheap (by rw [hc's, hl']) (by
   intro i v hi
   have hm := Array.mem_of_getElem? hi
   rcases Array.mem_append.1 hm with h | h
   ·exact hone _ v h
   ·exact hone _ v h) (by
   intro i q v hq hi
   have := List.mem_of_getElem? hq
   rw [List.mem_replicate] at this
   rw [this.2]
   exact .top _)
 rw [hse, hxe] at hex
 rw [hex _ _ hrun]
 exact hnext _ _ _ _ _ hev hG (rep_osl (b := w.heap.size) (by simp [Mu.put])) ⟨cap', l', hge, hl', rfl, rfl⟩
theorem rep_full {μ : Mu} {F : Frm} {w : World} {sz : Nat} {xs : List AV} {v : Value} (h : Rep μ F w (.sl sz xs .full) v) : ∃ A, v = .slice A xs.length xs.length := by
 cases h with
 | sl _ _ _ A cap ad vals hsz hcap hA hone hcell hrep htag =>
  have : cap = xs.length := htag
  subst this
  exact ⟨A, rfl⟩
theorem opP_cap {P : Program} {τ : Tab} (hτ : TabOK P τ) {t e : TypeId} {ti : TI} (ht : lookup τ t = some ti) (hk : ti.k = .slice e) {x : Operand} {ty : TypeId} {ρ : Operand → AV} {sz : Nat} {xs : List AV} (hx : ρ x = .sl sz xs .full) :
  OpP P (.call { callee := .builtin .cap, args := #[x], argTypes := #[t] }) ty ρ (.int .i64 xs.length) := by
 refine opP_of_same ?_
 intro μ F w ρc o ho hty hr
 have h := hr x (by simp [Op.operands, Call.operands])
 rw [hx] at h
 obtain ⟨A, hv⟩ := rep_full h
 obtain ⟨ft, dt, zt, HT⟩ := TI.spec hτ ht
 have hfi := HT.fits
 rw [hk] at hfi
 have hdd : dt = .slice e := by
  cases dt <;> simp [TK.fits] at hfi
  rw [hfi]
 subst hdd
 exact ⟨.int .i64 xs.length, by simp [execOp, ho, resolve, invoke, builtin, hv, Builtin.cap_, run_underlying HT.und, goInt], .int _ _⟩
theorem opP_inil {P : Program} {t yt : TypeId} {x y : Operand} {ty : TypeId} {ρ : Operand → AV} {u : TypeId} {z : AV} (ht : P.underlying t = some (.interface (P.methodsAt t))) (hx : ρ x = .iface u z) (hy : ρ y = .nilIface) :
  OpP P (.binOp .eql t x y yt) ty ρ (.bool false) := by
 refine opP_of_same ?_
 intro μ F w ρc o ho hty hr
 have h1 := hr x (by simp [Op.operands])
 have h2 := hr y (by simp [Op.operands])
 rw [hx] at h1
 rw [hy] at h2
 generalize hv1 : ρc x = v1 at h1
 generalize hv2 : ρc y = v2 at h2
 cases h1
 cases h2
 exact ⟨.bool false, by simp [execOp, ho, hv1, hv2, eqGuard, run_eql_held_nil w t _ _ ht], .bool _⟩
theorem run_nilAhead {P : Program} {t : TypeId} {name : String} {g : FuncId} (h : methF P t name = some g) (v : Value) (w : World) (k : Nat) : (nilAhead (k + 1) t v name).run P w = .ok (some false) w := by
 unfold methF at h
 split at h
 case h_2 => cases h
 rename_i i hi
 split at h
 case h_2 => cases h
 rename_i m hm
 split at h
 case h_2 => cases h
 rename_i hp hf hn
 cases h
 have hu : ∃ d, P.underlying t = some d ∧ ∀ e, d ≠ .pointer e := by
  cases hd : P.underlying t with
  | none => rw [hd] at hn; cases hn
  | some d =>
   refine ⟨d, rfl, ?_⟩
   rintro e rfl
   rw [hd] at hn
   cases hn
 obtain ⟨d, hd, hne⟩ := hu
 unfold nilAhead
 simp only [Sem.run_bind, typeInfo, hi, hm, hp, hf, followBlind, Result.andThen_ok]
 simp [hi, hm, hp, hf, followBlind, run_underlying hd]
 cases d <;> first | exact absurd rfl (hne _) | simp
theorem opP_nilfn {P : Program} {x : Operand} {ty : TypeId} {ρ : Operand → AV} {name : String} {u : TypeId} {z : AV} {b : List AV} {g : FuncId} (hx : ρ x = .fn (.method name) [.iface u z] b) (hm : methF P u name = some g) : OpP P (.nilCheck x) ty ρ (.fn (.method name) [.iface u z] b) := by
 refine opP_of_same ?_
 intro μ F w ρc o ho ht hr
 have h := hr x (by simp [Op.operands])
 rw [hx] at h
 have h' := h
 obtain ⟨c1, c2, hv, hs1, hs2, f1, f2⟩ := h.fn_inv
 rw [hv] at h'
 have h0 : 0 < c1.size := by rw [hs1]; simp
 have hc := f1 0 (.iface u z) c1[0] rfl (Array.getElem?_eq_getElem h0)
 have hg : c1[0]? = some c1[0] := Array.getElem?_eq_getElem h0
 generalize c1[0] = y at hc hg
 cases hc with
 | iface _ _ q hq =>
 have hk : ∃ k, P.types.size + Made.depth = k + 1 := ⟨P.types.size + (Made.depth - 1), rfl⟩
 obtain ⟨k, hk⟩ := hk
 refine ⟨_, ?_, h'⟩
 simp [execOp, ho, hv, hg, hk, run_nilAhead hm]
section
variable {P : Program} {τ : Tab} {ops : Array Oper} {cls : Nat → Cls} {Q : AX → AF → Mem → Prop} {ds : List ADef} {ls : List Nat} {i : Nat} {o : Oper} {t : List (Nat × AV)} {M : Mem}
/-- append of zeros to nil: an own slice. -/
theorem DW_zapp (hτ : TabOK P τ) {d : Nat} (hi : ops[i]? = some o) (hw : wantedA ops ⟨t, ds⟩ o = some true) (hd : o.dst = some d) (hc : isE (cls i) = true) {ty tx e : TypeId} {s x : Operand} (ho : o.op = .call { callee := .builtin .append, args := #[s, x], argTypes := #[ty, tx] })
  {sz n : Nat} (hS : AF.ev ⟨t, ds⟩ s = .sl sz [] .full) (hX : AF.ev ⟨t, ds⟩ x = .int .i64 (n : Int)) {ti ei xi : TI} (ht : lookup τ ty = some ti) (hk : ti.k = .slice e) (he : lookup τ e = some ei) (hp : decide (0 < ei.size) = true) (hxi : lookup τ tx = some xi) (hxk : xi.k = .int .i64)
  (h0 : 0 < n) (hb : n * ei.bytes ≤ 140737488355328) (hlen : n ≤ 140737488355328)
  (h : ∀ (cap' : Nat) (l' : List AV), n ≤ cap' → l'.length = cap' * ei.size → DW P ops cls Q ds ls ((d, .osl M.next 0 n cap' ei.size) :: t) (M.push (.cells l'))) : DW P ops cls Q ds (i :: ls) t M := by
 refine DW_run hi hw ?_
 refine SC.of_G hc (by intro c hc; rw [ho] at hc; cases hc) ?_
 ·refine OpG.mono (opG_append_zeros hτ ⟨ht, hk, he, of_decide_eq_true hp⟩ hxi hxk ho hS hX h0 hb hlen) ?_
  rintro u M' ⟨cap', l', h1, h2, rfl, rfl⟩
  have := h cap' l' h1 h2
  simpa [AF.put, hd] using this
theorem DW_cap (hτ : TabOK P τ) {d : Nat} (hi : ops[i]? = some o) (hw : wantedA ops ⟨t, ds⟩ o = some true) (hd : o.dst = some d) {x : Operand} {ts : TypeId} (ho : o.op = .call { callee := .builtin .cap, args := #[x], argTypes := #[ts] }) {sz : Nat} {xs : List AV} (hx : AF.ev ⟨t, ds⟩ x = .sl sz xs .full) {e : TypeId} {ti : TI} (ht : lookup τ ts = some ti) (hk : ti.k = .slice e)
  (h : DW P ops cls Q ds ls ((d, .int .i64 xs.length) :: t) M) : DW P ops cls Q ds (i :: ls) t M :=
 DW_ofP hi hw hd (by rw [ho]; exact opP_cap hτ ht hk hx) h
theorem DW_inil {d : Nat} (hi : ops[i]? = some o) (hw : wantedA ops ⟨t, ds⟩ o = some true) (hd : o.dst = some d) {ts yt : TypeId} {x y : Operand} (ho : o.op = .binOp .eql ts x y yt) (ht : P.underlying ts = some (.interface (P.methodsAt ts))) {u : TypeId} {z : AV} (hx : AF.ev ⟨t, ds⟩ x = .iface u z) (hy : AF.ev ⟨t, ds⟩ y = .nilIface)
  (h : DW P ops cls Q ds ls ((d, .bool false) :: t) M) : DW P ops cls Q ds (i :: ls) t M :=
 DW_ofP hi hw hd (by rw [ho]; exact opP_inil ht hx hy) h
theorem DW_nilfn {d : Nat} (hi : ops[i]? = some o) (hw : wantedA ops ⟨t, ds⟩ o = some true) (hd : o.dst = some d) {x : Operand} (ho : o.op = .nilCheck x) {name : String} {u : TypeId} {z : AV} {b : List AV} {g : FuncId} (hx : AF.ev ⟨t, ds⟩ x = .fn (.method name) [.iface u z] b) (hm : methF P u name = some g)
  (h : DW P ops cls Q ds ls ((d, .fn (.method name) [.iface u z] b) :: t) M) : DW P ops cls Q ds (i :: ls) t M :=
 DW_ofP hi hw hd (by rw [ho]; exact opP_nilfn hx hm) h
end
end Go.Ab
/- Parts of rows that are told one by one. -/
set_option linter.unusedVariables false
set_option linter.unusedSimpArgs false
namespace Go.Ab
open Go.RowKit
theorem opP_slice00 {P : Program} {τ : Tab} (hτ : TabOK P τ) {t e : TypeId} {ti ei : TI} (ht : lookup τ t = some ti) (hk : ti.k = .slice e) (he : lookup τ e = some ei) {X : Operand} {H : Option Operand} {ty : TypeId} {ρ : Operand → AV} {sz : Nat}
  (hX : ρ X = .sl sz [] .full) (hH : bnd (H.map ρ) 0 = some 0) : OpP P (.slice t X none H none) ty ρ (.sl sz [] .full) := by
 refine opP_of_same ?_
 intro μ F w ρc o ho hty hr
 have hx := hr X (by simp [Op.operands])
 rw [hX] at hx
 have hx0 := hx
 generalize hv : ρc X = v at hx hx0
 obtain ⟨A, cap, ad, vals, rfl, hs, hcap, hA, hone, hcell, hrep, htag⟩ := hx.sl_inv
 have hc0 : cap = 0 := htag
 subst hc0
 obtain ⟨ft, dt, zt, HT⟩ := TI.spec hτ ht
 obtain ⟨fe, de, ze, HE⟩ := TI.spec hτ he
 have hf := HT.fits
 rw [hk] at hf
 have hdd : dt = .slice e := by
  cases dt <;> simp [TK.fits] at hf
  rw [hf]
 subst hdd
 have hb := run_bounds (P := P) (w := w) (isS := true) (n := 0) (m := 0) (L := none) (.inl ⟨rfl, rfl⟩) (bnd_spec hH fun x hx => hr x (by simp [Op.operands, hx])) (Int.le_refl 0) (Int.le_refl 0) (by omega)
 refine ⟨.slice A 0 0, ?_, hx0⟩
 simp only [execOp, ho, hv, Instr.sliceAt, Sem.run_bind, run_underlying HT.und, Result.andThen_ok, Instr.slice, Option.map_none, List.length_nil, hb, run_sizeOf w HE.info, HE.cellsOf, Sem.run_pure]
 simp
section
variable {P : Program} {τ : Tab} {ops : Array Oper} {cls : Nat → Cls} {Q : AX → AF → Mem → Prop} {ds : List ADef} {ls : List Nat} {i : Nat} {o : Oper} {t : List (Nat × AV)} {M : Mem}
/-- nil[:0] -/
theorem DW_slice00 (hτ : TabOK P τ) {d : Nat} (hi : ops[i]? = some o) (hw : wantedA ops ⟨t, ds⟩ o = some true) (hd : o.dst = some d) {ty e : TypeId} {X : Operand} {H : Option Operand} (ho : o.op = .slice ty X none H none) {sz : Nat}
  (hX : AF.ev ⟨t, ds⟩ X = .sl sz [] .full) {ti ei : TI} (ht : lookup τ ty = some ti) (hk : ti.k = .slice e) (he : lookup τ e = some ei) (hH : bnd (H.map (AF.ev ⟨t, ds⟩)) 0 = some 0)
  (h : DW P ops cls Q ds ls ((d, .sl sz [] .full) :: t) M) : DW P ops cls Q ds (i :: ls) t M :=
 DW_ofP hi hw hd (by rw [ho]; exact opP_slice00 hτ ht hk he hX hH) h
/-- l[lo:] -/
theorem DW_from (hτ : TabOK P τ) {d : Nat} (hi : ops[i]? = some o) (hw : wantedA ops ⟨t, ds⟩ o = some true) (hd : o.dst = some d) {ty e : TypeId} {X : Operand} {L : Option Operand} (ho : o.op = .slice ty X L none none) {α : Type} {f : α → AV} {l : List α} {sz : Nat} {tg : Tag} {lo : Nat}
  (hX : AF.ev ⟨t, ds⟩ X = .sl sz (l.map f) tg) {ti ei : TI} (ht : lookup τ ty = some ti) (hk : ti.k = .slice e) (he : lookup τ e = some ei) (hsz : sz = ei.size) (hL : bnd (L.map (AF.ev ⟨t, ds⟩)) 0 = some (lo : Int)) (h1 : lo ≤ l.length)
  (h : DW P ops cls Q ds ls ((d, .sl sz ((l.drop lo).map f) .none) :: t) M) : DW P ops cls Q ds (i :: ls) t M := by
 refine DW_slice hτ hi hw hd ho hX ht hk he hsz hL (hi' := ((l.map f).length : Int)) rfl (by omega) (by simp; omega) (Int.le_refl _) ?_
 have e1 : ((l.map f).take (((l.map f).length : Int)).toNat).drop ((lo : Int)).toNat = (l.drop lo).map f := by
  have : (l.map f).take (((l.map f).length : Int)).toNat = l.map f := List.take_of_length_le (by simp)
  rw [this]
  simp
 rw [e1]
 exact h
/-- l[:hi] -/
theorem DW_to (hτ : TabOK P τ) {d : Nat} (hi : ops[i]? = some o) (hw : wantedA ops ⟨t, ds⟩ o = some true) (hd : o.dst = some d) {ty e : TypeId} {X : Operand} {H : Option Operand} (ho : o.op = .slice ty X none H none) {α : Type} {f : α → AV} {l : List α} {sz : Nat} {tg : Tag} {n : Nat}
  (hX : AF.ev ⟨t, ds⟩ X = .sl sz (l.map f) tg) {ti ei : TI} (ht : lookup τ ty = some ti) (hk : ti.k = .slice e) (he : lookup τ e = some ei) (hsz : sz = ei.size) (hH : bnd (H.map (AF.ev ⟨t, ds⟩)) (l.map f).length = some (n : Int)) (h1 : n ≤ l.length)
  (h : DW P ops cls Q ds ls ((d, .sl sz ((l.take n).map f) .none) :: t) M) : DW P ops cls Q ds (i :: ls) t M := by
 refine DW_slice hτ hi hw hd ho hX ht hk he hsz (lo := 0) rfl hH (by omega) (by omega) (by simp; omega) ?_
 have e1 : ((l.map f).take ((n : Int)).toNat).drop ((0 : Int)).toNat = (l.take n).map f := by simp
 rw [e1]
 exact h
/-- l[lo:hi] -/
theorem DW_mid (hτ : TabOK P τ) {d : Nat} (hi : ops[i]? = some o) (hw : wantedA ops ⟨t, ds⟩ o = some true) (hd : o.dst = some d) {ty e : TypeId} {X : Operand} {L H : Option Operand} (ho : o.op = .slice ty X L H none) {α : Type} {f : α → AV} {l : List α} {sz : Nat} {tg : Tag} {lo n : Nat}
  (hX : AF.ev ⟨t, ds⟩ X = .sl sz (l.map f) tg) {ti ei : TI} (ht : lookup τ ty = some ti) (hk : ti.k = .slice e) (he : lookup τ e = some ei) (hsz : sz = ei.size) (hL : bnd (L.map (AF.ev ⟨t, ds⟩)) 0 = some (lo : Int)) (hH : bnd (H.map (AF.ev ⟨t, ds⟩)) (l.map f).length = some (n : Int)) (h0 : lo ≤ n) (h1 : n ≤ l.length)
  (h : DW P ops cls Q ds ls ((d, .sl sz (((l.take n).drop lo).map f) .none) :: t) M) : DW P ops cls Q ds (i :: ls) t M := by
 refine DW_slice hτ hi hw hd ho hX ht hk he hsz hL hH (by omega) (by omega) (by simp; omega) ?_
 have e1 : ((l.map f).take ((n : Int)).toNat).drop ((lo : Int)).toNat = ((l.take n).drop lo).map f := by simp
 rw [e1]
 exact h
end
end Go.Ab
/- Own rows of values of one cell. -/
set_option linter.unusedVariables false
set_option linter.unusedSimpArgs false
namespace Go.Ab
open Go.RowKit
def rowG (xs : List AV) (cap : Nat) : List AV := xs ++ List.replicate (cap - xs.length) .top
theorem rowG_len {xs : List AV} {cap : Nat} (h : xs.length ≤ cap) : (rowG xs cap).length = cap := by
 simp [rowG]; omega
theorem rowG_take (xs : List AV) (cap : Nat) : (rowG xs cap).take xs.length = xs := by simp [rowG]
theorem rowG_get {k id : Nat} {xs cells : List AV} {n cap : Nat} (hn : n ≤ xs.length) (hc : cells.take xs.length = xs) (hlen : cells.length = cap) (hl : xs.length ≤ cap) (hcl : ∀ x, x ∈ xs → Closed x) :
  (rowG (xs.take n) cap).length = cells.length ∧ ∀ (j : Nat) (x y : AV), cells[j]? = some x → (rowG (xs.take n) cap)[j]? = some y → SubK k id x y := by
 have hl' : (xs.take n).length = n := by simp; omega
 refine ⟨by rw [rowG_len (by omega), hlen], fun j x y hx hy => ?_⟩
 by_cases hj : j < n
 ·have h1 : (cells.take xs.length)[j]? = some x := by
   rw [List.getElem?_take, if_pos (by omega)]
   exact hx
  rw [hc] at h1
  simp only [rowG] at hy
  rw [List.getElem?_append_left (by omega), List.getElem?_take, if_pos hj, h1] at hy
  cases hy
  exact SubK.of_closed (hcl _ (List.mem_of_getElem? h1))
 ·simp only [rowG] at hy
  rw [List.getElem?_append_right (by omega)] at hy
  have := List.mem_of_getElem? hy
  rw [List.mem_replicate] at this
  rw [this.2]
  exact SubK.top
theorem rowG_all {k id : Nat} {xs cells : List AV} {cap : Nat} (hc : cells.take xs.length = xs) (hlen : cells.length = cap) (hl : xs.length ≤ cap) (hcl : ∀ x, x ∈ xs → Closed x) :
  (rowG xs cap).length = cells.length ∧ ∀ (j : Nat) (x y : AV), cells[j]? = some x → (rowG xs cap)[j]? = some y → SubK k id x y := by
 have := rowG_get (k := k) (id := id) (Nat.le_refl _) hc hlen hl hcl
 rwa [List.take_length] at this
theorem flat_one {xs : List AV} (h : ∀ x, x ∈ xs → x.cells = [x]) : flat xs = xs := by
 induction xs with
 | nil => rfl
 | cons a r ih =>
  have h1 := h a (by simp)
  have h2 := ih (fun x hx => h x (by simp [hx]))
  show a.cells ++ flat r = _
  rw [h1, h2]
  rfl
theorem Sub.iface {t : TypeId} {x y : AV} (h : Sub x y) : Sub (.iface t x) (.iface t y) := by
 intro μ F w v hr
 cases hr with
 | iface _ _ u hu => exact .iface _ _ _ (h _ _ _ _ hu)
theorem Sub.ref1 {x y : AV} (h : Sub x y) : Sub (.ref [x]) (.ref [y]) := by
 intro μ F w v hr
 cases hr with
 | ref cells b o vals h1 h2 h3 =>
  refine .ref _ b o vals ?_ ?_ ?_
  ·intro j c hc
   match j, hc with
   | 0, _ => exact h1 0 x rfl
   | j + 1, hc => simp at hc
  ·intro j c hc
   match j, hc with
   | 0, _ => exact h2 0 x rfl
   | j + 1, hc => simp at hc
  ·intro j c hc
   match j, hc with
   | 0, hc =>
    simp at hc
    subst hc
    exact h _ _ _ _ (h3 0 x rfl)
   | j + 1, hc => simp at hc
theorem Sub.nil {sz sz' : Nat} : Sub (.sl sz [] .full) (.sl sz' [] .none) := fun μ F w v h => Sub.empty (.inl rfl) μ F w v (rep_untag h)
theorem Sub.trans {x y z : AV} (h1 : Sub x y) (h2 : Sub y z) : Sub x z := fun μ F w v h => h2 _ _ _ _ (h1 _ _ _ _ h)
def isNeq : BinOp → Bool
 | .neq => true
 | _ => false
theorem opP_refnil {P : Program} {b : BinOp} (hb : b = .eql ∨ b = .neq) {t yt : TypeId} {x y : Operand} {ty : TypeId} {ρ : Operand → AV} {c : List AV} (ht : P.underlying t = some (.pointer (P.pointee t))) (hx : ρ x = .ref c) (hy : ρ y = .nilptr) :
  OpP P (.binOp b t x y yt) ty ρ (.bool (isNeq b)) := by
 refine opP_of_same ?_
 intro μ F w ρc o ho hty hr
 have h1 := hr x (by simp [Op.operands])
 have h2 := hr y (by simp [Op.operands])
 rw [hx] at h1
 rw [hy] at h2
 generalize hv1 : ρc x = v1 at h1
 generalize hv2 : ρc y = v2 at h2
 obtain ⟨bb, oo, rfl⟩ := rep_ref_form h1
 cases h2
 rcases hb with rfl | rfl
 ·exact ⟨.bool false, by simp [execOp, ho, hv1, hv2, eqGuard, run_eql_pointer_nil w t _ ht], .bool _⟩
 ·exact ⟨.bool true, by simp [execOp, ho, hv1, hv2, eqGuard, run_neq_pointer_nil w t _ ht], .bool _⟩
theorem opP_nilnil {P : Program} {b : BinOp} (hb : b = .eql ∨ b = .neq) {t yt : TypeId} {x y : Operand} {ty : TypeId} {ρ : Operand → AV} (ht : P.underlying t = some (.pointer (P.pointee t))) (hx : ρ x = .nilptr) (hy : ρ y = .nilptr) :
  OpP P (.binOp b t x y yt) ty ρ (.bool (!isNeq b)) := by
 refine opP_of_same ?_
 intro μ F w ρc o ho hty hr
 have h1 := hr x (by simp [Op.operands])
 have h2 := hr y (by simp [Op.operands])
 rw [hx] at h1
 rw [hy] at h2
 generalize hv1 : ρc x = v1 at h1
 generalize hv2 : ρc y = v2 at h2
 cases h1
 cases h2
 rcases hb with rfl | rfl
 ·exact ⟨.bool true, by simp [execOp, ho, hv1, hv2, eqGuard, run_eql_pointer_nil w t _ ht], .bool _⟩
 ·exact ⟨.bool false, by simp [execOp, ho, hv1, hv2, eqGuard, run_neq_pointer_nil w t _ ht], .bool _⟩
theorem opR_ptrnil {P : Program} {b : BinOp} (hb : b = .eql ∨ b = .neq) {t yt : TypeId} {x y : Operand} {ty : TypeId} {ρ : Operand → AV} {M : Mem} {id off : Nat} {l : List AV} (ht : P.underlying t = some (.pointer (P.pointee t))) (hx : ρ x = .ptr id off) (hM : M.get id = some (.cells l)) (hy : ρ y = .nilptr) :
  OpR P (.binOp b t x y yt) ty ρ M (.bool (isNeq b)) := by
 intro μ F w ρc o hg ho hty hr
 have h1 := hr x (by simp [Op.operands])
 have h2 := hr y (by simp [Op.operands])
 rw [hx] at h1
 rw [hy] at h2
 generalize hv1 : ρc x = v1 at h1
 generalize hv2 : ρc y = v2 at h2
 cases h2
 obtain ⟨bb, c, tb, o1, _⟩ := hg.obj id l hM
 cases h1 with
 | ptr _ _ v k1 k2 k3 =>
 have hv := k3 bb o1
 subst hv
 rcases hb with rfl | rfl
 ·exact ⟨.bool false, w, by simp [execOp, ho, hv1, hv2, eqGuard, run_eql_pointer_nil w t _ ht], Below.refl _ _, .bool _⟩
 ·exact ⟨.bool true, w, by simp [execOp, ho, hv1, hv2, eqGuard, run_neq_pointer_nil w t _ ht], Below.refl _ _, .bool _⟩
section
variable {P : Program} {τ : Tab} {ops : Array Oper} {cls : Nat → Cls} {Q : AX → AF → Mem → Prop} {ds : List ADef} {ls : List Nat} {i : Nat} {o : Oper} {t : List (Nat × AV)} {M : Mem}
theorem DW_refnil {d : Nat} (hi : ops[i]? = some o) (hw : wantedA ops ⟨t, ds⟩ o = some true) (hd : o.dst = some d) {b : BinOp} {ts yt : TypeId} {x y : Operand} (ho : o.op = .binOp b ts x y yt) (hb : b = .eql ∨ b = .neq) (ht : P.underlying ts = some (.pointer (P.pointee ts))) {c : List AV} (hx : AF.ev ⟨t, ds⟩ x = .ref c) (hy : AF.ev ⟨t, ds⟩ y = .nilptr)
  (h : DW P ops cls Q ds ls ((d, .bool (isNeq b)) :: t) M) : DW P ops cls Q ds (i :: ls) t M :=
 DW_ofP hi hw hd (by rw [ho]; exact opP_refnil hb ht hx hy) h
theorem DW_nilnil {d : Nat} (hi : ops[i]? = some o) (hw : wantedA ops ⟨t, ds⟩ o = some true) (hd : o.dst = some d) {b : BinOp} {ts yt : TypeId} {x y : Operand} (ho : o.op = .binOp b ts x y yt) (hb : b = .eql ∨ b = .neq) (ht : P.underlying ts = some (.pointer (P.pointee ts))) (hx : AF.ev ⟨t, ds⟩ x = .nilptr) (hy : AF.ev ⟨t, ds⟩ y = .nilptr)
  (h : DW P ops cls Q ds ls ((d, .bool (!isNeq b)) :: t) M) : DW P ops cls Q ds (i :: ls) t M :=
 DW_ofP hi hw hd (by rw [ho]; exact opP_nilnil hb ht hx hy) h
theorem DW_ptrnil {d : Nat} (hi : ops[i]? = some o) (hw : wantedA ops ⟨t, ds⟩ o = some true) (hd : o.dst = some d) {b : BinOp} {ts yt : TypeId} {x y : Operand} (ho : o.op = .binOp b ts x y yt) (hb : b = .eql ∨ b = .neq) (hc : notP (cls i) = true) (ht : P.underlying ts = some (.pointer (P.pointee ts))) {id off : Nat} {l : List AV} (hx : AF.ev ⟨t, ds⟩ x = .ptr id off) (hM : M.get id = some (.cells l)) (hy : AF.ev ⟨t, ds⟩ y = .nilptr)
  (h : DW P ops cls Q ds ls ((d, .bool (isNeq b)) :: t) M) : DW P ops cls Q ds (i :: ls) t M :=
 DW_ofR hi hw hd hc (by rw [ho]; exact opR_ptrnil hb ht hx hM hy) h
end
end Go.Ab
/- Rules that reckon by themselves: one for all plain code, one for append by a slice's owner, one for rows of elements. -/
set_option linter.unusedVariables false
set_option linter.unusedSimpArgs false
namespace Go.Ab
open Go.RowKit
def stepW (r : Option Nat) (P : Program) (n : Nat) (c : Code) (Q : AX → AF → Mem → Prop) (f : AF) (M : Mem) : Option Prop :=
 match c with
 | .seq c d => some (W r P n c (thenX (fun f M => W r P n d Q f M) Q) f M)
 | .region _ ops false => (match f with
  | ⟨t, ds⟩ => match (ops.toList.all fun o => dstOK ds o n) with
   | true => some (DW P ops (fun _ => .Y) Q ds (List.range' 0 ops.toList.length) t M)
   | false => none)
 | .block id c => some (W r P n c (blockX id Q) f M)
 | .skip => some (Q .normal f M)
 | .exit id => some (Q (.exit id) f M)
 | .ret => some (Q .ret f M)
 | .scope c => (match r with | none => some (W none P n c Q f M) | some _ => none)
 | .label _ => some (Q .normal f M)
 | .cond c d e => (match f.ev c with
  | .bool true => some (W r P n d Q f M)
  | .bool false => some (W r P n e Q f M)
  | _ => none)
 | _ => none
theorem W_A {r : Option Nat} {P : Program} {n : Nat} {c : Code} {Q : AX → AF → Mem → Prop} {f : AF} {M : Mem} {G : Prop} (hs : stepW r P n c Q f M = some G) (h : G) : W r P n c Q f M := by
 unfold stepW at hs
 split at hs <;> try (cases hs; done)
 ·cases hs; exact W_seq h
 ·rename_i id ops
  obtain ⟨t, ds⟩ := f
  simp only at hs
  split at hs
  ·rename_i hd
   cases hs
   exact W_text hd (fun _ _ _ h => h) h
  ·cases hs
 ·cases hs; exact W_block h
 ·cases hs; exact W_skip h
 ·cases hs; exact W_exit h
 ·cases hs; exact W_ret h
 ·split at hs
  ·cases hs; exact W_scope h
  ·cases hs
 ·cases hs; exact W_label h
 ·split at hs
  ·rename_i hc; cases hs; exact W_true hc h
  ·rename_i hc; cases hs; exact W_false hc h
  ·cases hs
section
variable {P : Program} {τ : Tab} {ops : Array Oper} {cls : Nat → Cls} {Q : AX → AF → Mem → Prop} {ds : List ADef} {ls : List Nat} {i : Nat} {o : Oper} {t : List (Nat × AV)} {M : Mem}
def appOp (τ : Tab) (ds : List ADef) (t : List (Nat × AV)) (M : Mem) (d : Nat) (ty tx : TypeId) (s y : Operand) : Option (List (Nat × AV) × Mem × Nat × Nat × Nat × Nat) :=
 match AF.ev ⟨t, ds⟩ s with
 | .sl sz xs (.tok id g) =>
  match M.get id, lookup τ ty, lookup τ tx with
  | some (.spare g'), some ti, some xi =>
   match ti.k with
   | .slice e =>
    match lookup τ e with
    | some ei =>
     match decide (0 < ei.size), srcFits xi.k (AF.ev ⟨t, ds⟩ y), decide (sz = ei.size), srcOf ei.size (AF.ev ⟨t, ds⟩ y) with
     | true, true, true, some ys => some ((d, .sl ei.size (xs ++ ys) (.tok id (g + 1))) :: t, M.set id (.spare (g + 1)), (xs.length + ys.length) * ei.bytes, xs.length + ys.length, g', g)
     | _, _, _, _ => none
    | none => none
   | _ => none
  | _, _, _ => none
 | _ => none
def stepApp (τ : Tab) (ops : Array Oper) (cls : Nat → Cls) (ds : List ADef) (i : Nat) (t : List (Nat × AV)) (M : Mem) : Option (List (Nat × AV) × Mem × Nat × Nat × Nat × Nat) :=
 match ops[i]? with
 | some o =>
  match wantedA ops ⟨t, ds⟩ o, o.dst, isE (cls i), o.op with
  | some true, some d, true, .call { callee := .builtin .append, args := ⟨[s, y]⟩, argTypes := ⟨[ty, tx]⟩ } => appOp τ ds t M d ty tx s y
  | _, _, _, _ => none
 | none => none
theorem DW_app (hτ : TabOK P τ) {t' : List (Nat × AV)} {M' : Mem} {nb nl g1 g2 : Nat} (hs : stepApp τ ops cls ds i t M = some (t', M', nb, nl, g1, g2)) (hgg : g1 = g2) (hb : nb ≤ 140737488355328) (hl : nl ≤ 140737488355328) (h : DW P ops cls Q ds ls t' M') : DW P ops cls Q ds (i :: ls) t M := by
 unfold stepApp at hs
 split at hs
 ·rename_i o hi
  split at hs
  ·rename_i d s y ty tx hw hd hc ho
   unfold appOp at hs
   split at hs
   ·rename_i sz xs id g hS
    split at hs
    ·rename_i g' ti xi hM ht hxi
     split at hs
     ·rename_i e hk
      split at hs
      ·rename_i ei he
       split at hs
       ·rename_i ys hp hf hsz hX
        cases hs
        subst hgg
        exact DW_append_own hτ hi hw hd ho hS hM ht hk he hp hxi hf hX hc (of_decide_eq_true hsz) hb hl h
       ·cases hs
      ·cases hs
     ·cases hs
    ·cases hs
   ·cases hs
  ·cases hs
 ·cases hs
def litOp (τ : Tab) (ds : List ADef) (t : List (Nat × AV)) (d : Nat) (ty : TypeId) (n : Nat) (ps : Array (Nat × Operand)) : Option (List (Nat × AV)) :=
 match lookup τ ty with
 | some ti =>
  match ti.k with
  | .slice e =>
   match lookup τ e with
   | some ei =>
    match decide (0 < ei.size), decide (ps.size = n), idxOK ps.toList 0, sizedAll ei.size (ps.toList.map fun p => AF.ev ⟨t, ds⟩ p.2), decide (n * ei.size ≤ 16777216), forceL (ps.toList.map fun p => AF.ev ⟨t, ds⟩ p.2) with
    | true, true, true, true, true, some ys => some ((d, .sl ei.size ys .full) :: t)
    | _, _, _, _, _, _ => none
   | none => none
  | _ => none
 | none => none
def stepLit (τ : Tab) (ops : Array Oper) (ds : List ADef) (i : Nat) (t : List (Nat × AV)) : Option (List (Nat × AV)) :=
 match ops[i]? with
 | some o =>
  match wantedA ops ⟨t, ds⟩ o, o.dst, o.op with
  | some true, some d, .buildSlice ty n ps => litOp τ ds t d ty n ps
  | _, _, _ => none
 | none => none
theorem DW_row (hτ : TabOK P τ) {t' : List (Nat × AV)} (hs : stepLit τ ops ds i t = some t') (h : DW P ops cls Q ds ls t' M) : DW P ops cls Q ds (i :: ls) t M := by
 unfold stepLit at hs
 split at hs
 ·rename_i o hi
  split at hs
  ·rename_i d ty n ps hw hd ho
   unfold litOp at hs
   split at hs
   ·rename_i ti ht
    split at hs
    ·rename_i e hk
     split at hs
     ·rename_i ei he
      split at hs
      ·rename_i ys hp hn hidx hsz hbig hys
       cases hs
       exact DW_lits hτ hi hw hd ho ht hk he hp (of_decide_eq_true hn) hidx hsz hbig hys h
      ·cases hs
     ·cases hs
    ·cases hs
   ·cases hs
  ·cases hs
 ·cases hs
/-- An element of a slice, by a fact on the list. -/
def ixOp (τ : Tab) (ds : List ADef) (t : List (Nat × AV)) (ty : TypeId) (X I : Operand) : Option (List AV × Int) :=
 match AF.ev ⟨t, ds⟩ X, AF.ev ⟨t, ds⟩ I, lookup τ ty with
 | .sl sz xs _, .int _ n, some ti =>
  match ti.k with
  | .slice e =>
   match lookup τ e with
   | some ei => (match decide (sz = ei.size) with | true => some (xs, n) | false => none)
   | none => none
  | _ => none
 | _, _, _ => none
def stepIx (τ : Tab) (ops : Array Oper) (ds : List ADef) (i : Nat) (t : List (Nat × AV)) : Option (Nat × List AV × Int) :=
 match ops[i]? with
 | some o =>
  match wantedA ops ⟨t, ds⟩ o, o.dst, o.op with
  | some true, some d, .indexAddr ty X I => (match ixOp τ ds t ty X I with | some (xs, n) => some (d, xs, n) | none => none)
  | _, _, _ => none
 | none => none
theorem DW_ix (hτ : TabOK P τ) {d : Nat} {xs : List AV} {n : Int} {x : AV} (hs : stepIx τ ops ds i t = some (d, xs, n)) (hx : 0 ≤ n ∧ xs[n.toNat]? = some x) (h : DW P ops cls Q ds ls ((d, .ref x.cells) :: t) M) : DW P ops cls Q ds (i :: ls) t M := by
 unfold stepIx at hs
 split at hs
 ·rename_i o hi
  split at hs
  ·rename_i d' ty X I hw hd ho
   split at hs
   ·rename_i xs' n' hix
    cases hs
    unfold ixOp at hix
    split at hix
    ·rename_i sz xs2 tag k n2 ti hX hI ht
     split at hix
     ·rename_i e hk
      split at hix
      ·rename_i ei he
       split at hix
       ·rename_i hsz
        cases hix
        exact DW_index hτ hi hw hd ho hX hI ht hk he (of_decide_eq_true hsz) hx.1 hx.2 h
       ·cases hix
      ·cases hix
     ·cases hix
    ·cases hix
   ·cases hs
  ·cases hs
 ·cases hs
theorem ixN {α : Type} {f : α → AV} {l : List α} {i : Nat} {y : α} (h : l[i]? = some y) : 0 ≤ (i : Int) ∧ (l.map f)[((i : Int)).toNat]? = some (f y) := ⟨Int.natCast_nonneg _, map_get h⟩
theorem ixZ {α : Type} {f : α → AV} {l : List α} {n : Int} {i : Nat} {y : α} (hn : n = i) (h : l[i]? = some y) : 0 ≤ n ∧ (l.map f)[n.toNat]? = some (f y) := ⟨by omega, map_getZ hn h⟩
/-- A byte of a text, by a fact on the list. -/
def stepBy (τ : Tab) (ops : Array Oper) (ds : List ADef) (i : Nat) (t : List (Nat × AV)) : Option (Nat × List UInt8 × Int) :=
 match ops[i]? with
 | some o =>
  match wantedA ops ⟨t, ds⟩ o, o.dst, o.op with
  | some true, some d, .index ty X I =>
   (match AF.ev ⟨t, ds⟩ X, AF.ev ⟨t, ds⟩ I, lookup τ ty with
   | .str s, .int _ n, some ti => (match ti.k with | .str => some (d, s, n) | _ => none)
   | _, _, _ => none)
  | _, _, _ => none
 | none => none
theorem DW_by (hτ : TabOK P τ) {d : Nat} {s : List UInt8} {n : Int} {c : UInt8} (hs : stepBy τ ops ds i t = some (d, s, n)) (hx : 0 ≤ n ∧ s[n.toNat]? = some c) (h : DW P ops cls Q ds ls ((d, .int .u8 c.toNat) :: t) M) : DW P ops cls Q ds (i :: ls) t M := by
 unfold stepBy at hs
 split at hs
 ·rename_i o hi
  split at hs
  ·rename_i d' ty X I hw hd ho
   split at hs
   ·rename_i s' k n' ti hX hI ht
    split at hs
    ·rename_i hk
     cases hs
     exact DW_byte hτ hi hw hd ho hX hI ht hk hx.1 hx.2 h
    ·cases hs
   ·cases hs
  ·cases hs
 ·cases hs
theorem byN {s : List UInt8} {i : Nat} {c : UInt8} (h : s[i]? = some c) : 0 ≤ (i : Int) ∧ s[((i : Int)).toNat]? = some c := ⟨Int.natCast_nonneg _, h⟩
/-- A step that only reckons, and its value read otherwise. -/
def stepV (τ : Tab) (es : List TypeId) (ops : Array Oper) (ds : List ADef) (i : Nat) (t : List (Nat × AV)) : Option (Nat × AV) :=
 match ops[i]? with
 | some o => (match wantedA ops ⟨t, ds⟩ o, o.dst, forceP (stepP3 τ es (AF.ev ⟨t, ds⟩) o.op) with
  | some true, some d, some x => some (d, x)
  | _, _, _ => none)
 | none => none
theorem stepV_spec {es : List TypeId} {d : Nat} {x : AV} (hs : stepV τ es ops ds i t = some (d, x)) : ∃ o, ops[i]? = some o ∧ wantedA ops ⟨t, ds⟩ o = some true ∧ o.dst = some d ∧ forceP (stepP3 τ es (AF.ev ⟨t, ds⟩) o.op) = some x := by
 unfold stepV at hs
 split at hs
 ·rename_i o hi
  split at hs
  ·rename_i d' x' hw hd hx
   cases hs
   exact ⟨o, hi, hw, hd, hx⟩
  ·cases hs
 ·cases hs
theorem DW_VB {es : List TypeId} (hT : TabOK P τ ∧ EqTab P es) {d : Nat} {x y : Bool} (hs : stepV τ es ops ds i t = some (d, .bool x)) (hx : x = y) (h : DW P ops cls Q ds ls ((d, .bool y) :: t) M) : DW P ops cls Q ds (i :: ls) t M := by
 obtain ⟨o, hi, hw, hd, ho⟩ := stepV_spec hs
 exact DW_V hT hi hw hd ho (congrArg AV.bool hx) h
theorem DW_VI {es : List TypeId} (hT : TabOK P τ ∧ EqTab P es) {d : Nat} {k : IntKind} {x y : Int} (hs : stepV τ es ops ds i t = some (d, .int k x)) (hx : x = y) (h : DW P ops cls Q ds ls ((d, .int k y) :: t) M) : DW P ops cls Q ds (i :: ls) t M := by
 obtain ⟨o, hi, hw, hd, ho⟩ := stepV_spec hs
 exact DW_V hT hi hw hd ho (congrArg (AV.int k) hx) h
/-- What is called, and with what. -/
def stepC (ops : Array Oper) (ds : List ADef) (i : Nat) (t : List (Nat × AV)) : Option (Option Nat × FuncId × List AV) :=
 match ops[i]? with
 | some o => (match wantedA ops ⟨t, ds⟩ o, o.op with
  | some true, .call { callee := .value y, args := ags, argTypes := _ } => (match AF.ev ⟨t, ds⟩ y with
   | .fn (.func g) fi ca => some (o.dst, g, fi ++ ags.toList.map (AF.ev ⟨t, ds⟩) ++ ca)
   | _ => none)
  | _, _ => none)
 | none => none
theorem stepC_spec {dst : Option Nat} {g : FuncId} {args : List AV} (hs : stepC ops ds i t = some (dst, g, args)) : ∃ o y ags ts fi ca, ops[i]? = some o ∧ wantedA ops ⟨t, ds⟩ o = some true ∧ o.dst = dst ∧ o.op = .call { callee := .value y, args := ags, argTypes := ts } ∧ AF.ev ⟨t, ds⟩ y = .fn (.func g) fi ca ∧ args = fi ++ ags.toList.map (AF.ev ⟨t, ds⟩) ++ ca := by
 unfold stepC at hs
 split at hs
 ·rename_i o hi
  split at hs
  ·rename_i y ags ts hw ho
   split at hs
   ·rename_i g' fi ca hx
    cases hs
    exact ⟨o, y, ags, ts, fi, ca, hi, hw, rfl, ho, hx, rfl⟩
   ·cases hs
  ·cases hs
 ·cases hs
/-- A call that hands back just this. -/
theorem DW_C {d : Nat} {g : FuncId} {args : List AV} {x : AV} (hs : stepC ops ds i t = some (some d, g, args)) (hc : APure P g args x) (h : DW P ops cls Q ds ls ((d, x) :: t) M) : DW P ops cls Q ds (i :: ls) t M := by
 obtain ⟨o, y, ags, ts, fi, ca, hi, hw, hd, ho, hx, rfl⟩ := stepC_spec hs
 exact DW_pure hi hw hd ho hx hc h
/-- A call by its contract. -/
theorem DW_CM {d : Nat} {g : FuncId} {args : List AV} {R : AEnd → Mem → Prop} (hs : stepC ops ds i t = some (some d, g, args)) (hc : isE (cls i) = true) (hcall : ACalls P g args M R)
  (h1 : ∀ u M', R (.ret u) M' → DW P ops cls Q ds ls ((d, u) :: t) M') (h2 : ∀ u M', R (.pan u) M' → Q (.panic u) ⟨keepT ds, ds⟩ M') : DW P ops cls Q ds (i :: ls) t M := by
 obtain ⟨o, y, ags, ts, fi, ca, hi, hw, hd, ho, hx, rfl⟩ := stepC_spec hs
 exact DW_call hi hw hd ho hx hc hcall h1 h2
theorem DW_CM0 {g : FuncId} {args : List AV} {R : AEnd → Mem → Prop} (hs : stepC ops ds i t = some (none, g, args)) (hc : isE (cls i) = true) (hcall : ACalls P g args M R)
  (h1 : ∀ u M', R (.ret u) M' → DW P ops cls Q ds ls t M') (h2 : ∀ u M', R (.pan u) M' → Q (.panic u) ⟨keepT ds, ds⟩ M') : DW P ops cls Q ds (i :: ls) t M := by
 obtain ⟨o, y, ags, ts, fi, ca, hi, hw, hd, ho, hx, rfl⟩ := stepC_spec hs
 exact DW_call0 hi hw hd ho hx hc hcall h1 h2
/-- A variable's box, as an object. -/
def stepBx (τ : Tab) (ops : Array Oper) (cls : Nat → Cls) (ds : List ADef) (i : Nat) (t : List (Nat × AV)) (M : Mem) (d : Nat) : Option (List (Nat × AV) × Mem) :=
 match ops[i]? with
 | some o => (match wantedA ops ⟨t, ds⟩ o, decide (o.dst = some d), isE (cls i), o.op with
  | some true, true, true, .box ty x => (match forceE (stepE τ (AF.ev ⟨t, ds⟩) M (.box ty x)) with | some (y, N) => some ((d, y) :: t, N) | none => none)
  | _, _, _, _ => none)
 | none => none
theorem DW_box (d : Nat) (hτ : TabOK P τ) {t' : List (Nat × AV)} {M' : Mem} (hs : stepBx τ ops cls ds i t M d = some (t', M')) (h : DW P ops cls Q ds ls t' M') : DW P ops cls Q ds (i :: ls) t M := by
 unfold stepBx at hs
 split at hs
 ·rename_i o hi
  split at hs
  ·rename_i ty x hw hd hc ho
   split at hs
   ·rename_i y N hy
    cases hs
    exact DW_E hτ hi hw (of_decide_eq_true hd) (by rw [ho]; exact hy) hc h
   ·cases hs
  ·cases hs
 ·cases hs
/-- Pointers and interfaces held against nil. -/
theorem ptr_tab (hτ : TabOK P τ) {ts e : TypeId} {ti : TI} (h : lookup τ ts = some ti) (hk : ti.k = .ptr e) : P.underlying ts = some (.pointer (P.pointee ts)) := by
 obtain ⟨f, dd, z, H⟩ := TI.spec hτ h
 have hf := H.fits
 rw [hk] at hf
 have hu := H.und
 cases dd <;> simp [TK.fits] at hf
 simp [Program.pointee, hu]
def isCmp : BinOp → Bool
 | .eql | .neq => true
 | _ => false
theorem isCmp_spec {b : BinOp} (h : isCmp b = true) : b = .eql ∨ b = .neq := by cases b <;> simp [isCmp] at h <;> simp
def nilOp (c : Cls) (M : Mem) (b : BinOp) (k : TK) (x y : AV) : Option Bool :=
 match k, x, y with
 | .ptr _, .ref _, .nilptr => some (isNeq b)
 | .ptr _, .nilptr, .nilptr => some (!isNeq b)
 | .ptr _, .ptr id _, .nilptr => (match notP c, M.get id with | true, some (.cells _) => some (isNeq b) | _, _ => none)
 | _, _, _ => none
def stepNil (τ : Tab) (ops : Array Oper) (cls : Nat → Cls) (ds : List ADef) (i : Nat) (t : List (Nat × AV)) (M : Mem) : Option (Nat × Bool) :=
 match ops[i]? with
 | some o => (match wantedA ops ⟨t, ds⟩ o, o.dst, o.op with
  | some true, some d, .binOp b ts x y _ => (match isCmp b, lookup τ ts with
   | true, some ti => (match nilOp (cls i) M b ti.k (AF.ev ⟨t, ds⟩ x) (AF.ev ⟨t, ds⟩ y) with | some r => some (d, r) | none => none)
   | _, _ => none)
  | _, _, _ => none)
 | none => none
theorem DW_nilc (hτ : TabOK P τ) {d : Nat} {r : Bool} (hs : stepNil τ ops cls ds i t M = some (d, r)) (h : DW P ops cls Q ds ls ((d, .bool r) :: t) M) : DW P ops cls Q ds (i :: ls) t M := by
 unfold stepNil at hs
 split at hs
 ·rename_i o hi
  split at hs
  ·rename_i d' b ts x y yt hw hd ho
   split at hs
   ·rename_i ti hb ht
    split at hs
    ·rename_i r' hr
     cases hs
     unfold nilOp at hr
     split at hr
     ·rename_i e c hx hk hxx hyy
      cases hr
      exact DW_refnil hi hw hd ho (isCmp_spec hb) (ptr_tab hτ ht hk) hxx hyy h
     ·rename_i e hk hxx hyy
      cases hr
      exact DW_nilnil hi hw hd ho (isCmp_spec hb) (ptr_tab hτ ht hk) hxx hyy h
     ·rename_i e id off hk hxx hyy
      split at hr
      ·rename_i l hc hM
       cases hr
       exact DW_ptrnil hi hw hd ho (isCmp_spec hb) hc (ptr_tab hτ ht hk) hxx hM hyy h
      ·cases hr
     ·cases hr
    ·cases hs
   ·cases hs
  ·cases hs
 ·cases hs
/-- append, the first to a slice without spare room. -/
def appOp0 (τ : Tab) (ds : List ADef) (t : List (Nat × AV)) (M : Mem) (d : Nat) (ty tx : TypeId) (s y : Operand) : Option (List (Nat × AV) × Mem × Nat × Nat) :=
 match AF.ev ⟨t, ds⟩ s with
 | .sl sz xs .full =>
  match lookup τ ty, lookup τ tx with
  | some ti, some xi =>
   match ti.k with
   | .slice e =>
    match lookup τ e with
    | some ei =>
     match decide (0 < ei.size), srcFits xi.k (AF.ev ⟨t, ds⟩ y), (decide (sz = ei.size) || xs.isEmpty), srcOf ei.size (AF.ev ⟨t, ds⟩ y) with
     | true, true, true, some ys => some ((d, .sl ei.size (xs ++ ys) (.tok M.next 0)) :: t, M.push (.spare 0), (xs.length + ys.length) * ei.bytes, xs.length + ys.length)
     | _, _, _, _ => none
    | none => none
   | _ => none
  | _, _ => none
 | _ => none
def stepApp0 (τ : Tab) (ops : Array Oper) (cls : Nat → Cls) (ds : List ADef) (i : Nat) (t : List (Nat × AV)) (M : Mem) : Option (List (Nat × AV) × Mem × Nat × Nat) :=
 match ops[i]? with
 | some o =>
  match wantedA ops ⟨t, ds⟩ o, o.dst, isE (cls i), o.op with
  | some true, some d, true, .call { callee := .builtin .append, args := ⟨[s, y]⟩, argTypes := ⟨[ty, tx]⟩ } => appOp0 τ ds t M d ty tx s y
  | _, _, _, _ => none
 | none => none
theorem DW_app0 (hτ : TabOK P τ) {t' : List (Nat × AV)} {M' : Mem} {nb nl : Nat} (hs : stepApp0 τ ops cls ds i t M = some (t', M', nb, nl)) (hb : nb ≤ 140737488355328) (hl : nl ≤ 140737488355328) (h : DW P ops cls Q ds ls t' M') : DW P ops cls Q ds (i :: ls) t M := by
 unfold stepApp0 at hs
 split at hs
 ·rename_i o hi
  split at hs
  ·rename_i d s y ty tx hw hd hc ho
   unfold appOp0 at hs
   split at hs
   ·rename_i sz xs hS
    split at hs
    ·rename_i ti xi ht hxi
     split at hs
     ·rename_i e hk
      split at hs
      ·rename_i ei he
       split at hs
       ·rename_i ys hp hf hsz hX
        cases hs
        have hsz' : sz = ei.size ∨ xs = [] := by
         rcases Bool.or_eq_true_iff.1 hsz with h | h
         ·exact .inl (of_decide_eq_true h)
         ·exact .inr (List.isEmpty_iff.1 h)
        exact DW_append hτ hi hw hd ho hS ht hk he hp hxi hf hX hc hsz' hb hl h
       ·cases hs
      ·cases hs
     ·cases hs
    ·cases hs
   ·cases hs
  ·cases hs
 ·cases hs
end
attribute [simp] closed_int closed_bool closed_str closed_nilptr closed_nilIface closed_nilFunc closed_nilmap closed_top
theorem closedL_nil : ∀ x, x ∈ ([] : List AV) → Closed x := by simp
theorem closedL_cons {x : AV} {l : List AV} (h : Closed x) (hl : ∀ y, y ∈ l → Closed y) : ∀ y, y ∈ x :: l → Closed y := by
 intro y hy
 rcases List.mem_cons.1 hy with rfl | hy
 ·exact h
 ·exact hl y hy
end Go.Ab
/- The types and orders that the walks lean on. No further condition. -/
set_option linter.unusedVariables false
set_option linter.unusedSimpArgs false
namespace Go.Proofs.YtmgkebghojhocaaGreatDoor
open Go.Ab
theorem eqOK : EqTab Tryz.prog eqs := eqTab_of (by kernel_rfl)
theorem tabs : TabOK Tryz.prog tab ∧ EqTab Tryz.prog eqs := ⟨tabOK, eqOK⟩
theorem mixed : Tryz.prog.follows .mixedOrders = true := by kernel_rfl
abbrev Bytes := List UInt8
end Go.Proofs.YtmgkebghojhocaaGreatDoor
/- A number's four bytes, the highest one first. No further condition. -/
set_option linter.unusedVariables false
set_option linter.unusedSimpArgs false
namespace Go.Proofs.YtmgkebghojhocaaGreatDoor
open Go.Ab
theorem len_map {α : Type} (f : α → AV) (l : List α) : ((l.map f).length : Int) = (l.length : Int) := by simp
theorem take_all {α : Type} (l : List α) : l.take l.length = l := List.take_length
/-- A number's four bytes, the highest one first. -/
def byteAt (n j : Nat) : UInt8 := UInt8.ofNat (n / 256 ^ j % 256)
def be4 (n : Nat) : Bytes := [byteAt n 3, byteAt n 2, byteAt n 1, byteAt n 0]
theorem byteAt_u8 (n j : Nat) (x : Int) (hx : x = ((n / 256 ^ j : Nat) : Int)) : IntKind.wrap .u8 x = ((byteAt n j).toNat : Int) := by
 subst hx
 have e : (2 : Int) ^ IntKind.u8.bits = 256 := rfl
 have : IntKind.u8.signed = false := rfl
 simp only [IntKind.wrap, e, this, Bool.false_and, Bool.false_eq_true, if_false, byteAt, UInt8.toNat_ofNat']
 generalize n / 256 ^ j = m
 omega
theorem byteAt_u8m (n j : Nat) (x : Int) (hx : x = ((n / 256 ^ j % 256 : Nat) : Int)) : IntKind.wrap .u8 x = ((byteAt n j).toNat : Int) := by
 subst hx
 have e : (2 : Int) ^ IntKind.u8.bits = 256 := rfl
 have : IntKind.u8.signed = false := rfl
 simp only [IntKind.wrap, e, this, Bool.false_and, Bool.false_eq_true, if_false, byteAt, UInt8.toNat_ofNat']
 generalize n / 256 ^ j = m
 omega
theorem fdiv_pow (n : Nat) (m : Nat) : Int.fdiv (n : Int) ((2 : Int) ^ m) = ((n / 2 ^ m : Nat) : Int) := by
 have : ((2 : Int) ^ m) = ((2 ^ m : Nat) : Int) := by push_cast; rfl
 rw [this]
 exact Int.fdiv_eq_ediv_of_nonneg _ (Int.natCast_nonneg _)
theorem tdiv_pow (n j : Nat) (m : Int) (hm : m = ((256 ^ j : Nat) : Int)) (hn : n < 4294967296) : IntKind.wrap .i64 (Int.tdiv (n : Int) m) = ((n / 256 ^ j : Nat) : Int) := by
 subst hm
 have h : Int.tdiv (n : Int) ((256 ^ j : Nat) : Int) = ((n / 256 ^ j : Nat) : Int) := Int.tdiv_eq_ediv_of_nonneg (Int.natCast_nonneg _)
 rw [h]
 have := Nat.div_le_self n (256 ^ j)
 generalize n / 256 ^ j = q at this
 exact Go.Ab.wrap_small (by omega) (by omega)
theorem tmod_256 (m : Nat) : Int.tmod (m : Int) 256 = ((m % 256 : Nat) : Int) := Int.tmod_eq_emod_of_nonneg (Int.natCast_nonneg _)
/-- A number's value, the highest byte first. -/
def num (l : Bytes) : Nat := l.foldl (fun n b => n * 256 + b.toNat) 0
theorem num_app (l : Bytes) (b : UInt8) : num (l ++ [b]) = num l * 256 + b.toNat := by simp [num]
theorem num_lt : ∀ (k : Nat) (l : Bytes), l.length ≤ k → num l < 256 ^ k := by
 intro k
 induction k with
 | zero =>
  intro l h
  have : l = [] := List.eq_nil_of_length_eq_zero (by omega)
  subst this
  simp [num]
 | succ k ih =>
  intro l h
  rcases List.eq_nil_or_concat l with rfl | ⟨m, b, rfl⟩
  ·have : 0 < 256 ^ (k + 1) := Nat.pow_pos (by omega)
   simpa [num] using this
  ·rw [List.concat_eq_append, num_app]
   have h1 := ih m (by simp at h; omega)
   have h2 := b.toNat_lt
   rw [Nat.pow_succ]
   omega
theorem or_256 (n : Nat) (b : UInt8) (hn : n < 1000000000000) : IntKind.wrap .i64 ((BitVec.ofInt IntKind.i64.bits ((n * 256 : Nat) : Int) ||| BitVec.ofInt IntKind.i64.bits ((b.toNat : Nat) : Int)).toNat) = ((n * 256 + b.toNat : Nat) : Int) := by
 have hb := b.toNat_lt
 have e : IntKind.i64.bits = 64 := rfl
 have h : (BitVec.ofInt IntKind.i64.bits ((n * 256 : Nat) : Int) ||| BitVec.ofInt IntKind.i64.bits ((b.toNat : Nat) : Int)).toNat = n * 256 + b.toNat := by
  rw [BitVec.toNat_or, BitVec.ofInt_natCast, BitVec.ofInt_natCast, BitVec.toNat_ofNat, BitVec.toNat_ofNat, e, Nat.mod_eq_of_lt (by omega), Nat.mod_eq_of_lt (by omega)]
  have := Nat.shiftLeft_add_eq_or_of_lt (a := n) (b := b.toNat) (i := 8) (by omega)
  rw [Nat.shiftLeft_eq] at this
  exact this.symm
 rw [h]
 exact Go.Ab.wrap_small (by omega) (by omega)
theorem byte_i64 (b : UInt8) : IntKind.wrap .i64 ((b.toNat : Nat) : Int) = ((b.toNat : Nat) : Int) := by
 have := b.toNat_lt
 exact Go.Ab.wrap_small (by omega) (by omega)
theorem take_drop_succ {s : Bytes} {i e : Nat} {b : UInt8} (he : e ≤ i) (hb : s[i]? = some b) : (s.take (i + 1)).drop e = (s.take i).drop e ++ [b] := by
 have hi := (List.getElem?_eq_some_iff.1 hb).1
 rw [take_succ hb, List.drop_append_of_le_length (by simp; omega)]
end Go.Proofs.YtmgkebghojhocaaGreatDoor
