/- Parts of the proof, one behind the other: AbC6, Base, Cmp, AbB9, KeyA, KeyB, KeyO. No further condition. -/
import Derived.Test.YthdeopopodhimaaDoorM05
import Derived.Laws.BytesString
import Derived.Lib.ConvBytes
import Derived.Laws.AppendOwn
import Derived.Test.YthdeopopodhimaaDoorM06
import Derived.Test.YthdeopopodhimaaDoorChecked
set_option linter.unusedVariables false
set_option linter.unusedSimpArgs false
/- Bytes to strings, strings to bytes. -/
set_option linter.unusedVariables false
set_option linter.unusedSimpArgs false
namespace Go.Ab
open Go.RowKit

theorem foldl_bytes : ∀ (l : List UInt8) (acc : ByteArray), (l.map fun c => (c.toNat : Int)).foldl (fun r n => r.push (UInt8.ofNat n.toNat)) acc = ⟨(acc.data.toList ++ l).toArray⟩
  | [], acc => by simp
  | c :: l, acc => by
    rw [List.map_cons, List.foldl_cons, foldl_bytes l]
    simp [ByteArray.push]

theorem opP_b2s {P : Program} {τ : Tab} (hτ : TabOK P τ) {s d e : TypeId} {si di ei : TI} (hs : lookup τ s = some si) (hks : si.k = .slice e) (he : lookup τ e = some ei) (hke : ei.k = .int .u8) (hd : lookup τ d = some di) (hkd : di.k = .str)
    {x : Operand} {ty : TypeId} {ρ : Operand → AV} {l : List UInt8} {tag : Tag} (hx : ρ x = .sl 1 (l.map byteAV) tag) : OpP P (.convert s d x) ty ρ (.str l) := by
  refine opP_of_same ?_
  intro μ F w ρc o ho ht hr
  have h1 := hr x (by simp [Op.operands])
  rw [hx] at h1
  obtain ⟨A, cap, ad, vals, hv, hsz, hcap, hA, hone, hcell, hrep, _⟩ := h1.sl_inv
  obtain ⟨fs, ds, zs, HS⟩ := TI.spec hτ hs
  obtain ⟨fd, dd, zd, HD⟩ := TI.spec hτ hd
  obtain ⟨fe, de, ze, HE⟩ := TI.spec hτ he
  have f1 := HS.fits
  have f2 := HD.fits
  have f3 := HE.fits
  rw [hks] at f1
  rw [hkd] at f2
  rw [hke] at f3
  cases ds <;> simp [TK.fits] at f1
  cases dd <;> simp [TK.fits] at f2
  cases de <;> simp [TK.fits] at f3
  subst f1
  subst f3
  have hu1 := HS.und
  have hu2 := HD.und
  have hu3 := HE.und
  have hlen : (l.map byteAV).length = l.length := by simp
  rw [hlen] at hv hA
  refine ⟨.string ⟨l.toArray⟩, ?_, .str l⟩
  have hconv := run_convert_bytes_string w s d e A l.length cap hu1 hu3 hu2
  have hb2s : (Conv.bytesToString (.slice A l.length cap)).run P w = .ok (.string ⟨l.toArray⟩) w := by
    by_cases h0 : l = []
    · subst h0
      cases A with
      | none => simp [Conv.bytesToString]; rfl
      | some a =>
        have := run_bytesToString (P := P) w a 0 cap [] (by simp [loadCells, loadCellsFrom])
        exact this
    · have hpos : 0 < l.length := List.length_pos_iff.2 h0
      obtain ⟨rfl, hsp⟩ := hA hpos
      obtain ⟨ab, ao, ags⟩ := ad
      simp only at hsp
      subst hsp
      have hl := run_loadCells (P := P) w ⟨ab, ao, none⟩ l.length (fun j => .int .u8 ((l.getD j 0).toNat)) (fun j hj => by
        have e1 : (l.map byteAV)[j]? = some (byteAV (l.getD j 0)) := by simp [List.getD, hj]
        have hc := (hcell j _ 0 _ e1 rfl).1
        have hr2 := hrep j _ 0 _ e1 rfl
        rw [Addr.add_lit]
        simp only [Nat.mul_one, Nat.add_zero] at hc hr2
        rw [hc]
        generalize vals j = u at hr2
        cases hr2
        rfl)
      have hl2 : (loadCells ⟨ab, ao, none⟩ l.length).run P w = .ok ((l.map fun c => (c.toNat : Int)).map (Value.int .u8)).toArray w := by
        rw [hl]
        congr 2
        apply List.ext_getElem?
        intro i
        by_cases hi : i < l.length
        · simp [hi, List.getD]
        · simp [hi, List.getElem?_eq_none (Nat.le_of_not_lt hi)]
      have := run_bytesToString (P := P) w ⟨ab, ao, none⟩ l.length cap _ hl2
      rw [foldl_bytes] at this
      simpa using this
  rw [hb2s] at hconv
  simp [execOp, ho, hv, hconv]

/-- A new row of bytes, its owner's. -/
theorem opE_s2b {P : Program} {τ : Tab} (hτ : TabOK P τ) {s d e : TypeId} {si di ei : TI} (hs : lookup τ s = some si) (hd : lookup τ d = some di) (hkd : di.k = .slice e) (he : lookup τ e = some ei) (hke : ei.k = .int .u8)
    {x : Operand} {ty : TypeId} {ρ : Operand → AV} {M : Mem} {l : List UInt8} (hx : ρ x = .str l) : OpE P (.convert s d x) ty ρ M (.sl 1 (l.map byteAV) (.tok M.next 0)) (M.push (.spare 0)) := by
  intro μ F w ρc o hg ho ht hr
  have h1 := hr x (by simp [Op.operands])
  rw [hx] at h1
  generalize hvx : ρc x = vx at h1
  cases h1
  obtain ⟨fs, ds, zs, HS⟩ := TI.spec hτ hs
  obtain ⟨fd, dd, zd, HD⟩ := TI.spec hτ hd
  obtain ⟨fe, de, ze, HE⟩ := TI.spec hτ he
  have f2 := HD.fits
  have f3 := HE.fits
  rw [hkd] at f2
  rw [hke] at f3
  cases dd <;> simp [TK.fits] at f2
  cases de <;> simp [TK.fits] at f3
  subst f2
  subst f3
  have hconv := Lib.run_convert_string_bytes (P := P) w s d e ⟨l.toArray⟩ HS.und HD.und HE.und
  generalize hw' : Lib.bytesWorld w e ⟨l.toArray⟩ = w' at hconv
  have hnew := Lib.bytesWorld_at_new w e ⟨l.toArray⟩
  rw [hw'] at hnew
  have hsize : w'.heap.size = w.heap.size + 1 := by rw [← hw']; exact Lib.bytesWorld_size _ _ _
  have hold : ∀ k, k < w.heap.size → w'.heap[k]? = w.heap[k]? := fun k hk => by rw [← hw']; exact Lib.bytesWorld_at_old _ _ _ _ hk
  have hcs : (Lib.bytesCells w e ⟨l.toArray⟩).size = l.length + (grownCap w l.length 0 e - l.length) := by simp [Lib.bytesCells, ByteArray.size]
  have hos : w'.os = w.os ∧ w'.tape = w.tape ∧ w'.output = w.output := by rw [← hw']; exact ⟨rfl, rfl, rfl⟩
  obtain ⟨hev, hG⟩ := gam_room hg (w' := w') (p := some (w.heap.size, l.length)) hos.1 hos.2.1 hos.2.2 (by omega) (id := M.next) (g := 0) (.inl ⟨rfl, hold⟩) (by
    intro b n h
    cases h
    refine ⟨⟨_, _, _, hnew, by omega, ?_⟩, .inl (Nat.le_refl _)⟩
    intro q hq
    simp only
    omega)
  have hsz : (⟨l.toArray⟩ : ByteArray).size = l.length := by simp [ByteArray.size]
  rw [hsz] at hconv
  refine ⟨_, .value (.slice (some ⟨w.heap.size, 0, none⟩) l.length (grownCap w l.length 0 e)), .slice (some ⟨w.heap.size, 0, none⟩) l.length (grownCap w l.length 0 e), w', ?_, .inl rfl, hev, hG _ (by simp [Mem.push]) (fun i => Mem.get_push M _ i), ?_⟩
  · simp [execOp, ho, hvx, hconv]
  · have hle : l.length ≤ grownCap w l.length 0 e := grownCap_ge w l.length 0 e
    have hlm : (l.map byteAV).length = l.length := by simp
    have hgoal := rep_sl (μ := μ.put M.next (.spare (some (w.heap.size, l.length)) 0)) (F := F) (w := w') (xs := l.map byteAV) (t := .tok M.next 0) (A := some ⟨w.heap.size, 0, none⟩) (cap := grownCap w l.length 0 e) (sz := 1) (b := w.heap.size) (o := 0)
      (vals := fun p => .int .u8 ((l.getD p 0).toNat)) (by
        intro y hy
        obtain ⟨c, _, rfl⟩ := List.mem_map.1 hy
        rfl) (by rw [hlm]; exact hle) (fun _ => rfl) (by
        intro p c hc
        rw [flat_bytes] at hc
        have hp : p < l.length := by
          have := (List.getElem?_eq_some_iff.1 hc).1
          simpa using this
        have hcell : w'.cell? ⟨w.heap.size, p, none⟩ = some (.int .u8 ((l.getD p 0).toNat)) := by
          have := Lib.bytesWorld_cell w e ⟨l.toArray⟩ p (by rw [hsz]; exact hp)
          rw [hw'] at this
          simpa using this
        refine ⟨rfl, by rw [Nat.zero_add]; exact hcell, ⟨?_, ?_⟩, ?_⟩
        · intro hF
          have := hg.fit.frm _ _ hF
          omega
        · rintro ⟨i, h | ⟨q, g, h, hq⟩⟩
          · unfold Mu.put at h
            split at h
            · cases h
            · have := hg.fit.own w.heap.size 0 ⟨i, .inl h⟩
              omega
          · unfold Mu.put at h
            split at h
            · cases h
              omega
            · have := hg.fit.own w.heap.size q ⟨i, .inr ⟨q, g, h, Nat.le_refl _⟩⟩
              omega
        · have : c = byteAV (l.getD p 0) := by
            simp only [List.getElem?_map, List.getElem?_eq_getElem hp, Option.map_some, Option.some.injEq] at hc
            rw [← hc]
            simp [List.getD, hp]
          subst this
          exact .int _ _) (.inr ⟨some (w.heap.size, l.length), 0, by simp [Mu.put], Nat.le_refl _, fun _ => ⟨rfl, by rw [hlm, Nat.mul_one], _, _, _, hnew, by rw [hcs, Nat.mul_one]; omega⟩⟩)
    rw [hlm] at hgoal
    exact hgoal

section
variable {P : Program} {τ : Tab} {ops : Array Oper} {cls : Nat → Cls} {Q : AX → AF → Mem → Prop} {ds : List ADef} {l : List Nat} {i : Nat} {o : Oper} {t : List (Nat × AV)} {M : Mem}

/-- string(b). -/
theorem DW_b2s (hτ : TabOK P τ) {d : Nat} (hi : ops[i]? = some o) (hw : wantedA ops ⟨t, ds⟩ o = some true) (hd : o.dst = some d) {s e dt : TypeId} {X : Operand} (ho : o.op = .convert s dt X) {si di ei : TI} (hs : lookup τ s = some si) (hks : si.k = .slice e)
    (he : lookup τ e = some ei) (hke : ei.k = .int .u8) (hdt : lookup τ dt = some di) (hkd : di.k = .str) {bs : List UInt8} {xs : List AV} {tag : Tag} (hX : AF.ev ⟨t, ds⟩ X = .sl 1 xs tag) (hbs : xs = bs.map byteAV)
    (h : DW P ops cls Q ds l ((d, .str bs) :: t) M) : DW P ops cls Q ds (i :: l) t M :=
  DW_ofP hi hw hd (by rw [ho]; exact opP_b2s hτ hs hks he hke hdt hkd (by rw [hX, hbs])) h

/-- []byte(s). -/
theorem DW_s2b (hτ : TabOK P τ) {d : Nat} (hi : ops[i]? = some o) (hw : wantedA ops ⟨t, ds⟩ o = some true) (hd : o.dst = some d) {s e dt : TypeId} {X : Operand} (ho : o.op = .convert s dt X) {si di ei : TI} (hs : lookup τ s = some si)
    (hdt : lookup τ dt = some di) (hkd : di.k = .slice e) (he : lookup τ e = some ei) (hke : ei.k = .int .u8) {bs : List UInt8} (hX : AF.ev ⟨t, ds⟩ X = .str bs) (hc : isE (cls i) = true)
    (h : DW P ops cls Q ds l ((d, .sl 1 (bs.map byteAV) (.tok M.next 0)) :: t) (M.push (.spare 0))) : DW P ops cls Q ds (i :: l) t M :=
  DW_ofE hi hw hd hc (by rw [ho]; exact opE_s2b hτ hs hdt hkd he hke hX) h
end

end Go.Ab

/- The types and orders that the walks lean on. No further condition. -/
set_option linter.unusedVariables false
set_option linter.unusedSimpArgs false
namespace Go.Proofs.YthdeopopodhimaaDoor
open Go.Ab

theorem eqOK : EqTab Tryd.prog eqs := eqTab_of (by kernel_rfl)
theorem tabs : TabOK Tryd.prog tab ∧ EqTab Tryd.prog eqs := ⟨tabOK, eqOK⟩
theorem mixed : Tryd.prog.follows .mixedOrders = true := by kernel_rfl

abbrev Bytes := List UInt8
def intA (n : Int) : AV := .int .i64 n
end Go.Proofs.YthdeopopodhimaaDoor

/- cmp.Compare, at texts and at numbers, tells what its text says. No further condition. -/
set_option linter.unusedVariables false
set_option linter.unusedSimpArgs false
namespace Go.Proofs.YthdeopopodhimaaDoor
open Go.Ab

theorem isNaNs_ok (s : Bytes) : APure Tryd.prog 59 [.str s] (.bool false) := by
  intro M
  refine acalls_of tabOK Tryd.func59 rfl (by decide) (by simp [Tryd.f59]) ?_
  have h : (!(s == s)) = false := by simp
  repeat' (first | (show DW _ _ _ _ _ _ _ _; first | refine DW_V tabs rfl rfl rfl rfl (congrArg AV.bool h) ?_ | refine DW_A tabs rfl ?_ | refine DW_nil ?_ | refine DW_lits tabOK rfl rfl rfl rfl rfl rfl rfl rfl rfl rfl rfl rfl rfl ?_ | refine DW_append_own tabOK rfl rfl rfl rfl rfl rfl rfl rfl rfl rfl rfl rfl rfl rfl rfl (by simp; omega) (by simp; omega) ?_) | (show W _ _ _ _ _ _; first | refine W_seq ?_ | refine W_text rfl (fun _ _ _ h => h) ?_ | refine W_block ?_ | refine W_skip ?_ | refine W_exit ?_ | refine W_ret ?_ | refine W_true rfl ?_ | refine W_false rfl ?_ | refine W_cond rfl (fun _ => ?_) (fun _ => ?_)))
  exact ⟨rfl, _, rfl, rfl, rfl⟩
theorem isNaNi_ok (s : Int) : APure Tryd.prog 60 [.int .i64 s] (.bool false) := by
  intro M
  refine acalls_of tabOK Tryd.func60 rfl (by decide) (by simp [Tryd.f60]) ?_
  have h : (!decide (s = s)) = false := by simp
  repeat' (first | (show DW _ _ _ _ _ _ _ _; first | refine DW_V tabs rfl rfl rfl rfl (congrArg AV.bool h) ?_ | refine DW_A tabs rfl ?_ | refine DW_nil ?_ | refine DW_lits tabOK rfl rfl rfl rfl rfl rfl rfl rfl rfl rfl rfl rfl rfl ?_ | refine DW_append_own tabOK rfl rfl rfl rfl rfl rfl rfl rfl rfl rfl rfl rfl rfl rfl rfl (by simp; omega) (by simp; omega) ?_) | (show W _ _ _ _ _ _; first | refine W_seq ?_ | refine W_text rfl (fun _ _ _ h => h) ?_ | refine W_block ?_ | refine W_skip ?_ | refine W_exit ?_ | refine W_ret ?_ | refine W_true rfl ?_ | refine W_false rfl ?_ | refine W_cond rfl (fun _ => ?_) (fun _ => ?_)))
  exact ⟨rfl, _, rfl, rfl, rfl⟩

def cmpS (a b : Bytes) : Int := if Op.bytesLess a b = true then -1 else if (a == b) = true then 0 else 1
def cmpI (a b : Int) : Int := if a < b then -1 else if b < a then 1 else 0

theorem compareI_ok (a b : Int) : APure Tryd.prog 53 [.int .i64 a, .int .i64 b] (.int .i64 (cmpI a b)) := by
  intro M
  refine acalls_of tabOK Tryd.func53 rfl (by decide) (by simp [Tryd.f53]) ?_
  repeat' (first | (show DW _ _ _ _ _ _ _ _; first | refine DW_A tabs rfl ?_ | refine DW_nil ?_ | refine DW_lits tabOK rfl rfl rfl rfl rfl rfl rfl rfl rfl rfl rfl rfl rfl ?_ | refine DW_append_own tabOK rfl rfl rfl rfl rfl rfl rfl rfl rfl rfl rfl rfl rfl rfl rfl (by simp; omega) (by simp; omega) ?_) | (show W _ _ _ _ _ _; first | refine W_seq ?_ | refine W_text rfl (fun _ _ _ h => h) ?_ | refine W_block ?_ | refine W_skip ?_ | refine W_exit ?_ | refine W_ret ?_ | refine W_true rfl ?_ | refine W_false rfl ?_ | refine W_cond rfl (fun _ => ?_) (fun _ => ?_)))
  refine DW_pure rfl rfl rfl rfl rfl (isNaNi_ok a) ?_
  repeat' (first | (show DW _ _ _ _ _ _ _ _; first | refine DW_A tabs rfl ?_ | refine DW_nil ?_ | refine DW_lits tabOK rfl rfl rfl rfl rfl rfl rfl rfl rfl rfl rfl rfl rfl ?_ | refine DW_append_own tabOK rfl rfl rfl rfl rfl rfl rfl rfl rfl rfl rfl rfl rfl rfl rfl (by simp; omega) (by simp; omega) ?_) | (show W _ _ _ _ _ _; first | refine W_seq ?_ | refine W_text rfl (fun _ _ _ h => h) ?_ | refine W_block ?_ | refine W_skip ?_ | refine W_exit ?_ | refine W_ret ?_ | refine W_true rfl ?_ | refine W_false rfl ?_ | refine W_cond rfl (fun _ => ?_) (fun _ => ?_)))
  refine DW_pure rfl rfl rfl rfl rfl (isNaNi_ok b) ?_
  by_cases h1 : a < b
  · have d1 : decide (a < b) = true := by simp [h1]
    have e : cmpI a b = -1 := by simp [cmpI, h1]
    rw [e]
    repeat' (first | (show DW _ _ _ _ _ _ _ _; first | refine DW_V tabs rfl rfl rfl rfl (congrArg AV.bool d1) ?_ | refine DW_A tabs rfl ?_ | refine DW_nil ?_ | refine DW_lits tabOK rfl rfl rfl rfl rfl rfl rfl rfl rfl rfl rfl rfl rfl ?_ | refine DW_append_own tabOK rfl rfl rfl rfl rfl rfl rfl rfl rfl rfl rfl rfl rfl rfl rfl (by simp; omega) (by simp; omega) ?_) | (show W _ _ _ _ _ _; first | refine W_seq ?_ | refine W_text rfl (fun _ _ _ h => h) ?_ | refine W_block ?_ | refine W_skip ?_ | refine W_exit ?_ | refine W_ret ?_ | refine W_true rfl ?_ | refine W_false rfl ?_ | refine W_cond rfl (fun _ => ?_) (fun _ => ?_)))
    exact ⟨rfl, _, rfl, rfl, rfl⟩
  · have d1 : decide (a < b) = false := by simp [h1]
    by_cases h2 : b < a
    · have d2 : decide (b < a) = true := by simp [h2]
      have e : cmpI a b = 1 := by simp [cmpI, h1, h2]
      rw [e]
      repeat' (first | (show DW _ _ _ _ _ _ _ _; first | refine DW_V tabs rfl rfl rfl rfl (congrArg AV.bool d1) ?_ | refine DW_V tabs rfl rfl rfl rfl (congrArg AV.bool d2) ?_ | refine DW_A tabs rfl ?_ | refine DW_nil ?_ | refine DW_lits tabOK rfl rfl rfl rfl rfl rfl rfl rfl rfl rfl rfl rfl rfl ?_ | refine DW_append_own tabOK rfl rfl rfl rfl rfl rfl rfl rfl rfl rfl rfl rfl rfl rfl rfl (by simp; omega) (by simp; omega) ?_) | (show W _ _ _ _ _ _; first | refine W_seq ?_ | refine W_text rfl (fun _ _ _ h => h) ?_ | refine W_block ?_ | refine W_skip ?_ | refine W_exit ?_ | refine W_ret ?_ | refine W_true rfl ?_ | refine W_false rfl ?_ | refine W_cond rfl (fun _ => ?_) (fun _ => ?_)))
      exact ⟨rfl, _, rfl, rfl, rfl⟩
    · have d2 : decide (b < a) = false := by simp [h2]
      have e : cmpI a b = 0 := by simp [cmpI, h1, h2]
      rw [e]
      repeat' (first | (show DW _ _ _ _ _ _ _ _; first | refine DW_V tabs rfl rfl rfl rfl (congrArg AV.bool d1) ?_ | refine DW_V tabs rfl rfl rfl rfl (congrArg AV.bool d2) ?_ | refine DW_A tabs rfl ?_ | refine DW_nil ?_ | refine DW_lits tabOK rfl rfl rfl rfl rfl rfl rfl rfl rfl rfl rfl rfl rfl ?_ | refine DW_append_own tabOK rfl rfl rfl rfl rfl rfl rfl rfl rfl rfl rfl rfl rfl rfl rfl (by simp; omega) (by simp; omega) ?_) | (show W _ _ _ _ _ _; first | refine W_seq ?_ | refine W_text rfl (fun _ _ _ h => h) ?_ | refine W_block ?_ | refine W_skip ?_ | refine W_exit ?_ | refine W_ret ?_ | refine W_true rfl ?_ | refine W_false rfl ?_ | refine W_cond rfl (fun _ => ?_) (fun _ => ?_)))
      exact ⟨rfl, _, rfl, rfl, rfl⟩

theorem compareS_ok (a b : Bytes) : APure Tryd.prog 52 [.str a, .str b] (.int .i64 (cmpS a b)) := by
  intro M
  refine acalls_of tabOK Tryd.func52 rfl (by decide) (by simp [Tryd.f52]) ?_
  repeat' (first | (show DW _ _ _ _ _ _ _ _; first | refine DW_A tabs rfl ?_ | refine DW_nil ?_ | refine DW_lits tabOK rfl rfl rfl rfl rfl rfl rfl rfl rfl rfl rfl rfl rfl ?_ | refine DW_append_own tabOK rfl rfl rfl rfl rfl rfl rfl rfl rfl rfl rfl rfl rfl rfl rfl (by simp; omega) (by simp; omega) ?_) | (show W _ _ _ _ _ _; first | refine W_seq ?_ | refine W_text rfl (fun _ _ _ h => h) ?_ | refine W_block ?_ | refine W_skip ?_ | refine W_exit ?_ | refine W_ret ?_ | refine W_true rfl ?_ | refine W_false rfl ?_ | refine W_cond rfl (fun _ => ?_) (fun _ => ?_)))
  refine DW_pure rfl rfl rfl rfl rfl (isNaNs_ok a) ?_
  repeat' (first | (show DW _ _ _ _ _ _ _ _; first | refine DW_A tabs rfl ?_ | refine DW_nil ?_ | refine DW_lits tabOK rfl rfl rfl rfl rfl rfl rfl rfl rfl rfl rfl rfl rfl ?_ | refine DW_append_own tabOK rfl rfl rfl rfl rfl rfl rfl rfl rfl rfl rfl rfl rfl rfl rfl (by simp; omega) (by simp; omega) ?_) | (show W _ _ _ _ _ _; first | refine W_seq ?_ | refine W_text rfl (fun _ _ _ h => h) ?_ | refine W_block ?_ | refine W_skip ?_ | refine W_exit ?_ | refine W_ret ?_ | refine W_true rfl ?_ | refine W_false rfl ?_ | refine W_cond rfl (fun _ => ?_) (fun _ => ?_)))
  refine DW_pure rfl rfl rfl rfl rfl (isNaNs_ok b) ?_
  cases h1 : Op.bytesLess a b
  · cases h2 : a == b
    · have d2 : (!(Op.bytesLess a b || a == b)) = true := by rw [h1, h2]; rfl
      have e : cmpS a b = 1 := by simp [cmpS, h1, h2]
      rw [e]
      repeat' (first | (show DW _ _ _ _ _ _ _ _; first | refine DW_V tabs rfl rfl rfl rfl (congrArg AV.bool h1) ?_ | refine DW_V tabs rfl rfl rfl rfl (congrArg AV.bool d2) ?_ | refine DW_A tabs rfl ?_ | refine DW_nil ?_ | refine DW_lits tabOK rfl rfl rfl rfl rfl rfl rfl rfl rfl rfl rfl rfl rfl ?_ | refine DW_append_own tabOK rfl rfl rfl rfl rfl rfl rfl rfl rfl rfl rfl rfl rfl rfl rfl (by simp; omega) (by simp; omega) ?_) | (show W _ _ _ _ _ _; first | refine W_seq ?_ | refine W_text rfl (fun _ _ _ h => h) ?_ | refine W_block ?_ | refine W_skip ?_ | refine W_exit ?_ | refine W_ret ?_ | refine W_true rfl ?_ | refine W_false rfl ?_ | refine W_cond rfl (fun _ => ?_) (fun _ => ?_)))
      exact ⟨rfl, _, rfl, rfl, rfl⟩
    · have d2 : (!(Op.bytesLess a b || a == b)) = false := by rw [h1, h2]; rfl
      have e : cmpS a b = 0 := by simp [cmpS, h1, h2]
      rw [e]
      repeat' (first | (show DW _ _ _ _ _ _ _ _; first | refine DW_V tabs rfl rfl rfl rfl (congrArg AV.bool h1) ?_ | refine DW_V tabs rfl rfl rfl rfl (congrArg AV.bool d2) ?_ | refine DW_A tabs rfl ?_ | refine DW_nil ?_ | refine DW_lits tabOK rfl rfl rfl rfl rfl rfl rfl rfl rfl rfl rfl rfl rfl ?_ | refine DW_append_own tabOK rfl rfl rfl rfl rfl rfl rfl rfl rfl rfl rfl rfl rfl rfl rfl (by simp; omega) (by simp; omega) ?_) | (show W _ _ _ _ _ _; first | refine W_seq ?_ | refine W_text rfl (fun _ _ _ h => h) ?_ | refine W_block ?_ | refine W_skip ?_ | refine W_exit ?_ | refine W_ret ?_ | refine W_true rfl ?_ | refine W_false rfl ?_ | refine W_cond rfl (fun _ => ?_) (fun _ => ?_)))
      exact ⟨rfl, _, rfl, rfl, rfl⟩
  · have e : cmpS a b = -1 := by simp [cmpS, h1]
    rw [e]
    repeat' (first | (show DW _ _ _ _ _ _ _ _; first | refine DW_V tabs rfl rfl rfl rfl (congrArg AV.bool h1) ?_ | refine DW_A tabs rfl ?_ | refine DW_nil ?_ | refine DW_lits tabOK rfl rfl rfl rfl rfl rfl rfl rfl rfl rfl rfl rfl rfl ?_ | refine DW_append_own tabOK rfl rfl rfl rfl rfl rfl rfl rfl rfl rfl rfl rfl rfl rfl rfl (by simp; omega) (by simp; omega) ?_) | (show W _ _ _ _ _ _; first | refine W_seq ?_ | refine W_text rfl (fun _ _ _ h => h) ?_ | refine W_block ?_ | refine W_skip ?_ | refine W_exit ?_ | refine W_ret ?_ | refine W_true rfl ?_ | refine W_false rfl ?_ | refine W_cond rfl (fun _ => ?_) (fun _ => ?_)))
    exact ⟨rfl, _, rfl, rfl, rfl⟩
end Go.Proofs.YthdeopopodhimaaDoor

/- Calls that hand back what they made: the objects are forgotten at the end. -/
set_option linter.unusedVariables false
set_option linter.unusedSimpArgs false
namespace Go.Ab
open Go.RowKit

theorem closed1 {x : AV} (hx : Closed x) : ∀ z, z ∈ [x] → Closed z := by
  intro z hz
  simp only [List.mem_cons, List.not_mem_nil, or_false] at hz
  subst hz
  exact hx
theorem closed2 {x y : AV} (hx : Closed x) (hy : Closed y) : ∀ z, z ∈ [x, y] → Closed z := by
  intro z hz
  simp only [List.mem_cons, List.not_mem_nil, or_false] at hz
  rcases hz with rfl | rfl
  · exact hx
  · exact hy
theorem closed3 {x y u : AV} (hx : Closed x) (hy : Closed y) (hu : Closed u) : ∀ z, z ∈ [x, y, u] → Closed z := by
  intro z hz
  simp only [List.mem_cons, List.not_mem_nil, or_false] at hz
  rcases hz with rfl | rfl | rfl
  · exact hx
  · exact hy
  · exact hu

theorem SubC.tup2 {k : Nat} {a b c d : AV} (h1 : SubC k a c) (h2 : SubC k b d) : SubC k (.tup [a, b]) (.tup [c, d]) := by
  intro μ F w v hr
  obtain ⟨r, rfl, hs, hv⟩ := hr.tup_inv
  refine .tup _ _ hs ?_
  intro i x u hx hu
  match i with
  | 0 => simp at hx; subst hx; exact h1 μ F w u (hv 0 a u rfl hu)
  | 1 => simp at hx; subst hx; exact h2 μ F w u (hv 1 b u rfl hu)
  | i + 2 => simp at hx
theorem SubC.tup3 {k : Nat} {a b c a' b' c' : AV} (h1 : SubC k a a') (h2 : SubC k b b') (h3 : SubC k c c') : SubC k (.tup [a, b, c]) (.tup [a', b', c']) := by
  intro μ F w v hr
  obtain ⟨r, rfl, hs, hv⟩ := hr.tup_inv
  refine .tup _ _ hs ?_
  intro i x u hx hu
  match i with
  | 0 => simp at hx; subst hx; exact h1 μ F w u (hv 0 a u rfl hu)
  | 1 => simp at hx; subst hx; exact h2 μ F w u (hv 1 b u rfl hu)
  | 2 => simp at hx; subst hx; exact h3 μ F w u (hv 2 c u rfl hu)
  | i + 3 => simp at hx
theorem Sub.tup2 {a b c d : AV} (h1 : Sub a c) (h2 : Sub b d) : Sub (.tup [a, b]) (.tup [c, d]) := by
  intro μ F w v hr
  obtain ⟨r, rfl, hs, hv⟩ := hr.tup_inv
  refine .tup _ _ hs ?_
  intro i x u hx hu
  match i with
  | 0 => simp at hx; subst hx; exact h1 μ F w u (hv 0 a u rfl hu)
  | 1 => simp at hx; subst hx; exact h2 μ F w u (hv 1 b u rfl hu)
  | i + 2 => simp at hx

theorem closed_slmap {α : Type} {f : α → AV} {sz : Nat} {l : List α} (h : ∀ a, Closed (f a)) (hc : ∀ a, ∀ c, c ∈ (f a).cells → Closed c) : Closed (.sl sz (l.map f) .none) := by
  refine closed_sl (.inl rfl) ?_ ?_
  · intro x hx
    obtain ⟨a, _, rfl⟩ := List.mem_map.1 hx
    exact h a
  · intro x hx
    obtain ⟨a, _, rfl⟩ := List.mem_map.1 hx
    exact hc a
theorem closed_strs {l : List (List UInt8)} : Closed (.sl 1 (l.map .str) .none) :=
  closed_slmap (fun _ => closed_str) (fun a c hc => by simp [AV.cells] at hc; subst hc; exact closed_str)
theorem closed_bytes {l : List UInt8} {f : UInt8 → AV} (hf : ∀ b, ∃ n, f b = .int .u8 n) : Closed (.sl 1 (l.map f) .none) :=
  closed_slmap (fun b => by obtain ⟨n, h⟩ := hf b; rw [h]; exact closed_int) (fun b c hc => by
    obtain ⟨n, h⟩ := hf b
    rw [h] at hc
    simp [AV.cells] at hc
    subst hc
    exact closed_int)

/-- A slice's tag is forgotten, and the objects too. -/
theorem SubC.untag {k sz : Nat} {xs : List AV} {t : Tag} (h : Closed (.sl sz xs .none)) : SubC k (.sl sz xs t) (.sl sz xs .none) := SubC.pre Sub.untag (SubC.of_closed h)

theorem SubC.nil {k sz sz' : Nat} {t : Tag} : SubC k (.sl sz [] t) (.sl sz' [] .none) :=
  SubC.pre (y := .sl sz' [] .none) (fun μ F w v h => Sub.empty (.inl rfl) μ F w v (rep_untag h)) (SubC.of_closed (closed_sl (.inl rfl) (by simp) (by simp)))

/-- A call that hands back a value of its own making. -/
theorem pure_sub {P : Program} {g : FuncId} {args : List AV} {y : AV} (ha : ∀ x, x ∈ args → Closed x) (hy : Closed y) (h : ACalls P g args ⟨0, []⟩ (fun e _ => ∃ x, e = .ret x ∧ SubC 0 x y)) : APure P g args y := by
  refine apure_of ha hy ?_
  refine ACalls.mono (h.joint (R' := fun e _ => e = .ret y) ?_ ?_) (fun e M he => he)
  · rintro x M' ⟨z, e, hs⟩
    cases e
    exact ⟨_, ⟨0, []⟩, rfl, Joint.cut (Nat.le_refl _) (Nat.zero_le _) rfl ⟨hs, trivial⟩ trivial⟩
  · rintro x M' ⟨z, e, _⟩
    cases e

def tokM (g : Nat) : Mem := ⟨1, [(0, .spare g)]⟩
theorem tokM_of {g : Nat} {M : Mem} (hn : 1 = M.next) (h1 : M.get 0 = some (.spare g)) : (tokM g).le M := Mem.le_cons h1 (Mem.le_nil hn)
end Go.Ab

/- Keys are compared as their texts and times. No further condition. -/
set_option linter.unusedVariables false
set_option linter.unusedSimpArgs false
namespace Go.Proofs.YthdeopopodhimaaDoor
open Go.Ab

structure Ky where
  path : Bytes
  time : Int
deriving DecidableEq
def Ky.av (k : Ky) : AV := .agg [.str k.path, .int .i64 k.time]
theorem closed_ky (k : Ky) : Closed k.av := closed_agg (closed2 closed_str closed_int)

/-- The first that is not 0, of two. -/
def first2 (a b : Int) : Int := if a = 0 then b else a

theorem first_ok (a b : Int) (tg : Tag) : APure Tryd.prog 51 [.sl 1 [.int .i64 a, .int .i64 b] tg] (.int .i64 (first2 a b)) := by
  intro M
  refine acalls_of tabOK Tryd.func51 rfl (by decide) (by simp [Tryd.f51]) ?_
  repeat' (first | (show DW _ _ _ _ _ _ _ _; first | refine DW_A tabs rfl ?_ | refine DW_nil ?_ | refine DW_lits tabOK rfl rfl rfl rfl rfl rfl rfl rfl rfl rfl rfl rfl rfl ?_ | refine DW_append_own tabOK rfl rfl rfl rfl rfl rfl rfl rfl rfl rfl rfl rfl rfl rfl rfl (by simp; omega) (by simp; omega) ?_) | (show W _ _ _ _ _ _; first | refine W_seq ?_ | refine W_text rfl (fun _ _ _ h => h) ?_ | refine W_block ?_ | refine W_skip ?_ | refine W_exit ?_ | refine W_ret ?_ | refine W_true rfl ?_ | refine W_false rfl ?_ | refine W_cond rfl (fun _ => ?_) (fun _ => ?_)))
  refine W_loop (fun m f N => N = M ∧ ((m = 2 ∧ f = ⟨[(5, .sl 1 [.int .i64 a, .int .i64 b] tg), (6, .int .i64 2), (7, .int .i64 0)], []⟩) ∨ (a = 0 ∧ m = 1 ∧ f = ⟨[(5, .sl 1 [.int .i64 a, .int .i64 b] tg), (6, .int .i64 2), (7, .int .i64 1)], []⟩) ∨
    (a = 0 ∧ b = 0 ∧ m = 0 ∧ f = ⟨[(5, .sl 1 [.int .i64 a, .int .i64 b] tg), (6, .int .i64 2), (7, .int .i64 2)], []⟩))) (k := 2) ⟨rfl, .inl ⟨rfl, rfl⟩⟩ (Joint.le ?_ (Mem.le_refl _)) ?_
  · skip
    repeat (refine AF.le_cons rfl ?_)
    exact AF.le_nil rfl
  · rintro m f N ⟨rfl, ⟨rfl, rfl⟩ | ⟨rfl, rfl, rfl⟩ | ⟨rfl, rfl, rfl, rfl⟩⟩
    · have w1 : IntKind.wrap .i64 (0 + 1) = 1 := rfl
      repeat' (first | (show DW _ _ _ _ _ _ _ _; first | refine DW_V tabs rfl rfl rfl rfl (congrArg (AV.int _) w1) ?_ | refine DW_A tabs rfl ?_ | refine DW_nil ?_ | refine DW_lits tabOK rfl rfl rfl rfl rfl rfl rfl rfl rfl rfl rfl rfl rfl ?_ | refine DW_append_own tabOK rfl rfl rfl rfl rfl rfl rfl rfl rfl rfl rfl rfl rfl rfl rfl (by simp; omega) (by simp; omega) ?_) | (show W _ _ _ _ _ _; first | refine W_seq ?_ | refine W_text rfl (fun _ _ _ h => h) ?_ | refine W_block ?_ | refine W_skip ?_ | refine W_exit ?_ | refine W_ret ?_ | refine W_true rfl ?_ | refine W_false rfl ?_ | refine W_cond rfl (fun _ => ?_) (fun _ => ?_)))
      refine DW_index tabOK rfl rfl rfl rfl rfl rfl rfl rfl rfl rfl (by decide) (x := .int .i64 a) rfl ?_
      by_cases h : a = 0
      · have d : (!decide (a = 0)) = false := by simp [h]
        repeat' (first | (show DW _ _ _ _ _ _ _ _; first | refine DW_V tabs rfl rfl rfl rfl (congrArg AV.bool d) ?_ | refine DW_V tabs rfl rfl rfl rfl (congrArg (AV.int _) w1) ?_ | refine DW_A tabs rfl ?_ | refine DW_nil ?_ | refine DW_lits tabOK rfl rfl rfl rfl rfl rfl rfl rfl rfl rfl rfl rfl rfl ?_ | refine DW_append_own tabOK rfl rfl rfl rfl rfl rfl rfl rfl rfl rfl rfl rfl rfl rfl rfl (by simp; omega) (by simp; omega) ?_) | (show W _ _ _ _ _ _; first | refine W_seq ?_ | refine W_text rfl (fun _ _ _ h => h) ?_ | refine W_block ?_ | refine W_skip ?_ | refine W_exit ?_ | refine W_ret ?_ | refine W_true rfl ?_ | refine W_false rfl ?_ | refine W_cond rfl (fun _ => ?_) (fun _ => ?_)))
        exact ⟨1, _, _, by omega, ⟨rfl, .inr (.inl ⟨h, rfl, rfl⟩)⟩, Joint.le (AF.le_cons rfl (AF.le_cons rfl (AF.le_cons rfl (AF.le_nil rfl)))) (Mem.le_refl _)⟩
      · have d : (!decide (a = 0)) = true := by simp [h]
        repeat' (first | (show DW _ _ _ _ _ _ _ _; first | refine DW_V tabs rfl rfl rfl rfl (congrArg AV.bool d) ?_ | refine DW_V tabs rfl rfl rfl rfl (congrArg (AV.int _) w1) ?_ | refine DW_A tabs rfl ?_ | refine DW_nil ?_ | refine DW_lits tabOK rfl rfl rfl rfl rfl rfl rfl rfl rfl rfl rfl rfl rfl ?_ | refine DW_append_own tabOK rfl rfl rfl rfl rfl rfl rfl rfl rfl rfl rfl rfl rfl rfl rfl (by simp; omega) (by simp; omega) ?_) | (show W _ _ _ _ _ _; first | refine W_seq ?_ | refine W_text rfl (fun _ _ _ h => h) ?_ | refine W_block ?_ | refine W_skip ?_ | refine W_exit ?_ | refine W_ret ?_ | refine W_true rfl ?_ | refine W_false rfl ?_ | refine W_cond rfl (fun _ => ?_) (fun _ => ?_)))
        exact ⟨rfl, _, rfl, ret_int (by simp [first2, h]), rfl⟩
    · have w1 : IntKind.wrap .i64 (1 + 1) = 2 := rfl
      repeat' (first | (show DW _ _ _ _ _ _ _ _; first | refine DW_V tabs rfl rfl rfl rfl (congrArg (AV.int _) w1) ?_ | refine DW_A tabs rfl ?_ | refine DW_nil ?_ | refine DW_lits tabOK rfl rfl rfl rfl rfl rfl rfl rfl rfl rfl rfl rfl rfl ?_ | refine DW_append_own tabOK rfl rfl rfl rfl rfl rfl rfl rfl rfl rfl rfl rfl rfl rfl rfl (by simp; omega) (by simp; omega) ?_) | (show W _ _ _ _ _ _; first | refine W_seq ?_ | refine W_text rfl (fun _ _ _ h => h) ?_ | refine W_block ?_ | refine W_skip ?_ | refine W_exit ?_ | refine W_ret ?_ | refine W_true rfl ?_ | refine W_false rfl ?_ | refine W_cond rfl (fun _ => ?_) (fun _ => ?_)))
      refine DW_index tabOK rfl rfl rfl rfl rfl rfl rfl rfl rfl rfl (by decide) (x := .int .i64 b) rfl ?_
      by_cases h : b = 0
      · have d : (!decide (b = 0)) = false := by simp [h]
        repeat' (first | (show DW _ _ _ _ _ _ _ _; first | refine DW_V tabs rfl rfl rfl rfl (congrArg AV.bool d) ?_ | refine DW_V tabs rfl rfl rfl rfl (congrArg (AV.int _) w1) ?_ | refine DW_A tabs rfl ?_ | refine DW_nil ?_ | refine DW_lits tabOK rfl rfl rfl rfl rfl rfl rfl rfl rfl rfl rfl rfl rfl ?_ | refine DW_append_own tabOK rfl rfl rfl rfl rfl rfl rfl rfl rfl rfl rfl rfl rfl rfl rfl (by simp; omega) (by simp; omega) ?_) | (show W _ _ _ _ _ _; first | refine W_seq ?_ | refine W_text rfl (fun _ _ _ h => h) ?_ | refine W_block ?_ | refine W_skip ?_ | refine W_exit ?_ | refine W_ret ?_ | refine W_true rfl ?_ | refine W_false rfl ?_ | refine W_cond rfl (fun _ => ?_) (fun _ => ?_)))
        exact ⟨0, _, _, by omega, ⟨rfl, .inr (.inr ⟨rfl, h, rfl, rfl⟩)⟩, Joint.le (AF.le_cons rfl (AF.le_cons rfl (AF.le_cons rfl (AF.le_nil rfl)))) (Mem.le_refl _)⟩
      · have d : (!decide (b = 0)) = true := by simp [h]
        repeat' (first | (show DW _ _ _ _ _ _ _ _; first | refine DW_V tabs rfl rfl rfl rfl (congrArg AV.bool d) ?_ | refine DW_V tabs rfl rfl rfl rfl (congrArg (AV.int _) w1) ?_ | refine DW_A tabs rfl ?_ | refine DW_nil ?_ | refine DW_lits tabOK rfl rfl rfl rfl rfl rfl rfl rfl rfl rfl rfl rfl rfl ?_ | refine DW_append_own tabOK rfl rfl rfl rfl rfl rfl rfl rfl rfl rfl rfl rfl rfl rfl rfl (by simp; omega) (by simp; omega) ?_) | (show W _ _ _ _ _ _; first | refine W_seq ?_ | refine W_text rfl (fun _ _ _ h => h) ?_ | refine W_block ?_ | refine W_skip ?_ | refine W_exit ?_ | refine W_ret ?_ | refine W_true rfl ?_ | refine W_false rfl ?_ | refine W_cond rfl (fun _ => ?_) (fun _ => ?_)))
        exact ⟨rfl, _, rfl, ret_int (by simp [first2]), rfl⟩
    · repeat' (first | (show DW _ _ _ _ _ _ _ _; first | refine DW_A tabs rfl ?_ | refine DW_nil ?_ | refine DW_lits tabOK rfl rfl rfl rfl rfl rfl rfl rfl rfl rfl rfl rfl rfl ?_ | refine DW_append_own tabOK rfl rfl rfl rfl rfl rfl rfl rfl rfl rfl rfl rfl rfl rfl rfl (by simp; omega) (by simp; omega) ?_) | (show W _ _ _ _ _ _; first | refine W_seq ?_ | refine W_text rfl (fun _ _ _ h => h) ?_ | refine W_block ?_ | refine W_skip ?_ | refine W_exit ?_ | refine W_ret ?_ | refine W_true rfl ?_ | refine W_false rfl ?_ | refine W_cond rfl (fun _ => ?_) (fun _ => ?_)))
      exact ⟨rfl, _, rfl, ret_int (by simp [first2]), rfl⟩

def toS (a b : Ky) : Int := first2 (cmpS a.path b.path) (cmpI b.time a.time)

theorem to_ok (a b : Ky) : APure Tryd.prog 45 [a.av, b.av] (.int .i64 (toS a b)) := by
  intro M
  refine acalls_of tabOK Tryd.func45 rfl (by decide) (by simp [Tryd.f45]) ?_
  repeat' (first | (show DW _ _ _ _ _ _ _ _; first | refine DW_A tabs rfl ?_ | refine DW_nil ?_ | refine DW_lits tabOK rfl rfl rfl rfl rfl rfl rfl rfl rfl rfl rfl rfl rfl ?_ | refine DW_append_own tabOK rfl rfl rfl rfl rfl rfl rfl rfl rfl rfl rfl rfl rfl rfl rfl (by simp; omega) (by simp; omega) ?_) | (show W _ _ _ _ _ _; first | refine W_seq ?_ | refine W_text rfl (fun _ _ _ h => h) ?_ | refine W_block ?_ | refine W_skip ?_ | refine W_exit ?_ | refine W_ret ?_ | refine W_true rfl ?_ | refine W_false rfl ?_ | refine W_cond rfl (fun _ => ?_) (fun _ => ?_) | refine W_draw mixed [0, 1, 2, 3, 4, 5, 6, 7, 8, 9, 10, 11, 12] [.R, .R, .R, .R, .P, .R, .R, .R, .R, .P, .P, .P, .P] rfl rfl (by kernel_rfl) ?_))
  refine DW_pure rfl rfl rfl rfl rfl (compareS_ok a.path b.path) ?_
  repeat' (first | (show DW _ _ _ _ _ _ _ _; first | refine DW_A tabs rfl ?_ | refine DW_nil ?_ | refine DW_lits tabOK rfl rfl rfl rfl rfl rfl rfl rfl rfl rfl rfl rfl rfl ?_ | refine DW_append_own tabOK rfl rfl rfl rfl rfl rfl rfl rfl rfl rfl rfl rfl rfl rfl rfl (by simp; omega) (by simp; omega) ?_) | (show W _ _ _ _ _ _; first | refine W_seq ?_ | refine W_text rfl (fun _ _ _ h => h) ?_ | refine W_block ?_ | refine W_skip ?_ | refine W_exit ?_ | refine W_ret ?_ | refine W_true rfl ?_ | refine W_false rfl ?_ | refine W_cond rfl (fun _ => ?_) (fun _ => ?_) | refine W_draw mixed [0, 1, 2, 3, 4, 5, 6, 7, 8, 9, 10, 11, 12] [.R, .R, .R, .R, .P, .R, .R, .R, .R, .P, .P, .P, .P] rfl rfl (by kernel_rfl) ?_))
  refine DW_pure rfl rfl rfl rfl rfl (compareI_ok b.time a.time) ?_
  repeat' (first | (show DW _ _ _ _ _ _ _ _; first | refine DW_A tabs rfl ?_ | refine DW_nil ?_ | refine DW_lits tabOK rfl rfl rfl rfl rfl rfl rfl rfl rfl rfl rfl rfl rfl ?_ | refine DW_append_own tabOK rfl rfl rfl rfl rfl rfl rfl rfl rfl rfl rfl rfl rfl rfl rfl (by simp; omega) (by simp; omega) ?_) | (show W _ _ _ _ _ _; first | refine W_seq ?_ | refine W_text rfl (fun _ _ _ h => h) ?_ | refine W_block ?_ | refine W_skip ?_ | refine W_exit ?_ | refine W_ret ?_ | refine W_true rfl ?_ | refine W_false rfl ?_ | refine W_cond rfl (fun _ => ?_) (fun _ => ?_) | refine W_draw mixed [0, 1, 2, 3, 4, 5, 6, 7, 8, 9, 10, 11, 12] [.R, .R, .R, .R, .P, .R, .R, .R, .R, .P, .P, .P, .P] rfl rfl (by kernel_rfl) ?_))
  refine DW_pure rfl rfl rfl rfl rfl (first_ok (cmpS a.path b.path) (cmpI b.time a.time) _) ?_
  repeat' (first | (show DW _ _ _ _ _ _ _ _; first | refine DW_A tabs rfl ?_ | refine DW_nil ?_ | refine DW_lits tabOK rfl rfl rfl rfl rfl rfl rfl rfl rfl rfl rfl rfl rfl ?_ | refine DW_append_own tabOK rfl rfl rfl rfl rfl rfl rfl rfl rfl rfl rfl rfl rfl rfl rfl (by simp; omega) (by simp; omega) ?_) | (show W _ _ _ _ _ _; first | refine W_seq ?_ | refine W_text rfl (fun _ _ _ h => h) ?_ | refine W_block ?_ | refine W_skip ?_ | refine W_exit ?_ | refine W_ret ?_ | refine W_true rfl ?_ | refine W_false rfl ?_ | refine W_cond rfl (fun _ => ?_) (fun _ => ?_) | refine W_draw mixed [0, 1, 2, 3, 4, 5, 6, 7, 8, 9, 10, 11, 12] [.R, .R, .R, .R, .P, .R, .R, .R, .R, .P, .P, .P, .P] rfl rfl (by kernel_rfl) ?_))
  exact ⟨rfl, _, rfl, rfl, rfl⟩

theorem compare_ok (a b : Ky) : APure Tryd.prog 38 [a.av, b.av] (.int .i64 (toS a b)) := by
  intro M
  refine acalls_of tabOK Tryd.func38 rfl (by decide) (by simp [Tryd.f38]) ?_
  repeat' (first | (show DW _ _ _ _ _ _ _ _; first | refine DW_A tabs rfl ?_ | refine DW_nil ?_ | refine DW_lits tabOK rfl rfl rfl rfl rfl rfl rfl rfl rfl rfl rfl rfl rfl ?_ | refine DW_append_own tabOK rfl rfl rfl rfl rfl rfl rfl rfl rfl rfl rfl rfl rfl rfl rfl (by simp; omega) (by simp; omega) ?_) | (show W _ _ _ _ _ _; first | refine W_seq ?_ | refine W_text rfl (fun _ _ _ h => h) ?_ | refine W_block ?_ | refine W_skip ?_ | refine W_exit ?_ | refine W_ret ?_ | refine W_true rfl ?_ | refine W_false rfl ?_ | refine W_cond rfl (fun _ => ?_) (fun _ => ?_)))
  refine DW_pure rfl rfl rfl rfl rfl (to_ok a b) ?_
  repeat' (first | (show DW _ _ _ _ _ _ _ _; first | refine DW_A tabs rfl ?_ | refine DW_nil ?_ | refine DW_lits tabOK rfl rfl rfl rfl rfl rfl rfl rfl rfl rfl rfl rfl rfl ?_ | refine DW_append_own tabOK rfl rfl rfl rfl rfl rfl rfl rfl rfl rfl rfl rfl rfl rfl rfl (by simp; omega) (by simp; omega) ?_) | (show W _ _ _ _ _ _; first | refine W_seq ?_ | refine W_text rfl (fun _ _ _ h => h) ?_ | refine W_block ?_ | refine W_skip ?_ | refine W_exit ?_ | refine W_ret ?_ | refine W_true rfl ?_ | refine W_false rfl ?_ | refine W_cond rfl (fun _ => ?_) (fun _ => ?_)))
  exact ⟨rfl, _, rfl, rfl, rfl⟩

theorem less_ok (a b : Ky) : APure Tryd.prog 28 [a.av, b.av] (.bool (decide (toS a b < 0))) := by
  intro M
  refine acalls_of tabOK Tryd.func28 rfl (by decide) (by simp [Tryd.f28]) ?_
  repeat' (first | (show DW _ _ _ _ _ _ _ _; first | refine DW_A tabs rfl ?_ | refine DW_nil ?_ | refine DW_lits tabOK rfl rfl rfl rfl rfl rfl rfl rfl rfl rfl rfl rfl rfl ?_ | refine DW_append_own tabOK rfl rfl rfl rfl rfl rfl rfl rfl rfl rfl rfl rfl rfl rfl rfl (by simp; omega) (by simp; omega) ?_) | (show W _ _ _ _ _ _; first | refine W_seq ?_ | refine W_text rfl (fun _ _ _ h => h) ?_ | refine W_block ?_ | refine W_skip ?_ | refine W_exit ?_ | refine W_ret ?_ | refine W_true rfl ?_ | refine W_false rfl ?_ | refine W_cond rfl (fun _ => ?_) (fun _ => ?_)))
  refine DW_pure rfl rfl rfl rfl rfl (compare_ok a b) ?_
  repeat' (first | (show DW _ _ _ _ _ _ _ _; first | refine DW_A tabs rfl ?_ | refine DW_nil ?_ | refine DW_lits tabOK rfl rfl rfl rfl rfl rfl rfl rfl rfl rfl rfl rfl rfl ?_ | refine DW_append_own tabOK rfl rfl rfl rfl rfl rfl rfl rfl rfl rfl rfl rfl rfl rfl rfl (by simp; omega) (by simp; omega) ?_) | (show W _ _ _ _ _ _; first | refine W_seq ?_ | refine W_text rfl (fun _ _ _ h => h) ?_ | refine W_block ?_ | refine W_skip ?_ | refine W_exit ?_ | refine W_ret ?_ | refine W_true rfl ?_ | refine W_false rfl ?_ | refine W_cond rfl (fun _ => ?_) (fun _ => ?_)))
  exact ⟨rfl, _, rfl, rfl, rfl⟩
end Go.Proofs.YthdeopopodhimaaDoor

/- The document's keys are compared as their texts and times. No further condition. -/
set_option linter.unusedVariables false
set_option linter.unusedSimpArgs false
namespace Go.Proofs.YthdeopopodhimaaDoor
open Go.Ab

def rless (a b : Ky) : Bool := Op.bytesLess a.path b.path || (a.path == b.path && decide (b.time < a.time))
def rcmp (a b : Ky) : Int := if rless a b = true then -1 else if rless b a = true then 1 else 0

theorem rless_ok (a b : Ky) : APure Tryd.prog 29 [a.av, b.av] (.bool (rless a b)) := by
  intro M
  refine acalls_of tabOK Tryd.func29 rfl (by decide) (by simp [Tryd.f29]) ?_
  unfold rless
  cases h1 : Op.bytesLess a.path b.path
  · cases h2 : a.path == b.path
    · repeat' (first | (show DW _ _ _ _ _ _ _ _; first | refine DW_V tabs rfl rfl rfl rfl (congrArg AV.bool h1) ?_ | refine DW_V tabs rfl rfl rfl rfl (congrArg AV.bool h2) ?_ | refine DW_A tabs rfl ?_ | refine DW_nil ?_ | refine DW_lits tabOK rfl rfl rfl rfl rfl rfl rfl rfl rfl rfl rfl rfl rfl ?_ | refine DW_append_own tabOK rfl rfl rfl rfl rfl rfl rfl rfl rfl rfl rfl rfl rfl rfl rfl (by simp; omega) (by simp; omega) ?_) | (show W _ _ _ _ _ _; first | refine W_seq ?_ | refine W_text rfl (fun _ _ _ h => h) ?_ | refine W_block ?_ | refine W_skip ?_ | refine W_exit ?_ | refine W_ret ?_ | refine W_true rfl ?_ | refine W_false rfl ?_ | refine W_cond rfl (fun _ => ?_) (fun _ => ?_)))
      exact ⟨rfl, _, rfl, rfl, rfl⟩
    · repeat' (first | (show DW _ _ _ _ _ _ _ _; first | refine DW_V tabs rfl rfl rfl rfl (congrArg AV.bool h1) ?_ | refine DW_V tabs rfl rfl rfl rfl (congrArg AV.bool h2) ?_ | refine DW_A tabs rfl ?_ | refine DW_nil ?_ | refine DW_lits tabOK rfl rfl rfl rfl rfl rfl rfl rfl rfl rfl rfl rfl rfl ?_ | refine DW_append_own tabOK rfl rfl rfl rfl rfl rfl rfl rfl rfl rfl rfl rfl rfl rfl rfl (by simp; omega) (by simp; omega) ?_) | (show W _ _ _ _ _ _; first | refine W_seq ?_ | refine W_text rfl (fun _ _ _ h => h) ?_ | refine W_block ?_ | refine W_skip ?_ | refine W_exit ?_ | refine W_ret ?_ | refine W_true rfl ?_ | refine W_false rfl ?_ | refine W_cond rfl (fun _ => ?_) (fun _ => ?_)))
      exact ⟨rfl, _, rfl, rfl, rfl⟩
  · repeat' (first | (show DW _ _ _ _ _ _ _ _; first | refine DW_V tabs rfl rfl rfl rfl (congrArg AV.bool h1) ?_ | refine DW_A tabs rfl ?_ | refine DW_nil ?_ | refine DW_lits tabOK rfl rfl rfl rfl rfl rfl rfl rfl rfl rfl rfl rfl rfl ?_ | refine DW_append_own tabOK rfl rfl rfl rfl rfl rfl rfl rfl rfl rfl rfl rfl rfl rfl rfl (by simp; omega) (by simp; omega) ?_) | (show W _ _ _ _ _ _; first | refine W_seq ?_ | refine W_text rfl (fun _ _ _ h => h) ?_ | refine W_block ?_ | refine W_skip ?_ | refine W_exit ?_ | refine W_ret ?_ | refine W_true rfl ?_ | refine W_false rfl ?_ | refine W_cond rfl (fun _ => ?_) (fun _ => ?_)))
    exact ⟨rfl, _, rfl, rfl, rfl⟩

end Go.Proofs.YthdeopopodhimaaDoor

/- Keys in their order, in plain words. No further condition. -/
set_option linter.unusedVariables false
set_option linter.unusedSimpArgs false
namespace Go.Proofs.YthdeopopodhimaaDoor
open Go.Ab

/-! ### Texts as bytes, in their order -/
abbrev bl (a b : Bytes) : Bool := Op.bytesLess a b

theorem bl_irrefl : ∀ a : Bytes, bl a a = false
  | [] => rfl
  | b :: l => by
    have := bl_irrefl l
    simp only [bl, Op.bytesLess] at this ⊢
    rw [this]
    simp
theorem bl_trans : ∀ {a b c : Bytes}, bl a b = true → bl b c = true → bl a c = true
  | _, _, [], _, h => by simp [bl, Op.bytesLess] at h
  | _, [], _ :: _, h, _ => by simp [bl, Op.bytesLess] at h
  | [], _ :: _, _ :: _, _, _ => rfl
  | x :: a, y :: b, z :: c, h1, h2 => by
    simp only [bl, Op.bytesLess, Bool.or_eq_true, Bool.and_eq_true, decide_eq_true_eq, beq_iff_eq, UInt8.lt_iff_toNat_lt] at h1 h2 ⊢
    rcases h1 with h1 | ⟨rfl, h1⟩
    · rcases h2 with h2 | ⟨rfl, h2⟩
      · exact .inl (by omega)
      · exact .inl h1
    · rcases h2 with h2 | ⟨rfl, h2⟩
      · exact .inl h2
      · exact .inr ⟨rfl, bl_trans (a := a) (b := b) (c := c) h1 h2⟩
theorem bl_total : ∀ {a b : Bytes}, a ≠ b → bl a b = true ∨ bl b a = true
  | [], [], h => absurd rfl h
  | [], _ :: _, _ => .inl rfl
  | _ :: _, [], _ => .inr rfl
  | x :: a, y :: b, h => by
    simp only [bl, Op.bytesLess, Bool.or_eq_true, Bool.and_eq_true, decide_eq_true_eq, beq_iff_eq, UInt8.lt_iff_toNat_lt]
    by_cases e : x = y
    · subst e
      rcases bl_total (a := a) (b := b) (fun e => h (by rw [e])) with h1 | h1
      · exact .inl (.inr ⟨rfl, h1⟩)
      · exact .inr (.inr ⟨rfl, h1⟩)
    · have : x.toNat ≠ y.toNat := fun he => e (UInt8.toNat_inj.1 he)
      rcases Nat.lt_or_gt_of_ne this with h1 | h1
      · exact .inl (.inl h1)
      · exact .inr (.inl h1)
theorem bl_asymm {a b : Bytes} (h : bl a b = true) : bl b a = false := by
  cases hb : bl b a
  · rfl
  · have := bl_trans h hb
    rw [bl_irrefl] at this
    cases this
/-! ### Keys in their order -/
theorem cmpS_neg (a b : Bytes) : cmpS a b = if bl a b = true then -1 else if a = b then 0 else 1 := by
  unfold cmpS
  simp only [beq_iff_eq]
theorem toS_rcmp (a b : Ky) : toS a b = rcmp a b := by
  unfold toS rcmp rless first2
  rw [cmpS_neg]
  unfold cmpI
  by_cases h1 : bl a.path b.path = true
  · have : Op.bytesLess a.path b.path = true := h1
    simp [this]
  · have h1' : Op.bytesLess a.path b.path = false := by simpa using h1
    by_cases h2 : a.path = b.path
    · have h3 : Op.bytesLess b.path a.path = false := by rw [h2]; exact bl_irrefl _
      have h4 : Op.bytesLess b.path b.path = false := bl_irrefl _
      by_cases h5 : b.time < a.time
      · simp [h2, h4, h5]
      · by_cases h6 : a.time < b.time
        · simp [h2, h4, h5, h6]
        · simp [h2, h4, h5, h6]
    · have h3 : Op.bytesLess b.path a.path = true := by
        rcases bl_total h2 with h | h
        · exact absurd h h1
        · exact h
      simp [h1', h2, h3, Ne.symm h2]
theorem rless_asymm {a b : Ky} (h : rless a b = true) : rless b a = false := by
  unfold rless at h ⊢
  simp only [Bool.or_eq_true, Bool.and_eq_true, beq_iff_eq, decide_eq_true_eq] at h
  rcases h with h | ⟨h1, h2⟩
  · have h3 := bl_asymm h
    have h4 : ¬ b.path = a.path := fun e => by
      rw [e] at h
      have := bl_irrefl a.path
      simp only [bl] at this
      rw [this] at h
      cases h
    simp only [bl] at h3
    simp [h3, h4]
  · have h3 := bl_irrefl b.path
    simp only [bl] at h3
    rw [h1, h3]
    simp
    omega
theorem toS_neg (a b : Ky) : decide (toS a b < 0) = rless a b := by
  rw [toS_rcmp]
  unfold rcmp
  cases h : rless a b
  · simp
    split <;> omega
  · simp
theorem rless_trans {a b c : Ky} (h1 : rless a b = true) (h2 : rless b c = true) : rless a c = true := by
  unfold rless at h1 h2 ⊢
  simp only [Bool.or_eq_true, Bool.and_eq_true, beq_iff_eq, decide_eq_true_eq] at h1 h2 ⊢
  rcases h1 with h1 | ⟨h1, h1'⟩
  · rcases h2 with h2 | ⟨h2, h2'⟩
    · exact .inl (bl_trans h1 h2)
    · rw [h2] at h1
      exact .inl h1
  · rcases h2 with h2 | ⟨h2, h2'⟩
    · rw [h1]
      exact .inl h2
    · exact .inr ⟨h1.trans h2, by omega⟩
theorem rless_total {a b : Ky} (h : a ≠ b) : rless a b = true ∨ rless b a = true := by
  unfold rless
  simp only [Bool.or_eq_true, Bool.and_eq_true, beq_iff_eq, decide_eq_true_eq]
  by_cases hp : a.path = b.path
  · have ht : a.time ≠ b.time := fun e => h (by cases a; cases b; simp_all)
    rcases Int.lt_or_gt_of_ne ht with h1 | h1
    · exact .inr (.inr ⟨hp.symm, h1⟩)
    · exact .inl (.inr ⟨hp, h1⟩)
  · rcases bl_total hp with h1 | h1
    · exact .inl (.inl h1)
    · exact .inr (.inl h1)
theorem toS_zero (a b : Ky) : decide (toS a b = 0) = (a.path == b.path && decide (a.time = b.time)) := by
  rw [toS_rcmp]
  unfold rcmp
  by_cases h : a = b
  · subst h
    have : rless a a = false := by
      cases hh : rless a a
      · rfl
      · have := rless_asymm hh
        rw [hh] at this
        cases this
    rw [this]
    simp
  · have e : (a.path == b.path && decide (a.time = b.time)) = false := by
      cases hh : (a.path == b.path && decide (a.time = b.time))
      · rfl
      · simp at hh
        exact absurd (by cases a; cases b; simp_all) h
    rw [e]
    rcases rless_total h with h1 | h1
    · simp [h1]
    · have h2 := rless_asymm h1
      simp [h1, h2]
theorem toS_anti (a b : Ky) : toS a b + toS b a = 0 := by
  rw [toS_rcmp, toS_rcmp]
  unfold rcmp
  cases h1 : rless a b <;> cases h2 : rless b a <;> simp
  have := rless_asymm h1
  rw [h2] at this
  cases this
end Go.Proofs.YthdeopopodhimaaDoor
