/- Bytes to strings, strings to bytes. -/
import Derived.Test.YteimhnedflbkmaaDoorAbC5
import Derived.Laws.BytesString
import Derived.Lib.ConvBytes
import Derived.Laws.AppendOwn
set_option linter.unusedVariables false
set_option linter.unusedSimpArgs false
namespace Go.Ab
open Go.RowKit

theorem foldl_bytes : ∀ (l : List UInt8) (acc : ByteArray), (l.map fun c => (c.toNat : Int)).foldl (fun r n => r.push (UInt8.ofNat n.toNat)) acc = ⟨(acc.data.toList ++ l).toArray⟩
  | [], acc => by simp
  | c :: l, acc => by
    rw [List.map_cons, List.foldl_cons, foldl_bytes l]
    simp [ByteArray.push]

theorem opP_b2s {P : Program} {τ : Tab} (hτ : TabOK P τ) {s d e : TypeId} {si di ei : TI} (hs : lookup τ s = some si) (hks : si.k = .slice e) (he : lookup τ e = some ei) (hke : ei.k = .int .u8) (hd : lookup τ d = some di) (hkd : di.k = .str)
    {x : Operand} {ty : TypeId} {ρ : Operand → AV} {l : List UInt8} {tag : Tag} (hx : ρ x = .sl 1 (l.map byteAV) tag) : OpP P (.convert s d x) ty ρ (.str l) := by
  refine opP_of_same ?_
  intro μ F w ρc o ho ht hr
  have h1 := hr x (by simp [Op.operands])
  rw [hx] at h1
  obtain ⟨A, cap, ad, vals, hv, hsz, hcap, hA, hone, hcell, hrep, _⟩ := h1.sl_inv
  obtain ⟨fs, ds, zs, HS⟩ := TI.spec hτ hs
  obtain ⟨fd, dd, zd, HD⟩ := TI.spec hτ hd
  obtain ⟨fe, de, ze, HE⟩ := TI.spec hτ he
  have f1 := HS.fits
  have f2 := HD.fits
  have f3 := HE.fits
  rw [hks] at f1
  rw [hkd] at f2
  rw [hke] at f3
  cases ds <;> simp [TK.fits] at f1
  cases dd <;> simp [TK.fits] at f2
  cases de <;> simp [TK.fits] at f3
  subst f1
  subst f3
  have hu1 := HS.und
  have hu2 := HD.und
  have hu3 := HE.und
  have hlen : (l.map byteAV).length = l.length := by simp
  rw [hlen] at hv hA
  refine ⟨.string ⟨l.toArray⟩, ?_, .str l⟩
  have hconv := run_convert_bytes_string w s d e A l.length cap hu1 hu3 hu2
  have hb2s : (Conv.bytesToString (.slice A l.length cap)).run P w = .ok (.string ⟨l.toArray⟩) w := by
    by_cases h0 : l = []
    · subst h0
      cases A with
      | none => simp [Conv.bytesToString]; rfl
      | some a =>
        have := run_bytesToString (P := P) w a 0 cap [] (by simp [loadCells, loadCellsFrom])
        exact this
    · have hpos : 0 < l.length := List.length_pos_iff.2 h0
      obtain ⟨rfl, hsp⟩ := hA hpos
      obtain ⟨ab, ao, as⟩ := ad
      simp only at hsp
      subst hsp
      have hl := run_loadCells (P := P) w ⟨ab, ao, none⟩ l.length (fun j => .int .u8 ((l.getD j 0).toNat)) (fun j hj => by
        have e1 : (l.map byteAV)[j]? = some (byteAV (l.getD j 0)) := by simp [List.getD, hj]
        have hc := (hcell j _ 0 _ e1 rfl).1
        have hr2 := hrep j _ 0 _ e1 rfl
        rw [Addr.add_lit]
        simp only [Nat.mul_one, Nat.add_zero] at hc hr2
        rw [hc]
        generalize vals j = u at hr2
        cases hr2
        rfl)
      have hl2 : (loadCells ⟨ab, ao, none⟩ l.length).run P w = .ok ((l.map fun c => (c.toNat : Int)).map (Value.int .u8)).toArray w := by
        rw [hl]
        congr 2
        apply List.ext_getElem?
        intro i
        by_cases hi : i < l.length
        · simp [hi, List.getD]
        · simp [hi, List.getElem?_eq_none (Nat.le_of_not_lt hi)]
      have := run_bytesToString (P := P) w ⟨ab, ao, none⟩ l.length cap _ hl2
      rw [foldl_bytes] at this
      simpa using this
  rw [hb2s] at hconv
  simp [execOp, ho, hv, hconv]

/-- A new row of bytes, its owner's. -/
theorem opE_s2b {P : Program} {τ : Tab} (hτ : TabOK P τ) {s d e : TypeId} {si di ei : TI} (hs : lookup τ s = some si) (hd : lookup τ d = some di) (hkd : di.k = .slice e) (he : lookup τ e = some ei) (hke : ei.k = .int .u8)
    {x : Operand} {ty : TypeId} {ρ : Operand → AV} {M : Mem} {l : List UInt8} (hx : ρ x = .str l) : OpE P (.convert s d x) ty ρ M (.sl 1 (l.map byteAV) (.tok M.next 0)) (M.push (.spare 0)) := by
  intro μ F w ρc o hg ho ht hr
  have h1 := hr x (by simp [Op.operands])
  rw [hx] at h1
  generalize hvx : ρc x = vx at h1
  cases h1
  obtain ⟨fs, ds, zs, HS⟩ := TI.spec hτ hs
  obtain ⟨fd, dd, zd, HD⟩ := TI.spec hτ hd
  obtain ⟨fe, de, ze, HE⟩ := TI.spec hτ he
  have f2 := HD.fits
  have f3 := HE.fits
  rw [hkd] at f2
  rw [hke] at f3
  cases dd <;> simp [TK.fits] at f2
  cases de <;> simp [TK.fits] at f3
  subst f2
  subst f3
  have hconv := Lib.run_convert_string_bytes (P := P) w s d e ⟨l.toArray⟩ HS.und HD.und HE.und
  generalize hw' : Lib.bytesWorld w e ⟨l.toArray⟩ = w' at hconv
  have hnew := Lib.bytesWorld_at_new w e ⟨l.toArray⟩
  rw [hw'] at hnew
  have hsize : w'.heap.size = w.heap.size + 1 := by rw [← hw']; exact Lib.bytesWorld_size _ _ _
  have hold : ∀ k, k < w.heap.size → w'.heap[k]? = w.heap[k]? := fun k hk => by rw [← hw']; exact Lib.bytesWorld_at_old _ _ _ _ hk
  have hcs : (Lib.bytesCells w e ⟨l.toArray⟩).size = l.length + (grownCap w l.length 0 e - l.length) := by simp [Lib.bytesCells, ByteArray.size]
  have hos : w'.os = w.os ∧ w'.tape = w.tape ∧ w'.output = w.output := by rw [← hw']; exact ⟨rfl, rfl, rfl⟩
  obtain ⟨hev, hG⟩ := gam_room hg (w' := w') (p := some (w.heap.size, l.length)) hos.1 hos.2.1 hos.2.2 (by omega) (id := M.next) (g := 0) (.inl ⟨rfl, hold⟩) (by
    intro b n h
    cases h
    refine ⟨⟨_, _, _, hnew, by omega, ?_⟩, .inl (Nat.le_refl _)⟩
    intro q hq
    simp only
    omega)
  have hsz : (⟨l.toArray⟩ : ByteArray).size = l.length := by simp [ByteArray.size]
  rw [hsz] at hconv
  refine ⟨_, .value (.slice (some ⟨w.heap.size, 0, none⟩) l.length (grownCap w l.length 0 e)), .slice (some ⟨w.heap.size, 0, none⟩) l.length (grownCap w l.length 0 e), w', ?_, .inl rfl, hev, hG _ (by simp [Mem.push]) (fun i => Mem.get_push M _ i), ?_⟩
  · simp [execOp, ho, hvx, hconv]
  · have hle : l.length ≤ grownCap w l.length 0 e := grownCap_ge w l.length 0 e
    have hlm : (l.map byteAV).length = l.length := by simp
    have hgoal := rep_sl (μ := μ.put M.next (.spare (some (w.heap.size, l.length)) 0)) (F := F) (w := w') (xs := l.map byteAV) (t := .tok M.next 0) (A := some ⟨w.heap.size, 0, none⟩) (cap := grownCap w l.length 0 e) (sz := 1) (b := w.heap.size) (o := 0)
      (vals := fun p => .int .u8 ((l.getD p 0).toNat)) (by
        intro y hy
        obtain ⟨c, _, rfl⟩ := List.mem_map.1 hy
        rfl) (by rw [hlm]; exact hle) (fun _ => rfl) (by
        intro p c hc
        rw [flat_bytes] at hc
        have hp : p < l.length := by
          have := (List.getElem?_eq_some_iff.1 hc).1
          simpa using this
        have hcell : w'.cell? ⟨w.heap.size, p, none⟩ = some (.int .u8 ((l.getD p 0).toNat)) := by
          have := Lib.bytesWorld_cell w e ⟨l.toArray⟩ p (by rw [hsz]; exact hp)
          rw [hw'] at this
          simpa using this
        refine ⟨rfl, by rw [Nat.zero_add]; exact hcell, ⟨?_, ?_⟩, ?_⟩
        · intro hF
          have := hg.fit.frm _ _ hF
          omega
        · rintro ⟨i, h | ⟨q, g, h, hq⟩⟩
          · unfold Mu.put at h
            split at h
            · cases h
            · have := hg.fit.own w.heap.size 0 ⟨i, .inl h⟩
              omega
          · unfold Mu.put at h
            split at h
            · cases h
              omega
            · have := hg.fit.own w.heap.size q ⟨i, .inr ⟨q, g, h, Nat.le_refl _⟩⟩
              omega
        · have : c = byteAV (l.getD p 0) := by
            simp only [List.getElem?_map, List.getElem?_eq_getElem hp, Option.map_some, Option.some.injEq] at hc
            rw [← hc]
            simp [List.getD, hp]
          subst this
          exact .int _ _) (.inr ⟨some (w.heap.size, l.length), 0, by simp [Mu.put], Nat.le_refl _, fun _ => ⟨rfl, by rw [hlm, Nat.mul_one], _, _, _, hnew, by rw [hcs, Nat.mul_one]; omega⟩⟩)
    rw [hlm] at hgoal
    exact hgoal

section
variable {P : Program} {τ : Tab} {ops : Array Oper} {cls : Nat → Cls} {Q : AX → AF → Mem → Prop} {ds : List ADef} {l : List Nat} {i : Nat} {o : Oper} {t : List (Nat × AV)} {M : Mem}

/-- string(b). -/
theorem DW_b2s (hτ : TabOK P τ) {d : Nat} (hi : ops[i]? = some o) (hw : wantedA ops ⟨t, ds⟩ o = some true) (hd : o.dst = some d) {s e dt : TypeId} {X : Operand} (ho : o.op = .convert s dt X) {si di ei : TI} (hs : lookup τ s = some si) (hks : si.k = .slice e)
    (he : lookup τ e = some ei) (hke : ei.k = .int .u8) (hdt : lookup τ dt = some di) (hkd : di.k = .str) {bs : List UInt8} {xs : List AV} {tag : Tag} (hX : AF.ev ⟨t, ds⟩ X = .sl 1 xs tag) (hbs : xs = bs.map byteAV)
    (h : DW P ops cls Q ds l ((d, .str bs) :: t) M) : DW P ops cls Q ds (i :: l) t M :=
  DW_ofP hi hw hd (by rw [ho]; exact opP_b2s hτ hs hks he hke hdt hkd (by rw [hX, hbs])) h

/-- []byte(s). -/
theorem DW_s2b (hτ : TabOK P τ) {d : Nat} (hi : ops[i]? = some o) (hw : wantedA ops ⟨t, ds⟩ o = some true) (hd : o.dst = some d) {s e dt : TypeId} {X : Operand} (ho : o.op = .convert s dt X) {si di ei : TI} (hs : lookup τ s = some si)
    (hdt : lookup τ dt = some di) (hkd : di.k = .slice e) (he : lookup τ e = some ei) (hke : ei.k = .int .u8) {bs : List UInt8} (hX : AF.ev ⟨t, ds⟩ X = .str bs) (hc : isE (cls i) = true)
    (h : DW P ops cls Q ds l ((d, .sl 1 (bs.map byteAV) (.tok M.next 0)) :: t) (M.push (.spare 0))) : DW P ops cls Q ds (i :: l) t M :=
  DW_ofE hi hw hd hc (by rw [ho]; exact opE_s2b hτ hs hdt hkd he hke hX) h
end

end Go.Ab
