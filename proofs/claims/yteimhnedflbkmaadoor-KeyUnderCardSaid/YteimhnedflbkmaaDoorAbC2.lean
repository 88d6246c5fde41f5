/- Slices built; pieces of slices and strings; arrays' elements; strings joined. -/
import Derived.Test.YteimhnedflbkmaaDoorAbC1
set_option linter.unusedVariables false
set_option linter.unusedSimpArgs false
namespace Go.Ab
open Go.RowKit

def idxOK {α : Type} : List (Nat × α) → Nat → Bool
  | [], _ => true
  | (i, _) :: r, k => i == k && idxOK r (k + 1)

def sizedAll (s : Nat) : List AV → Bool
  | [] => true
  | x :: r => x.solid && decide (x.cells.length = s) && sizedAll s r

theorem sizedAll_spec {s : Nat} : ∀ {l : List AV}, sizedAll s l = true → ∀ x, x ∈ l → x.solid = true ∧ x.cells.length = s
  | [], _, x, hx => by cases hx
  | y :: r, h, x, hx => by
    simp only [sizedAll, Bool.and_eq_true, decide_eq_true_eq] at h
    cases hx with
    | head => exact h.1
    | tail _ hx => exact sizedAll_spec h.2 x hx

theorem writeAt_mid : ∀ (a b c d : List AV), b.length = d.length → writeAt (a ++ b ++ c) a.length d = a ++ d ++ c
  | [], b, c, d, h => by
    simp only [List.nil_append, List.length_nil]
    induction b generalizing d with
    | nil =>
      cases d with
      | nil => cases c <;> rfl
      | cons _ _ => cases h
    | cons x b ih =>
      cases d with
      | nil => cases h
      | cons y d => simp only [List.cons_append, writeAt]; rw [ih d (by simpa using h)]
  | x :: a, b, c, d, h => by
    have := writeAt_mid a b c d h
    simp only [List.cons_append, List.length_cons, writeAt]
    rw [this]

theorem afill_full (s : Nat) : ∀ (ps : List (Nat × AV)) (k : Nat) (pre : List AV), pre.length = k * s → idxOK ps k = true → (∀ p, p ∈ ps → p.2.solid = true ∧ p.2.cells.length = s) →
    afill (placeA s) (pre ++ List.replicate (ps.length * s) .top) ps = some (pre ++ flat (ps.map (·.2)))
  | [], k, pre, _, _, _ => by simp [afill, flat]
  | (i, x) :: r, k, pre, hp, hi, hs => by
    simp only [idxOK, Bool.and_eq_true, beq_iff_eq] at hi
    obtain ⟨rfl, hi⟩ := hi
    have hx := hs (i, x) List.mem_cons_self
    simp only at hx
    have h1 : List.replicate (((i, x) :: r).length * s) AV.top = List.replicate s .top ++ List.replicate (r.length * s) .top := by
      rw [List.length_cons, Nat.succ_mul, Nat.add_comm, List.replicate_append_replicate]
    simp only [afill, placeA]
    rw [if_pos ⟨hx.1, hx.2, by simp [hp, Nat.succ_mul]⟩, h1, ← List.append_assoc, ← hp, writeAt_mid pre _ _ _ (by simp [hx.2])]
    rw [afill_full s r (i + 1) (pre ++ x.cells) (by rw [List.length_append, hp, hx.2, Nat.succ_mul]) hi fun p hp' => hs p (List.mem_cons_of_mem _ hp')]
    simp [flat]

/-- A slice made of its elements. -/
theorem opP_buildSlice {P : Program} {τ : Tab} (hτ : TabOK P τ) {t e : TypeId} {ti ei : TI} (ht : lookup τ t = some ti) (hk : ti.k = .slice e) (he : lookup τ e = some ei) (hpos : 0 < ei.size) {n : Nat} {ps : Array (Nat × Operand)} {ty : TypeId} {ρ : Operand → AV}
    (hn : ps.size = n) (hidx : idxOK ps.toList 0 = true) (hsz : sizedAll ei.size (ps.toList.map fun p => ρ p.2) = true) (hbig : n * ei.size ≤ 16777216) :
    OpP P (.buildSlice t n ps) ty ρ (.sl ei.size (ps.toList.map fun p => ρ p.2) .full) := by
  intro μ F w ρc o hf ho hty hr
  obtain ⟨ft, dt, zt, HT⟩ := TI.spec hτ ht
  obtain ⟨fe, de, ze, HE⟩ := TI.spec hτ he
  have hfit := HT.fits
  rw [hk] at hfit
  have hdd : dt = .slice e := by
    cases dt <;> simp [TK.fits] at hfit
    rw [hfit]
  subst hdd
  have hrp : ∀ p, p ∈ ps.toList → Rep μ F w (ρ p.2) (ρc p.2) := by
    intro p hp
    refine hr p.2 ?_
    simp only [Op.operands]
    rw [List.mem_toArray, List.mem_map]
    exact ⟨p, hp, rfl⟩
  have hsp := sizedAll_spec hsz
  have hzc := HE.zcells μ F w
  have hzs : ze.cells.size = ei.size := by rw [hzc.size, HE.len]
  let z0 : Array Value := (Array.range (n * ei.size)).map fun k => ze.cells[k % ze.cells.size]!
  have hz0 : Cells μ F w (List.replicate (n * ei.size) .top) z0 := by
    refine ⟨by simp [z0], ?_, ?_⟩
    · intro i u hu
      have hi : i < n * ei.size := by
        have := (Array.getElem?_eq_some_iff.1 hu).1
        simpa [z0] using this
      have hm : i % ze.cells.size < ze.cells.size := Nat.mod_lt _ (by omega)
      simp only [z0, Array.getElem?_map, Array.getElem?_range, hi, if_true, Option.map_some, Option.some.injEq] at hu
      rw [getElem!_pos ze.cells _ hm] at hu
      exact hzc.one _ u (by rw [Array.getElem?_eq_getElem hm, hu])
    · intro i y u hy hu
      rw [List.getElem?_replicate] at hy
      split at hy <;> cases hy
      exact .top _
  have hlen : (ps.toList.map fun p => (p.1, ρ p.2)).length = n := by simp [hn]
  have hfull := afill_full ei.size (ps.toList.map fun p => (p.1, ρ p.2)) 0 [] (by simp) (by
    have : ∀ (l : List (Nat × Operand)) (k : Nat), idxOK l k = true → idxOK (l.map fun p => (p.1, ρ p.2)) k = true := by
      intro l
      induction l with
      | nil => intro k _; rfl
      | cons p r ih =>
        intro k h
        simp only [idxOK, List.map_cons, Bool.and_eq_true] at h ⊢
        exact ⟨h.1, ih _ h.2⟩
    exact this _ _ hidx) (by
    intro p hp
    obtain ⟨q, hq, rfl⟩ := List.mem_map.1 hp
    exact hsp _ (List.mem_map.2 ⟨q, hq, rfl⟩))
  rw [hlen, List.nil_append, List.nil_append, List.map_map] at hfull
  obtain ⟨c', hc', hcells⟩ := fill_rel (μ := μ) (F := F) (w := w) (place := placeA ei.size) (placec := fun i => some (i * ei.size, ei.size)) (ρ := ρ) (ρc := ρc) (fun i q hq => hq) ps.toList _ z0 _ hz0 hrp hfull
  have hb := below_push w (.cells c' e)
  have hnew : ({ w with heap := w.heap.push (.cells c' e) } : World).heap[w.heap.size]? = some (.cells c' e (0, 0)) := by simp
  have hpm : (ps.map fun p => (p.1, ρc p.2)).toList = ps.toList.map fun p => (p.1, ρc p.2) := by simp
  have hxl : (ps.toList.map fun p => ρ p.2).length = n := by simp [hn]
  refine ⟨.slice (some ⟨w.heap.size, 0, none⟩) n n, _, ?_, hb, ?_⟩
  · have hze : (zeroValue e).run P w = .ok ze w := by simp [zeroValue, typeInfo, HE.info, HE.zero]
    simp only [execOp, ho, Instr.buildSlice, Sem.run_bind, run_underlying HT.und, Result.andThen_ok, run_sizeOf w HE.info, HE.cellsOf]
    rw [if_neg (by simpa using hbig)]
    by_cases h0 : n * ei.size = 0
    · rw [if_pos h0]
      have hz' : (Array.range (n * ei.size)).map (fun k => (#[] : Array Value)[k % (#[] : Array Value).size]!) = z0 := by simp [z0, h0]
      simp only [Sem.run_bind, Sem.run_pure, Result.andThen_ok, hz', hpm, hc']
      simp [newRow]
    · rw [if_neg h0]
      simp only [Sem.run_bind, hze, Sem.run_pure, Result.andThen_ok]
      have hz' : (Array.range (n * ei.size)).map (fun k => ze.cells[k % ze.cells.size]!) = z0 := rfl
      simp only [hz', hpm, hc']
      simp [newRow]
  · have hR := rep_sl (μ := μ) (F := F) (w := { w with heap := w.heap.push (.cells c' e) }) (sz := ei.size) (xs := ps.toList.map fun p => ρ p.2) (t := .full) (A := some ⟨w.heap.size, 0, none⟩) (cap := n) (b := w.heap.size) (o := 0) (vals := fun p => c'.getD p undef)
      (fun x hx => (hsp x hx).2) (by rw [hxl]; exact Nat.le_refl _) (fun _ => rfl) (by
        intro p c hc
        have hc2 : (flat (ps.toList.map fun p => ρ p.2))[p]? = some c := hc
        have hp : p < c'.size := by
          rw [hcells.size]
          exact (List.getElem?_eq_some_iff.1 hc2).1
        have hval : c'[p]? = some (c'.getD p undef) := by simp [Array.getD, hp]
        refine ⟨hcells.one p _ hval, by rw [Nat.zero_add, cell_mk hnew]; exact hval, hf.new (Nat.le_refl _), (hcells.rep p c _ hc2 hval).later hb⟩) (by simp [TagOK, hn])
    rw [hxl] at hR
    exact hR

/-! ### Pieces -/
/-- A slice's bounds. -/
def bnd (x : Option AV) (d : Nat) : Option Int :=
  match x with
  | none => some d
  | some (.int _ n) => some n
  | _ => none

theorem run_sliceBound {P : Program} {w : World} {k : IntKind} {i : Int} {y : Nat} {code : BoundsCode} (h0 : 0 ≤ i) (h1 : i ≤ y) : (Instr.sliceBound (.int k i) y code).run P w = .ok i.toNat w := by
  simp [Instr.sliceBound, asIntOf, h0, h1]

theorem run_bounds {P : Program} {w : World} {isS : Bool} {n m : Nat} {L H : Option Value} {l h : Int} (hL : (L = none ∧ l = 0) ∨ ∃ k, L = some (.int k l)) (hH : (H = none ∧ h = n) ∨ ∃ k, H = some (.int k h)) (h0 : 0 ≤ l) (h1 : l ≤ h) (h2 : h ≤ m) :
    (Instr.sliceBounds isS n m L H none).run P w = .ok (l.toNat, h.toNat, m) w := by
  have a1 : 0 ≤ h := by omega
  have a2 : l ≤ ((h.toNat : Nat) : Int) := by omega
  rcases hL with ⟨rfl, rfl⟩ | ⟨k, rfl⟩ <;> rcases hH with ⟨rfl, rfl⟩ | ⟨k', rfl⟩
  · simp [Instr.sliceBounds]
  · simp [Instr.sliceBounds, run_sliceBound a1 h2]
  · simp only [Int.toNat_natCast] at a2
    simp [Instr.sliceBounds, run_sliceBound h0 a2]
  · simp [Instr.sliceBounds, run_sliceBound a1 h2, run_sliceBound h0 a2]

theorem bnd_spec {μ : Mu} {F : Frm} {w : World} {ρ : Operand → AV} {ρc : Operand → Value} {X : Option Operand} {d : Nat} {l : Int} (h : bnd (X.map ρ) d = some l) (hr : ∀ x, X = some x → Rep μ F w (ρ x) (ρc x)) :
    (X.map ρc = none ∧ l = d) ∨ ∃ k, X.map ρc = some (.int k l) := by
  cases X with
  | none =>
    simp [bnd] at h
    exact .inl ⟨rfl, h.symm⟩
  | some x =>
    have hy := hr x rfl
    simp only [Option.map_some] at h ⊢
    generalize ρc x = u at hy ⊢
    cases hρ : ρ x with
    | int k m =>
      rw [hρ] at h hy
      simp only [bnd, Option.some.injEq] at h
      subst h
      cases hy
      exact .inr ⟨k, rfl⟩
    | _ => rw [hρ] at h; simp [bnd] at h

/-- s[lo:hi] of a string. -/
theorem opP_substr {P : Program} {τ : Tab} (hτ : TabOK P τ) {t : TypeId} {ti : TI} (ht : lookup τ t = some ti) (hk : ti.k = .str) {X : Operand} {L H : Option Operand} {ty : TypeId} {ρ : Operand → AV} {s : List UInt8} {l h : Int}
    (hX : ρ X = .str s) (hL : bnd (L.map ρ) 0 = some l) (hH : bnd (H.map ρ) s.length = some h) (h0 : 0 ≤ l) (h1 : l ≤ h) (h2 : h ≤ s.length) :
    OpP P (.slice t X L H none) ty ρ (.str ((s.take h.toNat).drop l.toNat)) := by
  refine opP_of_same ?_
  intro μ F w ρc o ho hty hr
  have hx := hr X (by simp [Op.operands])
  rw [hX] at hx
  generalize hv : ρc X = v at hx
  cases hx
  obtain ⟨ft, dt, zt, HT⟩ := TI.spec hτ ht
  have hf := HT.fits
  rw [hk] at hf
  have hdd : dt = .string := by
    cases dt <;> simp [TK.fits] at hf
    rfl
  subst hdd
  have hb : (Instr.sliceBounds false (⟨s.toArray⟩ : ByteArray).size (⟨s.toArray⟩ : ByteArray).size (L.map ρc) (H.map ρc) none).run P w = .ok (l.toNat, h.toNat, s.length) w := by
    rw [size_str]
    exact run_bounds (bnd_spec hL fun x hx => hr x (by simp [Op.operands, hx])) (bnd_spec hH fun x hx => hr x (by simp [Op.operands, hx])) h0 h1 h2
  refine ⟨_, ?_, .str _⟩
  simp only [execOp, ho, hv, Instr.sliceAt, Sem.run_bind, run_underlying HT.und, Result.andThen_ok, Instr.slice, Option.map_none, Option.isSome_none, Bool.false_eq_true, if_false, Sem.run_pure, hb]
  congr 3
  have : ((⟨s.toArray⟩ : ByteArray).extract l.toNat h.toNat).data = ((s.take h.toNat).drop l.toNat).toArray := by
    apply Array.ext'
    simp [ByteArray.data_extract, List.drop_take]
  cases hE : (⟨s.toArray⟩ : ByteArray).extract l.toNat h.toNat
  rw [hE] at this
  simp only at this
  rw [this]

/-- s[lo:hi] of a slice: it is read on. -/
theorem opP_slice {P : Program} {τ : Tab} (hτ : TabOK P τ) {t e : TypeId} {ti ei : TI} (ht : lookup τ t = some ti) (hk : ti.k = .slice e) (he : lookup τ e = some ei) {X : Operand} {L H : Option Operand} {ty : TypeId} {ρ : Operand → AV} {sz : Nat} {xs : List AV} {tg : Tag} {l h : Int}
    (hX : ρ X = .sl sz xs tg) (hL : bnd (L.map ρ) 0 = some l) (hH : bnd (H.map ρ) xs.length = some h) (h0 : 0 ≤ l) (h1 : l ≤ h) (h2 : h ≤ xs.length) (hsz : sz = ei.size) :
    OpP P (.slice t X L H none) ty ρ (.sl sz ((xs.take h.toNat).drop l.toNat) .none) := by
  refine opP_of_same ?_
  intro μ F w ρc o ho hty hr
  have hx := hr X (by simp [Op.operands])
  rw [hX] at hx
  generalize hv : ρc X = v at hx
  obtain ⟨A, cap, ad, vals, rfl, hs, hcap, hA, hone, hcell, hrep, htag⟩ := hx.sl_inv
  obtain ⟨ft, dt, zt, HT⟩ := TI.spec hτ ht
  obtain ⟨fe, de, ze, HE⟩ := TI.spec hτ he
  have hf := HT.fits
  rw [hk] at hf
  have hdd : dt = .slice e := by
    cases dt <;> simp [TK.fits] at hf
    rw [hf]
  subst hdd
  have hb := run_bounds (P := P) (w := w) (isS := true) (n := xs.length) (m := cap) (bnd_spec (d := 0) hL fun x hx => hr x (by simp [Op.operands, hx])) (bnd_spec hH fun x hx => hr x (by simp [Op.operands, hx])) h0 h1 (by omega)
  obtain ⟨ln, rfl⟩ := Int.eq_ofNat_of_zero_le h0
  obtain ⟨hn, rfl⟩ := Int.eq_ofNat_of_zero_le (show 0 ≤ h by omega)
  simp only [Int.toNat_natCast] at hb ⊢
  have hlen : ((xs.take hn).drop ln).length = hn - ln := by simp; omega
  have hget : ∀ (i : Nat) (x : AV), ((xs.take hn).drop ln)[i]? = some x → xs[ln + i]? = some x := by
    intro i x hx
    rw [List.getElem?_drop, List.getElem?_take] at hx
    split at hx
    · exact hx
    · cases hx
  refine ⟨.slice (if cap = ln then A else A.map (·.add (ln * sz))) ((xs.take hn).drop ln).length (cap - ln), ?_, ?_⟩
  · simp only [execOp, ho, hv, Instr.sliceAt, Sem.run_bind, run_underlying HT.und, Result.andThen_ok, Instr.slice, Option.map_none, hb, run_sizeOf w HE.info, HE.cellsOf, Sem.run_pure, hlen, hsz]
  · have hsh : ∀ i j : Nat, ln * sz + (i * sz + j) = (ln + i) * sz + j := fun i j => by rw [Nat.add_mul, Nat.add_assoc]
    refine .sl _ _ _ _ _ ⟨ad.block, ad.off + ln * sz, none⟩ (fun p => vals (ln * sz + p)) ?_ (by rw [hlen]; omega) ?_ ?_ ?_ ?_ trivial
    · intro x hx
      exact hs x (List.mem_of_mem_take (List.mem_of_mem_drop hx))
    · intro h3
      rw [hlen] at h3
      obtain ⟨h4, h5⟩ := hA (by omega)
      rw [if_neg (by omega), h4]
      refine ⟨?_, rfl⟩
      obtain ⟨bb, oo, ss⟩ := ad
      simp only at h5
      subst h5
      simp [Addr.add_lit]
    · intro i x j c hx hj
      show (vals _).oneCell' = true
      rw [hsh]
      exact hone _ _ _ _ (hget i x hx) hj
    · intro i x j c hx hj
      have := hcell _ _ _ _ (hget i x hx) hj
      simp only
      rw [Nat.add_assoc, hsh]
      exact this
    · intro i x j c hx hj
      show Rep _ _ _ _ (vals _)
      rw [hsh]
      exact hrep _ _ _ _ (hget i x hx) hj

/-! ### Arrays' elements -/
theorem arrAt_spec {P : Program} {τ : Tab} (hτ : TabOK P τ) {t : TypeId} {ix : AV} {n : Nat} {ei : TI} (h : arrAt τ t ix = some (n, ei)) :
    ∃ k i len e fe de ze, ix = .int k i ∧ P.underlying t = some (.array len e) ∧ 0 ≤ i ∧ i < len ∧ n = i.toNat ∧ TIs P e ei fe de ze := by
  unfold arrAt at h
  split at h
  case h_2 => cases h
  rename_i ti k i hi
  split at h
  case h_2 => cases h
  rename_i len e hk
  split at h
  case h_2 => cases h
  rename_i ei' hei
  split at h
  case isFalse => cases h
  rename_i hb
  cases h
  obtain ⟨f, d, z, H⟩ := TI.spec hτ hi
  obtain ⟨fe, de, ze, HE⟩ := TI.spec hτ hei
  have hf := H.fits
  rw [hk] at hf
  have hdd : d = .array len e := by
    cases d <;> simp [TK.fits] at hf
    rw [hf.1, hf.2]
  subst hdd
  exact ⟨k, i, len, e, fe, de, ze, rfl, H.und, hb.1, hb.2, rfl, HE⟩

theorem run_arrAt {P : Program} {t e : TypeId} {len : Nat} {i : Int} {k : IntKind} {ei : TI} {fe : TypeInfo} {de : TypeDesc} {ze : Value} (hu : P.underlying t = some (.array len e)) (h0 : 0 ≤ i) (h1 : i < len) (HE : TIs P e ei fe de ze) (w : World) (b o : Nat) :
    (Instr.indexAt t (.pointer (some ⟨b, o, none⟩)) (.int k i)).run P w = .ok (.pointer (some ⟨b, o + i.toNat * ei.size, none⟩)) w := by
  simp [Instr.indexAt, asIntOf, run_underlying hu, Instr.sureAddr, h0, h1, run_sizeOf w HE.info, HE.cellsOf, Addr.add_lit]

def aarr (τ : Tab) (t : TypeId) (x ix : AV) : Option AV :=
  match x, arrAt τ t ix with
  | .ref cells, some (n, ei) => some (.ref (cells.drop (n * ei.size)))
  | _, _ => none

theorem opP_arr {P : Program} {τ : Tab} (hτ : TabOK P τ) {t : TypeId} {x ix : Operand} {ty : TypeId} {ρ : Operand → AV} {r : AV} (h : aarr τ t (ρ x) (ρ ix) = some r) : OpP P (.indexAddr t x ix) ty ρ r := by
  refine opP_of_same ?_
  intro μ F w ρc o ho hty hr
  have hx := hr x (by simp [Op.operands])
  have hi := hr ix (by simp [Op.operands])
  unfold aarr at h
  split at h
  case h_2 => cases h
  rename_i cells n ei e ha
  cases h
  obtain ⟨k, i, len, el, fe, de, ze, hix, hu, h0, h1, rfl, HE⟩ := arrAt_spec hτ ha
  rw [hix] at hi
  generalize hvi : ρc ix = vi at hi
  cases hi
  rw [e] at hx
  obtain ⟨b, off, hv⟩ := rep_ref_form hx
  rw [hv] at hx
  refine ⟨_, ?_, rep_drop hx _⟩
  simp [execOp, ho, hv, hvi, run_arrAt hu h0 h1 HE]

def aarrM (M : Mem) (τ : Tab) (t : TypeId) (x ix : AV) : Option AV :=
  match x with
  | .ptr id off => (match M.get id, arrAt τ t ix with | some (.cells _), some (n, ei) => some (.ptr id (off + n * ei.size)) | _, _ => none)
  | _ => none

theorem opR_arr {P : Program} {τ : Tab} (hτ : TabOK P τ) {t : TypeId} {x ix : Operand} {ty : TypeId} {ρ : Operand → AV} {M : Mem} {r : AV} (h : aarrM M τ t (ρ x) (ρ ix) = some r) : OpR P (.indexAddr t x ix) ty ρ M r := by
  intro μ F w ρc o hg ho hty hr
  have hx := hr x (by simp [Op.operands])
  have hi := hr ix (by simp [Op.operands])
  unfold aarrM at h
  split at h
  case h_2 => cases h
  rename_i id off e
  split at h
  case h_2 => cases h
  rename_i l n ei hM ha
  cases h
  obtain ⟨k, i, len, el, fe, de, ze, hix, hu, h0, h1, rfl, HE⟩ := arrAt_spec hτ ha
  rw [hix] at hi
  generalize hvi : ρc ix = vi at hi
  cases hi
  rw [e] at hx
  obtain ⟨b, c, tb, hm, hv, _⟩ := gam_ptr hg hM hx
  refine ⟨.pointer (some ⟨b, off + i.toNat * ei.size, none⟩), w, ?_, Below.refl _ _, ?_⟩
  · simp [execOp, ho, hv, hvi, run_arrAt hu h0 h1 HE]
  · exact .ptr _ _ _ rfl (by rw [hm]; simp) (fun b' hb' => by rw [hm] at hb'; cases hb'; rfl)

/-! ### Strings joined -/
theorem opP_concat {P : Program} {xt yt : TypeId} {x y : Operand} {ty : TypeId} {ρ : Operand → AV} {a b : List UInt8} (hx : ρ x = .str a) (hy : ρ y = .str b) (hl : a.length + b.length ≤ 9223372036854775807) : OpP P (.binOp .add xt x y yt) ty ρ (.str (a ++ b)) := by
  refine opP_of_same ?_
  intro μ F w ρc o ho hty hr
  have h1 := hr x (by simp [Op.operands])
  have h2 := hr y (by simp [Op.operands])
  rw [hx] at h1
  rw [hy] at h2
  generalize hvx : ρc x = vx at h1
  generalize hvy : ρc y = vy at h2
  cases h1
  cases h2
  refine ⟨_, ?_, .str _⟩
  have hne : ¬ (((⟨a.toArray⟩ : ByteArray).size + (⟨b.toArray⟩ : ByteArray).size : Nat) : Int) > IntKind.i64.max := by
    rw [size_str, size_str]
    have : IntKind.i64.max = 9223372036854775807 := by decide
    rw [this]
    omega
  simp only [execOp, ho, hvx, hvy, eqGuard, binOp, Op.stringOp, Sem.run_bind, Sem.run_pure, Result.andThen_ok]
  rw [if_neg hne]
  simp only [Sem.run_pure, Result.andThen_ok]
  congr 3

end Go.Ab
