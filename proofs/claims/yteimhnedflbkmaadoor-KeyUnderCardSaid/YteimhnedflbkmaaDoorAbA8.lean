/- append. -/
import Derived.Test.YteimhnedflbkmaaDoorAbA7
set_option linter.unusedVariables false
set_option linter.unusedSimpArgs false
namespace Go.Ab
open Go.RowKit

def byteAV (c : UInt8) : AV := .int .u8 c.toNat

/-- What is appended: a slice's elements, or a string's bytes. -/
def srcOf (sz : Nat) : AV → Option (List AV)
  | .sl s xs _ => if s = sz then some xs else (match xs with | [] => some [] | _ => none)
  | .str l => if sz = 1 then some (l.map byteAV) else none
  | _ => none

def srcFits : TK → AV → Bool
  | .slice _, .sl _ _ _ => true
  | .str, .str _ => true
  | _, _ => false

theorem flat_bytes (l : List UInt8) : flat (l.map byteAV) = l.map byteAV := by
  induction l with
  | nil => rfl
  | cons c r ih =>
    simp only [flat, List.map_cons, List.flatMap_cons] at *
    rw [ih]
    rfl

theorem src_of {P : Program} {τ : Tab} (hτ : TabOK P τ) {t : TypeId} {i : TI} (hi : lookup τ t = some i) {x : AV} (hf : srcFits i.k x = true) {sz : Nat} {ys : List AV} (hs : srcOf sz x = some ys)
    {μ : Mu} {F : Frm} {w : World} {v : Value} (hr : Rep μ F w x v) :
    (∀ y, y ∈ ys → y.cells.length = sz) ∧ ∃ news : List Value, Src P sz t v ys.length news w ∧ ∀ (p : Nat) (c : AV) (u : Value), (flat ys)[p]? = some c → news[p]? = some u → Rep μ F w c u := by
  obtain ⟨f, d, z, H⟩ := TI.spec hτ hi
  have hfit := H.fits
  cases x with
  | sl s xs tg =>
    obtain ⟨A, cap, b, o, vals, rfl, hsz, hcap, hA, hat, htag⟩ := hr.sl_flat
    obtain ⟨e, hd⟩ : ∃ e, d = .slice e := by
      generalize i.k = kk at hf hfit
      cases kk <;> simp [srcFits] at hf
      cases d <;> simp [TK.fits] at hfit
      exact ⟨_, rfl⟩
    subst hd
    have hu := H.und
    unfold srcOf at hs
    cases xs with
    | nil =>
      have hys : ys = [] := by
        simp only at hs
        split at hs <;> cases hs <;> rfl
      subst hys
      refine ⟨by simp, [], ⟨.inl ⟨e, hu⟩, fun _ => rfl, ?_, ?_, by simp, by simp⟩, by simp [flat]⟩
      · cases A with
        | none => rfl
        | some a => simp [Builtin.firstCells, loadCells, loadCellsFrom]
      · cases A with
        | none => rfl
        | some a => simp [Builtin.firstCells, loadCells, loadCellsFrom]
    | cons x0 r =>
      by_cases hss : s = sz
      case neg => simp [hss] at hs
      simp only [hss, if_true, Option.some.injEq] at hs
      subst hs
      subst hss
      have hA' := hA (by simp)
      subst hA'
      have hl := flat_length hsz
      obtain ⟨h1, h2⟩ := flat_vals (vals := vals) hat
      refine ⟨hsz, (List.range (flat (x0 :: r)).length).map vals, ?_, ?_⟩
      · exact Src.ofSlice w hu _ _ _ _ (by rw [List.length_map, List.length_range, hl]) h1 h2
      · intro p c u hc hu'
        have hp : p < (flat (x0 :: r)).length := (List.getElem?_eq_some_iff.1 hc).1
        rw [List.getElem?_map, List.getElem?_range hp] at hu'
        simp at hu'
        subst hu'
        exact (hat p c hc).rep
  | str l =>
    unfold srcOf at hs
    by_cases h1 : sz = 1
    case neg => simp [h1] at hs
    simp only [h1, if_true, Option.some.injEq] at hs
    subst hs
    subst h1
    have hd : d = .string := by
      generalize i.k = kk at hf hfit
      cases kk <;> simp [srcFits] at hf
      cases d <;> simp [TK.fits] at hfit
      rfl
    subst hd
    cases hr
    refine ⟨?_, byteCells ⟨l.toArray⟩, ?_, ?_⟩
    · intro y hy
      obtain ⟨c, _, rfl⟩ := List.mem_map.1 hy
      rfl
    · have := Src.ofString w H.und ⟨l.toArray⟩
      rw [size_str] at this
      simpa using this
    · intro p c u hc hu
      rw [flat_bytes] at hc
      simp only [byteCells, List.getElem?_map] at hc hu
      cases e : l[p]? with
      | none => simp [e] at hc
      | some q =>
        simp [e] at hc hu
        subst hc; subst hu
        exact .int _ _
  | _ => simp [srcOf] at hs

/-- Nothing is appended where there is room: all stays. -/
theorem run_append_nothing' {P : Program} {t tx ty e : TypeId} {i : TypeInfo} (ht : P.underlying t = some (.slice e)) (hi : P.info? e = some i) {A : Option Addr} {n cap : Nat} {x : Value} {w : World} (hs : Src P i.size tx x 0 [] w) (h : n ≤ cap) :
    (Builtin.append_ #[t, tx] ty #[.slice A n cap, x]).run P w = .ok (.slice A n cap) w := by
  rcases hs.kind with ⟨e', hk⟩ | hk <;> cases A <;> simp [Builtin.append_, run_underlying ht, run_underlying hk, sizeOf, typeInfo, hi, hs.len, h, hs.cells, storeCells]

theorem zeroCells_one {z : Array Value} (h : ∀ u ∈ z, u.oneCell' = true) (hz : 0 < z.size) (n : Nat) : ∀ u ∈ Builtin.zeroCells z n, u.oneCell' = true := by
  intro u hu
  unfold Builtin.zeroCells at hu
  obtain ⟨k, hk, rfl⟩ := Array.mem_map.1 hu
  have : k % z.size < z.size := Nat.mod_lt _ hz
  rw [getElem!_pos z (k % z.size) this]
  exact h _ (Array.getElem_mem this)

theorem At.later {μ μ' : Mu} {F : Frm} {w w' : World} (hev : Evo w μ w' μ') {b o : Nat} {c : AV} {v : Value} (h : At μ F w b o c v) : At μ' F w' b o c v :=
  ⟨h.one, hev.cell h.cell h.free.2, hev.free (cell_lt h.cell) h.free, h.rep.evo hev⟩

/-- Where a slice's elements end. -/
theorem flat_append (xs ys : List AV) : flat (xs ++ ys) = flat xs ++ flat ys := by simp [flat]

structure AppIn (P : Program) (τ : Tab) (t e : TypeId) (ti ei : TI) : Prop where
  tl : lookup τ t = some ti
  tk : ti.k = .slice e
  el : lookup τ e = some ei
  pos : 0 < ei.size

/-- The arm that grows. -/
theorem append_grow {P : Program} {τ : Tab} (hτ : TabOK P τ) {t tx ty e : TypeId} {ti ei : TI} (hin : AppIn P τ t e ti ei) {μ : Mu} {F : Frm} {M : Mem} {w : World} (hg : Gam μ F M w)
    {A : Option Addr} {cap b o : Nat} {vals : Nat → Value} {xs ys : List AV} (hsx : ∀ x, x ∈ xs → x.cells.length = ei.size) (hsy : ∀ x, x ∈ ys → x.cells.length = ei.size)
    (hA : 0 < xs.length → A = some ⟨b, o, none⟩) (hat : ∀ (p : Nat) (c : AV), (flat xs)[p]? = some c → At μ F w b (o + p) c (vals p))
    {x : Value} {news : List Value} (hsrc : Src P ei.size tx x ys.length news w) (hnew : ∀ (p : Nat) (c : AV) (u : Value), (flat ys)[p]? = some c → news[p]? = some u → Rep μ F w c u)
    (hgrow : cap < xs.length + ys.length) (hb : (xs.length + ys.length) * ei.bytes ≤ 140737488355328) (hl : xs.length + ys.length ≤ 140737488355328)
    {id g : Nat} (hid : (id = M.next ∧ g = 0) ∨ ∃ q g0, M.get id = some (.spare g0) ∧ μ id = some (.spare q g0) ∧ g0 < g) :
    ∃ μ' v w', (Builtin.append_ #[t, tx] ty #[.slice A xs.length cap, x]).run P w = .ok v w' ∧ Evo w μ w' μ' ∧
      (∀ M', M'.next = (if id = M.next then M.next + 1 else M.next) → (∀ i, M'.get i = if i = id then some (.spare g) else M.get i) → Gam μ' F M' w') ∧ Rep μ' F w' (.sl ei.size (xs ++ ys) (.tok id g)) v := by
  obtain ⟨ft, dt, zt, HT⟩ := TI.spec hτ hin.tl
  obtain ⟨fe, de, ze, HE⟩ := TI.spec hτ hin.el
  have hf := HT.fits
  rw [hin.tk] at hf
  have hdd : dt = .slice e := by
    cases dt <;> simp [TK.fits] at hf
    rw [hf]
  subst hdd
  have hlx := flat_length hsx
  have hly := flat_length hsy
  have hnl := hsrc.newsLen
  obtain ⟨hv1, hv2⟩ := flat_vals (vals := vals) hat
  let olds := (List.range (flat xs).length).map vals
  have hol : olds.length = xs.length * ei.size := by simp [olds, hlx]
  have hold : (Builtin.firstCells fe.size xs.length (.slice A xs.length cap)).run P w.drew = .ok olds.toArray w.drew := by
    rw [HE.size]
    cases A with
    | none =>
      have h0 : xs = [] := by
        cases xs with
        | nil => rfl
        | cons a r => have := hA (by simp); cases this
      subst h0
      simp [Builtin.firstCells, olds, flat]
    | some a =>
      by_cases h0 : 0 < xs.length
      · have := hA h0
        cases this
        exact run_firstCells_some w.drew ei.size xs.length _ _ _ olds hol (fun j u hu => hv1 j u hu)
      · have : xs = [] := List.eq_nil_of_length_eq_zero (by omega)
        subst this
        simp [Builtin.firstCells, loadCells, loadCellsFrom, olds, flat]
  have hsrc' : Src P fe.size tx x ys.length news w := by rw [HE.size]; exact hsrc
  have hfit : Builtin.nextslicecap (xs.length + ys.length) cap * fe.bytes ≤ 281474976710656 := by
    rw [HE.bytes]
    exact growslice_fits hgrow hb
  have hrun := run_append_grow_src (P := P) w t tx ty e fe ze HT.und HE.info HE.zero A xs.length cap olds hold x ys.length news hsrc' hgrow (by omega) hfit
  have hge := grownCap_ge w (xs.length + ys.length) cap e
  generalize hcap : grownCap w (xs.length + ys.length) cap e = cap' at hrun hge
  let c' : Array Value := (olds ++ news).toArray ++ Builtin.zeroCells ze.cells (cap' - (xs.length + ys.length))
  let w' : World := w.drew.alloc (.cells c' e)
  have hzs : ze.cells.size = ei.size := by
    have := (sameCells_get HE.cells).1
    simp only [Array.length_toList] at this
    rw [this, HE.len]
  have hc's : c'.size = cap' * ei.size := by
    simp only [c', Array.size_append, List.size_toArray, List.length_append, hol, hnl, size_zeroCells, hzs, ← Nat.add_mul]
    rw [Nat.add_sub_cancel' hge]
  have hheap : w'.heap[w.heap.size]? = some (.cells c' e (0, 0)) := heap_alloc_new w.drew _
  have hbelow : Below w.heap.size w w' := ⟨rfl, rfl, rfl, by simp [w', World.alloc], fun k hk => heap_alloc_old w.drew _ hk⟩
  have hfl : (xs.length + ys.length) * ei.size ≤ c'.size := by rw [hc's]; exact Nat.mul_le_mul_right _ hge
  obtain ⟨hev, hG⟩ := gam_room hg (w' := w') (p := some (w.heap.size, (xs.length + ys.length) * ei.size)) rfl rfl rfl hbelow.size (id := id) (g := g) (by
      rcases hid with ⟨h1, _⟩ | ⟨q, g0, h1, h2, h3⟩
      · exact .inl ⟨h1, fun k hk => hbelow.block k hk⟩
      · exact .inr ⟨q, g0, h1, h2, h3, fun k hk _ => hbelow.block k hk, fun k e hq c ty fr hc => by
          have hk : k < w.heap.size := (Array.getElem?_eq_some_iff.1 hc).1
          exact ⟨c, (hbelow.block k hk).trans hc, rfl, fun _ _ => rfl⟩⟩) (by
      intro b' e' hbe
      cases hbe
      exact ⟨⟨c', e, (0, 0), hheap, hfl, fun o _ h => by simp at h⟩, .inl (Nat.le_refl _)⟩)
  refine ⟨_, _, w', hrun, hev, hG, ?_⟩
  have hflat : (flat (xs ++ ys)).length = (xs.length + ys.length) * ei.size := by rw [flat_append, List.length_append, hlx, hly, Nat.add_mul]
  have hR := rep_sl (μ := μ.put id (.spare (some (w.heap.size, (xs.length + ys.length) * ei.size)) g)) (F := F) (w := w') (sz := ei.size) (xs := xs ++ ys) (t := .tok id g) (A := some ⟨w.heap.size, 0, none⟩) (cap := cap') (b := w.heap.size) (o := 0)
    (vals := fun p => (olds ++ news).getD p undef) (by
      intro y hy
      rcases List.mem_append.1 hy with h | h
      · exact hsx y h
      · exact hsy y h) (by rw [List.length_append]; exact hge) (fun _ => rfl) (by
      intro p c hc
      have hp : p < (xs.length + ys.length) * ei.size := by rw [← hflat]; exact (List.getElem?_eq_some_iff.1 hc).1
      have hon : (olds ++ news).length = (xs.length + ys.length) * ei.size := by rw [List.length_append, hol, hnl, Nat.add_mul]
      have hval : (olds ++ news)[p]? = some ((olds ++ news).getD p undef) := by
        have : p < (olds ++ news).length := by omega
        simp [List.getD_eq_getElem?_getD, List.getElem?_eq_getElem this]
      have hcell : c'[p]? = some ((olds ++ news).getD p undef) := by
        simp only [c']
        rw [Array.getElem?_append_left (by rw [List.size_toArray]; omega)]
        simpa using hval
      have hrep : Rep μ F w c ((olds ++ news).getD p undef) ∧ ((olds ++ news).getD p undef).oneCell' = true := by
        rw [flat_append] at hc
        by_cases hpx : p < (flat xs).length
        · rw [List.getElem?_append_left hpx] at hc
          rw [List.getElem?_append_left (by rw [hol, ← hlx]; exact hpx)] at hval
          simp only [olds, List.getElem?_map, List.getElem?_range hpx, Option.map_some, Option.some.injEq] at hval
          rw [← hval]
          exact ⟨(hat p c hc).rep, (hat p c hc).one⟩
        · rw [List.getElem?_append_right (by omega)] at hc
          rw [List.getElem?_append_right (by rw [hol, ← hlx]; omega), hol, ← hlx] at hval
          exact ⟨hnew _ c _ hc hval, hsrc.one _ (List.mem_of_getElem? hval)⟩
      refine ⟨hrep.2, ?_, ?_, hrep.1.evo hev⟩
      · rw [Nat.zero_add, cell_mk hheap]
        exact hcell
      · refine ⟨fun hF => by have := hg.fit.frm _ _ hF; omega, ?_⟩
        rintro ⟨i, h1 | ⟨e', g', h1, he⟩⟩
        · unfold Mu.put at h1
          split at h1
          · cases h1
          · have := hg.fit.own w.heap.size 0 ⟨i, .inl h1⟩
            omega
        · unfold Mu.put at h1
          split at h1
          · cases h1
            omega
          · have := hg.fit.own w.heap.size e' ⟨i, .inr ⟨e', g', h1, Nat.le_refl _⟩⟩
            omega) (by
      refine .inr ⟨some (w.heap.size, (xs.length + ys.length) * ei.size), g, by simp [Mu.put], Nat.le_refl _, fun _ => ⟨rfl, by rw [List.length_append], c', e, (0, 0), hheap, by rw [hc's]; exact Nat.le_refl _⟩⟩)
  rw [List.length_append] at hR
  exact hR

end Go.Ab
