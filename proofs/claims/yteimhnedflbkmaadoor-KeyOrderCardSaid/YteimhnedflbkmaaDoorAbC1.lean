/- Structs and slices built. -/
import Derived.Test.YteimhnedflbkmaaDoorAbB3
set_option linter.unusedVariables false
set_option linter.unusedSimpArgs false
namespace Go.Ab
open Go.RowKit

/-- Cells that stand for a list. -/
structure Cells (μ : Mu) (F : Frm) (w : World) (l : List AV) (c : Array Value) : Prop where
  size : c.size = l.length
  one : ∀ (i : Nat) (u : Value), c[i]? = some u → u.oneCell' = true
  rep : ∀ (i : Nat) (y : AV) (u : Value), l[i]? = some y → c[i]? = some u → Rep μ F w y u

def afill (place : Nat → Option (Nat × Nat)) : List AV → List (Nat × AV) → Option (List AV)
  | l, [] => some l
  | l, (i, x) :: r =>
    match place i with
    | some (o, s) => if x.solid = true ∧ x.cells.length = s ∧ o + s ≤ l.length then afill place (writeAt l o x.cells) r else none
    | none => none

theorem foldl_write (off : Nat) : ∀ (l : List Value) (k : Nat) (cs : Array Value), off + k + l.length ≤ cs.size →
    let r := (l.zipIdx k).foldl (fun cs p => cs.setIfInBounds (off + p.2) p.1) cs
    r.size = cs.size ∧ ∀ i, r[i]? = if off + k ≤ i ∧ i < off + k + l.length then l[i - (off + k)]? else cs[i]?
  | [], k, cs, h => ⟨rfl, fun i => by simp; omega⟩
  | v :: r, k, cs, h => by
    simp only [List.zipIdx_cons, List.foldl_cons, List.length_cons] at *
    obtain ⟨h1, h2⟩ := foldl_write off r (k + 1) (cs.setIfInBounds (off + k) v) (by simp; omega)
    refine ⟨by rw [h1]; simp, fun i => ?_⟩
    rw [h2]
    by_cases h5 : off + (k + 1) ≤ i ∧ i < off + (k + 1) + r.length
    · rw [if_pos h5, if_pos (by omega)]
      obtain ⟨m, rfl⟩ : ∃ m, i = off + (k + 1) + m := ⟨i - (off + (k + 1)), by omega⟩
      rw [show off + (k + 1) + m - (off + (k + 1)) = m from by omega, show off + (k + 1) + m - (off + k) = m + 1 from by omega]
      rfl
    · rw [if_neg h5]
      by_cases h6 : i = off + k
      · subst h6
        rw [if_pos (by omega)]
        have : off + k < cs.size := by omega
        simp [Array.getElem?_setIfInBounds, this]
      · rw [if_neg (by omega), Array.getElem?_setIfInBounds_ne (by omega)]

theorem fill_rel {μ : Mu} {F : Frm} {w : World} {place placec : Nat → Option (Nat × Nat)} (hp : ∀ i q, place i = some q → placec i = some q) {ρ : Operand → AV} {ρc : Operand → Value} :
    ∀ (ps : List (Nat × Operand)) (l : List AV) (c : Array Value) (l' : List AV), Cells μ F w l c → (∀ p, p ∈ ps → Rep μ F w (ρ p.2) (ρc p.2)) →
      afill place l (ps.map fun p => (p.1, ρ p.2)) = some l' → ∃ c', Instr.fill placec c (ps.map fun p => (p.1, ρc p.2)) = some c' ∧ Cells μ F w l' c'
  | [], l, c, l', hc, _, h => by
    simp only [List.map_nil, afill, Option.some.injEq] at h
    subst h
    exact ⟨c, rfl, hc⟩
  | (i, x) :: r, l, c, l', hc, hr, h => by
    simp only [List.map_cons, afill] at h
    split at h
    case h_2 => cases h
    rename_i o s hpl
    split at h
    case isFalse => cases h
    rename_i hcond
    obtain ⟨h1, h2, h3⟩ := hcond
    have hx := hr (i, x) List.mem_cons_self
    obtain ⟨g1, g2, g3⟩ := rep_cells hx h1
    simp only at g1 g2 g3
    obtain ⟨f1, f2⟩ := foldl_write o (ρc x).cells.toList 0 c (by simp [g1, h2, hc.size]; omega)
    have hstep : Instr.fill placec c (List.map (fun p => (p.1, ρc p.2)) ((i, x) :: r)) = Instr.fill placec ((ρc x).cells.zipIdx.foldl (fun cs p => cs.setIfInBounds (o + p.2) p.1) c) (r.map fun p => (p.1, ρc p.2)) := by
      simp only [List.map_cons, Instr.fill, hp i _ hpl]
      rw [if_neg]
      simp [g1, h2, hc.size]
      omega
    rw [hstep, ← Array.foldl_toList, Array.toList_zipIdx]
    refine fill_rel hp r (writeAt l o (ρ x).cells) _ l' ?_ (fun p hp' => hr p (List.mem_cons_of_mem _ hp')) h
    have hn : (ρc x).cells.toList.length = s := by rw [Array.length_toList, g1, h2]
    refine ⟨by rw [f1, writeAt_length, hc.size], ?_, ?_⟩
    · intro k u hu
      rw [f2] at hu
      split at hu
      · exact g2 _ _ (by simpa using hu)
      · exact hc.one _ _ hu
    · intro k y u hy hu
      rw [f2] at hu
      rw [writeAt_get _ _ _ _ (by rw [h2]; exact h3)] at hy
      simp only [Nat.add_zero, hn] at hu
      rw [h2] at hy
      split at hu
      · rename_i hk
        rw [if_pos hk] at hy
        exact g3 _ _ _ hy (by simpa using hu)
      · rename_i hk
        rw [if_neg hk] at hy
        exact hc.rep _ _ _ hy hu

/-- Zero cells. -/
theorem TIs.zcells {P : Program} {t : TypeId} {i : TI} {f : TypeInfo} {d : TypeDesc} {z : Value} (h : TIs P t i f d z) (μ : Mu) (F : Frm) (w : World) : Cells μ F w i.zero z.cells := by
  obtain ⟨hl, hc⟩ := sameCells_get h.cells
  refine ⟨by simpa using hl, ?_, ?_⟩
  · intro j u hu
    have hj : j < i.zero.length := by
      rw [← hl]
      have := (Array.getElem?_eq_some_iff.1 hu).1
      simpa using this
    obtain ⟨rfl, hp⟩ := hc j u _ (by simpa using hu) (List.getElem?_eq_getElem hj)
    exact one_toV hp
  · intro j y u hy hu
    obtain ⟨rfl, hp⟩ := hc j u y (by simpa using hu) hy
    exact rep_toV _ _ _ hp

def placeS (τ : Tab) (t : TypeId) (j : Nat) : Option (Nat × Nat) := match fieldAt τ t j with | some (o, fi) => some (o, fi.size) | none => none

def placeA (size i : Nat) : Option (Nat × Nat) := some (i * size, size)

def abuild (τ : Tab) (t : TypeId) (ps : List (Nat × AV)) : Option AV :=
  match lookup τ t with
  | some i =>
    match i.k with
    | .struct fs => if (fs.all fun p => (lookup τ p.2).isSome) = true then (match afill (placeS τ t) i.zero ps with | some l => some (.agg l) | none => none) else none
    | .array _ e => (match lookup τ e with | some ei => (match afill (placeA ei.size) i.zero ps with | some l => some (.agg l) | none => none) | none => none)
    | _ => none
  | none => none

theorem opP_build {P : Program} {τ : Tab} (hτ : TabOK P τ) {t : TypeId} {ps : Array (Nat × Operand)} {ty : TypeId} {ρ : Operand → AV} {r : AV} (h : abuild τ t (ps.toList.map fun p => (p.1, ρ p.2)) = some r) : OpP P (.build t ps) ty ρ r := by
  refine opP_of_same ?_
  intro μ F w ρc o ho ht hr
  have hrp : ∀ p, p ∈ ps.toList → Rep μ F w (ρ p.2) (ρc p.2) := by
    intro p hp
    refine hr p.2 ?_
    simp only [Op.operands]
    rw [List.mem_toArray, List.mem_map]
    exact ⟨p, hp, rfl⟩
  unfold abuild at h
  split at h
  case h_2 => cases h
  rename_i i hi
  obtain ⟨f, d, z, H⟩ := TI.spec hτ hi
  have hfit := H.fits
  have hz := H.zcells μ F w
  have hzr : (zeroValue t).run P w = .ok z w := by simp [zeroValue, typeInfo, H.info, H.zero]
  have hpm : (ps.map fun p => (p.1, ρc p.2)).toList = ps.toList.map fun p => (p.1, ρc p.2) := by simp
  split at h
  · rename_i fs hk
    split at h
    case isFalse => cases h
    rename_i hall
    split at h
    case h_2 => cases h
    rename_i l hl
    cases h
    rw [hk] at hfit
    cases d <;> simp [TK.fits] at hfit
    rename_i gs
    subst hfit
    have hall' : ∀ g ∈ gs.toList, ∃ gi, lookup τ g.type = some gi := by
      intro g hg
      have := (List.all_eq_true.1 hall) (g.offset, g.type) (List.mem_map.2 ⟨g, hg, rfl⟩)
      exact Option.isSome_iff_exists.1 this
    have hmap : (gs.mapM fun f => (do pure (f.offset, ← sizeOf f.type) : Sem (Nat × Nat))).run P w = .ok (gs.map fun f => (f.offset, P.cellsOf f.type)) w := by
      rw [Array.mapM_eq_mapM_toList]
      have : ∀ (l : List Field), (∀ g ∈ l, ∃ gi, lookup τ g.type = some gi) → (l.mapM fun f => (do pure (f.offset, ← sizeOf f.type) : Sem (Nat × Nat))).run P w = .ok (l.map fun f => (f.offset, P.cellsOf f.type)) w := by
        intro l
        induction l with
        | nil => intro _; simp
        | cons g r ih =>
          intro hl
          obtain ⟨gi, hgi⟩ := hl g List.mem_cons_self
          obtain ⟨gf, gd, gz, HG⟩ := TI.spec hτ hgi
          have h1 := ih fun g' hg' => hl g' (List.mem_cons_of_mem _ hg')
          simp only [List.mapM_cons, Sem.run_bind, run_sizeOf w HG.info, Result.andThen_ok, Sem.run_pure, h1, List.map_cons]
      have h1 := this gs.toList hall'
      simp only [Sem.run_map, h1, Result.andThen_ok]
      congr 1
      apply Array.ext'
      simp
    obtain ⟨c', hc', hcells⟩ := fill_rel (μ := μ) (F := F) (w := w) (place := placeS τ t) (placec := fun j => (gs.map fun f => (f.offset, P.cellsOf f.type))[j]?) (ρ := ρ) (ρc := ρc) (by
      intro j q hq
      unfold placeS at hq
      split at hq
      case h_2 => cases hq
      rename_i o' fi hfa
      cases hq
      obtain ⟨fs', g, ff, fd, fz, hu, hj, hoff, HF⟩ := fieldAt_spec hτ hfa
      rw [H.und] at hu
      cases hu
      simp [hj, hoff, HF.cellsOf]) ps.toList i.zero z.cells l hz hrp hl
    refine ⟨.agg c', ?_, .agg _ _ hcells.size hcells.rep hcells.one⟩
    simp only [execOp, ho, Instr.build, Sem.run_bind, hzr, Result.andThen_ok, run_underlying H.und, hmap, hpm, hc', Sem.run_pure]
  · rename_i n e hk
    split at h
    case h_2 => cases h
    rename_i ei hei
    split at h
    case h_2 => cases h
    rename_i l hl
    cases h
    obtain ⟨fe, de, ze, HE⟩ := TI.spec hτ hei
    rw [hk] at hfit
    cases d <;> simp [TK.fits] at hfit
    obtain ⟨rfl, rfl⟩ := hfit
    obtain ⟨c', hc', hcells⟩ := fill_rel (μ := μ) (F := F) (w := w) (place := placeA ei.size) (placec := fun i => some (i * ei.size, ei.size)) (ρ := ρ) (ρc := ρc) (fun i q hq => hq) ps.toList i.zero z.cells l hz hrp hl
    refine ⟨.agg c', ?_, .agg _ _ hcells.size hcells.rep hcells.one⟩
    simp only [execOp, ho, Instr.build, Sem.run_bind, hzr, Result.andThen_ok, run_underlying H.und, run_sizeOf w HE.info, HE.cellsOf, hpm, hc', Sem.run_pure]
  · cases h

end Go.Ab
