/- Arguments that a row hands in: what was read of them stands for abstract values. -/
import Derived.Test.YteimhnedflbkmaaDoorAbB8
import Derived.ProofKit
import Derived.ReadAgain
set_option linter.unusedVariables false
set_option linter.unusedSimpArgs false
namespace Go.Ab
open Go.RowKit

def mu0 : Mu := fun _ => none
def fr0 : Frm := fun _ _ => False

theorem free0 (b o : Nat) : Free mu0 fr0 b o := ⟨fun h => h, by rintro ⟨id, h | ⟨e, g, h, _⟩⟩ <;> cases h⟩

structure RepCs (w : World) (l : List AV) (cs : List Value) : Prop where
  len : l.length = cs.length
  rep : ∀ (i : Nat) (x : AV) (v : Value), l[i]? = some x → cs[i]? = some v → Rep mu0 fr0 w x v ∧ v.oneCell' = true

def sizeT (τ : Tab) (e : TypeId) : Nat := match lookup τ e with | some i => i.size | none => 0
def elA (τ : Tab) (e : TypeId) (c : List AV) : AV := match lookup τ e with | some i => (if i.agg = true then .agg c else c.getD 0 .top) | none => .top

def shapes (sh : TypeId → List AV → Prop) : List (Nat × TypeId) → List AV → Prop
  | [], l => l = []
  | (_, ft) :: r, l => ∃ a b, l = a ++ b ∧ sh ft a ∧ shapes sh r b

/-- Cells of a type that is made of numbers, bools, strings, slices and structs. -/
def shape (τ : Tab) : Nat → TypeId → List AV → Prop
  | 0, _, _ => False
  | n + 1, t, l =>
    match lookup τ t with
    | none => False
    | some i =>
      match i.k with
      | .int k => ∃ m, l = [.int k m] ∧ (Lit.int k m).wf = true
      | .bool => ∃ b, l = [.bool b]
      | .str => ∃ s, l = [.str s] ∧ s.length ≤ maxLen
      | .slice e => ∃ xs, l = [.sl (sizeT τ e) xs .none] ∧ xs.length ≤ maxLen ∧ ∀ x, x ∈ xs → ∃ c, x = elA τ e c ∧ shape τ n e c
      | .struct fs => shapes (shape τ n) fs l
      | _ => False

def offsOK (τ : Tab) : List (Nat × TypeId) → Nat → Nat → Bool
  | [], o, s => o == s
  | (o', ft) :: r, o, s => o' == o && (match lookup τ ft with | some fi => offsOK τ r (o + fi.size) s | none => false)

def plainT (τ : Tab) : Nat → TypeId → Bool
  | 0, _ => false
  | n + 1, t =>
    match lookup τ t with
    | none => false
    | some i =>
      match i.k with
      | .int _ => true
      | .bool => true
      | .str => true
      | .slice e => plainT τ n e && (match lookup τ e with | some ei => decide (0 < ei.size) && (ei.agg || ei.size == 1) | none => false)
      | .struct fs => fs.all (fun p => plainT τ n p.2) && offsOK τ fs 0 i.size
      | _ => false

section
variable {H : Type} {enc : TypeId × Value → H} {P : Program} {τ : Tab} {w : World} {base : Nat} {spare : Nat → Bool} {held : Bool}

theorem repCs_one {x : AV} {v : Value} (h : Rep mu0 fr0 w x v) (h1 : v.oneCell' = true) : RepCs w [x] [v] := by
  refine ⟨rfl, ?_⟩
  intro i y u hy hu
  cases i with
  | zero => cases hy; cases hu; exact ⟨h, h1⟩
  | succ i => simp at hy

theorem repCs_app {l m : List AV} {c d : List Value} (h : RepCs w l c) (k : RepCs w m d) : RepCs w (l ++ m) (c ++ d) := by
  refine ⟨by simp [h.len, k.len], ?_⟩
  intro i x v hx hv
  by_cases hi : i < l.length
  · rw [List.getElem?_append_left hi] at hx
    rw [List.getElem?_append_left (by rw [← h.len]; exact hi)] at hv
    exact h.rep i x v hx hv
  · rw [List.getElem?_append_right (by omega)] at hx
    rw [List.getElem?_append_right (by rw [← h.len]; omega), ← h.len] at hv
    exact k.rep _ x v hx hv

/-- The fields, one after the other. -/
theorem fields_rep {n : Nat} {cs : List Value} {size : Nat} (hlen : cs.length = size) : ∀ (fs : List (Nat × TypeId)) (o : Nat), offsOK τ fs o size = true → o ≤ size →
    (∀ p, p ∈ fs → ∀ fi, lookup τ p.2 = some fi → ∃ l, RepCs w l ((cs.drop p.1).take fi.size) ∧ shape τ n p.2 l) → ∃ l, RepCs w l (cs.drop o) ∧ shapes (shape τ n) fs l
  | [], o, h, ho, _ => by
    simp only [offsOK, beq_iff_eq] at h
    refine ⟨[], ⟨by simp [hlen, h], by simp⟩, rfl⟩
  | (o', ft) :: r, o, h, ho, hall => by
    simp only [offsOK, Bool.and_eq_true, beq_iff_eq] at h
    obtain ⟨h1, h2⟩ := h
    subst h1
    split at h2
    case h_2 => cases h2
    rename_i fi hfi
    obtain ⟨a, ha, hsa⟩ := hall (o', ft) List.mem_cons_self fi hfi
    have hle : o' + fi.size ≤ size := by
      clear hall ha hsa
      have key : ∀ (r : List (Nat × TypeId)) (o : Nat), offsOK τ r o size = true → o ≤ size := by
        intro r
        induction r with
        | nil => intro o h; simp only [offsOK, beq_iff_eq] at h; omega
        | cons p r ih =>
          intro o h
          obtain ⟨po, pt⟩ := p
          simp only [offsOK, Bool.and_eq_true, beq_iff_eq] at h
          obtain ⟨h3, h4⟩ := h
          split at h4
          · have := ih _ h4; omega
          · cases h4
      exact key r _ h2
    obtain ⟨b, hb, hsb⟩ := fields_rep hlen r (o' + fi.size) h2 hle (fun p hp => hall p (List.mem_cons_of_mem _ hp))
    refine ⟨a ++ b, ?_, a, b, rfl, hsa, hsb⟩
    have e : cs.drop o' = (cs.drop o').take fi.size ++ cs.drop (o' + fi.size) := by
      rw [← List.drop_drop]
      exact (List.take_append_drop _ _).symm
    rw [e]
    exact repCs_app ha hb

theorem trod_rep (hτ : TabOK P τ) : ∀ (n fuel : Nat) (t : TypeId) (cs : List Value) (x : DataW H × List MemPlace), plainT τ n t = true → DataW.trod enc P w base spare held fuel t cs = some x →
    ∃ l, RepCs w l cs ∧ shape τ n t l
  | 0, _, _, _, _, h, _ => by cases h
  | n + 1, fuel, t, cs, x, hp, h => by
    simp only [plainT] at hp
    split at hp
    case h_1 => cases hp
    rename_i i hi
    obtain ⟨f, fd, z, HI⟩ := TI.spec hτ hi
    have hf := HI.fits
    have hu := HI.und
    have hfuel : ∃ m, fuel = m + 1 := by
      cases fuel with
      | zero => simp [DataW.trod] at h
      | succ m => exact ⟨m, rfl⟩
    obtain ⟨m, rfl⟩ := hfuel
    have hsh : ∀ l, shape τ (n + 1) t l = (match i.k with
      | .int k => ∃ m, l = [.int k m] ∧ (Lit.int k m).wf = true
      | .bool => ∃ b, l = [.bool b]
      | .str => ∃ s, l = [.str s] ∧ s.length ≤ maxLen
      | .slice e => ∃ xs, l = [.sl (sizeT τ e) xs .none] ∧ xs.length ≤ maxLen ∧ ∀ x, x ∈ xs → ∃ c, x = elA τ e c ∧ shape τ n e c
      | .struct fs => shapes (shape τ n) fs l
      | _ => False) := fun l => by simp only [shape, hi]
    split at hp
    · rename_i k hk
      rw [hk] at hf
      cases fd <;> simp [TK.fits] at hf
      subst hf
      obtain ⟨n0, hcs, _, hwf⟩ := DataW.trod_int hu h
      subst hcs
      refine ⟨[.int k n0], repCs_one (.int _ _) rfl, ?_⟩
      rw [hsh, hk]
      exact ⟨n0, rfl, hwf⟩
    · rename_i hk
      rw [hk] at hf
      cases fd <;> simp [TK.fits] at hf
      obtain ⟨b0, hcs, _⟩ := DataW.trod_bool hu h
      subst hcs
      refine ⟨[.bool b0], repCs_one (.bool _) rfl, ?_⟩
      rw [hsh, hk]
      exact ⟨b0, rfl⟩
    · rename_i hk
      rw [hk] at hf
      cases fd <;> simp [TK.fits] at hf
      obtain ⟨s0, hcs, _, hle⟩ := DataW.trod_string hu h
      subst hcs
      have hs := Rep.str (μ := mu0) (F := fr0) (w := w) s0.data.toList
      refine ⟨[.str s0.data.toList], repCs_one (by simpa using hs) rfl, ?_⟩
      rw [hsh, hk]
      refine ⟨_, rfl, ?_⟩
      rw [Array.length_toList]
      exact hle
    · rename_i e hk
      rw [hk] at hf
      cases fd <;> simp [TK.fits] at hf
      subst hf
      simp only [Bool.and_eq_true] at hp
      obtain ⟨hpe, hp2⟩ := hp
      split at hp2
      case h_2 => cases hp2
      rename_i ei hei
      simp only [Bool.and_eq_true, decide_eq_true_eq] at hp2
      obtain ⟨hpos, hone⟩ := hp2
      obtain ⟨fe, de, ze, HE⟩ := TI.spec hτ hei
      have hce : P.cellsOf e = ei.size := HE.cellsOf
      have hsz : sizeT τ e = ei.size := by simp [sizeT, hei]
      rcases DataW.trod_slice hu h with ⟨rfl, _⟩ | ⟨a, len, cap, elems, rest, m', hm', rfl, _, hb, hlc, hcm, hel, hall, _⟩
      · refine ⟨[.sl ei.size [] .none], repCs_one ?_ rfl, ?_⟩
        · exact Rep.sl _ [] .none none 0 ⟨0, 0, none⟩ (fun _ => undef) (by simp) (by simp) (by simp) (by simp) (by simp) (by simp) trivial
        · rw [hsh, hk]
          exact ⟨[], by rw [hsz], by simp, by simp⟩
      · have hget : ∀ i, i < len → ∃ cs' l, (w.cells? base (a.add (i * ei.size)) ei.size = some cs') ∧ RepCs w l cs' ∧ shape τ n e l := by
          intro i hi'
          have h1 := hall i hi'
          rw [hce] at h1
          have h2 : ∃ y, elems[i]? = some y := ⟨_, List.getElem?_eq_getElem (by omega)⟩
          obtain ⟨y, hy⟩ := h2
          rw [hy] at h1
          obtain ⟨cs', h3, h4⟩ := Option.bind_eq_some_iff.1 h1
          obtain ⟨l, h5, h6⟩ := trod_rep hτ n _ e cs' y hpe h4
          exact ⟨cs', l, h3, h5, h6⟩
        have hget' : ∀ i : Nat, ∃ p : List Value × List AV, i < len → (w.cells? base (a.add (i * ei.size)) ei.size = some p.1) ∧ RepCs w p.2 p.1 ∧ shape τ n e p.2 := by
          intro i
          by_cases hi' : i < len
          · obtain ⟨cs', l, h1, h2, h3⟩ := hget i hi'
            exact ⟨(cs', l), fun _ => ⟨h1, h2, h3⟩⟩
          · exact ⟨([], []), fun h => absurd h hi'⟩
        obtain ⟨CL, hCL0⟩ := Classical.axiomOfChoice hget'
        obtain ⟨C, hC⟩ : ∃ C : Nat → List Value, ∀ i, C i = (CL i).1 := ⟨_, fun _ => rfl⟩
        obtain ⟨L, hL0⟩ : ∃ L : Nat → List AV, ∀ i, L i = (CL i).2 := ⟨_, fun _ => rfl⟩
        have hCL : ∀ i, i < len → (w.cells? base (a.add (i * ei.size)) ei.size = some (C i)) ∧ RepCs w (L i) (C i) ∧ shape τ n e (L i) := by
          intro i hi'
          rw [hC, hL0]
          exact hCL0 i hi'
        have hlenL : ∀ i, i < len → (L i).length = ei.size := by
          intro i hi'
          obtain ⟨h1, h2, _⟩ := hCL i hi'
          rw [h2.len]
          exact (World.cells?_some h1).2.1
        have hcells : ∀ i, i < len → (elA τ e (L i)).cells = L i := by
          intro i hi'
          have h1 := hlenL i hi'
          simp only [elA, hei]
          by_cases hagg : ei.agg = true
          · simp [hagg, AV.cells]
          · have h1' : ei.size = 1 := by
              rcases Bool.or_eq_true _ _ ▸ hone with h | h
              · exact absurd h hagg
              · simpa using h
            rw [if_neg hagg]
            rw [h1'] at h1
            match hL : L i, h1 with
            | [y], _ =>
              obtain ⟨g1, g2, g3⟩ := hCL i hi'
              have hcl : (C i).length = 1 := by rw [← g2.len, hL]; rfl
              obtain ⟨v, hv⟩ : ∃ v, (C i)[0]? = some v := ⟨_, List.getElem?_eq_getElem (by omega)⟩
              have hr := g2.rep 0 y v (by rw [hL]; rfl) hv
              simp only [List.getD_cons_zero]
              cases y <;> first | rfl | skip
              obtain ⟨c, rfl, _⟩ := hr.1.agg_inv
              simp [Value.oneCell'] at hr
        have hspot : 0 < len → a.spot = none := by
          intro h0
          obtain ⟨h1, _⟩ := hCL 0 h0
          obtain ⟨_, g2, g3⟩ := World.cells?_some h1
          have h4 := g3 0 hpos
          have h5 : ∃ v, (C 0)[0]? = some v := ⟨_, List.getElem?_eq_getElem (by omega)⟩
          obtain ⟨v, hv⟩ := h5
          rw [hv] at h4
          simpa [Addr.add] using World.cell?_spot h4
        refine ⟨[.sl ei.size ((List.range len).map fun i => elA τ e (L i)) .none], repCs_one ?_ rfl, ?_⟩
        · have hxs : ∀ (i : Nat) (x : AV), ((List.range len).map fun i => elA τ e (L i))[i]? = some x → i < len ∧ x = elA τ e (L i) := by
            intro i x hx
            simp only [List.getElem?_map, List.getElem?_range, Option.map_eq_some_iff] at hx
            by_cases hi' : i < len
            · simp [hi'] at hx
              exact ⟨hi', hx.symm⟩
            · simp [hi'] at hx
          have hl0 : ((List.range len).map fun i => elA τ e (L i)).length = len := by simp
          have hv : Value.slice (some a) len cap = Value.slice (some a) ((List.range len).map fun i => elA τ e (L i)).length cap := by rw [hl0]
          rw [hv]
          refine Rep.sl ei.size _ .none (some a) cap a (fun p => (C (p / ei.size)).getD (p % ei.size) undef) ?_ (by rw [hl0]; exact hlc) ?_ ?_ ?_ ?_ trivial
          · intro x hx
            obtain ⟨i, hi'⟩ := List.getElem?_of_mem hx
            obtain ⟨h1, rfl⟩ := hxs i x hi'
            rw [hcells i h1]
            exact hlenL i h1
          · intro h0
            rw [hl0] at h0
            exact ⟨rfl, hspot h0⟩
          all_goals
            intro i x j c hx hc
            obtain ⟨h1, rfl⟩ := hxs i x hx
            rw [hcells i h1] at hc
            obtain ⟨g1, g2, g3⟩ := hCL i h1
            have hj : j < ei.size := by rw [← hlenL i h1]; exact (List.getElem?_eq_some_iff.1 hc).1
            have hd : (i * ei.size + j) / ei.size = i := by
              rw [Nat.mul_comm, Nat.mul_add_div hpos, Nat.div_eq_of_lt hj, Nat.add_zero]
            have hmd : (i * ei.size + j) % ei.size = j := by
              rw [Nat.mul_comm, Nat.mul_add_mod, Nat.mod_eq_of_lt hj]
            have hcl : j < (C i).length := by rw [← g2.len, hlenL i h1]; exact hj
            have hval : (C i).getD j undef = (C i)[j] := by simp [List.getD, List.getElem?_eq_getElem hcl]
            have hr := g2.rep j c _ hc (List.getElem?_eq_getElem hcl)
            simp only [hd, hmd, hval]
          · exact hr.2
          · refine ⟨?_, free0 _ _⟩
            obtain ⟨_, k2, k3⟩ := World.cells?_some g1
            have k4 := k3 j hj
            rw [List.getElem?_eq_getElem hcl] at k4
            rw [← k4]
            have hs := hspot (by omega)
            obtain ⟨ab, ao, as⟩ := a
            simp only at hs
            subst hs
            congr 1
            rw [Addr.add_lit, Addr.add_lit]
            simp [Nat.add_assoc]
          · exact hr.1
        · rw [hsh, hk]
          refine ⟨_, by rw [hsz], by simp; omega, ?_⟩
          intro x hx
          obtain ⟨i, hi', rfl⟩ := List.mem_map.1 hx
          exact ⟨L i, rfl, (hCL i (List.mem_range.1 hi')).2.2⟩
    · rename_i fs hk
      rw [hk] at hf
      cases fd <;> simp [TK.fits] at hf
      rename_i gs
      simp only [Bool.and_eq_true] at hp
      obtain ⟨hpf, hoffs⟩ := hp
      obtain ⟨xs, n', _, _, hcl, hxl, hget⟩ := DataW.trod_struct hu h
      have hci : P.cellsOf t = i.size := HI.cellsOf
      rw [hci] at hcl
      obtain ⟨l, h1, h2⟩ := fields_rep (n := n) hcl fs 0 hoffs (Nat.zero_le _) (by
        intro p hpm fi hfi
        have hp1 : plainT τ n p.2 = true := List.all_eq_true.1 hpf p hpm
        rw [← hf] at hpm
        obtain ⟨g, hg, rfl⟩ := List.mem_map.1 hpm
        obtain ⟨j, hj⟩ := List.getElem?_of_mem hg
        have hgj : gs[j]? = some g := by simpa using hj
        have h3 := hget j g hgj
        have hj2 : j < xs.length := by rw [hxl]; exact (Array.getElem?_eq_some_iff.1 hgj).1
        rw [List.getElem?_eq_getElem hj2] at h3
        obtain ⟨ff, fd', fz, HF⟩ := TI.spec hτ hfi
        rw [HF.cellsOf] at h3
        exact trod_rep hτ n _ _ _ _ hp1 h3)
      refine ⟨l, by simpa using h1, ?_⟩
      rw [hsh, hk]
      exact h2
    · cases hp
end
end Go.Ab
