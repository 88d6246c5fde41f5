/- The kit's contracts of Go's library, told of abstract values: strings.Split, Join, LastIndex, ContainsAny. No further condition. -/
import Derived.Test.YteimhnedflbkmaaDoorAbB9
import Derived.Test.YteimhnedflbkmaaDoorAbK1
import Derived.Shelf.Strings.Split
import Derived.Shelf.Strings.LastIndex
import Derived.Shelf.Strings.OnBuilder
set_option linter.unusedVariables false
set_option linter.unusedSimpArgs false
namespace Go.Ab
open Go.Shelf Go.RowKit Go.Proofs

/-- A function that lays new blocks alone, by the kit's contract. -/
theorem apure_calls {P : Program} {g : FuncId} {args : List AV} {r : AV} (he : Enters P g) (h : ∀ (μ : Mu) (F : Frm) (w : World) (vs : Array Value), Fit μ F w → RepL μ F w args vs →
    Calls P g vs w fun e w' => ∃ v, e = .returned v ∧ Below w.heap.size w w' ∧ Rep μ F w' r v) : APure P g args r := by
  intro M
  refine ⟨he, fun μ F w vs hg hv => (h μ F w vs hg.fit hv).mono ?_⟩
  rintro e w' ⟨v, rfl, hb, hr⟩
  exact ⟨μ, M, Evo.of_below μ hb, hg.below hb, r, hr, rfl, rfl⟩

theorem args_ss {μ : Mu} {F : Frm} {w : World} {a b : List UInt8} {vs : Array Value} (h : RepL μ F w [.str a, .str b] vs) : vs = #[.string ⟨a.toArray⟩, .string ⟨b.toArray⟩] := by
  obtain ⟨hl, hr⟩ := h
  match vs, hl with
  | ⟨[x, y]⟩, _ =>
    have h1 := hr 0 _ x rfl rfl
    have h2 := hr 1 _ y rfl rfl
    cases h1
    cases h2
    rfl

theorem rep_new_strs {μ : Mu} {F : Frm} {w : World} (hf : Fit μ F w) (l : List (List UInt8)) (ty : TypeId) :
    Rep μ F (w.alloc (.cells ((l.map fun s => Value.string ⟨s.toArray⟩).toArray) ty)) (.sl 1 (l.map .str) .none) (.slice (some ⟨w.heap.size, 0, none⟩) l.length l.length) := by
  have hlen : (l.map AV.str).length = l.length := by simp
  rw [← hlen]
  have key : ∀ (i : Nat) (x : AV) (j : Nat) (c : AV), (l.map AV.str)[i]? = some x → x.cells[j]? = some c → ∃ s, l[i]? = some s ∧ j = 0 ∧ c = .str s := by
    intro i x j c hx hc
    simp only [List.getElem?_map, Option.map_eq_some_iff] at hx
    obtain ⟨s, hs, rfl⟩ := hx
    cases j with
    | zero => simp [AV.cells] at hc; exact ⟨s, hs, rfl, hc.symm⟩
    | succ j => simp [AV.cells] at hc
  refine .sl 1 _ .none _ _ ⟨w.heap.size, 0, none⟩ (fun k => Value.string ⟨(l.getD k []).toArray⟩) ?_ (Nat.le_refl _) (fun _ => ⟨rfl, rfl⟩) ?_ ?_ ?_ trivial
  · intro x hx
    obtain ⟨s, _, rfl⟩ := List.mem_map.1 hx
    rfl
  · intro i x j c _ _
    rfl
  · intro i x j c hx hc
    obtain ⟨s, hs, rfl, rfl⟩ := key i x j c hx hc
    refine ⟨?_, hf.new (Nat.le_refl _)⟩
    have hb : (w.alloc (.cells ((l.map fun s => Value.string ⟨s.toArray⟩).toArray) ty)).heap[w.heap.size]? = some (.cells ((l.map fun s => Value.string ⟨s.toArray⟩).toArray) ty (0, 0)) := Array.getElem?_push_size
    rw [cell_mk hb]
    simp [hs]
  · intro i x j c hx hc
    obtain ⟨s, hs, rfl, rfl⟩ := key i x j c hx hc
    simp [hs]
    exact .str s

/-- The parts of a text, by a byte. -/
def splitOn (c : UInt8) : List UInt8 → List (List UInt8)
  | [] => [[]]
  | b :: l => if b = c then [] :: splitOn c l else
    match splitOn c l with
    | [] => [[b]]
    | p :: r => (b :: p) :: r

theorem splitOn_ne (c : UInt8) : ∀ s, splitOn c s ≠ []
  | [] => by simp [splitOn]
  | b :: l => by
    unfold splitOn
    split
    · simp
    · split <;> simp

theorem index_cons (b c : UInt8) (l : List UInt8) (h : b ≠ c) : Lib.index (b :: l) [c] = if Lib.index l [c] == -1 then -1 else Lib.index l [c] + 1 := by
  rw [Lib.index]
  have : ([c] : List UInt8).isPrefixOf (b :: l) = false := by simp [List.isPrefixOf, Ne.symm h]
  rw [this]
  simp

theorem splitK_one (c : UInt8) : ∀ s : List UInt8, Lib.splitK [c] 0 (Lib.count s [c]) s = splitOn c s
  | [] => rfl
  | b :: l => by
    have ih := splitK_one c l
    by_cases h : b = c
    · subst h
      rw [Lib.count_cons_eq, Nat.add_comm]
      have hi : Lib.index (b :: l) [b] = 0 := by rw [Lib.index]; simp [List.isPrefixOf]
      unfold Lib.splitK splitOn
      rw [if_pos rfl, hi]
      simp [ih]
    · rw [Lib.count_cons_ne b c l h]
      unfold splitOn
      rw [if_neg h, ← ih]
      cases hk : Lib.count l [c] with
      | zero => rfl
      | succ k =>
        unfold Lib.splitK
        rw [index_cons b c l h]
        by_cases hm : Lib.index l [c] = -1
        · simp [hm]
        · have hge := Lib.index_ge l [c]
          have h1 : (Lib.index l [c] == -1) = false := by simpa using hm
          have h2 : (Lib.index l [c] + 1 == -1) = false := by simp; omega
          have h3 : (Lib.index l [c] + 1).toNat = (Lib.index l [c]).toNat + 1 := by omega
          simp only [h1, h2, h3, Bool.false_eq_true, if_false]
          simp [Nat.add_right_comm]

theorem split_ok {P : Program} {ρ : Ren} (L : Lays.n146 P ρ) (hi9 : (P.info? (ρ.t 9)).map (fun i => (i.zero, i.size, i.bytes)) = some (some (.string ByteArray.empty), 1, 16)) (he : Enters P (ρ.f 146)) (s : List UInt8) (c : UInt8) (hs : s.length < 4294967281) :
    APure P (ρ.f 146) [.str s, .str [c]] (.sl 1 ((splitOn c s).map .str) .none) := by
  refine apure_calls he fun μ F w vs hf hv => ?_
  rw [args_ss hv]
  have t3 := L.t3; have t9 := L.t9; have t31 := L.t31
  have a3 := L.a3; have a9 := L.a9; have a31 := L.a31
  have z3 := L.z3; have v3 := L.v3; have z9 := L.z9; have v9 := L.v9; have z31 := L.z31; have v31 := L.v31
  have hle := Lib.countB_le ⟨#[c]⟩ (Nat.le_refl 1) (⟨s.toArray⟩ : ByteArray).size ⟨s.toArray⟩ (Nat.le_refl _)
  have hlen := Lib.splitB_all ⟨#[c]⟩ (Nat.le_refl 1) 0 _ ⟨s.toArray⟩ rfl
  have hsz : (⟨s.toArray⟩ : ByteArray).size < 4294967281 := by simpa [ByteArray.size] using hs
  have g := Any.strings_genSplit_core { L with } hi9 ⟨s.toArray⟩ ⟨#[c]⟩ 0 (-1) (Lib.countB ⟨s.toArray⟩ ⟨#[c]⟩ + 1) w hsz (Nat.le_refl 1) (Nat.zero_le _)
    (fun x cc hx => (Any.strings_Index_one { L with } x c _).mono fun e w' ⟨h1, h2⟩ => ⟨by rw [h1, Lib.indexB, Lib.index_one], h2⟩)
    ((Any.strings_Count_one { L with } ⟨s.toArray⟩ c w).mono fun e w' ⟨h1, h2⟩ => ⟨by rw [h1, Lib.countB, Lib.count_one]; rfl, h2⟩) (by decide) (by decide) (by rw [if_pos (by decide)]; omega)
  rw [Nat.add_sub_cancel, hlen] at g
  have e2 : Lib.cellsOf (Lib.splitB ⟨#[c]⟩ 0 (Lib.countB ⟨s.toArray⟩ ⟨#[c]⟩) ⟨s.toArray⟩) (Lib.countB ⟨s.toArray⟩ ⟨#[c]⟩ + 1) = ((splitOn c s).map fun s => Value.string ⟨s.toArray⟩).toArray := by
    rw [← hlen, Lib.cellsOf_full]
    have h1 := Lib.splitB_data ⟨#[c]⟩ 0 (Lib.countB ⟨s.toArray⟩ ⟨#[c]⟩) ⟨s.toArray⟩
    have h2 := splitK_one c s
    have h3 : Lib.splitK [c] 0 (Lib.countB ⟨s.toArray⟩ ⟨#[c]⟩) s = splitOn c s := h2
    rw [show ((⟨#[c]⟩ : ByteArray).data.toList) = [c] from rfl, show ((⟨s.toArray⟩ : ByteArray).data.toList) = s from rfl, h3] at h1
    rw [← h1]
    simp
  have e3 : Lib.countB ⟨s.toArray⟩ ⟨#[c]⟩ + 1 = (splitOn c s).length := by
    rw [← hlen]
    have h1 := congrArg List.length (Lib.splitB_data ⟨#[c]⟩ 0 (Lib.countB ⟨s.toArray⟩ ⟨#[c]⟩) ⟨s.toArray⟩)
    rw [List.length_map] at h1
    rw [h1]
    have h2 := splitK_one c s
    exact congrArg List.length h2
  rw [e2, e3] at g
  have e221 : ∀ args w, (callFunc (ρ.f 221) args).run P w = .ok (.enter (ρ.f 221) args) w := enters_of L.f221 (by kernel_rfl) rfl
  go_enter L.f146, Body.n146_ntmps ρ
  go_wp2_with (go_at_fn (ρ.f 221); refine g.mono ?_; rintro e w' ⟨rfl, hw⟩; rw [hw])
  go_ret
  exact ⟨_, rfl, (Below.refl _ _).alloc (Nat.le_refl _) _, rep_new_strs hf (splitOn c s) (ρ.t 9)⟩

/-- The texts, one behind the other, with a text between. -/
def glueL (sep : List UInt8) : List (List UInt8) → List UInt8
  | [] => []
  | [x] => x
  | x :: r => x ++ sep ++ glueL sep r

theorem join_glue (sep : List UInt8) : ∀ l : List (List UInt8), Lib.join l sep = glueL sep l
  | [] => rfl
  | [x] => by rw [Lib.join_one]; rfl
  | x :: y :: r => by
    have ih := join_glue sep (y :: r)
    rw [Lib.join_cons] at ih ⊢
    rw [glueL, ← ih]
    · simp [Lib.joinTail]
    · simp

theorem join_ok {P : Program} {ρ : Ren} (L : Lays.n156 P ρ) (X : Builder.Extra P ρ) (he : Enters P (ρ.f 156)) (l : List (List UInt8)) (t : Tag) (sep : List UInt8) (hN : l.length ≤ 140737488355328) (hlen : (glueL sep l).length ≤ 140737488355328) :
    APure P (ρ.f 156) [.sl 1 (l.map .str) t, .str sep] (.str (glueL sep l)) := by
  refine apure_calls he fun μ F w vs hf hv => ?_
  obtain ⟨hl, hr⟩ := hv
  match vs, hl with
  | ⟨[x, y]⟩, _ =>
    have h1 := hr 0 _ x rfl rfl
    have h2 := hr 1 _ y rfl rfl
    cases h2
    obtain ⟨A, cap, ad, vals, rfl, g1, g2, g3, g4, g5, g6, g7⟩ := h1.sl_inv
    have hlen' : (l.map AV.str).length = l.length := by simp
    rw [hlen'] at g2 g3 ⊢
    by_cases h0 : l = []
    · subst h0
      refine (Any.strings_Join_none L X A cap ⟨sep.toArray⟩ w).mono ?_
      rintro e w' ⟨rfl, rfl⟩
      exact ⟨_, rfl, Below.refl _ _, .str []⟩
    · have hpos : 0 < l.length := List.length_pos_iff.2 h0
      obtain ⟨rfl, hspot⟩ := g3 hpos
      have hcell : ∀ (j : Nat) (s : List UInt8), l[j]? = some s → w.cell? ⟨ad.block, ad.off + j, none⟩ = some (.string ⟨s.toArray⟩) := by
        intro j s hs
        have k1 := g5 j (.str s) 0 (.str s) (by simp [hs]) rfl
        have k2 := g6 j (.str s) 0 (.str s) (by simp [hs]) rfl
        simp only [Nat.mul_one, Nat.add_zero] at k1 k2
        rw [k1.1]
        generalize vals j = v at k2
        cases k2
        rfl
      have hblk : ad.block < w.heap.size := by
        obtain ⟨s, hs⟩ : ∃ s, l[0]? = some s := ⟨_, List.getElem?_eq_getElem hpos⟩
        exact cell_lt (hcell 0 s hs)
      have hm : (l.map fun s => (⟨s.toArray⟩ : ByteArray)).map (·.data.toList) = l := by simp [Function.comp_def]
      have hj : Lib.join ((l.map fun s => (⟨s.toArray⟩ : ByteArray)).map (·.data.toList)) (⟨sep.toArray⟩ : ByteArray).data.toList = glueL sep l := by rw [hm]; exact join_glue sep l
      have g := Any.strings_Join L X ad.block ad.off cap (l.map fun s => (⟨s.toArray⟩ : ByteArray)) ⟨sep.toArray⟩ w (fun j b hb => by
        simp only [List.getElem?_map, Option.map_eq_some_iff] at hb
        obtain ⟨s, hs, rfl⟩ := hb
        exact hcell j s hs) hblk (by simpa using hN) (by simpa using g2) (by rw [hj]; exact hlen)
      rw [hj] at g
      simp only [List.length_map] at g
      have had : ad = ⟨ad.block, ad.off, none⟩ := by
        cases ad
        simp only at hspot
        subst hspot
        rfl
      rw [had]
      refine g.mono ?_
      rintro e w' ⟨rfl, hb⟩
      exact ⟨_, rfl, hb, .str _⟩

/-- The last place of a byte, or -1. -/
def lastAt (c : UInt8) : List UInt8 → Int
  | [] => -1
  | b :: l => if 0 ≤ lastAt c l then lastAt c l + 1 else if b = c then 0 else -1

theorem lastAt_spec (c : UInt8) : ∀ s : List UInt8, (lastAt c s = -1 ∧ ∀ (j : Nat) b, s[j]? = some b → b ≠ c) ∨
    ∃ i : Nat, lastAt c s = i ∧ s[i]? = some c ∧ ∀ (j : Nat) b, i < j → s[j]? = some b → b ≠ c
  | [] => .inl ⟨rfl, by simp⟩
  | b :: l => by
    unfold lastAt
    rcases lastAt_spec c l with ⟨h1, h2⟩ | ⟨i, h1, h2, h3⟩
    · rw [h1, if_neg (by omega)]
      by_cases hb : b = c
      · rw [if_pos hb]
        refine .inr ⟨0, rfl, by simp [hb], fun j x hj hx => ?_⟩
        cases j with
        | zero => omega
        | succ j => exact h2 j x (by simpa using hx)
      · rw [if_neg hb]
        refine .inl ⟨rfl, fun j x hx => ?_⟩
        cases j with
        | zero => simp at hx; exact hx ▸ hb
        | succ j => exact h2 j x (by simpa using hx)
    · rw [h1, if_pos (by omega)]
      refine .inr ⟨i + 1, by push_cast; rfl, by simpa using h2, fun j x hj hx => ?_⟩
      cases j with
      | zero => omega
      | succ j => exact h3 j x (by omega) (by simpa using hx)

theorem lastIndex_at (s : List UInt8) (c : UInt8) : Lib.lastIndexByte ⟨s.toArray⟩ (c.toNat : Int) = lastAt c s := by
  have hb : ∀ (j : Nat) (b : UInt8), s[j]? = some b → ((⟨s.toArray⟩ : ByteArray).data[j]!) = b := by
    intro j b h
    have hj := (List.getElem?_eq_some_iff.1 h).1
    simp [getElem!_pos, hj]
    exact (List.getElem?_eq_some_iff.1 h).2
  have hsz : (⟨s.toArray⟩ : ByteArray).size = s.length := by simp [ByteArray.size]
  have hc : ∀ b : UInt8, (b.toNat : Int) = (c.toNat : Int) → b = c := fun b h => UInt8.toNat_inj.1 (by omega)
  rcases Lib.lastIndexByte_spec ⟨s.toArray⟩ (c.toNat : Int) with ⟨h1, h2⟩ | ⟨i, hi, h1, h2, h3⟩ <;> rcases lastAt_spec c s with ⟨k1, k2⟩ | ⟨m, k1, k2, k3⟩
  · omega
  · have := h2 m (by rw [hsz]; exact (List.getElem?_eq_some_iff.1 k2).1)
    rw [hb m c k2] at this
    exact absurd rfl this
  · rw [hsz] at hi
    obtain ⟨b, hbb⟩ : ∃ b, s[i]? = some b := ⟨_, List.getElem?_eq_getElem hi⟩
    rw [hb i b hbb] at h2
    exact absurd (hc b h2) (k2 i b hbb)
  · rw [hsz] at hi
    obtain ⟨b, hbb⟩ : ∃ b, s[i]? = some b := ⟨_, List.getElem?_eq_getElem hi⟩
    have hbc : b = c := by
      rw [hb i b hbb] at h2
      exact hc b h2
    subst hbc
    have hm := (List.getElem?_eq_some_iff.1 k2).1
    have : i = m := by
      rcases Nat.lt_trichotomy i m with h | h | h
      · have := h3 m h (by rw [hsz]; exact hm)
        rw [hb m b k2] at this
        exact absurd rfl this
      · exact h
      · exact absurd rfl (k3 i b h hbb)
    rw [h1, k1, this]

theorem lastIndex_ok {P : Program} {ρ : Ren} (L : Lays.n148 P ρ) (he : Enters P (ρ.f 148)) (s : List UInt8) (c : UInt8) (hs : s.length < 4611686018427387904) : APure P (ρ.f 148) [.str s, .str [c]] (.int .i64 (lastAt c s)) := by
  refine apure_calls he fun μ F w vs hf hv => ?_
  rw [args_ss hv]
  refine (Any.strings_LastIndex_one L ⟨s.toArray⟩ ⟨#[c]⟩ rfl (by simpa [ByteArray.size] using hs) w).mono ?_
  rintro e w' ⟨rfl, rfl⟩
  refine ⟨_, rfl, Below.refl _ _, ?_⟩
  have := lastIndex_at s c
  rw [← this]
  exact .int _ _

theorem containsAny_ok {P : Program} {ρ : Ren} (L : Lays.n150 P ρ) (h116 : (P.info? (ρ.t 116)).map (fun i => (i.zero, i.size)) = some (some (.agg (Array.replicate 256 (.bool false))), 256)) (he : Enters P (ρ.f 150)) (s : List UInt8) (hs : s.length < 4294967281) :
    APure P (ρ.f 150) [.str s, .str [47, 0]] (.bool (s.any fun b => b == 47 || b == 0)) := by
  refine apure_calls he fun μ F w vs hf hv => ?_
  rw [args_ss hv, ← indexAny_neg]
  refine (containsAny_two L (zero_of_info h116).1 (zero_of_info h116).2 ⟨s.toArray⟩ w (by simpa [ByteArray.size] using hs)).mono ?_
  rintro e w' ⟨rfl, hb⟩
  exact ⟨_, rfl, hb, .bool _⟩
end Go.Ab
