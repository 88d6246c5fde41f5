/- Parts of the proof, one behind the other: AbK1, AbK2, Lays, LibA, PathA. No further condition. -/
import Derived.Shelf.Strings.IndexAnyAll
import Derived.Shelf.Small.Utf8
import Derived.Shelf.RegionOpenPlain
import Derived.Laws.RangeAny
import Derived.WalkMore
import Derived.Lib.OthersKept
import Derived.Test.YthdeopopodhimaaDoorM07
import Derived.Shelf.Strings.Split
import Derived.Shelf.Strings.LastIndex
import Derived.Shelf.Strings.OnBuilder
import Derived.Test.YthdeopopodhimaaDoorProg
import Derived.KernelRfl
set_option linter.unusedVariables false
set_option linter.unusedSimpArgs false
/- strings.IndexRune and strings.IndexAny at the two bytes "/" and 0, of any text. No further condition. -/
set_option linter.unusedVariables false
set_option linter.unusedSimpArgs false
namespace Go.Ab
open Go.Shelf Go.RowKit Go.Lib Go.Proofs
variable {P : Program} {ρ : Ren}

theorem encode_two (r : Int) (h0 : 128 ≤ r) (h1 : r ≤ 2047) : Utf8.encode r = ⟨#[UInt8.ofNat (0xC0 + r.toNat / 64), UInt8.ofNat (0x80 + r.toNat % 64)]⟩ := by
  unfold Utf8.encode
  have hv : Utf8.valid r = true := by simp [Utf8.valid]; omega
  simp only [hv, if_true]
  rw [if_neg (by omega), if_pos (by omega)]

theorem encode_long (r : Int) (h0 : 2048 ≤ r) (hv : Utf8.valid r = true) : ∃ s : ByteArray, Utf8.encode r = s ∧ 3 ≤ s.size ∧ s.size ≤ 4 := by
  refine ⟨_, rfl, ?_⟩
  unfold Utf8.encode
  simp only [hv, if_true]
  rw [if_neg (by omega), if_neg (by omega)]
  split
  · exact ⟨Nat.le_refl 3, by show 3 ≤ 4; omega⟩
  · exact ⟨by show 3 ≤ 4; omega, Nat.le_refl 4⟩

theorem conv_rune {src dst : TypeId} (hs : P.underlying src = some (.int .i32)) (hd : P.underlying dst = some .string) (r : Int) (w : World) :
    (convert src dst (.int .i32 r)).run P w = .ok (.string (Utf8.encode r)) w := by
  simp [convert, run_underlying hs, run_underlying hd, Conv.intToString]

theorem below_dn (w : World) (n : Nat) : Below w.heap.size w (w.drewN n) := ⟨rfl, rfl, rfl, Nat.le_refl _, fun _ _ => rfl⟩

set_option maxHeartbeats 4000000 in
set_option maxRecDepth 1000000 in
theorem indexRune_two (L : Lays.n152 P ρ) (r : Int) (w : World) (h0 : 128 ≤ r) (h1 : r ≤ 2047) :
    Calls P (ρ.f 152) #[.string ⟨#[47, 0]⟩, .int .i32 r] w fun e w' => e = .returned (.int .i64 (-1)) ∧ Below w.heap.size w w' := by
  have mixed := L.mixed
  have t3 := L.t3; have a3 := L.a3; have z3 := L.z3; have v3 := L.v3
  have t4 := L.t4; have a4 := L.a4; have z4 := L.z4; have v4 := L.v4
  have t5 := L.t5; have a5 := L.a5; have z5 := L.z5; have v5 := L.v5
  have t9 := L.t9; have a9 := L.a9; have z9 := L.z9; have v9 := L.v9
  have t21 := L.t21; have a21 := L.a21; have z21 := L.z21; have v21 := L.v21
  have e119 : ∀ args w, (callFunc (ρ.f 119) args).run P w = .ok (.enter (ρ.f 119) args) w := enters_of L.f119 (by kernel_rfl) rfl
  have e137 : ∀ args w, (callFunc (ρ.f 137) args).run P w = .ok (.enter (ρ.f 137) args) w := enters_of L.f137 (by kernel_rfl) rfl
  have g1 : decide (r < 128) = false := by simp; omega
  have g2 : (r == 65533) = false := by simp; omega
  have g3 : Lib.validRune r = true := by simp [Lib.validRune]; omega
  have hc := fun w => conv_rune (P := P) t21 t9 r w
  obtain ⟨b, hb, hbn⟩ : ∃ b : UInt8, UInt8.ofNat (0x80 + r.toNat % 64) = b ∧ b ≠ 0 := by
    refine ⟨_, rfl, fun h => ?_⟩
    have := congrArg UInt8.toNat h
    simp at this
    omega
  obtain ⟨a, ha⟩ : ∃ a : UInt8, UInt8.ofNat (0xC0 + r.toNat / 64) = a := ⟨_, rfl⟩
  rw [encode_two r h0 h1, hb, ha] at hc
  clear hb ha
  have hne : ((((⟨#[47, 0]⟩ : ByteArray)[1]'(by decide)).toNat : Int) != (((⟨#[a, b]⟩ : ByteArray)[1]'(by show 1 < 2; decide)).toNat : Int)) = true := by
    simp only [bne_iff_ne, ne_eq]
    intro h
    apply hbn
    apply UInt8.toNat_inj.1
    have h' : ((0 : UInt8).toNat : Int) = (b.toNat : Int) := h
    omega
  go_enter L.f152, Body.n152_ntmps ρ
  go_wp2_with (first | (go_at_fn (ρ.f 119); refine (Any.utf8_ValidRune { L with } _ _).mono ?_; rintro e w' ⟨rfl, hw⟩; rw [hw, g3]; clear hw))
  go_step3
  go_wp2
  apply wp_loop_once
  go_wp2
  go_step3
  go_wp2
  go_region_o
  all_goals go_wp2
  all_goals go_region_with_o (go_at_fn (ρ.f 137); refine (Any.strings_IndexByte { L with } _ _ _).mono ?_; rintro e w' ⟨rfl, hw⟩; rw [hw])
  all_goals go_wp2
  all_goals (change bodyPost P (Body.n152 ρ) (fun e w' => e = .returned (.int .i64 (-1)) ∧ Below w.heap.size w w') Exit.ret _ _; go_ret)
  all_goals exact ⟨rfl, below_dn w 2⟩

set_option maxHeartbeats 4000000 in
set_option maxRecDepth 1000000 in
theorem indexRune_long (L : Lays.n152 P ρ) (r : Int) (w : World) (h0 : 2048 ≤ r) (hv : Utf8.valid r = true) (hne : r ≠ 65533) :
    Calls P (ρ.f 152) #[.string ⟨#[47, 0]⟩, .int .i32 r] w fun e w' => e = .returned (.int .i64 (-1)) ∧ Below w.heap.size w w' := by
  have mixed := L.mixed
  have t3 := L.t3; have a3 := L.a3; have z3 := L.z3; have v3 := L.v3
  have t4 := L.t4; have a4 := L.a4; have z4 := L.z4; have v4 := L.v4
  have t5 := L.t5; have a5 := L.a5; have z5 := L.z5; have v5 := L.v5
  have t9 := L.t9; have a9 := L.a9; have z9 := L.z9; have v9 := L.v9
  have t21 := L.t21; have a21 := L.a21; have z21 := L.z21; have v21 := L.v21
  have e119 : ∀ args w, (callFunc (ρ.f 119) args).run P w = .ok (.enter (ρ.f 119) args) w := enters_of L.f119 (by kernel_rfl) rfl
  have g1 : decide (r < 128) = false := by simp; omega
  have g2 : (r == 65533) = false := by simpa using hne
  have g3 : Lib.validRune r = true := by
    simp [Utf8.valid] at hv
    simp [Lib.validRune]
    omega
  have hc := fun w => conv_rune (P := P) t21 t9 r w
  obtain ⟨s, hs, hl, hl4⟩ := encode_long r h0 hv
  rw [hs] at hc
  have g5 : wrap64 ((s.size : Int) - 1) = (s.size : Int) - 1 := by
    rcases (by omega : s.size = 3 ∨ s.size = 4) with h | h <;> rw [h] <;> simp [wrap64]
  have g4 : decide ((s.size : Int) - 1 < 2) = false := by simp; omega
  go_enter L.f152, Body.n152_ntmps ρ
  go_wp2_with (first | (go_at_fn (ρ.f 119); refine (Any.utf8_ValidRune { L with } _ _).mono ?_; rintro e w' ⟨rfl, hw⟩; rw [hw, g3]; clear hw))
  go_step3
  go_wp2
  apply wp_loop_once
  go_wp2
  (change bodyPost P (Body.n152 ρ) (fun e w' => e = .returned (.int .i64 (-1)) ∧ Below w.heap.size w w') Exit.ret _ _; go_ret)
  exact ⟨rfl, Below.refl _ _⟩

set_option maxHeartbeats 4000000 in
set_option maxRecDepth 1000000 in
theorem indexRune_bad (L : Lays.n152 P ρ) (r : Int) (w : World) (h0 : 2048 ≤ r) (hv : Lib.validRune r = false) :
    Calls P (ρ.f 152) #[.string ⟨#[47, 0]⟩, .int .i32 r] w fun e w' => e = .returned (.int .i64 (-1)) ∧ Below w.heap.size w w' := by
  have mixed := L.mixed
  have t3 := L.t3; have a3 := L.a3; have z3 := L.z3; have v3 := L.v3
  have t4 := L.t4; have a4 := L.a4; have z4 := L.z4; have v4 := L.v4
  have t9 := L.t9; have a9 := L.a9; have z9 := L.z9; have v9 := L.v9
  have t21 := L.t21; have a21 := L.a21; have z21 := L.z21; have v21 := L.v21
  have e119 : ∀ args w, (callFunc (ρ.f 119) args).run P w = .ok (.enter (ρ.f 119) args) w := enters_of L.f119 (by kernel_rfl) rfl
  have g1 : decide (r < 128) = false := by simp; omega
  have g2 : (r == 65533) = false := by
    simp
    rintro rfl
    cases hv
  go_enter L.f152, Body.n152_ntmps ρ
  go_wp2_with (first | (go_at_fn (ρ.f 119); refine (Any.utf8_ValidRune { L with } _ _).mono ?_; rintro e w' ⟨rfl, hw⟩; rw [hw, hv]; clear hw))
  all_goals go_ret
  all_goals exact ⟨rfl, Below.refl _ _⟩

theorem iter_below (w : World) (s : ByteArray) (p : Nat) : Below w.heap.size w (w.iter s p) := (Below.refl _ _).alloc (Nat.le_refl _) _

set_option maxHeartbeats 4000000 in
set_option maxRecDepth 1000000 in
theorem indexRune_err (L : Lays.n152 P ρ) (w : World) :
    Calls P (ρ.f 152) #[.string ⟨#[47, 0]⟩, .int .i32 65533] w fun e w' => e = .returned (.int .i64 (-1)) ∧ Below w.heap.size w w' := by
  have mixed := L.mixed
  have t3 := L.t3; have a3 := L.a3; have z3 := L.z3; have v3 := L.v3
  have t4 := L.t4; have a4 := L.a4; have z4 := L.z4; have v4 := L.v4
  have t9 := L.t9; have a9 := L.a9; have z9 := L.z9; have v9 := L.v9
  have t21 := L.t21; have a21 := L.a21; have z21 := L.z21; have v21 := L.v21
  go_enter L.f152, Body.n152_ntmps ρ
  go_wp2
  go_loopg [5, 6] 2 (fun g _ _ wx => ∃ i : Nat, i + g = 2 ∧ wx = w.iter ⟨#[47, 0]⟩ i)
  case atStart => exact ⟨0, rfl, rfl⟩
  case round =>
    obtain ⟨i, hig, rfl⟩ := hrel
    cases gk with
    | zero =>
      obtain rfl : i = 2 := by omega
      have hnx := run_next_end (P := P) w ⟨#[47, 0]⟩ 2
      go_wp2
      go_ret
      exact ⟨rfl, iter_below _ _ _⟩
    | succ g =>
      have hi : i < (⟨#[47, 0]⟩ : ByteArray).size := by show i < 2; omega
      have hx : (((⟨#[47, 0]⟩ : ByteArray)[i]'hi).toNat : Nat) < 128 := by
        rcases (by omega : i = 0 ∨ i = 1) with rfl | rfl
        · show (47 : UInt8).toNat < 128
          decide
        · show (0 : UInt8).toNat < 128
          decide
      have hnx := fun ty => run_next_ascii (P := P) w ⟨#[47, 0]⟩ i ty hi hx
      obtain ⟨x, hxe⟩ : ∃ x : Nat, ((⟨#[47, 0]⟩ : ByteArray)[i]'hi).toNat = x := ⟨_, rfl⟩
      rw [hxe] at hnx hx
      have g2 : ((x : Int) == 65533) = false := by simp; omega
      go_wp2
      go_roundg g
      case measure => omega
      case rel => exact ⟨i + 1, by omega, rfl⟩

theorem indexRune_high (L : Lays.n152 P ρ) (r : Int) (w : World) (h0 : 128 ≤ r) :
    Calls P (ρ.f 152) #[.string ⟨#[47, 0]⟩, .int .i32 r] w fun e w' => e = .returned (.int .i64 (-1)) ∧ Below w.heap.size w w' := by
  by_cases h1 : r ≤ 2047
  · exact indexRune_two L r w h0 h1
  by_cases h2 : r = 65533
  · subst h2
    exact indexRune_err L w
  cases hv : Lib.validRune r with
  | false => exact indexRune_bad L r w (by omega) hv
  | true =>
    refine indexRune_long L r w (by omega) ?_ h2
    simp [Lib.validRune] at hv
    simp [Utf8.valid]
    omega

theorem get_data (s : ByteArray) (i : Nat) (h : i < s.size) {b : UInt8} (hb : s.data.toList[i]? = some b) : s.get! i = b := by
  have h1 := get_at s i h
  have h2 := Lib.data_getElem? s i h
  rw [hb] at h2
  cases h2
  simpa using h1

/-- A step over a character that is no ASCII: all its bytes are high ones. -/
theorem decode_skip (s : ByteArray) (pos : Nat) (h : pos < s.size) (ha : 128 ≤ (s[pos]'h).toNat) :
    pos + (Utf8.decode s pos).2 ≤ s.size ∧ ∀ (j : Nat) (b : UInt8), pos ≤ j → j < pos + (Utf8.decode s pos).2 → s.data.toList[j]? = some b → 128 ≤ b.toNat := by
  have h0 : (s.get! (pos + 0)).toNat = (s[pos]'h).toNat := congrArg UInt8.toNat (get_at s pos h)
  have hn : ¬ (s[pos]'h).toNat < 128 := by omega
  have base : ∀ b : UInt8, s.data.toList[pos]? = some b → 128 ≤ b.toNat := by
    intro b hb
    have := get_data s pos h hb
    rw [← this]
    show 128 ≤ (s.get! (pos + 0)).toNat
    omega
  have one : pos + 1 ≤ s.size ∧ ∀ (j : Nat) (b : UInt8), pos ≤ j → j < pos + 1 → s.data.toList[j]? = some b → 128 ≤ b.toNat := by
    refine ⟨h, fun j b h1 h2 hb => ?_⟩
    obtain rfl : j = pos := by omega
    exact base b hb
  have cont : ∀ k, (decide (pos + k < s.size) && (s.get! (pos + k)).toNat / 64 == 2) = true → pos + k < s.size ∧ ∀ b : UInt8, s.data.toList[pos + k]? = some b → 128 ≤ b.toNat := by
    intro k hk
    simp only [Bool.and_eq_true, decide_eq_true_eq, beq_iff_eq] at hk
    refine ⟨hk.1, fun b hb => ?_⟩
    have := get_data s (pos + k) hk.1 hb
    rw [this] at hk
    omega
  unfold Utf8.decode
  simp only [h0, hn, if_false]
  split
  · rename_i h1
    simp only [Bool.and_eq_true] at h1
    obtain ⟨c1, d1⟩ := cont 1 (by simpa using h1.2)
    split
    · refine ⟨by show pos + 2 ≤ _; omega, fun j b g1 g2 hb => ?_⟩
      have g2' : j < pos + 2 := g2
      rcases (by omega : j = pos ∨ j = pos + 1) with rfl | rfl
      · exact base b hb
      · exact d1 b hb
    · exact one
  · split
    · rename_i h1
      simp only [Bool.and_eq_true] at h1
      obtain ⟨c1, d1⟩ := cont 1 (by simpa using h1.1.2)
      obtain ⟨c2, d2⟩ := cont 2 (by simpa using h1.2)
      split
      · refine ⟨by show pos + 3 ≤ _; omega, fun j b g1 g2 hb => ?_⟩
        have g2' : j < pos + 3 := g2
        rcases (by omega : j = pos ∨ j = pos + 1 ∨ j = pos + 2) with rfl | rfl | rfl
        · exact base b hb
        · exact d1 b hb
        · exact d2 b hb
      · exact one
    · split
      · rename_i h1
        simp only [Bool.and_eq_true] at h1
        obtain ⟨c1, d1⟩ := cont 1 (by simpa using h1.1.1.2)
        obtain ⟨c2, d2⟩ := cont 2 (by simpa using h1.1.2)
        obtain ⟨c3, d3⟩ := cont 3 (by simpa using h1.2)
        split
        · refine ⟨by show pos + 4 ≤ _; omega, fun j b g1 g2 hb => ?_⟩
          have g2' : j < pos + 4 := g2
          rcases (by omega : j = pos ∨ j = pos + 1 ∨ j = pos + 2 ∨ j = pos + 3) with rfl | rfl | rfl | rfl
          · exact base b hb
          · exact d1 b hb
          · exact d2 b hb
          · exact d3 b hb
        · exact one
      · exact one

theorem noany_skip {s : ByteArray} {i k : Nat} (h : NoAny s.data.toList [47, 0] i) (hk : ∀ (j : Nat) (b : UInt8), i ≤ j → j < i + k → s.data.toList[j]? = some b → 128 ≤ b.toNat) : NoAny s.data.toList [47, 0] (i + k) := by
  intro j b hj hb
  by_cases hji : j < i
  · exact h j b hji hb
  · have := hk j b (by omega) hj hb
    simp only [List.contains_eq_mem, List.mem_cons, List.not_mem_nil, or_false, decide_eq_false_iff_not, not_or]
    constructor
    · rintro rfl
      simp at this
    · rintro rfl
      simp at this

set_option maxHeartbeats 8000000 in
set_option maxRecDepth 1000000 in
theorem indexAny_short (L : Lays.n153 P ρ) (s : ByteArray) (w : World) (h8 : s.size ≤ 8) :
    Calls P (ρ.f 153) #[.string s, .string ⟨#[47, 0]⟩] w fun e w' => e = .returned (.int .i64 (Lib.indexAny s.data.toList [47, 0])) ∧ Below w.heap.size w w' := by
  have h8z : decide ((8 : Int) < (s.size : Int)) = false := decide_eq_false (by omega)
  have mixed := L.mixed
  have t3 := L.t3; have a3 := L.a3; have z3 := L.z3; have v3 := L.v3
  have t4 := L.t4; have a4 := L.a4; have z4 := L.z4; have v4 := L.v4
  have t5 := L.t5; have a5 := L.a5; have z5 := L.z5; have v5 := L.v5
  have t9 := L.t9; have a9 := L.a9; have z9 := L.z9; have v9 := L.v9
  have t21 := L.t21; have a21 := L.a21; have z21 := L.z21; have v21 := L.v21
  have e152 : ∀ args w, (callFunc (ρ.f 152) args).run P w = .ok (.enter (ρ.f 152) args) w := enters_of L.f152 (by kernel_rfl) rfl
  have e226 : ∀ args w, (callFunc (ρ.f 226) args).run P w = .ok (.enter (ρ.f 226) args) w := enters_of L.f226 (by kernel_rfl) rfl
  go_enter L.f153, Body.n153_ntmps ρ
  go_wp2_with (go_at_fn (ρ.f 226); refine (Any.strings_shouldUseASCIISet { L with } _ _).mono ?_; rintro e w' ⟨rfl, hw⟩; rw [hw, h8z])
  go_loopg [9, 10] s.size (fun g _ _ wx => ∃ i : Nat, i + g = s.size ∧ wx.heap[w.heap.size]? = some (.stringIter s i) ∧ Below w.heap.size w wx ∧ Lib.NoAny s.data.toList [47, 0] i)
  case atStart => exact ⟨0, by omega, World.iter_heap _ _ _, iter_below _ _ _, Lib.NoAny.zero _ _⟩
  case round =>
    obtain ⟨i, hig, hk, hbw, hno⟩ := hrel
    have HN : Aside (Lib.NoAny s.data.toList [47, 0] i) := hno
    have HB : Aside (Below w.heap.size w wr) := hbw
    clear hno hbw
    cases gk with
    | zero =>
      obtain rfl : i = s.size := by omega
      have hnx := fun ty => run_next_end_at (P := P) wr w.heap.size s s.size ty hk (by omega)
      go_wp2
      go_ret
      exact ⟨by rw [Lib.indexAny_none (by rw [← Lib.size_eq]; exact HN.out)]; rfl, HB.out⟩
    | succ g =>
      have hi : i < s.size := by omega
      obtain ⟨x, hx⟩ : ∃ x : UInt8, s[i]'hi = x := ⟨_, rfl⟩
      have hxl : s.data.toList[i]? = some x := by rw [← hx]; exact Lib.data_getElem? s i hi
      by_cases hlow : x.toNat < 128
      · have hnx := fun ty => run_next_ascii_at (P := P) wr w.heap.size s i ty hk hi (by rw [hx]; exact hlow)
        rw [hx] at hnx
        have HK : Aside ((wr.iterAt w.heap.size s (i + 1)).heap[w.heap.size]? = some (.stringIter s (i + 1))) := iterAt_heap wr _ s i (i + 1) hk
        have HB' : Aside (Below w.heap.size w (wr.iterAt w.heap.size s (i + 1))) := below_iterAt HB.out (Nat.le_refl _) _ _
        have Hx : Aside (s.data.toList[i]? = some x) := hxl
        clear hxl hx
        have hcon := Lib.contains_iff_indexByte [47, 0] x
        have hback : ((x.toNat : Int)).toNat.toUInt8 = x := by simp
        cases hin : ([47, 0] : List UInt8).contains x
        · rw [hin] at hcon
          have hlt : ¬ ((0 : Int) ≤ Lib.indexByte [47, 0] x) := of_decide_eq_false hcon.symm
          clear hcon
          go_wp2_with (go_at_fn (ρ.f 152); refine (Any.strings_IndexRune_ascii { L with } _ _ _ (by omega) (by omega)).mono ?_; rintro e w' ⟨rfl, hw⟩; rw [hw, hback])
          go_roundg g
          case measure => omega
          case rel => exact ⟨i + 1, by omega, HK.out, HB'.out, HN.out.succ Hx.out hin⟩
        · rw [hin] at hcon
          have hge : (0 : Int) ≤ Lib.indexByte [47, 0] x := of_decide_eq_true hcon.symm
          clear hcon
          go_wp2_with (go_at_fn (ρ.f 152); refine (Any.strings_IndexRune_ascii { L with } _ _ _ (by omega) (by omega)).mono ?_; rintro e w' ⟨rfl, hw⟩; rw [hw, hback])
          go_ret
          exact ⟨by rw [Lib.indexAny_hit HN.out Hx.out hin]; rfl, HB'.out⟩
      · have hhi : 128 ≤ (s[i]'hi).toNat := by rw [hx]; omega
        have hdh := decode_high s i hi hhi
        have hsk := decode_skip s i hi hhi
        have hnx := fun ty => run_next_any_at (P := P) wr w.heap.size s i ty hk hi
        obtain ⟨rk, hrk⟩ : ∃ rk, Utf8.decode s i = rk := ⟨_, rfl⟩
        obtain ⟨r, k⟩ := rk
        rw [hrk] at hnx hsk hdh
        simp only at hnx hsk hdh
        have HK : Aside ((wr.iterAt w.heap.size s (i + k)).heap[w.heap.size]? = some (.stringIter s (i + k))) := iterAt_heap wr _ s i (i + k) hk
        have HB' : Aside (Below w.heap.size w (wr.iterAt w.heap.size s (i + k))) := below_iterAt HB.out (Nat.le_refl _) _ _
        have HNk : Aside (Lib.NoAny s.data.toList [47, 0] (i + k)) := noany_skip HN.out hsk.2
        have hle := hsk.1
        have hlt : w.heap.size < (wr.iterAt w.heap.size s (i + k)).heap.size := (Array.getElem?_eq_some_iff.1 HK.out).1
        have HL : Aside (w.heap.size < (wr.iterAt w.heap.size s (i + k)).heap.size) := hlt
        clear hsk hx hxl hrk hlt
        go_wp2_with (go_at_fn (ρ.f 152); refine (indexRune_high { L with } _ _ (by omega)).mono ?_; rintro e w' ⟨rfl, hw⟩)
        go_roundg (s.size - (i + k))
        case measure => omega
        case rel => exact ⟨i + k, by omega, (hw.block _ HL.out).trans HK.out, HB'.out.trans (hw.mono HB'.out.size), HNk.out⟩

/-- strings.ContainsAny, of "/" and the byte 0. -/
theorem containsAny_two (L : Lays.n150 P ρ) (hv116 : ∀ w, (zeroValue (ρ.t 116)).run P w = .ok (.agg (Array.replicate 256 (.bool false))) w) (hi116 : (P.info? (ρ.t 116)).map (·.size) = some 256) (s : ByteArray) (w : World) (hs : s.size < 4294967281) :
    Calls P (ρ.f 150) #[.string s, .string ⟨#[47, 0]⟩] w fun e w' => e = .returned (.bool (decide (0 ≤ Lib.indexAny s.data.toList [47, 0]))) ∧ Below w.heap.size w w' := by
  have hac : ∀ (j : Nat) b, (⟨#[47, 0]⟩ : ByteArray).data.toList[j]? = some b → b.toNat < 128 := by
    intro j b h
    have hm : b ∈ ([47, 0] : List UInt8) := List.mem_of_getElem? h
    simp at hm
    rcases hm with rfl | rfl <;> decide
  have c : Calls P (ρ.f 153) #[.string s, .string ⟨#[47, 0]⟩] w fun e w' => e = .returned (.int .i64 (Lib.indexAny s.data.toList [47, 0])) ∧ Below w.heap.size w w' := by
    by_cases h8 : s.size ≤ 8
    · exact indexAny_short { L with } s w h8
    · refine (Any.strings_IndexAny_long { L with } hv116 hi116 s ⟨#[47, 0]⟩ w (by show 2 ≤ 2; omega) (by omega) hs (by show 2 < 4294967281; omega) hac).mono fun e w' ⟨h1, h2⟩ => ⟨h1, ?_⟩
      rw [h2]
      exact ((Below.refl _ _).alloc (Nat.le_refl _) _).alloc (by simp) _
  have t3 := L.t3; have a3 := L.a3; have z3 := L.z3; have v3 := L.v3
  have t4 := L.t4; have a4 := L.a4; have z4 := L.z4; have v4 := L.v4
  have t9 := L.t9; have a9 := L.a9; have z9 := L.z9; have v9 := L.v9
  have e153 : ∀ args w, (callFunc (ρ.f 153) args).run P w = .ok (.enter (ρ.f 153) args) w := enters_of L.f153 (by kernel_rfl) rfl
  go_enter L.f150, Body.n150_ntmps ρ
  go_wp2_with (go_at_fn (ρ.f 153); refine c.mono ?_; rintro e w' ⟨rfl, hw⟩)
  go_ret
  exact ⟨rfl, hw⟩

theorem indexAny_neg (s : List UInt8) : decide (0 ≤ Lib.indexAny s [47, 0]) = s.any fun b => b == 47 || b == 0 := by
  induction s with
  | nil => rfl
  | cons b l ih =>
    unfold Lib.indexAny
    have hc : ([47, 0] : List UInt8).contains b = (b == 47 || b == 0) := by
      simp only [List.contains_cons, List.contains_nil, Bool.or_false]
    rw [hc, List.any_cons, ← ih]
    cases hb : (b == 47 || b == 0)
    · have hge := Lib.indexAny_ge [47, 0] l
      simp only [Bool.false_eq_true, if_false, Bool.false_or]
      split
      · rename_i h
        have := beq_iff_eq.1 h
        simp [this]
      · rename_i h
        have : ¬ Lib.indexAny l [47, 0] = -1 := fun e => h (beq_iff_eq.2 e)
        apply decide_eq_decide.2
        omega
    · simp
end Go.Ab

/- The kit's contracts of Go's library, told of abstract values: strings.Split, Join, LastIndex, ContainsAny. No further condition. -/
set_option linter.unusedVariables false
set_option linter.unusedSimpArgs false
namespace Go.Ab
open Go.Shelf Go.RowKit Go.Proofs

/-- A function that lays new blocks alone, by the kit's contract. -/
theorem apure_calls {P : Program} {g : FuncId} {args : List AV} {r : AV} (he : Enters P g) (h : ∀ (μ : Mu) (F : Frm) (w : World) (vs : Array Value), Fit μ F w → RepL μ F w args vs →
    Calls P g vs w fun e w' => ∃ v, e = .returned v ∧ Below w.heap.size w w' ∧ Rep μ F w' r v) : APure P g args r := by
  intro M
  refine ⟨he, fun μ F w vs hg hv => (h μ F w vs hg.fit hv).mono ?_⟩
  rintro e w' ⟨v, rfl, hb, hr⟩
  exact ⟨μ, M, Evo.of_below μ hb, hg.below hb, r, hr, rfl, rfl⟩

theorem args_ss {μ : Mu} {F : Frm} {w : World} {a b : List UInt8} {vs : Array Value} (h : RepL μ F w [.str a, .str b] vs) : vs = #[.string ⟨a.toArray⟩, .string ⟨b.toArray⟩] := by
  obtain ⟨hl, hr⟩ := h
  match vs, hl with
  | ⟨[x, y]⟩, _ =>
    have h1 := hr 0 _ x rfl rfl
    have h2 := hr 1 _ y rfl rfl
    cases h1
    cases h2
    rfl

theorem rep_new_strs {μ : Mu} {F : Frm} {w : World} (hf : Fit μ F w) (l : List (List UInt8)) (ty : TypeId) :
    Rep μ F (w.alloc (.cells ((l.map fun s => Value.string ⟨s.toArray⟩).toArray) ty)) (.sl 1 (l.map .str) .none) (.slice (some ⟨w.heap.size, 0, none⟩) l.length l.length) := by
  have hlen : (l.map AV.str).length = l.length := by simp
  rw [← hlen]
  have key : ∀ (i : Nat) (x : AV) (j : Nat) (c : AV), (l.map AV.str)[i]? = some x → x.cells[j]? = some c → ∃ s, l[i]? = some s ∧ j = 0 ∧ c = .str s := by
    intro i x j c hx hc
    simp only [List.getElem?_map, Option.map_eq_some_iff] at hx
    obtain ⟨s, hs, rfl⟩ := hx
    cases j with
    | zero => simp [AV.cells] at hc; exact ⟨s, hs, rfl, hc.symm⟩
    | succ j => simp [AV.cells] at hc
  refine .sl 1 _ .none _ _ ⟨w.heap.size, 0, none⟩ (fun k => Value.string ⟨(l.getD k []).toArray⟩) ?_ (Nat.le_refl _) (fun _ => ⟨rfl, rfl⟩) ?_ ?_ ?_ trivial
  · intro x hx
    obtain ⟨s, _, rfl⟩ := List.mem_map.1 hx
    rfl
  · intro i x j c _ _
    rfl
  · intro i x j c hx hc
    obtain ⟨s, hs, rfl, rfl⟩ := key i x j c hx hc
    refine ⟨?_, hf.new (Nat.le_refl _)⟩
    have hb : (w.alloc (.cells ((l.map fun s => Value.string ⟨s.toArray⟩).toArray) ty)).heap[w.heap.size]? = some (.cells ((l.map fun s => Value.string ⟨s.toArray⟩).toArray) ty (0, 0)) := Array.getElem?_push_size
    rw [cell_mk hb]
    simp [hs]
  · intro i x j c hx hc
    obtain ⟨s, hs, rfl, rfl⟩ := key i x j c hx hc
    simp [hs]
    exact .str s

/-- The parts of a text, by a byte. -/
def splitOn (c : UInt8) : List UInt8 → List (List UInt8)
  | [] => [[]]
  | b :: l => if b = c then [] :: splitOn c l else
    match splitOn c l with
    | [] => [[b]]
    | p :: r => (b :: p) :: r

theorem splitOn_ne (c : UInt8) : ∀ s, splitOn c s ≠ []
  | [] => by simp [splitOn]
  | b :: l => by
    unfold splitOn
    split
    · simp
    · split <;> simp

theorem index_cons (b c : UInt8) (l : List UInt8) (h : b ≠ c) : Lib.index (b :: l) [c] = if Lib.index l [c] == -1 then -1 else Lib.index l [c] + 1 := by
  rw [Lib.index]
  have : ([c] : List UInt8).isPrefixOf (b :: l) = false := by simp [List.isPrefixOf, Ne.symm h]
  rw [this]
  simp

theorem splitK_one (c : UInt8) : ∀ s : List UInt8, Lib.splitK [c] 0 (Lib.count s [c]) s = splitOn c s
  | [] => rfl
  | b :: l => by
    have ih := splitK_one c l
    by_cases h : b = c
    · subst h
      rw [Lib.count_cons_eq, Nat.add_comm]
      have hi : Lib.index (b :: l) [b] = 0 := by rw [Lib.index]; simp [List.isPrefixOf]
      unfold Lib.splitK splitOn
      rw [if_pos rfl, hi]
      simp [ih]
    · rw [Lib.count_cons_ne b c l h]
      unfold splitOn
      rw [if_neg h, ← ih]
      cases hk : Lib.count l [c] with
      | zero => rfl
      | succ k =>
        unfold Lib.splitK
        rw [index_cons b c l h]
        by_cases hm : Lib.index l [c] = -1
        · simp [hm]
        · have hge := Lib.index_ge l [c]
          have h1 : (Lib.index l [c] == -1) = false := by simpa using hm
          have h2 : (Lib.index l [c] + 1 == -1) = false := by simp; omega
          have h3 : (Lib.index l [c] + 1).toNat = (Lib.index l [c]).toNat + 1 := by omega
          simp only [h1, h2, h3, Bool.false_eq_true, if_false]
          simp [Nat.add_right_comm]

theorem split_ok {P : Program} {ρ : Ren} (L : Lays.n146 P ρ) (hi9 : (P.info? (ρ.t 9)).map (fun i => (i.zero, i.size, i.bytes)) = some (some (.string ByteArray.empty), 1, 16)) (he : Enters P (ρ.f 146)) (s : List UInt8) (c : UInt8) (hs : s.length < 4294967281) :
    APure P (ρ.f 146) [.str s, .str [c]] (.sl 1 ((splitOn c s).map .str) .none) := by
  refine apure_calls he fun μ F w vs hf hv => ?_
  rw [args_ss hv]
  have t3 := L.t3; have t9 := L.t9; have t31 := L.t31
  have a3 := L.a3; have a9 := L.a9; have a31 := L.a31
  have z3 := L.z3; have v3 := L.v3; have z9 := L.z9; have v9 := L.v9; have z31 := L.z31; have v31 := L.v31
  have hle := Lib.countB_le ⟨#[c]⟩ (Nat.le_refl 1) (⟨s.toArray⟩ : ByteArray).size ⟨s.toArray⟩ (Nat.le_refl _)
  have hlen := Lib.splitB_all ⟨#[c]⟩ (Nat.le_refl 1) 0 _ ⟨s.toArray⟩ rfl
  have hsz : (⟨s.toArray⟩ : ByteArray).size < 4294967281 := by simpa [ByteArray.size] using hs
  have g := Any.strings_genSplit_core { L with } hi9 ⟨s.toArray⟩ ⟨#[c]⟩ 0 (-1) (Lib.countB ⟨s.toArray⟩ ⟨#[c]⟩ + 1) w hsz (Nat.le_refl 1) (Nat.zero_le _)
    (fun x cc hx => (Any.strings_Index_one { L with } x c _).mono fun e w' ⟨h1, h2⟩ => ⟨by rw [h1, Lib.indexB, Lib.index_one], h2⟩)
    ((Any.strings_Count_one { L with } ⟨s.toArray⟩ c w).mono fun e w' ⟨h1, h2⟩ => ⟨by rw [h1, Lib.countB, Lib.count_one]; rfl, h2⟩) (by decide) (by decide) (by rw [if_pos (by decide)]; omega)
  rw [Nat.add_sub_cancel, hlen] at g
  have e2 : Lib.cellsOf (Lib.splitB ⟨#[c]⟩ 0 (Lib.countB ⟨s.toArray⟩ ⟨#[c]⟩) ⟨s.toArray⟩) (Lib.countB ⟨s.toArray⟩ ⟨#[c]⟩ + 1) = ((splitOn c s).map fun s => Value.string ⟨s.toArray⟩).toArray := by
    rw [← hlen, Lib.cellsOf_full]
    have h1 := Lib.splitB_data ⟨#[c]⟩ 0 (Lib.countB ⟨s.toArray⟩ ⟨#[c]⟩) ⟨s.toArray⟩
    have h2 := splitK_one c s
    have h3 : Lib.splitK [c] 0 (Lib.countB ⟨s.toArray⟩ ⟨#[c]⟩) s = splitOn c s := h2
    rw [show ((⟨#[c]⟩ : ByteArray).data.toList) = [c] from rfl, show ((⟨s.toArray⟩ : ByteArray).data.toList) = s from rfl, h3] at h1
    rw [← h1]
    simp
  have e3 : Lib.countB ⟨s.toArray⟩ ⟨#[c]⟩ + 1 = (splitOn c s).length := by
    rw [← hlen]
    have h1 := congrArg List.length (Lib.splitB_data ⟨#[c]⟩ 0 (Lib.countB ⟨s.toArray⟩ ⟨#[c]⟩) ⟨s.toArray⟩)
    rw [List.length_map] at h1
    rw [h1]
    have h2 := splitK_one c s
    exact congrArg List.length h2
  rw [e2, e3] at g
  have e221 : ∀ args w, (callFunc (ρ.f 221) args).run P w = .ok (.enter (ρ.f 221) args) w := enters_of L.f221 (by kernel_rfl) rfl
  go_enter L.f146, Body.n146_ntmps ρ
  go_wp2_with (go_at_fn (ρ.f 221); refine g.mono ?_; rintro e w' ⟨rfl, hw⟩; rw [hw])
  go_ret
  exact ⟨_, rfl, (Below.refl _ _).alloc (Nat.le_refl _) _, rep_new_strs hf (splitOn c s) (ρ.t 9)⟩

/-- The texts, one behind the other, with a text between. -/
def glueL (sep : List UInt8) : List (List UInt8) → List UInt8
  | [] => []
  | [x] => x
  | x :: r => x ++ sep ++ glueL sep r

theorem join_glue (sep : List UInt8) : ∀ l : List (List UInt8), Lib.join l sep = glueL sep l
  | [] => rfl
  | [x] => by rw [Lib.join_one]; rfl
  | x :: y :: r => by
    have ih := join_glue sep (y :: r)
    rw [Lib.join_cons] at ih ⊢
    rw [glueL, ← ih]
    · simp [Lib.joinTail]
    · simp

theorem join_ok {P : Program} {ρ : Ren} (L : Lays.n156 P ρ) (X : Builder.Extra P ρ) (he : Enters P (ρ.f 156)) (l : List (List UInt8)) (t : Tag) (sep : List UInt8) (hN : l.length ≤ 140737488355328) (hlen : (glueL sep l).length ≤ 140737488355328) :
    APure P (ρ.f 156) [.sl 1 (l.map .str) t, .str sep] (.str (glueL sep l)) := by
  refine apure_calls he fun μ F w vs hf hv => ?_
  obtain ⟨hl, hr⟩ := hv
  match vs, hl with
  | ⟨[x, y]⟩, _ =>
    have h1 := hr 0 _ x rfl rfl
    have h2 := hr 1 _ y rfl rfl
    cases h2
    obtain ⟨A, cap, ad, vals, rfl, g1, g2, g3, g4, g5, g6, g7⟩ := h1.sl_inv
    have hlen' : (l.map AV.str).length = l.length := by simp
    rw [hlen'] at g2 g3 ⊢
    by_cases h0 : l = []
    · subst h0
      refine (Any.strings_Join_none L X A cap ⟨sep.toArray⟩ w).mono ?_
      rintro e w' ⟨rfl, rfl⟩
      exact ⟨_, rfl, Below.refl _ _, .str []⟩
    · have hpos : 0 < l.length := List.length_pos_iff.2 h0
      obtain ⟨rfl, hspot⟩ := g3 hpos
      have hcell : ∀ (j : Nat) (s : List UInt8), l[j]? = some s → w.cell? ⟨ad.block, ad.off + j, none⟩ = some (.string ⟨s.toArray⟩) := by
        intro j s hs
        have k1 := g5 j (.str s) 0 (.str s) (by simp [hs]) rfl
        have k2 := g6 j (.str s) 0 (.str s) (by simp [hs]) rfl
        simp only [Nat.mul_one, Nat.add_zero] at k1 k2
        rw [k1.1]
        generalize vals j = v at k2
        cases k2
        rfl
      have hblk : ad.block < w.heap.size := by
        obtain ⟨s, hs⟩ : ∃ s, l[0]? = some s := ⟨_, List.getElem?_eq_getElem hpos⟩
        exact cell_lt (hcell 0 s hs)
      have hm : (l.map fun s => (⟨s.toArray⟩ : ByteArray)).map (·.data.toList) = l := by simp [Function.comp_def]
      have hj : Lib.join ((l.map fun s => (⟨s.toArray⟩ : ByteArray)).map (·.data.toList)) (⟨sep.toArray⟩ : ByteArray).data.toList = glueL sep l := by rw [hm]; exact join_glue sep l
      have g := Any.strings_Join L X ad.block ad.off cap (l.map fun s => (⟨s.toArray⟩ : ByteArray)) ⟨sep.toArray⟩ w (fun j b hb => by
        simp only [List.getElem?_map, Option.map_eq_some_iff] at hb
        obtain ⟨s, hs, rfl⟩ := hb
        exact hcell j s hs) hblk (by simpa using hN) (by simpa using g2) (by rw [hj]; exact hlen)
      rw [hj] at g
      simp only [List.length_map] at g
      have had : ad = ⟨ad.block, ad.off, none⟩ := by
        cases ad
        simp only at hspot
        subst hspot
        rfl
      rw [had]
      refine g.mono ?_
      rintro e w' ⟨rfl, hb⟩
      exact ⟨_, rfl, hb, .str _⟩

/-- The last place of a byte, or -1. -/
def lastAt (c : UInt8) : List UInt8 → Int
  | [] => -1
  | b :: l => if 0 ≤ lastAt c l then lastAt c l + 1 else if b = c then 0 else -1

theorem lastAt_spec (c : UInt8) : ∀ s : List UInt8, (lastAt c s = -1 ∧ ∀ (j : Nat) b, s[j]? = some b → b ≠ c) ∨
    ∃ i : Nat, lastAt c s = i ∧ s[i]? = some c ∧ ∀ (j : Nat) b, i < j → s[j]? = some b → b ≠ c
  | [] => .inl ⟨rfl, by simp⟩
  | b :: l => by
    unfold lastAt
    rcases lastAt_spec c l with ⟨h1, h2⟩ | ⟨i, h1, h2, h3⟩
    · rw [h1, if_neg (by omega)]
      by_cases hb : b = c
      · rw [if_pos hb]
        refine .inr ⟨0, rfl, by simp [hb], fun j x hj hx => ?_⟩
        cases j with
        | zero => omega
        | succ j => exact h2 j x (by simpa using hx)
      · rw [if_neg hb]
        refine .inl ⟨rfl, fun j x hx => ?_⟩
        cases j with
        | zero => simp at hx; exact hx ▸ hb
        | succ j => exact h2 j x (by simpa using hx)
    · rw [h1, if_pos (by omega)]
      refine .inr ⟨i + 1, by push_cast; rfl, by simpa using h2, fun j x hj hx => ?_⟩
      cases j with
      | zero => omega
      | succ j => exact h3 j x (by omega) (by simpa using hx)

theorem lastIndex_at (s : List UInt8) (c : UInt8) : Lib.lastIndexByte ⟨s.toArray⟩ (c.toNat : Int) = lastAt c s := by
  have hb : ∀ (j : Nat) (b : UInt8), s[j]? = some b → ((⟨s.toArray⟩ : ByteArray).data[j]!) = b := by
    intro j b h
    have hj := (List.getElem?_eq_some_iff.1 h).1
    simp [getElem!_pos, hj]
    exact (List.getElem?_eq_some_iff.1 h).2
  have hsz : (⟨s.toArray⟩ : ByteArray).size = s.length := by simp [ByteArray.size]
  have hc : ∀ b : UInt8, (b.toNat : Int) = (c.toNat : Int) → b = c := fun b h => UInt8.toNat_inj.1 (by omega)
  rcases Lib.lastIndexByte_spec ⟨s.toArray⟩ (c.toNat : Int) with ⟨h1, h2⟩ | ⟨i, hi, h1, h2, h3⟩ <;> rcases lastAt_spec c s with ⟨k1, k2⟩ | ⟨m, k1, k2, k3⟩
  · omega
  · have := h2 m (by rw [hsz]; exact (List.getElem?_eq_some_iff.1 k2).1)
    rw [hb m c k2] at this
    exact absurd rfl this
  · rw [hsz] at hi
    obtain ⟨b, hbb⟩ : ∃ b, s[i]? = some b := ⟨_, List.getElem?_eq_getElem hi⟩
    rw [hb i b hbb] at h2
    exact absurd (hc b h2) (k2 i b hbb)
  · rw [hsz] at hi
    obtain ⟨b, hbb⟩ : ∃ b, s[i]? = some b := ⟨_, List.getElem?_eq_getElem hi⟩
    have hbc : b = c := by
      rw [hb i b hbb] at h2
      exact hc b h2
    subst hbc
    have hm := (List.getElem?_eq_some_iff.1 k2).1
    have : i = m := by
      rcases Nat.lt_trichotomy i m with h | h | h
      · have := h3 m h (by rw [hsz]; exact hm)
        rw [hb m b k2] at this
        exact absurd rfl this
      · exact h
      · exact absurd rfl (k3 i b h hbb)
    rw [h1, k1, this]

theorem lastIndex_ok {P : Program} {ρ : Ren} (L : Lays.n148 P ρ) (he : Enters P (ρ.f 148)) (s : List UInt8) (c : UInt8) (hs : s.length < 4611686018427387904) : APure P (ρ.f 148) [.str s, .str [c]] (.int .i64 (lastAt c s)) := by
  refine apure_calls he fun μ F w vs hf hv => ?_
  rw [args_ss hv]
  refine (Any.strings_LastIndex_one L ⟨s.toArray⟩ ⟨#[c]⟩ rfl (by simpa [ByteArray.size] using hs) w).mono ?_
  rintro e w' ⟨rfl, rfl⟩
  refine ⟨_, rfl, Below.refl _ _, ?_⟩
  have := lastIndex_at s c
  rw [← this]
  exact .int _ _

theorem containsAny_ok {P : Program} {ρ : Ren} (L : Lays.n150 P ρ) (h116 : (P.info? (ρ.t 116)).map (fun i => (i.zero, i.size)) = some (some (.agg (Array.replicate 256 (.bool false))), 256)) (he : Enters P (ρ.f 150)) (s : List UInt8) (hs : s.length < 4294967281) :
    APure P (ρ.f 150) [.str s, .str [47, 0]] (.bool (s.any fun b => b == 47 || b == 0)) := by
  refine apure_calls he fun μ F w vs hf hv => ?_
  rw [args_ss hv, ← indexAny_neg]
  refine (containsAny_two L (zero_of_info h116).1 (zero_of_info h116).2 ⟨s.toArray⟩ w (by simpa [ByteArray.size] using hs)).mono ?_
  rintro e w' ⟨rfl, hb⟩
  exact ⟨_, rfl, hb, .bool _⟩
end Go.Ab

/- Facts of the seat's translation on which the library's contracts lean. No further condition. -/
namespace Go.Proofs.YthdeopopodhimaaDoor
open Go.Proofs Go.Shelf
def ren : Go.Shelf.Ren := ⟨fun | 119 => 75 | 137 => 74 | 138 => 55 | 143 => 56 | 146 => 39 | 150 => 47 | 152 => 65 | 153 => 57 | 195 => 61 | 197 => 62 | 217 => 70 | 218 => 63 | 219 => 64 | 221 => 46 | 224 => 72 | 225 => 71 | 226 => 66 | 227 => 67 | 228 => 68 | 260 => 69 | 266 => 76 | 267 => 73 | 268 => 54 | 314 => 77 | n => n, fun | 0 => 0 | 3 => 3 | 4 => 4 | 5 => 5 | 9 => 9 | 21 => 21 | 31 => 82 | 46 => 112 | 51 => 119 | 105 => 102 | 116 => 107 | 117 => 108 | 119 => 115 | 124 => 114 | 138 => 117 | 139 => 118 | 146 => 120 | n => n, fun | 1 => 0 | 3 => 1 | 4 => 2 | n => n⟩
theorem lays146 : Lays.n146 Tryd.prog ren := { 
  mixed := by kernel_rfl
  f138 := Tryd.func55.trans (congrArg some (by kernel_rfl))
  f143 := Tryd.func56.trans (congrArg some (by kernel_rfl))
  f146 := Tryd.func39.trans (congrArg some (by kernel_rfl))
  f195 := Tryd.func61.trans (congrArg some (by kernel_rfl))
  f197 := Tryd.func62.trans (congrArg some (by kernel_rfl))
  f217 := Tryd.func70.trans (congrArg some (by kernel_rfl))
  f218 := Tryd.func63.trans (congrArg some (by kernel_rfl))
  f219 := Tryd.func64.trans (congrArg some (by kernel_rfl))
  f221 := Tryd.func46.trans (congrArg some (by kernel_rfl))
  f224 := Tryd.func72.trans (congrArg some (by kernel_rfl))
  f225 := Tryd.func71.trans (congrArg some (by kernel_rfl))
  f260 := Tryd.func69.trans (congrArg some (by kernel_rfl))
  f266 := Tryd.func76.trans (congrArg some (by kernel_rfl))
  f267 := Tryd.func73.trans (congrArg some (by kernel_rfl))
  f268 := Tryd.func54.trans (congrArg some (by kernel_rfl))
  f314 := Tryd.func77.trans (congrArg some (by kernel_rfl))
  t0 := Tryd.underlying0
  a0 := Tryd.isAgg0
  z0 := Tryd.sizeOf0
  v0 := Tryd.zeroValue0
  t3 := Tryd.underlying3
  a3 := Tryd.isAgg3
  z3 := Tryd.sizeOf3
  v3 := Tryd.zeroValue3
  t4 := Tryd.underlying4
  a4 := Tryd.isAgg4
  z4 := Tryd.sizeOf4
  v4 := Tryd.zeroValue4
  t5 := Tryd.underlying5
  a5 := Tryd.isAgg5
  z5 := Tryd.sizeOf5
  v5 := Tryd.zeroValue5
  t9 := Tryd.underlying9
  a9 := Tryd.isAgg9
  z9 := Tryd.sizeOf9
  v9 := Tryd.zeroValue9
  t21 := Tryd.underlying21
  a21 := Tryd.isAgg21
  z21 := Tryd.sizeOf21
  v21 := Tryd.zeroValue21
  t31 := Tryd.underlying82
  a31 := Tryd.isAgg82
  z31 := Tryd.sizeOf82
  v31 := Tryd.zeroValue82
  t46 := Tryd.underlying112
  a46 := Tryd.isAgg112
  z46 := Tryd.sizeOf112
  v46 := Tryd.zeroValue112
  t51 := Tryd.underlying119
  a51 := Tryd.isAgg119
  z51 := Tryd.sizeOf119
  v51 := Tryd.zeroValue119
  t105 := Tryd.underlying102
  a105 := Tryd.isAgg102
  z105 := Tryd.sizeOf102
  v105 := Tryd.zeroValue102
  t119 := Tryd.underlying115
  a119 := Tryd.isAgg115
  z119 := Tryd.sizeOf115
  t138 := Tryd.underlying117
  a138 := Tryd.isAgg117
  z138 := Tryd.sizeOf117
  v138 := Tryd.zeroValue117
  t139 := Tryd.underlying118
  a139 := Tryd.isAgg118
  z139 := Tryd.sizeOf118
  v139 := Tryd.zeroValue118
  t146 := Tryd.underlying120
  a146 := Tryd.isAgg120
  z146 := Tryd.sizeOf120
  v146 := Tryd.zeroValue120
  g1 := by kernel_rfl
  g3 := by kernel_rfl
  g4 := by kernel_rfl }
theorem lays150 : Lays.n150 Tryd.prog ren := { lays146 with
  f119 := Tryd.func75.trans (congrArg some (by kernel_rfl))
  f137 := Tryd.func74.trans (congrArg some (by kernel_rfl))
  f150 := Tryd.func47.trans (congrArg some (by kernel_rfl))
  f152 := Tryd.func65.trans (congrArg some (by kernel_rfl))
  f153 := Tryd.func57.trans (congrArg some (by kernel_rfl))
  f226 := Tryd.func66.trans (congrArg some (by kernel_rfl))
  f227 := Tryd.func67.trans (congrArg some (by kernel_rfl))
  f228 := Tryd.func68.trans (congrArg some (by kernel_rfl))
  t116 := Tryd.underlying107
  a116 := Tryd.isAgg107
  z116 := Tryd.sizeOf107
  t117 := Tryd.underlying108
  a117 := Tryd.isAgg108
  z117 := Tryd.sizeOf108
  v117 := Tryd.zeroValue108
  t124 := Tryd.underlying114
  a124 := Tryd.isAgg114
  z124 := Tryd.sizeOf114
  v124 := Tryd.zeroValue114 }
end Go.Proofs.YthdeopopodhimaaDoor

/- Functions of Go's library that tell what their texts say: strings.Split, Join, LastIndex, ContainsAny. No further condition. -/
set_option linter.unusedVariables false
set_option linter.unusedSimpArgs false
namespace Go.Proofs.YthdeopopodhimaaDoor
open Go.Ab

theorem split47_ok (s : Bytes) (hs : s.length < 4294967281) : APure Tryd.prog 39 [.str s, .str [47]] (.sl 1 ((splitOn 47 s).map .str) .none) :=
  split_ok lays146 (by kernel_rfl) ⟨_, _, Tryd.func39, rfl, by decide⟩ s 47 hs
theorem any470_ok (s : Bytes) (hs : s.length < 4294967281) : APure Tryd.prog 47 [.str s, .str [47, 0]] (.bool (s.any fun b => b == 47 || b == 0)) :=
  containsAny_ok lays150 (by kernel_rfl) ⟨_, _, Tryd.func47, rfl, by decide⟩ s hs
end Go.Proofs.YthdeopopodhimaaDoor

/- Which texts are names, and which are paths. No further condition. -/
set_option linter.unusedVariables false
set_option linter.unusedSimpArgs false
namespace Go.Proofs.YthdeopopodhimaaDoor
open Go.Ab

def isNameB (s : Bytes) : Bool := !(s == []) && decide (s.length ≤ 30) && !(s == [46]) && !(s == [46, 46]) && !(s.any fun b => b == 47 || b == 0)

theorem isName_ok (s : Bytes) (hs : s.length < 4294967281) : APure Tryd.prog 40 [.str s] (.bool (isNameB s)) := by
  intro M
  refine acalls_of tabOK Tryd.func40 rfl (by decide) (by simp [Tryd.f40]) ?_
  have k := any470_ok s hs
  unfold isNameB
  cases h1 : s == []
  · have n1 : (!(s == [])) = true := by rw [h1]; rfl
    cases h2 : decide (s.length ≤ 30)
    · have d2 : decide ((s.length : Int) ≤ 30) = false := by
        simp at h2 ⊢
        omega
      repeat' (first | (show DW _ _ _ _ _ _ _ _; first | refine DW_V tabs rfl rfl rfl rfl (congrArg AV.bool n1) ?_ | refine DW_V tabs rfl rfl rfl rfl (congrArg AV.bool d2) ?_ | refine DW_A tabs rfl ?_ | refine DW_nil ?_ | refine DW_lits tabOK rfl rfl rfl rfl rfl rfl rfl rfl rfl rfl rfl rfl rfl ?_ | refine DW_append_own tabOK rfl rfl rfl rfl rfl rfl rfl rfl rfl rfl rfl rfl rfl rfl rfl (by simp; omega) (by simp; omega) ?_) | (show W _ _ _ _ _ _; first | refine W_seq ?_ | refine W_text rfl (fun _ _ _ h => h) ?_ | refine W_block ?_ | refine W_skip ?_ | refine W_exit ?_ | refine W_ret ?_ | refine W_true rfl ?_ | refine W_false rfl ?_ | refine W_cond rfl (fun _ => ?_) (fun _ => ?_)))
      exact ⟨rfl, _, rfl, rfl, rfl⟩
    · have d2 : decide ((s.length : Int) ≤ 30) = true := by
        simp at h2 ⊢
        omega
      cases h3 : s == [46]
      · have n3 : (!(s == [46])) = true := by rw [h3]; rfl
        cases h4 : s == [46, 46]
        · have n4 : (!(s == [46, 46])) = true := by rw [h4]; rfl
          repeat' (first | (show DW _ _ _ _ _ _ _ _; first | refine DW_V tabs rfl rfl rfl rfl (congrArg AV.bool n1) ?_ | refine DW_V tabs rfl rfl rfl rfl (congrArg AV.bool d2) ?_ | refine DW_V tabs rfl rfl rfl rfl (congrArg AV.bool n3) ?_ | refine DW_V tabs rfl rfl rfl rfl (congrArg AV.bool n4) ?_ | refine DW_A tabs rfl ?_ | refine DW_nil ?_ | refine DW_lits tabOK rfl rfl rfl rfl rfl rfl rfl rfl rfl rfl rfl rfl rfl ?_ | refine DW_append_own tabOK rfl rfl rfl rfl rfl rfl rfl rfl rfl rfl rfl rfl rfl rfl rfl (by simp; omega) (by simp; omega) ?_) | (show W _ _ _ _ _ _; first | refine W_seq ?_ | refine W_text rfl (fun _ _ _ h => h) ?_ | refine W_block ?_ | refine W_skip ?_ | refine W_exit ?_ | refine W_ret ?_ | refine W_true rfl ?_ | refine W_false rfl ?_ | refine W_cond rfl (fun _ => ?_) (fun _ => ?_)))
          refine DW_pure rfl rfl rfl rfl rfl k ?_
          repeat' (first | (show DW _ _ _ _ _ _ _ _; first | refine DW_A tabs rfl ?_ | refine DW_nil ?_ | refine DW_lits tabOK rfl rfl rfl rfl rfl rfl rfl rfl rfl rfl rfl rfl rfl ?_ | refine DW_append_own tabOK rfl rfl rfl rfl rfl rfl rfl rfl rfl rfl rfl rfl rfl rfl rfl (by simp; omega) (by simp; omega) ?_) | (show W _ _ _ _ _ _; first | refine W_seq ?_ | refine W_text rfl (fun _ _ _ h => h) ?_ | refine W_block ?_ | refine W_skip ?_ | refine W_exit ?_ | refine W_ret ?_ | refine W_true rfl ?_ | refine W_false rfl ?_ | refine W_cond rfl (fun _ => ?_) (fun _ => ?_)))
          exact ⟨rfl, _, rfl, rfl, rfl⟩
        · have n4 : (!(s == [46, 46])) = false := by rw [h4]; rfl
          repeat' (first | (show DW _ _ _ _ _ _ _ _; first | refine DW_V tabs rfl rfl rfl rfl (congrArg AV.bool n1) ?_ | refine DW_V tabs rfl rfl rfl rfl (congrArg AV.bool d2) ?_ | refine DW_V tabs rfl rfl rfl rfl (congrArg AV.bool n3) ?_ | refine DW_V tabs rfl rfl rfl rfl (congrArg AV.bool n4) ?_ | refine DW_A tabs rfl ?_ | refine DW_nil ?_ | refine DW_lits tabOK rfl rfl rfl rfl rfl rfl rfl rfl rfl rfl rfl rfl rfl ?_ | refine DW_append_own tabOK rfl rfl rfl rfl rfl rfl rfl rfl rfl rfl rfl rfl rfl rfl rfl (by simp; omega) (by simp; omega) ?_) | (show W _ _ _ _ _ _; first | refine W_seq ?_ | refine W_text rfl (fun _ _ _ h => h) ?_ | refine W_block ?_ | refine W_skip ?_ | refine W_exit ?_ | refine W_ret ?_ | refine W_true rfl ?_ | refine W_false rfl ?_ | refine W_cond rfl (fun _ => ?_) (fun _ => ?_)))
          exact ⟨rfl, _, rfl, rfl, rfl⟩
      · have n3 : (!(s == [46])) = false := by rw [h3]; rfl
        repeat' (first | (show DW _ _ _ _ _ _ _ _; first | refine DW_V tabs rfl rfl rfl rfl (congrArg AV.bool n1) ?_ | refine DW_V tabs rfl rfl rfl rfl (congrArg AV.bool d2) ?_ | refine DW_V tabs rfl rfl rfl rfl (congrArg AV.bool n3) ?_ | refine DW_A tabs rfl ?_ | refine DW_nil ?_ | refine DW_lits tabOK rfl rfl rfl rfl rfl rfl rfl rfl rfl rfl rfl rfl rfl ?_ | refine DW_append_own tabOK rfl rfl rfl rfl rfl rfl rfl rfl rfl rfl rfl rfl rfl rfl rfl (by simp; omega) (by simp; omega) ?_) | (show W _ _ _ _ _ _; first | refine W_seq ?_ | refine W_text rfl (fun _ _ _ h => h) ?_ | refine W_block ?_ | refine W_skip ?_ | refine W_exit ?_ | refine W_ret ?_ | refine W_true rfl ?_ | refine W_false rfl ?_ | refine W_cond rfl (fun _ => ?_) (fun _ => ?_)))
        exact ⟨rfl, _, rfl, rfl, rfl⟩
  · have n1 : (!(s == [])) = false := by rw [h1]; rfl
    repeat' (first | (show DW _ _ _ _ _ _ _ _; first | refine DW_V tabs rfl rfl rfl rfl (congrArg AV.bool n1) ?_ | refine DW_A tabs rfl ?_ | refine DW_nil ?_ | refine DW_lits tabOK rfl rfl rfl rfl rfl rfl rfl rfl rfl rfl rfl rfl rfl ?_ | refine DW_append_own tabOK rfl rfl rfl rfl rfl rfl rfl rfl rfl rfl rfl rfl rfl rfl rfl (by simp; omega) (by simp; omega) ?_) | (show W _ _ _ _ _ _; first | refine W_seq ?_ | refine W_text rfl (fun _ _ _ h => h) ?_ | refine W_block ?_ | refine W_skip ?_ | refine W_exit ?_ | refine W_ret ?_ | refine W_true rfl ?_ | refine W_false rfl ?_ | refine W_cond rfl (fun _ => ?_) (fun _ => ?_)))
    exact ⟨rfl, _, rfl, rfl, rfl⟩

def isPathB (s : Bytes) : Bool := s == [] || ((splitOn 47 s).all isNameB && decide (s.length ≤ 100))

theorem splitOn_len (c : UInt8) : ∀ s : Bytes, (splitOn c s).length ≤ s.length + 1 ∧ ∀ p, p ∈ splitOn c s → p.length ≤ s.length
  | [] => ⟨by simp [splitOn], by simp [splitOn]⟩
  | b :: l => by
    have ih := splitOn_len c l
    unfold splitOn
    split
    · refine ⟨by simp; omega, fun p hp => ?_⟩
      rcases List.mem_cons.1 hp with rfl | hp
      · simp
      · have := ih.2 p hp
        simp; omega
    · split
      · simp
      · rename_i p r hr
        rw [hr] at ih
        refine ⟨by simp at ih ⊢; omega, fun q hq => ?_⟩
        rcases List.mem_cons.1 hq with rfl | hq
        · have := ih.2 p (by simp)
          simp; omega
        · have := ih.2 q (by simp [hq])
          simp; omega

theorem isPath_ok (s : Bytes) (hs : s.length < 4294967281) : APure Tryd.prog 30 [.str s] (.bool (isPathB s)) := by
  intro M
  refine acalls_of tabOK Tryd.func30 rfl (by decide) (by simp [Tryd.f30]) ?_
  have k := split47_ok s hs
  have kl := splitOn_len 47 s
  unfold isPathB
  cases h1 : s == []
  · generalize splitOn 47 s = l at k kl
    have la : ((l.map AV.str).length : Int) = (l.length : Int) := by simp
    repeat' (first | (show DW _ _ _ _ _ _ _ _; first | refine DW_V tabs rfl rfl rfl rfl (congrArg AV.bool h1) ?_ | refine DW_A tabs rfl ?_ | refine DW_nil ?_ | refine DW_lits tabOK rfl rfl rfl rfl rfl rfl rfl rfl rfl rfl rfl rfl rfl ?_ | refine DW_append_own tabOK rfl rfl rfl rfl rfl rfl rfl rfl rfl rfl rfl rfl rfl rfl rfl (by simp; omega) (by simp; omega) ?_) | (show W _ _ _ _ _ _; first | refine W_seq ?_ | refine W_text rfl (fun _ _ _ h => h) ?_ | refine W_block ?_ | refine W_skip ?_ | refine W_exit ?_ | refine W_ret ?_ | refine W_true rfl ?_ | refine W_false rfl ?_ | refine W_cond rfl (fun _ => ?_) (fun _ => ?_)))
    refine DW_pure rfl rfl rfl rfl rfl k ?_
    repeat' (first | (show DW _ _ _ _ _ _ _ _; first | refine DW_V tabs rfl rfl rfl rfl (congrArg (AV.int _) la) ?_ | refine DW_A tabs rfl ?_ | refine DW_nil ?_ | refine DW_lits tabOK rfl rfl rfl rfl rfl rfl rfl rfl rfl rfl rfl rfl rfl ?_ | refine DW_append_own tabOK rfl rfl rfl rfl rfl rfl rfl rfl rfl rfl rfl rfl rfl rfl rfl (by simp; omega) (by simp; omega) ?_) | (show W _ _ _ _ _ _; first | refine W_seq ?_ | refine W_text rfl (fun _ _ _ h => h) ?_ | refine W_block ?_ | refine W_skip ?_ | refine W_exit ?_ | refine W_ret ?_ | refine W_true rfl ?_ | refine W_false rfl ?_ | refine W_cond rfl (fun _ => ?_) (fun _ => ?_)))
    refine W_count l.length (fun i f N => N = M ∧ (l.take i).all isNameB = true ∧ f = ⟨[(0, .str s), (8, .sl 1 (l.map AV.str) .none), (9, .int .i64 (l.length : Int)), (10, .int .i64 (i : Int))], []⟩) (Nat.zero_le _) ⟨rfl, by simp, rfl⟩ (Joint.le ?_ (Mem.le_refl _)) ?_
    · skip
      repeat (refine AF.le_cons rfl ?_)
      exact AF.le_nil rfl
    · rintro i f N hi ⟨rfl, hpre, rfl⟩
      by_cases h2 : i < l.length
      · have d1 : decide ((i : Int) < (l.length : Int)) = true := by simp; omega
        have hx : l[i]? = some l[i] := List.getElem?_eq_getElem h2
        have fi := wrap_succ (i := i) (by omega)
        have ht := take_succ hx
        generalize l[i] = e at hx ht
        have he := kl.2 e (List.mem_of_getElem? hx)
        have ke := isName_ok e (by omega)
        cases h3 : isNameB e
        · have hall : l.all isNameB = false := List.all_eq_false.2 ⟨e, List.mem_of_getElem? hx, by simp [h3]⟩
          rw [h3] at ke
          rw [hall]
          repeat' (first | (show DW _ _ _ _ _ _ _ _; first | refine DW_V tabs rfl rfl rfl rfl (congrArg AV.bool d1) ?_ | refine DW_V tabs rfl rfl rfl rfl (congrArg (AV.int _) la) ?_ | refine DW_V tabs rfl rfl rfl rfl (congrArg (AV.int _) fi) ?_ | refine DW_A tabs rfl ?_ | refine DW_nil ?_ | refine DW_lits tabOK rfl rfl rfl rfl rfl rfl rfl rfl rfl rfl rfl rfl rfl ?_ | refine DW_append_own tabOK rfl rfl rfl rfl rfl rfl rfl rfl rfl rfl rfl rfl rfl rfl rfl (by simp; omega) (by simp; omega) ?_) | (show W _ _ _ _ _ _; first | refine W_seq ?_ | refine W_text rfl (fun _ _ _ h => h) ?_ | refine W_block ?_ | refine W_skip ?_ | refine W_exit ?_ | refine W_ret ?_ | refine W_true rfl ?_ | refine W_false rfl ?_ | refine W_cond rfl (fun _ => ?_) (fun _ => ?_)))
          refine DW_index tabOK rfl rfl rfl rfl rfl rfl rfl rfl rfl rfl (Int.natCast_nonneg _) (map_get hx) ?_
          repeat' (first | (show DW _ _ _ _ _ _ _ _; first | refine DW_V tabs rfl rfl rfl rfl (congrArg AV.bool d1) ?_ | refine DW_V tabs rfl rfl rfl rfl (congrArg (AV.int _) la) ?_ | refine DW_V tabs rfl rfl rfl rfl (congrArg (AV.int _) fi) ?_ | refine DW_A tabs rfl ?_ | refine DW_nil ?_ | refine DW_lits tabOK rfl rfl rfl rfl rfl rfl rfl rfl rfl rfl rfl rfl rfl ?_ | refine DW_append_own tabOK rfl rfl rfl rfl rfl rfl rfl rfl rfl rfl rfl rfl rfl rfl rfl (by simp; omega) (by simp; omega) ?_) | (show W _ _ _ _ _ _; first | refine W_seq ?_ | refine W_text rfl (fun _ _ _ h => h) ?_ | refine W_block ?_ | refine W_skip ?_ | refine W_exit ?_ | refine W_ret ?_ | refine W_true rfl ?_ | refine W_false rfl ?_ | refine W_cond rfl (fun _ => ?_) (fun _ => ?_)))
          refine DW_pure rfl rfl rfl rfl rfl ke ?_
          repeat' (first | (show DW _ _ _ _ _ _ _ _; first | refine DW_V tabs rfl rfl rfl rfl (congrArg (AV.int _) la) ?_ | refine DW_V tabs rfl rfl rfl rfl (congrArg (AV.int _) fi) ?_ | refine DW_A tabs rfl ?_ | refine DW_nil ?_ | refine DW_lits tabOK rfl rfl rfl rfl rfl rfl rfl rfl rfl rfl rfl rfl rfl ?_ | refine DW_append_own tabOK rfl rfl rfl rfl rfl rfl rfl rfl rfl rfl rfl rfl rfl rfl rfl (by simp; omega) (by simp; omega) ?_) | (show W _ _ _ _ _ _; first | refine W_seq ?_ | refine W_text rfl (fun _ _ _ h => h) ?_ | refine W_block ?_ | refine W_skip ?_ | refine W_exit ?_ | refine W_ret ?_ | refine W_true rfl ?_ | refine W_false rfl ?_ | refine W_cond rfl (fun _ => ?_) (fun _ => ?_)))
          exact ⟨rfl, _, rfl, rfl, rfl⟩
        · rw [h3] at ke
          repeat' (first | (show DW _ _ _ _ _ _ _ _; first | refine DW_V tabs rfl rfl rfl rfl (congrArg AV.bool d1) ?_ | refine DW_V tabs rfl rfl rfl rfl (congrArg (AV.int _) la) ?_ | refine DW_V tabs rfl rfl rfl rfl (congrArg (AV.int _) fi) ?_ | refine DW_A tabs rfl ?_ | refine DW_nil ?_ | refine DW_lits tabOK rfl rfl rfl rfl rfl rfl rfl rfl rfl rfl rfl rfl rfl ?_ | refine DW_append_own tabOK rfl rfl rfl rfl rfl rfl rfl rfl rfl rfl rfl rfl rfl rfl rfl (by simp; omega) (by simp; omega) ?_) | (show W _ _ _ _ _ _; first | refine W_seq ?_ | refine W_text rfl (fun _ _ _ h => h) ?_ | refine W_block ?_ | refine W_skip ?_ | refine W_exit ?_ | refine W_ret ?_ | refine W_true rfl ?_ | refine W_false rfl ?_ | refine W_cond rfl (fun _ => ?_) (fun _ => ?_)))
          refine DW_index tabOK rfl rfl rfl rfl rfl rfl rfl rfl rfl rfl (Int.natCast_nonneg _) (map_get hx) ?_
          repeat' (first | (show DW _ _ _ _ _ _ _ _; first | refine DW_V tabs rfl rfl rfl rfl (congrArg AV.bool d1) ?_ | refine DW_V tabs rfl rfl rfl rfl (congrArg (AV.int _) la) ?_ | refine DW_V tabs rfl rfl rfl rfl (congrArg (AV.int _) fi) ?_ | refine DW_A tabs rfl ?_ | refine DW_nil ?_ | refine DW_lits tabOK rfl rfl rfl rfl rfl rfl rfl rfl rfl rfl rfl rfl rfl ?_ | refine DW_append_own tabOK rfl rfl rfl rfl rfl rfl rfl rfl rfl rfl rfl rfl rfl rfl rfl (by simp; omega) (by simp; omega) ?_) | (show W _ _ _ _ _ _; first | refine W_seq ?_ | refine W_text rfl (fun _ _ _ h => h) ?_ | refine W_block ?_ | refine W_skip ?_ | refine W_exit ?_ | refine W_ret ?_ | refine W_true rfl ?_ | refine W_false rfl ?_ | refine W_cond rfl (fun _ => ?_) (fun _ => ?_)))
          refine DW_pure rfl rfl rfl rfl rfl ke ?_
          repeat' (first | (show DW _ _ _ _ _ _ _ _; first | refine DW_V tabs rfl rfl rfl rfl (congrArg (AV.int _) la) ?_ | refine DW_V tabs rfl rfl rfl rfl (congrArg (AV.int _) fi) ?_ | refine DW_A tabs rfl ?_ | refine DW_nil ?_ | refine DW_lits tabOK rfl rfl rfl rfl rfl rfl rfl rfl rfl rfl rfl rfl rfl ?_ | refine DW_append_own tabOK rfl rfl rfl rfl rfl rfl rfl rfl rfl rfl rfl rfl rfl rfl rfl (by simp; omega) (by simp; omega) ?_) | (show W _ _ _ _ _ _; first | refine W_seq ?_ | refine W_text rfl (fun _ _ _ h => h) ?_ | refine W_block ?_ | refine W_skip ?_ | refine W_exit ?_ | refine W_ret ?_ | refine W_true rfl ?_ | refine W_false rfl ?_ | refine W_cond rfl (fun _ => ?_) (fun _ => ?_)))
          refine ⟨h2, _, _, ⟨rfl, ?_, rfl⟩, Joint.le ?_ (Mem.le_refl _)⟩
          · rw [ht, List.all_append, hpre]
            simp [h3]
          · skip
            repeat (refine AF.le_cons rfl ?_)
            exact AF.le_nil rfl
      · have d1 : decide ((i : Int) < (l.length : Int)) = false := by simp; omega
        have hl2 : l.take i = l := List.take_of_length_le (by omega)
        rw [hl2] at hpre
        rw [hpre]
        repeat' (first | (show DW _ _ _ _ _ _ _ _; first | refine DW_V tabs rfl rfl rfl rfl (congrArg AV.bool d1) ?_ | refine DW_V tabs rfl rfl rfl rfl (congrArg (AV.int _) la) ?_ | refine DW_A tabs rfl ?_ | refine DW_nil ?_ | refine DW_lits tabOK rfl rfl rfl rfl rfl rfl rfl rfl rfl rfl rfl rfl rfl ?_ | refine DW_append_own tabOK rfl rfl rfl rfl rfl rfl rfl rfl rfl rfl rfl rfl rfl rfl rfl (by simp; omega) (by simp; omega) ?_) | (show W _ _ _ _ _ _; first | refine W_seq ?_ | refine W_text rfl (fun _ _ _ h => h) ?_ | refine W_block ?_ | refine W_skip ?_ | refine W_exit ?_ | refine W_ret ?_ | refine W_true rfl ?_ | refine W_false rfl ?_ | refine W_cond rfl (fun _ => ?_) (fun _ => ?_)))
        exact ⟨rfl, _, rfl, ret_bool (by rw [Bool.true_and, Bool.false_or]; exact decide_eq_decide.2 (by omega)), rfl⟩
  · repeat' (first | (show DW _ _ _ _ _ _ _ _; first | refine DW_V tabs rfl rfl rfl rfl (congrArg AV.bool h1) ?_ | refine DW_A tabs rfl ?_ | refine DW_nil ?_ | refine DW_lits tabOK rfl rfl rfl rfl rfl rfl rfl rfl rfl rfl rfl rfl rfl ?_ | refine DW_append_own tabOK rfl rfl rfl rfl rfl rfl rfl rfl rfl rfl rfl rfl rfl rfl rfl (by simp; omega) (by simp; omega) ?_) | (show W _ _ _ _ _ _; first | refine W_seq ?_ | refine W_text rfl (fun _ _ _ h => h) ?_ | refine W_block ?_ | refine W_skip ?_ | refine W_exit ?_ | refine W_ret ?_ | refine W_true rfl ?_ | refine W_false rfl ?_ | refine W_cond rfl (fun _ => ?_) (fun _ => ?_)))
    exact ⟨rfl, _, rfl, rfl, rfl⟩
end Go.Proofs.YthdeopopodhimaaDoor
