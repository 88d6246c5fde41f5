/- Parts of the proof, one behind the other: AbK2, Lays, AbG6. No further condition. -/
import Derived.Test.YtmgkebghojhocaaGreatDoorQV11
import Derived.Test.YtmgkebghojhocaaGreatDoorQV14
import Derived.Shelf.Strings.Split
import Derived.Shelf.Strings.LastIndex
import Derived.Shelf.Strings.OnBuilder
import Derived.Test.YtmgkebghojhocaaGreatDoorProg
import Derived.KernelRfl
set_option linter.unusedVariables false
set_option linter.unusedSimpArgs false
/- The kit's contracts of Go's library, told of abstract values: strings.Split, Join, LastIndex, ContainsAny. No further condition. -/
set_option linter.unusedVariables false
set_option linter.unusedSimpArgs false
namespace Go.Ab
open Go.Shelf Go.RowKit Go.Proofs
/-- A function that lays new blocks alone, by the kit's contract. -/
theorem apure_calls {P : Program} {g : FuncId} {args : List AV} {r : AV} (he : Enters P g) (h : ∀ (μ : Mu) (F : Frm) (w : World) (vs : Array Value), Fit μ F w → RepL μ F w args vs →
  Calls P g vs w fun e w' => ∃ v, e = .returned v ∧ Below w.heap.size w w' ∧ Rep μ F w' r v) : APure P g args r := by
 intro M
 refine ⟨he, fun μ F w vs hg hv => (h μ F w vs hg.fit hv).mono ?_⟩
 rintro e w' ⟨v, rfl, hb, hr⟩
 exact ⟨μ, M, Evo.of_below μ hb, hg.below hb, r, hr, rfl, rfl⟩
theorem args_ss {μ : Mu} {F : Frm} {w : World} {a b : List UInt8} {vs : Array Value} (h : RepL μ F w [.str a, .str b] vs) : vs = #[.string ⟨a.toArray⟩, .string ⟨b.toArray⟩] := by
 obtain ⟨hl, hr⟩ := h
 match vs, hl with
 | ⟨[x, y]⟩, _ =>
  have h1 := hr 0 _ x rfl rfl
  have h2 := hr 1 _ y rfl rfl
  cases h1
  cases h2
  rfl
theorem rep_new_strs {μ : Mu} {F : Frm} {w : World} (hf : Fit μ F w) (l : List (List UInt8)) (ty : TypeId) :
  Rep μ F (w.alloc (.cells ((l.map fun s => Value.string ⟨s.toArray⟩).toArray) ty)) (.sl 1 (l.map .str) .none) (.slice (some ⟨w.heap.size, 0, none⟩) l.length l.length) := by
 have hlen : (l.map AV.str).length = l.length := by simp
 rw [← hlen]
 have key : ∀ (i : Nat) (x : AV) (j : Nat) (c : AV), (l.map AV.str)[i]? = some x → x.cells[j]? = some c → ∃ s, l[i]? = some s ∧ j = 0 ∧ c = .str s := by
  intro i x j c hx hc
  simp only [List.getElem?_map, Option.map_eq_some_iff] at hx
  obtain ⟨s, hs, rfl⟩ := hx
  cases j with
  | zero => simp [AV.cells] at hc; exact ⟨s, hs, rfl, hc.symm⟩
  | succ j => simp [AV.cells] at hc
 refine .sl 1 _ .none _ _ ⟨w.heap.size, 0, none⟩ (fun k => Value.string ⟨(l.getD k []).toArray⟩) ?_ (Nat.le_refl _) (fun _ => ⟨rfl, rfl⟩) ?_ ?_ ?_ trivial
 ·intro x hx
  obtain ⟨s, _, rfl⟩ := List.mem_map.1 hx
  rfl
 ·intro i x j c _ _
  rfl
 ·intro i x j c hx hc
  obtain ⟨s, hs, rfl, rfl⟩ := key i x j c hx hc
  refine ⟨?_, hf.new (Nat.le_refl _)⟩
  have hb : (w.alloc (.cells ((l.map fun s => Value.string ⟨s.toArray⟩).toArray) ty)).heap[w.heap.size]? = some (.cells ((l.map fun s => Value.string ⟨s.toArray⟩).toArray) ty (0, 0)) := Array.getElem?_push_size
  rw [cell_mk hb]
  simp [hs]
 ·intro i x j c hx hc
  obtain ⟨s, hs, rfl, rfl⟩ := key i x j c hx hc
  simp [hs]
  exact .str s
/-- The parts of a text, by a byte. -/
def splitOn (c : UInt8) : List UInt8 → List (List UInt8)
 | [] => [[]]
 | b :: l => if b = c then [] :: splitOn c l else
  match splitOn c l with
  | [] => [[b]]
  | p :: r => (b :: p) :: r
theorem index_cons (b c : UInt8) (l : List UInt8) (h : b ≠ c) : Lib.index (b :: l) [c] = if Lib.index l [c] == -1 then -1 else Lib.index l [c] + 1 := by
 rw [Lib.index]
 have : ([c] : List UInt8).isPrefixOf (b :: l) = false := by simp [List.isPrefixOf, Ne.symm h]
 rw [this]
 simp
theorem splitK_one (c : UInt8) : ∀ s : List UInt8, Lib.splitK [c] 0 (Lib.count s [c]) s = splitOn c s
 | [] => rfl
 | b :: l => by
  have ih := splitK_one c l
  by_cases h : b = c
  ·subst h
   rw [Lib.count_cons_eq, Nat.add_comm]
   have hi : Lib.index (b :: l) [b] = 0 := by rw [Lib.index]; simp [List.isPrefixOf]
   unfold Lib.splitK splitOn
   rw [if_pos rfl, hi]
   simp [ih]
  ·rw [Lib.count_cons_ne b c l h]
   unfold splitOn
   rw [if_neg h, ← ih]
   cases hk : Lib.count l [c] with
   | zero => rfl
   | succ k =>
    unfold Lib.splitK
    rw [index_cons b c l h]
    by_cases hm : Lib.index l [c] = -1
    ·simp [hm]
    ·have hge := Lib.index_ge l [c]
     have h1 : (Lib.index l [c] == -1) = false := by simpa using hm
     have h2 : (Lib.index l [c] + 1 == -1) = false := by simp; omega
     have h3 : (Lib.index l [c] + 1).toNat = (Lib.index l [c]).toNat + 1 := by omega
     simp only [h1, h2, h3, Bool.false_eq_true, if_false]
     simp [Nat.add_right_comm]
theorem split_ok {P : Program} {ρ : Ren} (L : Lays.n146 P ρ) (hi9 : (P.info? (ρ.t 9)).map (fun i => (i.zero, i.size, i.bytes)) = some (some (.string ByteArray.empty), 1, 16)) (he : Enters P (ρ.f 146)) (s : List UInt8) (c : UInt8) (hs : s.length < 4294967281) :
  APure P (ρ.f 146) [.str s, .str [c]] (.sl 1 ((splitOn c s).map .str) .none) := by
 refine apure_calls he fun μ F w vs hf hv => ?_
 rw [args_ss hv]
 have t3 := L.t3; have t9 := L.t9; have t31 := L.t31
 have a3 := L.a3; have a9 := L.a9; have a31 := L.a31
 have z3 := L.z3; have v3 := L.v3; have z9 := L.z9; have v9 := L.v9; have z31 := L.z31; have v31 := L.v31
 have hle := Lib.countB_le ⟨#[c]⟩ (Nat.le_refl 1) (⟨s.toArray⟩ : ByteArray).size ⟨s.toArray⟩ (Nat.le_refl _)
 have hlen := Lib.splitB_all ⟨#[c]⟩ (Nat.le_refl 1) 0 _ ⟨s.toArray⟩ rfl
 have hsz : (⟨s.toArray⟩ : ByteArray).size < 4294967281 := by simpa [ByteArray.size] using hs
 have g := Any.strings_genSplit_core { L with } hi9 ⟨s.toArray⟩ ⟨#[c]⟩ 0 (-1) (Lib.countB ⟨s.toArray⟩ ⟨#[c]⟩ + 1) w hsz (Nat.le_refl 1) (Nat.zero_le _)
  (fun x cc hx => (Any.strings_Index_one { L with } x c _).mono fun e w' ⟨h1, h2⟩ => ⟨by rw [h1, Lib.indexB, Lib.index_one], h2⟩)
  ((Any.strings_Count_one { L with } ⟨s.toArray⟩ c w).mono fun e w' ⟨h1, h2⟩ => ⟨by rw [h1, Lib.countB, Lib.count_one]; rfl, h2⟩) (by decide) (by decide) (by rw [if_pos (by decide)]; omega)
 rw [Nat.add_sub_cancel, hlen] at g
 have e2 : Lib.cellsOf (Lib.splitB ⟨#[c]⟩ 0 (Lib.countB ⟨s.toArray⟩ ⟨#[c]⟩) ⟨s.toArray⟩) (Lib.countB ⟨s.toArray⟩ ⟨#[c]⟩ + 1) = ((splitOn c s).map fun s => Value.string ⟨s.toArray⟩).toArray := by
  rw [← hlen, Lib.cellsOf_full]
  have h1 := Lib.splitB_data ⟨#[c]⟩ 0 (Lib.countB ⟨s.toArray⟩ ⟨#[c]⟩) ⟨s.toArray⟩
  have h2 := splitK_one c s
  have h3 : Lib.splitK [c] 0 (Lib.countB ⟨s.toArray⟩ ⟨#[c]⟩) s = splitOn c s := h2
  rw [show ((⟨#[c]⟩ : ByteArray).data.toList) = [c] from rfl, show ((⟨s.toArray⟩ : ByteArray).data.toList) = s from rfl, h3] at h1
  rw [← h1]
  simp
 have e3 : Lib.countB ⟨s.toArray⟩ ⟨#[c]⟩ + 1 = (splitOn c s).length := by
  rw [← hlen]
  have h1 := congrArg List.length (Lib.splitB_data ⟨#[c]⟩ 0 (Lib.countB ⟨s.toArray⟩ ⟨#[c]⟩) ⟨s.toArray⟩)
  rw [List.length_map] at h1
  rw [h1]
  have h2 := splitK_one c s
  exact congrArg List.length h2
 rw [e2, e3] at g
 have e221 : ∀ args w, (callFunc (ρ.f 221) args).run P w = .ok (.enter (ρ.f 221) args) w := enters_of L.f221 (by kernel_rfl) rfl
 go_enter L.f146, Body.n146_ntmps ρ
 go_wp2_with (go_at_fn (ρ.f 221); refine g.mono ?_; rintro e w' ⟨rfl, hw⟩; rw [hw])
 go_ret
 exact ⟨_, rfl, (Below.refl _ _).alloc (Nat.le_refl _) _, rep_new_strs hf (splitOn c s) (ρ.t 9)⟩
/-- The last place of a byte, or -1. -/
def lastAt (c : UInt8) : List UInt8 → Int
 | [] => -1
 | b :: l => if 0 ≤ lastAt c l then lastAt c l + 1 else if b = c then 0 else -1
theorem containsAny_ok {P : Program} {ρ : Ren} (L : Lays.n150 P ρ) (h116 : (P.info? (ρ.t 116)).map (fun i => (i.zero, i.size)) = some (some (.agg (Array.replicate 256 (.bool false))), 256)) (he : Enters P (ρ.f 150)) (s : List UInt8) (hs : s.length < 4294967281) :
  APure P (ρ.f 150) [.str s, .str [47, 0]] (.bool (s.any fun b => b == 47 || b == 0)) := by
 refine apure_calls he fun μ F w vs hf hv => ?_
 rw [args_ss hv, ← indexAny_neg]
 refine (containsAny_two L (zero_of_info h116).1 (zero_of_info h116).2 ⟨s.toArray⟩ w (by simpa [ByteArray.size] using hs)).mono ?_
 rintro e w' ⟨rfl, hb⟩
 exact ⟨_, rfl, hb, .bool _⟩
end Go.Ab
/- Facts of the seat's translation on which the library's contracts lean. No further condition. -/
namespace Go.Proofs.YtmgkebghojhocaaGreatDoor
open Go.Proofs Go.Shelf
def ren : Go.Shelf.Ren := ⟨fun | 119 => 210 | 137 => 209 | 138 => 190 | 143 => 191 | 146 => 165 | 150 => 180 | 152 => 200 | 153 => 192 | 169 => 114 | 195 => 196 | 197 => 197 | 217 => 205 | 218 => 198 | 219 => 199 | 221 => 179 | 224 => 207 | 225 => 206 | 226 => 201 | 227 => 202 | 228 => 203 | 240 => 147 | 260 => 204 | 266 => 211 | 267 => 208 | 268 => 189 | 276 => 170 | 314 => 212 | n => n, fun | 0 => 0 | 3 => 3 | 4 => 4 | 5 => 5 | 9 => 9 | 20 => 20 | 21 => 21 | 31 => 29 | 37 => 170 | 46 => 224 | 51 => 269 | 70 => 169 | 72 => 172 | 105 => 254 | 116 => 259 | 117 => 260 | 119 => 265 | 124 => 264 | 127 => 221 | 138 => 267 | 139 => 268 | 146 => 270 | 164 => 236 | n => n, fun | 1 => 0 | 3 => 1 | 4 => 2 | n => n⟩
theorem lays146 : Lays.n146 Tryz.prog ren := { 
 mixed := by kernel_rfl
 f138 := Tryz.func190.trans (congrArg some (by kernel_rfl))
 f143 := Tryz.func191.trans (congrArg some (by kernel_rfl))
 f146 := Tryz.func165.trans (congrArg some (by kernel_rfl))
 f195 := Tryz.func196.trans (congrArg some (by kernel_rfl))
 f197 := Tryz.func197.trans (congrArg some (by kernel_rfl))
 f217 := Tryz.func205.trans (congrArg some (by kernel_rfl))
 f218 := Tryz.func198.trans (congrArg some (by kernel_rfl))
 f219 := Tryz.func199.trans (congrArg some (by kernel_rfl))
 f221 := Tryz.func179.trans (congrArg some (by kernel_rfl))
 f224 := Tryz.func207.trans (congrArg some (by kernel_rfl))
 f225 := Tryz.func206.trans (congrArg some (by kernel_rfl))
 f260 := Tryz.func204.trans (congrArg some (by kernel_rfl))
 f266 := Tryz.func211.trans (congrArg some (by kernel_rfl))
 f267 := Tryz.func208.trans (congrArg some (by kernel_rfl))
 f268 := Tryz.func189.trans (congrArg some (by kernel_rfl))
 f314 := Tryz.func212.trans (congrArg some (by kernel_rfl))
 t0 := Tryz.underlying0
 a0 := Tryz.isAgg0
 z0 := Tryz.sizeOf0
 v0 := Tryz.zeroValue0
 t3 := Tryz.underlying3
 a3 := Tryz.isAgg3
 z3 := Tryz.sizeOf3
 v3 := Tryz.zeroValue3
 t4 := Tryz.underlying4
 a4 := Tryz.isAgg4
 z4 := Tryz.sizeOf4
 v4 := Tryz.zeroValue4
 t5 := Tryz.underlying5
 a5 := Tryz.isAgg5
 z5 := Tryz.sizeOf5
 v5 := Tryz.zeroValue5
 t9 := Tryz.underlying9
 a9 := Tryz.isAgg9
 z9 := Tryz.sizeOf9
 v9 := Tryz.zeroValue9
 t21 := Tryz.underlying21
 a21 := Tryz.isAgg21
 z21 := Tryz.sizeOf21
 v21 := Tryz.zeroValue21
 t31 := Tryz.underlying29
 a31 := Tryz.isAgg29
 z31 := Tryz.sizeOf29
 v31 := Tryz.zeroValue29
 t46 := Tryz.underlying224
 a46 := Tryz.isAgg224
 z46 := Tryz.sizeOf224
 v46 := Tryz.zeroValue224
 t51 := Tryz.underlying269
 a51 := Tryz.isAgg269
 z51 := Tryz.sizeOf269
 v51 := Tryz.zeroValue269
 t105 := Tryz.underlying254
 a105 := Tryz.isAgg254
 z105 := Tryz.sizeOf254
 v105 := Tryz.zeroValue254
 t119 := Tryz.underlying265
 a119 := Tryz.isAgg265
 z119 := Tryz.sizeOf265
 t138 := Tryz.underlying267
 a138 := Tryz.isAgg267
 z138 := Tryz.sizeOf267
 v138 := Tryz.zeroValue267
 t139 := Tryz.underlying268
 a139 := Tryz.isAgg268
 z139 := Tryz.sizeOf268
 v139 := Tryz.zeroValue268
 t146 := Tryz.underlying270
 a146 := Tryz.isAgg270
 z146 := Tryz.sizeOf270
 v146 := Tryz.zeroValue270
 g1 := by kernel_rfl
 g3 := by kernel_rfl
 g4 := by kernel_rfl }
theorem lays150 : Lays.n150 Tryz.prog ren := { lays146 with
 f119 := Tryz.func210.trans (congrArg some (by kernel_rfl))
 f137 := Tryz.func209.trans (congrArg some (by kernel_rfl))
 f150 := Tryz.func180.trans (congrArg some (by kernel_rfl))
 f152 := Tryz.func200.trans (congrArg some (by kernel_rfl))
 f153 := Tryz.func192.trans (congrArg some (by kernel_rfl))
 f226 := Tryz.func201.trans (congrArg some (by kernel_rfl))
 f227 := Tryz.func202.trans (congrArg some (by kernel_rfl))
 f228 := Tryz.func203.trans (congrArg some (by kernel_rfl))
 t116 := Tryz.underlying259
 a116 := Tryz.isAgg259
 z116 := Tryz.sizeOf259
 t117 := Tryz.underlying260
 a117 := Tryz.isAgg260
 z117 := Tryz.sizeOf260
 v117 := Tryz.zeroValue260
 t124 := Tryz.underlying264
 a124 := Tryz.isAgg264
 z124 := Tryz.sizeOf264
 v124 := Tryz.zeroValue264 }
theorem lays240 : Lays.n240 Tryz.prog ren := { lays150 with
 f240 := Tryz.func147.trans (congrArg some (by kernel_rfl))
 f276 := Tryz.func170.trans (congrArg some (by kernel_rfl))
 t20 := Tryz.underlying20
 a20 := Tryz.isAgg20
 z20 := Tryz.sizeOf20
 v20 := Tryz.zeroValue20
 t70 := Tryz.underlying169
 a70 := Tryz.isAgg169
 z70 := Tryz.sizeOf169
 v70 := Tryz.zeroValue169
 t72 := Tryz.underlying172
 a72 := Tryz.isAgg172
 z72 := Tryz.sizeOf172
 v72 := Tryz.zeroValue172
 t164 := Tryz.underlying236
 a164 := Tryz.isAgg236
 z164 := Tryz.sizeOf236
 v164 := Tryz.zeroValue236 }
theorem lays169 : Lays.n169 Tryz.prog ren := { lays240, lays150 with
 f169 := Tryz.func114.trans (congrArg some (by kernel_rfl))
 t37 := Tryz.underlying170
 a37 := Tryz.isAgg170
 z37 := Tryz.sizeOf170
 v37 := Tryz.zeroValue170
 t127 := Tryz.underlying221
 a127 := Tryz.isAgg221
 z127 := Tryz.sizeOf221
 v127 := Tryz.zeroValue221 }
theorem laysX : Builder.Extra Tryz.prog ren := { lays146, lays150 with
 sizeBuilder := by kernel_rfl
 liesBuilder := by kernel_rfl
 infoByte := by kernel_rfl
 cellsByte := by kernel_rfl
 sizeByte := by kernel_rfl
 neB5 := by decide }
end Go.Proofs.YtmgkebghojhocaaGreatDoor
/- Bytes that a token holds whole: strings appended to them. -/
set_option linter.unusedVariables false
set_option linter.unusedSimpArgs false
namespace Go.Ab
open Go.RowKit
/-- The bytes' block, of generation g. -/
def bufO (g : Nat) (e : TypeId) (c : Array Value) : AObj := .raw (some g) (.cells c e (0, 0)) #[] []
structure BufIs (c : Array Value) (bs : List UInt8) (cap : Nat) : Prop where
 size : c.size = cap
 le : bs.length ≤ cap
 at_ : ∀ (i : Nat) (x : UInt8), bs[i]? = some x → c[i]? = some (.int .u8 x.toNat)
theorem gam_rebuf {μ : Mu} {F : Frm} {M : Mem} {w w' : World} (h : Gam μ F M w) {id g b : Nat} {c0 : Array Value} {e : TypeId} {fr0 : Nat × Nat} (hid : μ id = some (.spare (some (b, 0)) g)) (h0 : w.heap[b]? = some (.cells c0 e fr0)) {b' : Nat} {o' : Obj}
  (hcase : (b' = b ∧ Wrote w b w' ∧ ∃ c' fr', o' = .cells c' e fr' ∧ c'.size = c0.size) ∨ (w.heap.size ≤ b' ∧ Below w.heap.size w w')) (hb' : w'.heap[b']? = some o') :
  Evo w μ w' (μ.put id (.spare (some (b', 0)) (g + 1))) ∧ Gam (μ.put id (.spare (some (b', 0)) (g + 1))) F (M.set id (.raw (some (g + 1)) o' #[] [])) w' := by
 have hlt : b < w.heap.size := (Array.getElem?_eq_some_iff.1 h0).1
 have hput : ∀ i, i ≠ id → (μ.put id (.spare (some (b', 0)) (g + 1))) i = μ i := fun i hi => by simp [Mu.put, hi]
 have hputs : (μ.put id (.spare (some (b', 0)) (g + 1))) id = some (.spare (some (b', 0)) (g + 1)) := by simp [Mu.put]
 have hsz : w.heap.size ≤ w'.heap.size := by
  rcases hcase with ⟨_, hw, _⟩ | ⟨_, hb⟩
  ·exact Nat.le_of_eq hw.size.symm
  ·exact hb.size
 have hold : ∀ k, k < w.heap.size → k ≠ b → w'.heap[k]? = w.heap[k]? := by
  intro k hk hne
  rcases hcase with ⟨_, hw, _⟩ | ⟨_, hb⟩
  ·exact hw.other k hne
  ·exact hb.block k hk
 have hownb : ∀ o, Own μ b o := fun o => ⟨id, .inr ⟨0, g, hid, Nat.zero_le _⟩⟩
 have hown : ∀ k o, Own (μ.put id (.spare (some (b', 0)) (g + 1))) k o → w.heap.size ≤ k ∨ Own μ k o := by
  rintro k o ⟨i, h1 | ⟨e', g', h1, he⟩⟩
  ·by_cases hi : i = id
   ·subst hi; rw [hputs] at h1; cases h1
   ·rw [hput i hi] at h1; exact .inr ⟨i, .inl h1⟩
  ·by_cases hi : i = id
   ·subst hi
    rw [hputs] at h1
    cases h1
    rcases hcase with ⟨rfl, _⟩ | ⟨hge, _⟩
    ·exact .inr (hownb o)
    ·exact .inl hge
   ·rw [hput i hi] at h1; exact .inr ⟨i, .inr ⟨e', g', h1, he⟩⟩
 have hev : Evo w μ w' (μ.put id (.spare (some (b', 0)) (g + 1))) := by
  have hstate : w'.os = w.os ∧ w'.tape = w.tape ∧ w'.output = w.output := by
   rcases hcase with ⟨_, hw, _⟩ | ⟨_, hb⟩
   ·exact ⟨hw.os, hw.tape, hw.output⟩
   ·exact ⟨hb.os, hb.tape, hb.output⟩
  refine ⟨hstate.1, hstate.2.1, hstate.2.2, hsz, ?_, ?_, ?_, fun k o hk ho => (hown k o ho).resolve_left (by omega)⟩
  ·intro i hi
   by_cases he : i = id
   ·subst he
    exact .inr (.inr ⟨_, g, _, g + 1, hid, hputs, Nat.lt_succ_self g⟩)
   ·exact .inl (hput i he)
  ·intro k hk hn
   refine hold k hk ?_
   rintro rfl
   exact hn 0 (hownb 0)
  ·intro k e' c ty fr hk hn hc
   by_cases hkb : k = b
   ·subst hkb
    have he := hn 0 (hownb 0)
    rw [h0] at hc
    cases hc
    rcases hcase with ⟨rfl, hw, c', fr', rfl, hs⟩ | ⟨_, hb⟩
    ·exact ⟨c', fr', hb', hs, fun o ho => by omega⟩
    ·exact ⟨_, _, (hb.block k hk).trans h0, rfl, fun _ _ => rfl⟩
   ·exact ⟨c, fr, (hold k hk hkb).trans hc, rfl, fun _ _ => rfl⟩
 have hfar : ∀ i k, i ≠ id → Lies μ i k → k ≠ b := by
  rintro i k hi hl rfl
  exact hi (h.inj i id k hl (.inr ⟨0, g, hid⟩))
 have hlold : ∀ i k, Lies μ i k → k < w.heap.size := by
  rintro i k (h1 | ⟨e, g, h1⟩)
  ·exact h.fit.own k 0 ⟨i, .inl h1⟩
  ·exact h.fit.own k e ⟨i, .inr ⟨e, g, h1, Nat.le_refl _⟩⟩
 have lie : ∀ i k, Lies (μ.put id (.spare (some (b', 0)) (g + 1))) i k → (i = id ∧ k = b') ∨ (i ≠ id ∧ Lies μ i k) := by
  rintro i k (h1 | ⟨e', g', h1⟩)
  ·by_cases hi : i = id
   ·subst hi; rw [hputs] at h1; cases h1
   ·rw [hput i hi] at h1; exact .inr ⟨hi, .inl h1⟩
  ·by_cases hi : i = id
   ·subst hi; rw [hputs] at h1; cases h1; exact .inl ⟨rfl, rfl⟩
   ·rw [hput i hi] at h1; exact .inr ⟨hi, .inr ⟨e', g', h1⟩⟩
 have hb'far : ∀ j, j ≠ id → ¬ Lies μ j b' := by
  intro j hj hl
  rcases hcase with ⟨rfl, _⟩ | ⟨hge, _⟩
  ·exact hfar j _ hj hl rfl
  ·have := hlold j b' hl; omega
 refine ⟨hev, ?_, ?_, ?_, ?_, ?_, ?_, ?_⟩
 ·intro i
  show _ ↔ i < M.next
  by_cases hi : i = id
  ·subst hi
   rw [hputs]
   exact ⟨fun _ => (h.dom i).1 (by rw [hid]; simp), fun _ => by simp⟩
  ·rw [hput i hi]
   exact h.dom i
 ·intro i l hl
  rw [Mem.get_set] at hl
  split at hl
  ·cases hl
  ·rename_i hi
   obtain ⟨b1, c, ty, h1, h2, h3, h4, h5⟩ := h.obj i l hl
   have hlt1 : b1 < w.heap.size := (Array.getElem?_eq_some_iff.1 h2).1
   exact ⟨b1, c, ty, (hput i hi).trans h1, (hold b1 hlt1 (hfar i b1 hi (.inl h1))).trans h2, h3, h4, fun i x v hx hv => (h5 i x v hx hv).evo hev⟩
 ·intro i g' hl
  rw [Mem.get_set] at hl
  split at hl
  ·cases hl
  ·rename_i hi
   obtain ⟨p, h1, h2⟩ := h.spare i g' hl
   refine ⟨p, (hput i hi).trans h1, fun b1 e1 hp => ?_⟩
   obtain ⟨c, ty, fr, h3, h4, h5⟩ := h2 b1 e1 hp
   have hlt1 : b1 < w.heap.size := (Array.getElem?_eq_some_iff.1 h3).1
   exact ⟨c, ty, fr, (hold b1 hlt1 (hfar i b1 hi (.inr ⟨e1, g', by rw [h1, hp]⟩))).trans h3, h4, h5⟩
 ·intro i j k hi hj
  rcases lie i k hi with ⟨h1, h2⟩ | ⟨h1, h2⟩ <;> rcases lie j k hj with ⟨h3, h4⟩ | ⟨h3, h4⟩
  ·exact h1.trans h3.symm
  ·exact absurd (h2 ▸ h4) (hb'far j h3)
  ·exact absurd (h4 ▸ h2) (hb'far i h1)
  ·exact h.inj i j k h2 h4
 ·intro k o ho hF
  rcases hown k o ho with h1 | h1
  ·have := h.fit.frm k o hF; omega
  ·exact h.frm k o h1 hF
 ·refine ⟨fun k o ho => ?_, fun k o hF => Nat.lt_of_lt_of_le (h.fit.frm k o hF) hsz⟩
  obtain ⟨i, hl⟩ := own_lies ho
  rcases lie i k hl with ⟨_, rfl⟩ | ⟨_, h2⟩
  ·exact (Array.getElem?_eq_some_iff.1 hb').1
  ·exact Nat.lt_of_lt_of_le (hlold i k h2) hsz
 ·intro i gg o vs t hl
  rw [Mem.get_set] at hl
  split at hl
  ·rename_i hi
   cases hl
   subst hi
   exact ⟨b', hputs, hb', fun _ => .top _⟩
  ·rename_i hi
   obtain ⟨b1, h1, h2, h3⟩ := h.raw i gg o vs t hl
   have hlt1 : b1 < w.heap.size := (Array.getElem?_eq_some_iff.1 h2).1
   exact ⟨b1, h1.congr (hput i hi), (hold b1 hlt1 (hfar i b1 hi h1.lies)).trans h2, fun i => (h3 i).evo hev⟩
/-- append of a text, to bytes that a token holds whole. -/
theorem opG_append_bsl {P : Program} {τ : Tab} (hτ : TabOK P τ) {t tx e : TypeId} {ti ei xi : TI} (hin : AppIn P τ t e ti ei) (hsz : ei.size = 1) (hxi : lookup τ tx = some xi) {o : Oper} {s x : Operand}
  (ho : o.op = .call { callee := .builtin .append, args := #[s, x], argTypes := #[t, tx] }) {ρ : Operand → AV} {M : Mem} {id g n cap : Nat} {c : Array Value} {bs ys : List UInt8} (hS : ρ s = .bsl id g n cap) (hn : n = bs.length) (hM : M.get id = some (bufO g e c)) (hB : BufIs c bs cap)
  (hf : srcFits xi.k (ρ x) = true) (hX : srcOf 1 (ρ x) = some (ys.map byteAV)) (hb : (n + ys.length) * ei.bytes ≤ 140737488355328) (hlen : n + ys.length ≤ 140737488355328) {Kp : AV → Mem → Prop} :
  OpG P o ρ M (fun u M' => ∃ cap' c', BufIs c' (bs ++ ys) cap' ∧ u = .bsl id (g + 1) (n + ys.length) cap' ∧ M' = M.set id (bufO (g + 1) e c')) Kp := by
 subst hn
 intro μ F w a hg hr next Q' hnext _
 have hs := hr s (by simp [ho, Op.operands, Call.operands])
 have hx := hr x (by simp [ho, Op.operands, Call.operands])
 rw [hS] at hs
 obtain ⟨b, k1, hb2, _⟩ := hg.raw id _ _ _ _ hM
 have hbm : μ id = some (.spare (some (b, 0)) g) := k1
 have hv : a.eval s = .slice (some ⟨b, 0, none⟩) bs.length cap := by
  generalize a.eval s = u at hs
  cases hs with
  | bsl _ _ _ _ _ h1 h =>
   rcases h with h | ⟨p, g', h, hgg, hv⟩
   ·rw [hbm] at h; cases h
   ·rw [hbm] at h
    cases h
    exact hv rfl b rfl
 obtain ⟨hsy, news, hsrc, hnew⟩ := src_of hτ hxi hf hX hx
 obtain ⟨ft, dt, zt, HT⟩ := TI.spec hτ hin.tl
 obtain ⟨fe, de, ze, HE⟩ := TI.spec hτ hin.el
 have hfi := HT.fits
 rw [hin.tk] at hfi
 have hdd : dt = .slice e := by
  cases dt <;> simp [TK.fits] at hfi
  rw [hfi]
 subst hdd
 have hfs : fe.size = 1 := by rw [HE.size, hsz]
 have hnl : news.length = ys.length := by have := hsrc.newsLen; simpa using this
 have hsrc' : Src P fe.size tx (a.eval x) ys.length news w := by rw [hfs]; simpa using hsrc
 have hnews : ∀ (p : Nat) (z : UInt8), ys[p]? = some z → news[p]? = some (.int .u8 z.toNat) := by
  intro p z hz
  have hp : p < news.length := by rw [hnl]; exact (List.getElem?_eq_some_iff.1 hz).1
  have h1 := hnew p (byteAV z) news[p] (by rw [flat_bytes, List.getElem?_map, hz]; rfl) (List.getElem?_eq_getElem hp)
  rw [List.getElem?_eq_getElem hp]
  generalize news[p] = u at h1
  cases h1
  rfl
 have hex : ∀ v w', (Builtin.append_ #[t, tx] o.type #[a.eval s, a.eval x]).run P w = .ok v w' → (execOp a.eval o).run P w = .ok (.value v) w' := by
  intro v w' h
  simp [execOp, ho, resolve, invoke, builtin, h]
 have hcs : bs.length ≤ c.size := by rw [hB.size]; exact hB.le
 unfold Oper.wp
 by_cases hroom : bs.length + ys.length ≤ cap
 ·have hfl : bs.length + news.length ≤ c.size := by rw [hnl, hB.size]; exact hroom
  have hrun := run_append_room_src (P := P) w t tx o.type e fe HT.und HE.info b 0 bs.length cap (a.eval x) ys.length news hsrc' hroom (fun j hj => by
    rw [hfs, cell_mk hb2, Nat.zero_add, Nat.mul_one, Array.getElem?_eq_getElem (by omega)]; rfl) (fun j hj => by simp [World.frozen?, hb2])
  rw [hfs, Nat.zero_add, Nat.mul_one] at hrun
  obtain ⟨hw, c', hc', hs', hget⟩ := setCells_row b news bs.length c e (0, 0) w hb2 hfl
  obtain ⟨he, hG⟩ := gam_rebuf hg hbm hb2 (.inl ⟨rfl, hw, c', (0, 0), rfl, hs'⟩) hc'
  rw [hv] at hex
  rw [hex _ _ hrun]
  refine hnext _ _ _ _ _ he hG (.bsl _ _ _ _ _ rfl (.inr ⟨some (b, 0), g + 1, by simp [Mu.put], Nat.le_refl _, fun _ b1 hb1 => by cases hb1; rfl⟩)) ⟨cap, c', ⟨hs'.trans hB.size, by simpa using hroom, ?_⟩, rfl, rfl⟩
  intro i z hz
  rw [hget]
  by_cases h1 : i < bs.length
  ·rw [if_neg (by omega)]
   rw [List.getElem?_append_left h1] at hz
   exact hB.at_ i z hz
  ·rw [List.getElem?_append_right (by omega)] at hz
   have hlt := (List.getElem?_eq_some_iff.1 hz).1
   rw [if_pos ⟨by omega, by omega⟩]
   exact hnews _ z hz
 ·have hgrow : cap < bs.length + ys.length := by omega
  let olds := c.toList.take bs.length
  have hol : olds.length = bs.length := by simp [olds]; omega
  have hold : (Builtin.firstCells fe.size bs.length (.slice (some ⟨b, 0, none⟩) bs.length cap)).run P w.drew = .ok olds.toArray w.drew := by
   rw [hfs]
   refine run_firstCells_some w.drew 1 bs.length _ _ _ olds (by rw [hol, Nat.mul_one]) (fun j u hu => ?_)
   have hj : olds[j]? = c[j]? := by
    have : j < bs.length := by rw [← hol]; exact (List.getElem?_eq_some_iff.1 hu).1
    simp only [olds, List.getElem?_take, if_pos this, Array.getElem?_toList]
   rw [hj] at hu
   have := cell_mk (o := 0 + j) hb2
   rw [Addr.add_lit]
   show w.cell? ⟨b, 0 + j, none⟩ = some u
   rw [this, Nat.zero_add]
   exact hu
  have hfit : Builtin.nextslicecap (bs.length + ys.length) cap * fe.bytes ≤ 281474976710656 := by
   rw [HE.bytes]
   exact growslice_fits hgrow hb
  have hrun := run_append_grow_src (P := P) w t tx o.type e fe ze HT.und HE.info HE.zero (some ⟨b, 0, none⟩) bs.length cap olds hold (a.eval x) ys.length news hsrc' hgrow (by omega) hfit
  have hge := grownCap_ge w (bs.length + ys.length) cap e
  generalize hcap : grownCap w (bs.length + ys.length) cap e = cap' at hrun hge
  have hzs : ze.cells.size = 1 := by
   have := (sameCells_get HE.cells).1
   simp only [Array.length_toList] at this
   rw [this, HE.len, hsz]
  have hc's : ((olds ++ news).toArray ++ Builtin.zeroCells ze.cells (cap' - (bs.length + ys.length))).size = cap' := by
   simp only [Array.size_append, List.size_toArray, List.length_append, hol, hnl, size_zeroCells, hzs]
   omega
  have hbelow : Below w.heap.size w (w.drew.alloc (.cells ((olds ++ news).toArray ++ Builtin.zeroCells ze.cells (cap' - (bs.length + ys.length))) e)) := ⟨rfl, rfl, rfl, by simp [World.alloc], fun k hk => heap_alloc_old w.drew _ hk⟩
  obtain ⟨he, hG⟩ := gam_rebuf hg hbm hb2 (.inr ⟨Nat.le_refl _, hbelow⟩) (heap_alloc_new w.drew _)
  rw [hv] at hex
  rw [hex _ _ hrun]
  refine hnext _ _ _ _ _ he hG (.bsl _ _ _ _ _ rfl (.inr ⟨some (w.heap.size, 0), g + 1, by simp [Mu.put], Nat.le_refl _, fun _ b1 hb1 => by cases hb1; rfl⟩)) ⟨cap', _, ⟨hc's, by simpa using hge, ?_⟩, rfl, rfl⟩
  intro i z hz
  have hi : i < (olds ++ news).length := by
   have := (List.getElem?_eq_some_iff.1 hz).1
   rw [List.length_append] at this ⊢
   omega
  rw [Array.getElem?_append_left (by simpa using hi)]
  simp only [List.getElem?_toArray]
  by_cases h1 : i < bs.length
  ·rw [List.getElem?_append_left (by omega)]
   rw [List.getElem?_append_left h1] at hz
   simp only [olds, List.getElem?_take, if_pos h1, Array.getElem?_toList]
   exact hB.at_ i z hz
  ·rw [List.getElem?_append_right (by omega), hol]
   rw [List.getElem?_append_right (by omega)] at hz
   exact hnews _ z hz
/-- Bytes in a new block. -/
theorem gam_newbuf {μ : Mu} {F : Frm} {M : Mem} {w w' : World} (h : Gam μ F M w) (hb : Below w.heap.size w w') {o : Obj} {vs : Array Value} {t : List (Nat × AV)} {b : Nat} (hnew : w.heap.size ≤ b)
  (hc : w'.heap[b]? = some o) (hr : ∀ i, Rep μ F w ((lookup t i).getD .top) (vs.getD i undef)) :
  Evo w μ w' (μ.put M.next (.spare (some (b, 0)) 0)) ∧ Gam (μ.put M.next (.spare (some (b, 0)) 0)) F (M.push (.raw (some 0) o vs t)) w' := by
 have hn := gam_next h
 have hown : ∀ k o, Own (μ.put M.next (.spare (some (b, 0)) 0)) k o → k = b ∨ Own μ k o := by
  rintro k o ⟨id, h1 | ⟨e, g, h1, he⟩⟩
  ·unfold Mu.put at h1
   split at h1
   ·cases h1
   ·exact .inr ⟨id, .inl h1⟩
  ·unfold Mu.put at h1
   split at h1
   ·cases h1; exact .inl rfl
   ·exact .inr ⟨id, .inr ⟨e, g, h1, he⟩⟩
 have hev : Evo w μ w' (μ.put M.next (.spare (some (b, 0)) 0)) := Evo.push hb hn fun k o ho hk => by
  rcases hown k o ho with rfl | ho
  ·omega
  ·exact ho
 refine ⟨hev, ?_, ?_, ?_, ?_, ?_, ?_, ?_⟩
 ·intro id
  have := h.dom id
  unfold Mu.put Mem.push
  simp only
  split
  ·rename_i e; subst e; simp
  ·rename_i e
   rw [this]
   omega
 ·intro id l' hl
  rw [Mem.get_push] at hl
  split at hl
  ·cases hl
  ·rename_i e
   obtain ⟨b', c', ty', h1, h2, h3, h4, h5⟩ := h.obj id l' hl
   have hlt : b' < w.heap.size := (Array.getElem?_eq_some_iff.1 h2).1
   exact ⟨b', c', ty', by simp [Mu.put, e, h1], (hb.block b' hlt).trans h2, h3, h4, fun i x v hx hv => (h5 i x v hx hv).evo hev⟩
 ·intro id g hl
  rw [Mem.get_push] at hl
  split at hl
  ·cases hl
  ·rename_i e
   obtain ⟨p, h1, h2⟩ := h.spare id g hl
   refine ⟨p, by simp [Mu.put, e, h1], fun b' e' hp => ?_⟩
   obtain ⟨c', ty', fr, h3, h4, h5⟩ := h2 b' e' hp
   have hlt : b' < w.heap.size := (Array.getElem?_eq_some_iff.1 h3).1
   exact ⟨c', ty', fr, (hb.block b' hlt).trans h3, h4, h5⟩
 ·have lie : ∀ i k, Lies (μ.put M.next (.spare (some (b, 0)) 0)) i k → (i = M.next ∧ k = b) ∨ Lies μ i k := by
   rintro i k (h1 | ⟨e, g, h1⟩)
   ·unfold Mu.put at h1
    split at h1
    ·cases h1
    ·exact .inr (.inl h1)
   ·unfold Mu.put at h1
    split at h1
    ·cases h1; exact .inl ⟨by assumption, rfl⟩
    ·exact .inr (.inr ⟨e, g, h1⟩)
  have old : ∀ i k, Lies μ i k → k < w.heap.size := by
   rintro i k (h1 | ⟨e, g, h1⟩)
   ·exact h.fit.own k 0 ⟨i, .inl h1⟩
   ·exact h.fit.own k e ⟨i, .inr ⟨e, g, h1, Nat.le_refl _⟩⟩
  intro i j k hi hj
  rcases lie i k hi with ⟨h1, h2⟩ | h1 <;> rcases lie j k hj with ⟨h3, h4⟩ | h3
  ·exact h1.trans h3.symm
  ·have := old j k h3; omega
  ·have := old i k h1; omega
  ·exact h.inj i j k h1 h3
 ·intro k o ho hF
  rcases hown k o ho with rfl | ho
  ·have := h.fit.frm k o hF; omega
  ·exact h.frm k o ho hF
 ·refine ⟨fun k o ho => ?_, fun k o hF => Nat.lt_of_lt_of_le (h.fit.frm k o hF) hb.size⟩
  rcases hown k o ho with rfl | ho
  ·exact (Array.getElem?_eq_some_iff.1 hc).1
  ·exact Nat.lt_of_lt_of_le (h.fit.own k o ho) hb.size
 ·intro id gg o' vs' t' hl
  rw [Mem.get_push] at hl
  split at hl
  ·rename_i e
   cases hl
   exact ⟨b, by simp [RawAt, Mu.put, e], hc, fun i => (hr i).evo hev⟩
  ·rename_i e
   obtain ⟨b', h1, h2, h3⟩ := h.raw id gg o' vs' t' hl
   have hlt : b' < w.heap.size := (Array.getElem?_eq_some_iff.1 h2).1
   exact ⟨b', h1.congr (by simp [Mu.put, e]), (hb.block b' hlt).trans h2, fun i => (h3 i).evo hev⟩
/-- append of a text to nil. -/
theorem opG_append_newb {P : Program} {τ : Tab} (hτ : TabOK P τ) {t tx e : TypeId} {ti ei xi : TI} (hin : AppIn P τ t e ti ei) (hsz : ei.size = 1) (hxi : lookup τ tx = some xi) {o : Oper} {s x : Operand}
  (ho : o.op = .call { callee := .builtin .append, args := #[s, x], argTypes := #[t, tx] }) {ρ : Operand → AV} {M : Mem} {sz : Nat} {ys : List UInt8} (hS : ρ s = .sl sz [] .full) (hne : ys ≠ [])
  (hf : srcFits xi.k (ρ x) = true) (hX : srcOf 1 (ρ x) = some (ys.map byteAV)) (hb : ys.length * ei.bytes ≤ 140737488355328) (hlen : ys.length ≤ 140737488355328) {Kp : AV → Mem → Prop} :
  OpG P o ρ M (fun u M' => ∃ cap' c', BufIs c' ys cap' ∧ u = .bsl M.next 0 ys.length cap' ∧ M' = M.push (bufO 0 e c')) Kp := by
 intro μ F w a hg hr next Q' hnext _
 have hs := hr s (by simp [ho, Op.operands, Call.operands])
 have hx := hr x (by simp [ho, Op.operands, Call.operands])
 rw [hS] at hs
 obtain ⟨A, cap, b, off, vals, hv, _, _, _, _, htag⟩ := hs.sl_flat
 have htag' : cap = 0 := htag
 subst htag'
 obtain ⟨hsy, news, hsrc, hnew⟩ := src_of hτ hxi hf hX hx
 obtain ⟨ft, dt, zt, HT⟩ := TI.spec hτ hin.tl
 obtain ⟨fe, de, ze, HE⟩ := TI.spec hτ hin.el
 have hfi := HT.fits
 rw [hin.tk] at hfi
 have hdd : dt = .slice e := by
  cases dt <;> simp [TK.fits] at hfi
  rw [hfi]
 subst hdd
 have hfs : fe.size = 1 := by rw [HE.size, hsz]
 have hnl : news.length = ys.length := by have := hsrc.newsLen; simpa using this
 have hsrc' : Src P fe.size tx (a.eval x) ys.length news w := by rw [hfs]; simpa using hsrc
 have hnews : ∀ (p : Nat) (z : UInt8), ys[p]? = some z → news[p]? = some (.int .u8 z.toNat) := by
  intro p z hz
  have hp : p < news.length := by rw [hnl]; exact (List.getElem?_eq_some_iff.1 hz).1
  have h1 := hnew p (byteAV z) news[p] (by rw [flat_bytes, List.getElem?_map, hz]; rfl) (List.getElem?_eq_getElem hp)
  rw [List.getElem?_eq_getElem hp]
  generalize news[p] = u at h1
  cases h1
  rfl
 have hex : ∀ v w', (Builtin.append_ #[t, tx] o.type #[a.eval s, a.eval x]).run P w = .ok v w' → (execOp a.eval o).run P w = .ok (.value v) w' := by
  intro v w' h
  simp [execOp, ho, resolve, invoke, builtin, h]
 unfold Oper.wp
 have hyl : 0 < ys.length := List.length_pos_iff.2 hne
 have hgrow : 0 < 0 + ys.length := by omega
 have hold : (Builtin.firstCells fe.size 0 (.slice A 0 0)).run P w.drew = .ok (([] : List Value)).toArray w.drew := by
  cases A <;> simp [Builtin.firstCells, loadCells, loadCellsFrom]
 have hfit : Builtin.nextslicecap (0 + ys.length) 0 * fe.bytes ≤ 281474976710656 := by
  rw [HE.bytes]
  exact growslice_fits hgrow (by simpa using hb)
 have hrun := run_append_grow_src (P := P) w t tx o.type e fe ze HT.und HE.info HE.zero A 0 0 [] hold (a.eval x) ys.length news hsrc' hgrow (by omega) hfit
 have hge := grownCap_ge w (0 + ys.length) 0 e
 generalize hcap : grownCap w (0 + ys.length) 0 e = cap' at hrun hge
 rw [Nat.zero_add, List.nil_append] at hrun
 rw [Nat.zero_add] at hge
 have hzs : ze.cells.size = 1 := by
  have := (sameCells_get HE.cells).1
  simp only [Array.length_toList] at this
  rw [this, HE.len, hsz]
 have hc's : (news.toArray ++ Builtin.zeroCells ze.cells (cap' - ys.length)).size = cap' := by
  simp only [Array.size_append, List.size_toArray, hnl, size_zeroCells, hzs]
  omega
 have hbelow : Below w.heap.size w (w.drew.alloc (.cells (news.toArray ++ Builtin.zeroCells ze.cells (cap' - ys.length)) e)) := ⟨rfl, rfl, rfl, by simp [World.alloc], fun k hk => heap_alloc_old w.drew _ hk⟩
 obtain ⟨he, hG⟩ := gam_newbuf hg hbelow (vs := #[]) (t := []) (Nat.le_refl _) (heap_alloc_new w.drew _) (fun i => .top _)
 rw [hv] at hex
 rw [hex _ _ hrun]
 refine hnext _ _ _ _ _ he hG (.bsl _ _ _ _ _ rfl (.inr ⟨some (w.heap.size, 0), 0, by simp [Mu.put], Nat.le_refl _, fun _ b1 hb1 => by cases hb1; rfl⟩)) ⟨cap', _, ⟨hc's, hge, ?_⟩, rfl, rfl⟩
 intro i z hz
 have hi : i < news.length := by rw [hnl]; exact (List.getElem?_eq_some_iff.1 hz).1
 rw [Array.getElem?_append_left (by simpa using hi)]
 simp only [List.getElem?_toArray]
 exact hnews i z hz
theorem gam_bsl {μ : Mu} {F : Frm} {M : Mem} {w : World} (hg : Gam μ F M w) {id g n cap : Nat} {e : TypeId} {c : Array Value} (hM : M.get id = some (bufO g e c)) {v : Value} (hr : Rep μ F w (.bsl id g n cap) v) :
  ∃ b, μ id = some (.spare (some (b, 0)) g) ∧ w.heap[b]? = some (.cells c e (0, 0)) ∧ v = .slice (some ⟨b, 0, none⟩) n cap := by
 obtain ⟨b, k1, h2, _⟩ := hg.raw id _ _ _ _ hM
 have h1 : μ id = some (.spare (some (b, 0)) g) := k1
 refine ⟨b, h1, h2, ?_⟩
 cases hr with
 | bsl _ _ _ _ _ _ h =>
  rcases h with h | ⟨p, g', h, _, hv⟩
  ·rw [h1] at h; cases h
  ·rw [h1] at h
   cases h
   exact hv rfl b rfl
end Go.Ab
