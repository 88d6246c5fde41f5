/- Texts, and rows of numbers, by code and document. No further condition. -/
import Derived.Test.YtmgkebghojhocaaGreatDoorQDmpP
import Derived.Test.YtmgkebghojhocaaGreatDoorQV16
set_option linter.unusedVariables false
set_option linter.unusedSimpArgs false
namespace Go.Proofs.YtmgkebghojhocaaGreatDoor
open Go.Ab
theorem textO_some {s r : Bytes} {n : Nat} (h : getNum s = some (n, r)) : textO s = if n ≤ 4000 ∧ n ≤ r.length then some (r.take n, r.drop n) else none := by
 unfold textO
 rw [h]
theorem textO_none {s : Bytes} (h : getNum s = none) : textO s = none := by
 unfold textO
 rw [h]
def gtO : Option (Bytes × Bytes) → AV
 | some (a, b) => .tup [.str a, .str b, .bool true]
 | none => .tup [.str [], .str [], .bool false]
theorem cat_ok {a b : Bytes} (h : a.length + b.length < 1000000000) : a.length + b.length ≤ 9223372036854775807 ∧ a ++ b = a ++ b := ⟨by omega, rfl⟩
set_option maxRecDepth 100000 in
set_option maxHeartbeats 8000000 in
theorem ctext_ok (s : Bytes) (hs : s.length < 1000000) : APure Tryz.prog 57 [.str s] (.tup [.str (textT s), .int .i64 (if 4000 < s.length then 2 else 0)]) := by
 intro M
 refine acalls_of tabOK Tryz.func57 rfl (by decide) (by simp [Tryz.f57]) ?_
 unfold textT
 by_cases h : 4000 < s.length
 ·have d1 : decide ((4000 : Int) < (s.length : Int)) = true := decide_eq_true (by omega)
  rw [if_pos h, if_pos h]
  repeat' (first | refine DW_VB tabs rfl d1 ?_ | refine DW_A tabs rfl ?_ | refine DW_nil ?_ | refine W_A rfl ?_)
  exact ⟨rfl, _, rfl, rfl, rfl⟩
 ·have d1 : decide ((4000 : Int) < (s.length : Int)) = false := decide_eq_false (by omega)
  rw [if_neg h, if_neg h]
  have kn := number_nat (m := s.length) (by omega)
  have hcat := cat_ok (a := putN s.length) (b := s) (by have := putN_len s.length; omega)
  repeat' (first | refine DW_VB tabs rfl d1 ?_ | refine DW_A tabs rfl ?_ | refine DW_nil ?_ | refine W_A rfl ?_ | refine DW_C rfl kn ?_ | refine DW_cat rfl (hcat) ?_)
  exact ⟨rfl, _, rfl, rfl, rfl⟩
set_option maxRecDepth 100000 in
set_option maxHeartbeats 8000000 in
theorem rtext_ok (s : Bytes) (hs : s.length < 1000000) : APure Tryz.prog 60 [.str s] (.tup [.str (textT s), .int .i64 (if 4000 < s.length then 2 else 0)]) := by
 intro M
 refine acalls_of tabOK Tryz.func60 rfl (by decide) (by simp [Tryz.f60]) ?_
 unfold textT
 by_cases h : 4000 < s.length
 ·have d1 : decide ((4000 : Int) < (s.length : Int)) = true := decide_eq_true (by omega)
  rw [if_pos h, if_pos h]
  repeat' (first | refine DW_VB tabs rfl d1 ?_ | refine DW_A tabs rfl ?_ | refine DW_nil ?_ | refine W_A rfl ?_)
  exact ⟨rfl, _, rfl, rfl, rfl⟩
 ·have d1 : decide ((4000 : Int) < (s.length : Int)) = false := decide_eq_false (by omega)
  rw [if_neg h, if_neg h]
  have kn := rNumber_nat (m := s.length) (by omega)
  have hcat := cat_ok (a := putN s.length) (b := s) (by have := putN_len s.length; omega)
  repeat' (first | refine DW_VB tabs rfl d1 ?_ | refine DW_A tabs rfl ?_ | refine DW_nil ?_ | refine W_A rfl ?_ | refine DW_C rfl kn ?_ | refine DW_cat rfl (hcat) ?_)
  exact ⟨rfl, _, rfl, rfl, rfl⟩
set_option maxRecDepth 100000 in
set_option maxHeartbeats 8000000 in
theorem cgetText_ok (s : Bytes) (hs : s.length < 4611686018427387904) : APure Tryz.prog 124 [.str s] (gtO (textO s)) := by
 intro M
 refine acalls_of tabOK Tryz.func124 rfl (by decide) (by simp [Tryz.f124]) ?_
 have kg := getNumber_ok s hs
 cases hg : getNum s with
 | none =>
  rw [hg] at kg
  rw [textO_none hg]
  repeat' (first | refine DW_A tabs rfl ?_ | refine DW_nil ?_ | refine W_A rfl ?_ | refine DW_C rfl kg ?_ | refine W_draw mixed [0, 1, 2, 3, 4, 5, 6, 7, 8] [.P, .P, .P, .P, .P, .P, .P, .P, .P] rfl rfl (by kernel_rfl) ?_)
  exact ⟨rfl, _, rfl, rfl, rfl⟩
 | some p =>
  obtain ⟨n, r⟩ := p
  rw [hg] at kg
  have lr := (getNum_lt hg).1
  by_cases h1 : n ≤ 4000
  ·have d1 : decide ((4000 : Int) < (n : Int)) = false := decide_eq_false (by omega)
   by_cases h2 : n ≤ r.length
   ·have d2 : decide ((r.length : Int) < (n : Int)) = false := decide_eq_false (by omega)
    rw [textO_some hg, if_pos ⟨h1, h2⟩]
    have s1 : (0 : Int) ≤ 0 ∧ (0 : Int) ≤ (n : Int) ∧ (n : Int) ≤ (r.length : Int) ∧ (r.take (n : Int).toNat).drop (0 : Int).toNat = r.take n := ⟨by omega, by omega, by omega, by simp⟩
    have s2 : (0 : Int) ≤ (n : Int) ∧ (n : Int) ≤ (r.length : Int) ∧ (r.length : Int) ≤ (r.length : Int) ∧ (r.take (r.length : Int).toNat).drop (n : Int).toNat = r.drop n := ⟨by omega, by omega, by omega, by simp⟩
    repeat' (first | refine DW_VB tabs rfl (by first | exact d1 | exact d2) ?_ | refine DW_A tabs rfl ?_ | refine DW_nil ?_ | refine W_A rfl ?_ | refine DW_C rfl kg ?_ | refine DW_sub tabOK rfl (s1) ?_ | refine DW_sub tabOK rfl (s2) ?_ | refine W_draw mixed [0, 1, 2, 3, 4, 5, 6, 7, 8] [.P, .P, .P, .P, .P, .P, .P, .P, .P] rfl rfl (by kernel_rfl) ?_)
    exact ⟨rfl, _, rfl, rfl, rfl⟩
   ·have d2 : decide ((r.length : Int) < (n : Int)) = true := decide_eq_true (by omega)
    rw [textO_some hg, if_neg (fun h => h2 h.2)]
    repeat' (first | refine DW_VB tabs rfl (by first | exact d1 | exact d2) ?_ | refine DW_A tabs rfl ?_ | refine DW_nil ?_ | refine W_A rfl ?_ | refine DW_C rfl kg ?_ | refine W_draw mixed [0, 1, 2, 3, 4, 5, 6, 7, 8] [.P, .P, .P, .P, .P, .P, .P, .P, .P] rfl rfl (by kernel_rfl) ?_)
    exact ⟨rfl, _, rfl, rfl, rfl⟩
  ·have d1 : decide ((4000 : Int) < (n : Int)) = true := decide_eq_true (by omega)
   rw [textO_some hg, if_neg (fun h => h1 h.1)]
   repeat' (first | refine DW_VB tabs rfl d1 ?_ | refine DW_A tabs rfl ?_ | refine DW_nil ?_ | refine W_A rfl ?_ | refine DW_C rfl kg ?_ | refine W_draw mixed [0, 1, 2, 3, 4, 5, 6, 7, 8] [.P, .P, .P, .P, .P, .P, .P, .P, .P] rfl rfl (by kernel_rfl) ?_)
   exact ⟨rfl, _, rfl, rfl, rfl⟩
set_option maxRecDepth 100000 in
set_option maxHeartbeats 8000000 in
theorem rgetText_ok (s : Bytes) (hs : s.length < 4611686018427387904) : APure Tryz.prog 76 [.str s] (gtO (textO s)) := by
 intro M
 refine acalls_of tabOK Tryz.func76 rfl (by decide) (by simp [Tryz.f76]) ?_
 have kg := rGetNumber_ok s hs
 cases hg : getNum s with
 | none =>
  rw [hg] at kg
  rw [textO_none hg]
  repeat' (first | refine DW_A tabs rfl ?_ | refine DW_nil ?_ | refine W_A rfl ?_ | refine DW_C rfl kg ?_ | refine W_draw mixed [0, 1, 2, 3, 4, 5, 6, 7, 8] [.P, .P, .P, .P, .P, .P, .P, .P, .P] rfl rfl (by kernel_rfl) ?_)
  exact ⟨rfl, _, rfl, rfl, rfl⟩
 | some p =>
  obtain ⟨n, r⟩ := p
  rw [hg] at kg
  have lr := (getNum_lt hg).1
  by_cases h1 : n ≤ 4000
  ·have d1 : decide ((4000 : Int) < (n : Int)) = false := decide_eq_false (by omega)
   by_cases h2 : n ≤ r.length
   ·have d2 : decide ((r.length : Int) < (n : Int)) = false := decide_eq_false (by omega)
    rw [textO_some hg, if_pos ⟨h1, h2⟩]
    have s1 : (0 : Int) ≤ 0 ∧ (0 : Int) ≤ (n : Int) ∧ (n : Int) ≤ (r.length : Int) ∧ (r.take (n : Int).toNat).drop (0 : Int).toNat = r.take n := ⟨by omega, by omega, by omega, by simp⟩
    have s2 : (0 : Int) ≤ (n : Int) ∧ (n : Int) ≤ (r.length : Int) ∧ (r.length : Int) ≤ (r.length : Int) ∧ (r.take (r.length : Int).toNat).drop (n : Int).toNat = r.drop n := ⟨by omega, by omega, by omega, by simp⟩
    repeat' (first | refine DW_VB tabs rfl (by first | exact d1 | exact d2) ?_ | refine DW_A tabs rfl ?_ | refine DW_nil ?_ | refine W_A rfl ?_ | refine DW_C rfl kg ?_ | refine DW_sub tabOK rfl (s1) ?_ | refine DW_sub tabOK rfl (s2) ?_ | refine W_draw mixed [0, 1, 2, 3, 4, 5, 6, 7, 8] [.P, .P, .P, .P, .P, .P, .P, .P, .P] rfl rfl (by kernel_rfl) ?_)
    exact ⟨rfl, _, rfl, rfl, rfl⟩
   ·have d2 : decide ((r.length : Int) < (n : Int)) = true := decide_eq_true (by omega)
    rw [textO_some hg, if_neg (fun h => h2 h.2)]
    repeat' (first | refine DW_VB tabs rfl (by first | exact d1 | exact d2) ?_ | refine DW_A tabs rfl ?_ | refine DW_nil ?_ | refine W_A rfl ?_ | refine DW_C rfl kg ?_ | refine W_draw mixed [0, 1, 2, 3, 4, 5, 6, 7, 8] [.P, .P, .P, .P, .P, .P, .P, .P, .P] rfl rfl (by kernel_rfl) ?_)
    exact ⟨rfl, _, rfl, rfl, rfl⟩
  ·have d1 : decide ((4000 : Int) < (n : Int)) = true := decide_eq_true (by omega)
   rw [textO_some hg, if_neg (fun h => h1 h.1)]
   repeat' (first | refine DW_VB tabs rfl d1 ?_ | refine DW_A tabs rfl ?_ | refine DW_nil ?_ | refine W_A rfl ?_ | refine DW_C rfl kg ?_ | refine W_draw mixed [0, 1, 2, 3, 4, 5, 6, 7, 8] [.P, .P, .P, .P, .P, .P, .P, .P, .P] rfl rfl (by kernel_rfl) ?_)
   exact ⟨rfl, _, rfl, rfl, rfl⟩
def okNs (l : List Int) : Prop := ∀ x, x ∈ l → 0 ≤ x ∧ x ≤ 4294967295
set_option maxRecDepth 100000 in
set_option maxHeartbeats 8000000 in
theorem numbers_ok (l : List Int) (tg : Tag) (htg : tg = .none ∨ tg = .full) (hin : okNs l) (hne : l ≠ []) (hlen : l.length < 1000) : APure Tryz.prog 55 [iA l tg] (.str (catN l)) := by
 refine pure_sub (closed1 (closed_iA l htg)) (closed_str) ?_
 refine acalls_of tabOK Tryz.func55 rfl (by decide) (by simp [Tryz.f55]) ?_
 have ll := len_map (fun n => AV.int .i64 n) l
 have hpos := List.length_pos_iff.2 hne
 have hc0 : ∀ i, 0 < i → catN (l.take i) ≠ [] := by
  intro i hi
  cases l with
  | nil => exact absurd rfl hne
  | cons x r =>
   obtain ⟨j, rfl⟩ : ∃ j, i = j + 1 := ⟨i - 1, by omega⟩
   simp [catN, putN]
 unfold iA
 repeat' (first | refine DW_raw rfl lays169.v72 ?_ | refine DW_VI tabs rfl ll ?_ | refine DW_A tabs rfl ?_ | refine DW_nil ?_ | refine W_A rfl ?_)
 refine W_count l.length (fun i f N => BldI 1 (catN (l.take i)) N ∧ f = ⟨[(3, .ptr 0 0), (8, iA l tg), (9, .int .i64 (l.length : Int)), (10, .int .i64 (i : Int))], []⟩) (Nat.zero_le _) ⟨.inl ⟨rfl, rfl⟩, rfl⟩ (Joint.le ?_ (Mem.le_cons rfl (Mem.le_nil rfl))) ?_
 ·unfold iA
  repeat (refine AF.le_cons rfl ?_)
  exact AF.le_nil rfl
 rintro i f N hi ⟨hN, rfl⟩
 by_cases h1 : i < l.length
 ·have d1 : decide ((i : Int) < (l.length : Int)) = true := decide_eq_true (by omega)
  have hx : l[i]? = some l[i] := List.getElem?_eq_getElem h1
  have fi := wrap_succ (i := i) (by omega)
  have ht := take_succ hx
  have hm := hin _ (List.getElem_mem h1)
  generalize l[i] = x at hx ht hm
  have kx := number_nat (m := x.toNat) (by omega)
  rw [show ((x.toNat : Nat) : Int) = x by omega] at kx
  have lx := putN_len x.toNat
  have lc2 := catN_len (l.take i)
  rw [List.length_take] at lc2
  unfold iA
  repeat' (first | refine DW_raw rfl lays169.v72 ?_ | refine DW_VB tabs rfl d1 ?_ | refine DW_VI tabs rfl fi ?_ | refine DW_A tabs rfl ?_ | refine DW_nil ?_ | refine W_A rfl ?_ | refine DW_C rfl kx ?_ | refine DW_ix tabOK rfl (ixN hx) ?_)
  refine DW_CM rfl rfl (bWrite (by decide) hN (by simp [putN]) (by omega)) ?_ (fun u M' h => by cases h.1)
  rintro u N' ⟨e, N2, hN2, hle⟩
  cases e
  repeat' (first | refine DW_raw rfl lays169.v72 ?_ | refine DW_VI tabs rfl fi ?_ | refine DW_A tabs rfl ?_ | refine DW_nil ?_ | refine W_A rfl ?_)
  refine ⟨h1, _, _, ⟨?_, rfl⟩, Joint.le ?_ hle⟩
  ·rw [catN_take ht]
   exact hN2
  ·skip
   repeat (refine AF.le_cons rfl ?_)
   exact AF.le_nil rfl
 ·have d1 : decide ((i : Int) < (l.length : Int)) = false := decide_eq_false (by omega)
  obtain rfl : i = l.length := by omega
  have hq := hc0 l.length hpos
  rw [List.take_length] at hN hq
  have lc2 := catN_len l
  repeat' (first | refine DW_raw rfl lays169.v72 ?_ | refine DW_VB tabs rfl d1 ?_ | refine DW_A tabs rfl ?_ | refine DW_nil ?_ | refine W_A rfl ?_)
  refine DW_CM rfl rfl (bTell (by decide) hN hq (by omega)) ?_ (fun u M' h => by cases h.1)
  rintro u N' ⟨e, hn⟩
  cases e
  repeat' (first | refine DW_raw rfl lays169.v72 ?_ | refine DW_A tabs rfl ?_ | refine DW_nil ?_ | refine W_A rfl ?_)
  exact ⟨rfl, _, rfl, _, rfl, SubC.of_closed closed_str⟩
set_option maxRecDepth 100000 in
set_option maxHeartbeats 8000000 in
theorem rnumbers_ok (l : List Int) (tg : Tag) (hin : okNs l) (hlen : l.length < 1000) : APure Tryz.prog 58 [iA l tg] (.str (catN l)) := by
 intro M
 refine acalls_of tabOK Tryz.func58 rfl (by decide) (by simp [Tryz.f58]) ?_
 have ll := len_map (fun n => AV.int .i64 n) l
 unfold iA
 repeat' (first | refine DW_VI tabs rfl ll ?_ | refine DW_A tabs rfl ?_ | refine DW_nil ?_ | refine W_A rfl ?_)
 refine W_count l.length (fun i f N => N = M ∧ (True) ∧ f = ⟨[(0, .sl 1 (l.map fun n => AV.int .i64 n) tg), (3, .str (catN (l.take i))), (4, .int .i64 (i : Int))], []⟩) (Nat.zero_le _) ⟨rfl, trivial, rfl⟩ (Joint.le ?_ (Mem.le_refl _)) ?_
 ·skip
  repeat (refine AF.le_cons rfl ?_)
  exact AF.le_nil rfl
 rintro i f N hi ⟨rfl, hinv, rfl⟩
 by_cases h1 : i < l.length
 ·have d1 : decide ((i : Int) < (l.length : Int)) = true := by simp; omega
  have hx : l[i]? = some l[i] := List.getElem?_eq_getElem h1
  have fi := wrap_succ (i := i) (by omega)
  have ht := take_succ hx
  have hm := List.getElem_mem h1
  generalize l[i] = x at hx ht hm
  have hm := hin _ hm
  have kx := rNumber_nat (m := x.toNat) (by omega)
  rw [show ((x.toNat : Nat) : Int) = x by omega] at kx
  have lx := putN_len x.toNat
  have lc2 := catN_len (l.take i)
  rw [List.length_take] at lc2
  have hcat : (catN (l.take i)).length + (putN x.toNat).length ≤ 9223372036854775807 ∧ catN (l.take i) ++ putN x.toNat = catN (l.take (i + 1)) := ⟨by omega, (catN_take ht).symm⟩
  repeat' (first | refine DW_VB tabs rfl d1 ?_ | refine DW_VI tabs rfl (by first | exact fi | exact ll) ?_ | refine DW_A tabs rfl ?_ | refine DW_nil ?_ | refine W_A rfl ?_ | refine DW_C rfl kx ?_ | refine DW_ix tabOK rfl (ixN hx) ?_ | refine DW_cat rfl (hcat) ?_)
  refine ⟨h1, _, _, ⟨rfl, trivial, rfl⟩, Joint.le ?_ (Mem.le_refl _)⟩
  repeat (refine AF.le_cons rfl ?_)
  exact AF.le_nil rfl
 ·have d1 : decide ((i : Int) < (l.length : Int)) = false := by simp; omega
  obtain rfl : i = l.length := by omega
  rw [List.take_length]
  repeat' (first | refine DW_VB tabs rfl d1 ?_ | refine DW_VI tabs rfl ll ?_ | refine DW_A tabs rfl ?_ | refine DW_nil ?_ | refine W_A rfl ?_)
  exact ⟨rfl, _, rfl, rfl, rfl⟩
end Go.Proofs.YtmgkebghojhocaaGreatDoor
