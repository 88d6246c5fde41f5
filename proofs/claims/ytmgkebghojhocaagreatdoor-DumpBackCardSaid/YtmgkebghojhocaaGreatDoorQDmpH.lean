/- States' texts read by the document. No further condition. -/
import Derived.Test.YtmgkebghojhocaaGreatDoorQDmpG
set_option linter.unusedVariables false
set_option linter.unusedSimpArgs false
namespace Go.Proofs.YtmgkebghojhocaaGreatDoor
open Go.Ab
def firstN : Nat → Bytes → Option (List Nat × Bytes)
 | 0, s => some ([], s)
 | k + 1, s => match getNum s with
  | none => none
  | some (n, r) => (firstN k r).map fun x => (n :: x.1, x.2)
theorem firstN_some {k n : Nat} {s r : Bytes} (h : getNum s = some (n, r)) : firstN (k + 1) s = (firstN k r).map fun x => (n :: x.1, x.2) := by
 show (match getNum s with | none => none | some (n, r) => (firstN k r).map fun x : List Nat × Bytes => (n :: x.1, x.2)) = _
 rw [h]
theorem firstN_none {k : Nat} {s : Bytes} (h : getNum s = none) : firstN (k + 1) s = none := by
 show (match getNum s with | none => none | some (n, r) => (firstN k r).map fun x : List Nat × Bytes => (n :: x.1, x.2)) = _
 rw [h]
def FAt (s : Bytes) (i : Nat) (m : List Nat) (q : Bytes) : Prop := ∀ j, firstN (i + j) s = (firstN j q).map fun x => (m ++ x.1, x.2)
theorem fat_nil (s : Bytes) : FAt s 0 [] s := by
 intro j
 rw [Nat.zero_add]
 cases firstN j s <;> rfl
theorem fat_next {s q r : Bytes} {i n : Nat} {m : List Nat} (h : FAt s i m q) (hg : getNum q = some (n, r)) : FAt s (i + 1) (m ++ [n]) r := by
 intro j
 rw [show i + 1 + j = i + (j + 1) by omega, h (j + 1), firstN_some hg]
 cases firstN j r with
 | none => rfl
 | some x => simp
theorem fat_stop {s q : Bytes} {i k : Nat} {m : List Nat} (h : FAt s i m q) (hg : getNum q = none) (hk : i < k) : firstN k s = none := by
 have := h (k - i - 1 + 1)
 rw [show i + (k - i - 1 + 1) = k by omega, firstN_none hg] at this
 exact this
theorem fat_end {s q : Bytes} {k : Nat} {m : List Nat} (h : FAt s k m q) : firstN k s = some (m, q) := by
 have := h 0
 rw [Nat.add_zero] at this
 rw [this]
 simp [firstN]
def readO (s : Bytes) (k : Nat) : List Int × Bool := match firstN k s with
 | none => ([], false)
 | some (m, q) => (nI m, q == [])
theorem nums_first : ∀ {m : List Nat} {s : Bytes}, nums s = some m → firstN m.length s = some (m, [])
 | [], s, h => by
  have hs : s = [] := by
   cases hg : getNum s with
   | none =>
    by_cases hs : s = []
    ·exact hs
    ·rw [nums_none hg hs] at h
     cases h
   | some p =>
    obtain ⟨n, r⟩ := p
    rw [nums_some hg] at h
    cases hr : nums r <;> rw [hr] at h <;> cases h
  rw [hs]
  rfl
 | n :: m, s, h => by
  cases hg : getNum s with
  | none =>
   by_cases hs : s = []
   ·rw [hs, nums_nil] at h
    cases h
   ·rw [nums_none hg hs] at h
    cases h
  | some p =>
   obtain ⟨n', r⟩ := p
   rw [nums_some hg] at h
   cases hr : nums r with
   | none => rw [hr] at h; cases h
   | some m' =>
    rw [hr] at h
    cases h
    show firstN (m.length + 1) s = _
    rw [firstN_some hg, nums_first hr]
    rfl
theorem first_at : ∀ {k : Nat} {s q : Bytes} {m : List Nat}, firstN k s = some (m, q) → At s m q ∧ m.length = k
 | 0, s, q, m, h => by
  cases h
  exact ⟨at_nil s, rfl⟩
 | k + 1, s, q, m, h => by
  cases hg : getNum s with
  | none => rw [firstN_none hg] at h; cases h
  | some p =>
   obtain ⟨n, r⟩ := p
   rw [firstN_some hg] at h
   cases hr : firstN k r with
   | none => rw [hr] at h; cases h
   | some x =>
    obtain ⟨m', q'⟩ := x
    rw [hr] at h
    cases h
    obtain ⟨h1, h2⟩ := first_at hr
    refine ⟨?_, by simp [h2]⟩
    unfold At at *
    rw [nums_some hg, h1]
    show _ = (nums q').map _
    cases nums q' <;> rfl
theorem readO_yes {s : Bytes} {k : Nat} {l : List Int} (h : rowN s k = some l) : readO s k = (l, true) := by
 unfold rowN at h
 cases hn : nums s with
 | none => rw [hn] at h; cases h
 | some m =>
  rw [hn] at h
  have h : (if m.length = k then some (nI m) else none) = some l := h
  split at h
  ·rename_i hk
   cases h
   unfold readO
   rw [← hk, nums_first hn]
   rfl
  ·cases h
theorem readO_no {s : Bytes} {k : Nat} (h : rowN s k = none) : (readO s k).2 = false := by
 unfold readO
 cases hf : firstN k s with
 | none => rfl
 | some x =>
  obtain ⟨m, q⟩ := x
  show (q == []) = false
  cases hq : (q == []) with
  | false => rfl
  | true =>
   have hq : q = [] := by simpa using hq
   subst hq
   obtain ⟨h1, h2⟩ := first_at hf
   rw [row_end h1 h2] at h
   cases h
def rrA (x : List Int × Bool) : AV := .tup [iA x.1 .none, .bool x.2]
theorem closed_rdA (x : List Int × Bool) : Closed (rrA x) := closed_tup (closed2 (closed_iA _ (.inl rfl)) closed_bool)
def rdF (k : Nat) (m : List Nat) (q : Bytes) (g i : Nat) : AF := ⟨[(0, .str q), (1, .int .i64 (k : Int)), (6, iA (nI m) (.tok 0 g)), (7, .int .i64 (i : Int))], []⟩
set_option maxRecDepth 100000 in
set_option maxHeartbeats 8000000 in
theorem rread_ok (s : Bytes) (hs : s.length < 1000000) (k : Nat) (hk : k < 1000) : APure Tryz.prog 75 [.str s, .int .i64 (k : Int)] (rrA (readO s k)) := by
 refine pure_sub (closed2 closed_str closed_int) (closed_rdA _) ?_
 refine acalls_of tabOK Tryz.func75 rfl (by decide) (by simp [Tryz.f75]) ?_
 repeat' (first | refine DW_A tabs rfl ?_ | refine DW_nil ?_ | refine W_A rfl ?_ | refine DW_row tabOK rfl ?_ | refine DW_app tabOK rfl rfl (by simp; omega) (by simp; omega) ?_ | refine DW_app0 tabOK rfl (by simp; omega) (by simp; omega) ?_)
 refine W_count k (fun i f N => ∃ m q g, m.length = i ∧ FAt s i m q ∧ q.length ≤ s.length ∧ N = tokM g ∧ f = rdF k m q g i) (Nat.zero_le _) ⟨[], s, 0, rfl, fat_nil s, Nat.le_refl _, rfl, rfl⟩ ((Joint.tok 6 rfl (sz' := 1) (.inr rfl)).trans (Joint.le ?_ (tokM_of rfl rfl))) ?_
 ·unfold rdF
  repeat (refine AF.le_cons rfl ?_)
  exact AF.le_nil rfl
 rintro i f N hi ⟨m, q, g, rfl, am, lq, rfl, rfl⟩
 unfold rdF iA
 have lm := len_map (fun n => AV.int .i64 n) (nI m)
 by_cases h1 : m.length < k
 ·have d1 : decide ((m.length : Int) < (k : Int)) = true := decide_eq_true (by omega)
  have fi := wrap_succ (i := m.length) (by omega)
  have kg := rGetNumber_ok q (by omega)
  cases hg : getNum q with
  | none =>
   rw [hg] at kg
   have e : readO s k = ([], false) := by
    unfold readO
    rw [fat_stop am hg h1]
   rw [e]
   repeat' (first | refine DW_VB tabs rfl d1 ?_ | refine DW_VI tabs rfl fi ?_ | refine DW_A tabs rfl ?_ | refine DW_nil ?_ | refine W_A rfl ?_ | refine DW_C rfl kg ?_ | refine DW_row tabOK rfl ?_ | refine DW_app tabOK rfl rfl (by simp; omega) (by simp; omega) ?_ | refine DW_app0 tabOK rfl (by simp; omega) (by simp; omega) ?_)
   exact ⟨rfl, _, rfl, _, rfl, SubC.tup2 SubC.nil (SubC.of_closed closed_bool)⟩
  | some p =>
   obtain ⟨n, r⟩ := p
   rw [hg] at kg
   have am2 := fat_next am hg
   have lr := (getNum_lt hg).1
   have eT : AV.sl 1 ((nI (m ++ [n])).map fun n => AV.int .i64 n) (.tok 0 (g + 1)) = .sl 1 (((nI m).map fun n => AV.int .i64 n) ++ [.int .i64 (n : Int)]) (.tok 0 (g + 1)) := by simp [nI]
   repeat' (first | refine DW_VB tabs rfl d1 ?_ | refine DW_VI tabs rfl (by first | exact fi | exact lm) ?_ | refine DW_A tabs rfl ?_ | refine DW_nil ?_ | refine W_A rfl ?_ | refine DW_C rfl kg ?_ | refine DW_row tabOK rfl ?_ | refine DW_app tabOK rfl rfl (by simp; omega) (by simp; omega) ?_ | refine DW_app0 tabOK rfl (by simp; omega) (by simp; omega) ?_)
   refine ⟨h1, rdF k (m ++ [n]) r (g + 1) (m.length + 1), tokM (g + 1), ⟨m ++ [n], r, g + 1, by simp, am2, by omega, rfl, rfl⟩, Joint.le ?_ (tokM_of rfl rfl)⟩
   unfold rdF iA
   rw [eT]
   repeat (refine AF.le_cons rfl ?_)
   exact AF.le_nil rfl
 ·have d1 : decide ((m.length : Int) < (k : Int)) = false := decide_eq_false (by omega)
  obtain rfl : m.length = k := by omega
  have e : readO s m.length = (nI m, q == []) := by
   unfold readO
   rw [fat_end am]
  rw [e]
  have hc := closed_iA (nI m) (t := .none) (.inl rfl)
  unfold iA at hc
  repeat' (first | refine DW_VB tabs rfl d1 ?_ | refine DW_A tabs rfl ?_ | refine DW_nil ?_ | refine W_A rfl ?_ | refine DW_row tabOK rfl ?_ | refine DW_app tabOK rfl rfl (by simp; omega) (by simp; omega) ?_ | refine DW_app0 tabOK rfl (by simp; omega) (by simp; omega) ?_)
  exact ⟨rfl, _, rfl, _, rfl, SubC.tup2 (SubC.untag hc) (SubC.of_closed closed_bool)⟩
end Go.Proofs.YtmgkebghojhocaaGreatDoor
