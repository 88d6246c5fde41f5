/- States' texts read by the code: a row of numbers, a pair. No further condition. -/
import Derived.Test.YtmgkebghojhocaaGreatDoorQDmpB
import Derived.Test.YtmgkebghojhocaaGreatDoorQV13
import Derived.Test.YtmgkebghojhocaaGreatDoorQV19
set_option linter.unusedVariables false
set_option linter.unusedSimpArgs false
namespace Go.Proofs.YtmgkebghojhocaaGreatDoor
open Go.Ab
set_option maxRecDepth 100000 in
set_option maxHeartbeats 8000000 in
theorem mustT : APure Tryz.prog 72 [.bool true] (.tup []) := by
 intro M
 refine acalls_of tabOK Tryz.func72 rfl (by decide) (by simp [Tryz.f72]) ?_
 repeat' (first | refine DW_A tabs rfl ?_ | refine DW_nil ?_ | refine W_A rfl ?_)
 exact ⟨rfl, _, rfl, rfl, rfl⟩
set_option maxRecDepth 100000 in
set_option maxHeartbeats 8000000 in
theorem mustF : AThr Tryz.prog 72 [.bool false] (.pan (errA 30)) := by
 refine thr_sub (closed1 closed_bool) (closed_err 30) ?_
 refine acalls_of tabOK Tryz.func72 rfl (by decide) (by simp [Tryz.f72]) ?_
 repeat' (first | refine DW_A tabs rfl ?_ | refine DW_nil ?_ | refine W_A rfl ?_)
 refine DW_panic rfl rfl rfl rfl rfl ?_
 exact ⟨rfl, SubC.of_closed (closed_err 30)⟩
set_option maxRecDepth 100000 in
set_option maxHeartbeats 8000000 in
theorem dreader_ok (s : Bytes) : ACalls Tryz.prog 123 [.str s] ⟨0, []⟩ (fun e N => e = .ret (.tup [.fn (.func 152) [] [.ptr 0 0], .fn (.func 154) [] [.ptr 0 0]]) ∧ N = ⟨1, [(0, .cells [.str s])]⟩) := by
 refine acalls_of tabOK Tryz.func123 rfl (by decide) (by simp [Tryz.f123]) ?_
 repeat' (first | refine DW_box 1 tabOK rfl ?_ | refine DW_A tabs rfl ?_ | refine DW_nil ?_ | refine W_A rfl ?_)
 exact ⟨rfl, _, rfl, rfl, rfl⟩
set_option maxRecDepth 100000 in
set_option maxHeartbeats 8000000 in
theorem dnext0 (s : Bytes) (hs : s.length < 1000000) : ACalls Tryz.prog 152 [.ptr 0 0] ⟨1, [(0, .cells [.str s])]⟩ (fun e N => N.next = 1 ∧ ∃ d, N.get 0 = some (.cells d) ∧ readerR s e d) := by
 refine acalls_of tabOK Tryz.func152 rfl (by decide) (by simp [Tryz.f152]) ?_
 have kg := getNumber_ok s (by omega)
 have kT := mustT
 unfold readerR
 cases hg : getNum s with
 | none =>
  rw [hg] at kg
  repeat' (first | refine DW_A tabs rfl ?_ | refine DW_nil ?_ | refine W_A rfl ?_ | refine DW_C rfl kg ?_ | refine DW_T rfl rfl (mustF) ?_)
  exact ⟨rfl, rfl, _, rfl, rfl, rfl⟩
 | some p =>
  obtain ⟨n, r⟩ := p
  rw [hg] at kg
  repeat' (first | refine DW_A tabs rfl ?_ | refine DW_nil ?_ | refine W_A rfl ?_ | refine DW_C rfl kg ?_ | refine DW_C rfl kT ?_)
  exact ⟨rfl, _, rfl, rfl, _, rfl, rfl, rfl⟩
theorem dnext_ok {M : Mem} {id : Nat} {s : Bytes} (hM : M.get id = some (.cells [.str s])) (hlt : id < M.next) (hs : s.length < 1000000) :
  ACalls Tryz.prog 152 [.ptr id 0] M fun e N => ∃ d, readerR s e d ∧ N = M.set id (.cells d) := by
 refine ACalls.frame1 id hM hlt (closed1 closed_str) (dnext0 s hs) ⟨InV.ptr rfl, trivial⟩ ?_
 intro e d h
 unfold readerR at h
 cases hg : getNum s with
 | none =>
  rw [hg] at h
  obtain ⟨rfl, rfl⟩ := h
  refine ⟨closed_err 30, closed1 closed_str, _, ?_, rfl⟩
  unfold readerR
  rw [hg]
  exact ⟨rfl, rfl⟩
 | some p =>
  obtain ⟨n, r⟩ := p
  rw [hg] at h
  obtain ⟨rfl, rfl⟩ := h
  refine ⟨closed_int, closed1 closed_str, _, ?_, rfl⟩
  unfold readerR
  rw [hg]
  exact ⟨rfl, rfl⟩
theorem dnext_some {M : Mem} {id : Nat} {s r : Bytes} {n : Nat} (hg : getNum s = some (n, r)) (hM : M.get id = some (.cells [.str s])) (hlt : id < M.next) (hs : s.length < 1000000) :
  ACalls Tryz.prog 152 [.ptr id 0] M fun e N => e = .ret (.int .i64 (n : Int)) ∧ N = M.set id (.cells [.str r]) := by
 refine (dnext_ok hM hlt hs).mono ?_
 rintro e N ⟨d, h, rfl⟩
 unfold readerR at h
 rw [hg] at h
 obtain ⟨rfl, rfl⟩ := h
 exact ⟨rfl, rfl⟩
theorem dnext_none {M : Mem} {id : Nat} {s : Bytes} (hg : getNum s = none) (hM : M.get id = some (.cells [.str s])) (hlt : id < M.next) (hs : s.length < 1000000) :
  ACalls Tryz.prog 152 [.ptr id 0] M fun e N => e = .pan (errA 30) ∧ N = M.set id (.cells [.str s]) := by
 refine (dnext_ok hM hlt hs).mono ?_
 rintro e N ⟨d, h, rfl⟩
 unfold readerR at h
 rw [hg] at h
 obtain ⟨rfl, rfl⟩ := h
 exact ⟨rfl, rfl⟩
set_option maxRecDepth 100000 in
set_option maxHeartbeats 8000000 in
theorem dend0 (s : Bytes) : ACalls Tryz.prog 154 [.ptr 0 0] ⟨1, [(0, .cells [.str s])]⟩ (fun e N => N.next = 1 ∧ ∃ d, N.get 0 = some (.cells d) ∧ e = .ret (.str s) ∧ d = [.str s]) := by
 refine acalls_of tabOK Tryz.func154 rfl (by decide) (by simp [Tryz.f154]) ?_
 repeat' (first | refine DW_A tabs rfl ?_ | refine DW_nil ?_ | refine W_A rfl ?_)
 exact ⟨rfl, _, rfl, rfl, _, rfl, rfl, rfl⟩
theorem dend_ok {M : Mem} {id : Nat} {s : Bytes} (hM : M.get id = some (.cells [.str s])) (hlt : id < M.next) :
  ACalls Tryz.prog 154 [.ptr id 0] M fun e N => e = .ret (.str s) ∧ N = M.set id (.cells [.str s]) := by
 refine ACalls.frame1 id hM hlt (closed1 closed_str) (dend0 s) ⟨InV.ptr rfl, trivial⟩ ?_
 rintro e d ⟨rfl, rfl⟩
 exact ⟨closed_str, closed1 closed_str, rfl, rfl⟩
def rowE : Option (List Int) → AEnd
 | some l => .ret (iA l .none)
 | none => .pan (errA 30)
theorem closed_rowE (x : Option (List Int)) : ClosedE (rowE x) := by
 cases x with
 | none => exact closed_err 30
 | some l => exact closed_iA _ (.inl rfl)
theorem row_stop {s q : Bytes} {m : List Nat} {k : Nat} (h : At s m q) (hg : getNum q = none) (hk : m.length < k) : rowN s k = none := by
 unfold rowN
 unfold At at h
 rw [h]
 by_cases hq : q = []
 ·subst hq
  rw [nums_nil]
  show (if _ then _ else _) = _
  rw [if_neg (by simp; omega)]
 ·rw [nums_none hg hq]
  rfl
theorem row_end {s : Bytes} {m : List Nat} {k : Nat} (h : At s m []) (hk : m.length = k) : rowN s k = some (nI m) := by
 unfold rowN
 unfold At at h
 rw [h, nums_nil]
 show (if _ then _ else _) = _
 rw [if_pos (by simp [hk])]
 simp
theorem row_more {s q : Bytes} {m : List Nat} {k : Nat} (h : At s m q) (hk : m.length = k) (hq : q ≠ []) : rowN s k = none := by
 unfold rowN
 unfold At at h
 rw [h]
 cases hn : nums q with
 | none => rfl
 | some j =>
  have hj : j ≠ [] := by
   rintro rfl
   cases hg : getNum q with
   | none => rw [nums_none hg hq] at hn; cases hn
   | some p =>
    obtain ⟨n, r⟩ := p
    rw [nums_some hg] at hn
    cases hr : nums r <;> rw [hr] at hn <;> cases hn
  have hpos := List.length_pos_iff.2 hj
  show (if _ then _ else _) = _
  rw [if_neg (by simp; omega)]
def RN (q : Bytes) (g : Nat) : Mem := ⟨2, [(0, .cells [.str q]), (1, .spare g)]⟩
def RF (k : Nat) (m : List Nat) (g i : Nat) : AF := ⟨[(5, .fn (.func 152) [] [.ptr 0 0]), (6, .fn (.func 154) [] [.ptr 0 0]), (7, iA (nI m) (.tok 1 g)), (13, .int .i64 (k : Int)), (14, .int .i64 (i : Int))], []⟩
set_option maxRecDepth 100000 in
set_option maxHeartbeats 8000000 in
theorem drow_ok (s : Bytes) (hs : s.length < 1000000) (k : Nat) (hk : k < 1000) : AThr Tryz.prog 73 [.str s, .int .i64 (k : Int)] (rowE (rowN s k)) := by
 refine thr_sub (closed2 closed_str closed_int) (closed_rowE _) ?_
 refine acalls_of tabOK Tryz.func73 rfl (by decide) (by simp [Tryz.f73]) ?_
 have kT := mustT
 repeat' (first | refine DW_A tabs rfl ?_ | refine DW_nil ?_ | refine W_A rfl ?_ | refine DW_CM rfl rfl (dreader_ok s) ?_ ?_ | refine DW_row tabOK rfl ?_ | refine DW_app tabOK rfl rfl (by simp; omega) (by simp; omega) ?_ | refine DW_app0 tabOK rfl (by simp; omega) (by simp; omega) ?_)
 rotate_left
 ·intro u M' h
  cases h.1
 rintro u M' ⟨e, rfl⟩
 cases e
 repeat' (first | refine DW_A tabs rfl ?_ | refine DW_nil ?_ | refine W_A rfl ?_ | refine DW_row tabOK rfl ?_ | refine DW_app tabOK rfl rfl (by simp; omega) (by simp; omega) ?_ | refine DW_app0 tabOK rfl (by simp; omega) (by simp; omega) ?_)
 refine W_count k (fun i f N => ∃ m q g, m.length = i ∧ At s m q ∧ q.length ≤ s.length ∧ N = RN q g ∧ f = RF k m g i) (Nat.zero_le _) ⟨[], s, 0, rfl, at_nil s, Nat.le_refl _, rfl, rfl⟩ ((Joint.tok 7 rfl (sz' := 1) (.inr rfl)).trans (Joint.le ?_ (Mem.le_cons rfl (Mem.le_cons rfl (Mem.le_nil rfl))))) ?_
 ·unfold RF
  repeat (refine AF.le_cons rfl ?_)
  exact AF.le_nil rfl
 rintro i f N hi ⟨m, q, g, rfl, am, lq, rfl, rfl⟩
 unfold RF iA
 have lm := len_map (fun n => AV.int .i64 n) (nI m)
 by_cases h1 : m.length < k
 ·have d1 : decide ((m.length : Int) < (k : Int)) = true := decide_eq_true (by omega)
  have fi := wrap_succ (i := m.length) (by omega)
  have lq2 : q.length < 1000000 := by omega
  cases hg : getNum q with
  | none =>
   rw [row_stop am hg h1]
   repeat' (first | refine DW_VB tabs rfl d1 ?_ | refine DW_VI tabs rfl fi ?_ | refine DW_A tabs rfl ?_ | refine DW_nil ?_ | refine W_A rfl ?_ | refine DW_row tabOK rfl ?_ | refine DW_app tabOK rfl rfl (by simp; omega) (by simp; omega) ?_ | refine DW_app0 tabOK rfl (by simp; omega) (by simp; omega) ?_)
   refine DW_CM rfl rfl (dnext_none hg rfl (by show 0 < 2; decide) lq2) ?_ ?_
   ·rintro u N ⟨h, _⟩
    cases h
   ·rintro u N ⟨h, rfl⟩
    cases h
    exact ⟨rfl, SubC.of_closed (closed_err 30)⟩
  | some p =>
   obtain ⟨n, r⟩ := p
   have am2 := at_next am hg
   have lr := (getNum_lt hg).1
   have eT : AV.sl 1 ((nI (m ++ [n])).map fun n => AV.int .i64 n) (.tok 1 (g + 1)) = .sl 1 (((nI m).map fun n => AV.int .i64 n) ++ [.int .i64 (n : Int)]) (.tok 1 (g + 1)) := by simp [nI]
   repeat' (first | refine DW_VB tabs rfl d1 ?_ | refine DW_VI tabs rfl fi ?_ | refine DW_A tabs rfl ?_ | refine DW_nil ?_ | refine W_A rfl ?_ | refine DW_row tabOK rfl ?_ | refine DW_app tabOK rfl rfl (by simp; omega) (by simp; omega) ?_ | refine DW_app0 tabOK rfl (by simp; omega) (by simp; omega) ?_)
   refine DW_CM rfl rfl (dnext_some hg rfl (by show 0 < 2; decide) lq2) ?_ ?_
   rotate_left
   ·rintro u N ⟨h, _⟩
    cases h
   rintro u N ⟨h, rfl⟩
   cases h
   repeat' (first | refine DW_VB tabs rfl d1 ?_ | refine DW_VI tabs rfl (by first | exact fi | exact lm) ?_ | refine DW_A tabs rfl ?_ | refine DW_nil ?_ | refine W_A rfl ?_ | refine DW_row tabOK rfl ?_ | refine DW_app tabOK rfl rfl (by simp; omega) (by simp; omega) ?_ | refine DW_app0 tabOK rfl (by simp; omega) (by simp; omega) ?_)
   refine ⟨h1, RF k (m ++ [n]) (g + 1) (m.length + 1), RN r (g + 1), ⟨m ++ [n], r, g + 1, by simp, am2, by omega, rfl, rfl⟩, Joint.le ?_ (Mem.le_cons rfl (Mem.le_cons rfl (Mem.le_nil rfl)))⟩
   unfold RF iA
   rw [eT]
   repeat (refine AF.le_cons rfl ?_)
   exact AF.le_nil rfl
 ·have d1 : decide ((m.length : Int) < (k : Int)) = false := decide_eq_false (by omega)
  have hml : m.length = k := by omega
  by_cases hq : q = []
  ·subst hq
   have d3 : (([] : Bytes) == []) = true := rfl
   rw [row_end am hml]
   have hc := closed_iA (nI m) (t := .none) (.inl rfl)
   unfold iA at hc
   have ke := dend_ok (M := RN [] g) (id := 0) (s := []) rfl (by show 0 < 2; decide)
   repeat' (first | refine DW_VB tabs rfl (by first | exact d1 | exact d3) ?_ | refine DW_A tabs rfl ?_ | refine DW_nil ?_ | refine W_A rfl ?_ | refine DW_CM rfl rfl (ke) ?_ ?_ | refine DW_row tabOK rfl ?_ | refine DW_app tabOK rfl rfl (by simp; omega) (by simp; omega) ?_ | refine DW_app0 tabOK rfl (by simp; omega) (by simp; omega) ?_)
   rotate_left
   ·intro u M' h
    cases h.1
   rintro u M' ⟨e, rfl⟩
   cases e
   repeat' (first | refine DW_VB tabs rfl d3 ?_ | refine DW_A tabs rfl ?_ | refine DW_nil ?_ | refine W_A rfl ?_ | refine DW_C rfl kT ?_ | refine DW_row tabOK rfl ?_ | refine DW_app tabOK rfl rfl (by simp; omega) (by simp; omega) ?_ | refine DW_app0 tabOK rfl (by simp; omega) (by simp; omega) ?_)
   exact ⟨rfl, _, rfl, SubC.untag hc⟩
  ·have d3 : (q == []) = false := by simp [hq]
   rw [row_more am hml hq]
   have ke := dend_ok (M := RN q g) (id := 0) (s := q) rfl (by show 0 < 2; decide)
   repeat' (first | refine DW_VB tabs rfl (by first | exact d1 | exact d3) ?_ | refine DW_A tabs rfl ?_ | refine DW_nil ?_ | refine W_A rfl ?_ | refine DW_CM rfl rfl (ke) ?_ ?_ | refine DW_row tabOK rfl ?_ | refine DW_app tabOK rfl rfl (by simp; omega) (by simp; omega) ?_ | refine DW_app0 tabOK rfl (by simp; omega) (by simp; omega) ?_)
   rotate_left
   ·intro u M' h
    cases h.1
   rintro u M' ⟨e, rfl⟩
   cases e
   repeat' (first | refine DW_VB tabs rfl d3 ?_ | refine DW_A tabs rfl ?_ | refine DW_nil ?_ | refine W_A rfl ?_ | refine DW_T rfl rfl (mustF) ?_ | refine DW_row tabOK rfl ?_ | refine DW_app tabOK rfl rfl (by simp; omega) (by simp; omega) ?_ | refine DW_app0 tabOK rfl (by simp; omega) (by simp; omega) ?_)
   exact ⟨rfl, SubC.of_closed (closed_err 30)⟩
def pairE : Option Pr → AEnd
 | some p => .ret p.av
 | none => .pan (errA 30)
theorem closed_pairE (x : Option Pr) : ClosedE (pairE x) := by
 cases x with
 | none => exact closed_err 30
 | some p => exact closed_pr p
theorem pairO_none {s : Bytes} (h : textO s = none) : pairO s = none := by
 unfold pairO
 rw [h]
theorem pairO_some {s k r : Bytes} (h : textO s = some (k, r)) : pairO s = if (getB k).2 = 0 then some ⟨(getB k).1, r⟩ else none := by
 unfold pairO
 rw [h]
set_option maxRecDepth 100000 in
set_option maxHeartbeats 8000000 in
theorem dpair_ok (s : Bytes) (hs : s.length < 1000000) : AThr Tryz.prog 74 [.str s] (pairE (pairO s)) := by
 refine thr_sub (closed1 closed_str) (closed_pairE _) ?_
 refine acalls_of tabOK Tryz.func74 rfl (by decide) (by simp [Tryz.f74]) ?_
 have kT := mustT
 have kt := cgetText_ok s (by omega)
 cases ht : textO s with
 | none =>
  rw [ht] at kt
  rw [pairO_none ht]
  repeat' (first | refine DW_box 2 tabOK rfl ?_ | refine DW_box 6 tabOK rfl ?_ | refine DW_A tabs rfl ?_ | refine DW_nil ?_ | refine W_A rfl ?_ | refine DW_C rfl kt ?_ | refine DW_T rfl rfl (mustF) ?_)
  exact ⟨rfl, SubC.of_closed (closed_err 30)⟩
 | some p =>
  obtain ⟨k, r⟩ := p
  rw [ht] at kt
  rw [pairO_some ht]
  have hl := (textO_inv ht).1
  have kg := get_ok k (by omega)
  unfold getA at kg
  generalize getB k = y at *
  obtain ⟨y, e⟩ := y
  by_cases h0 : e = 0
  ·subst h0
   rw [if_pos rfl]
   have d1 : decide ((0 : Int) = 0) = true := rfl
   repeat' (first | refine DW_VB tabs rfl d1 ?_ | refine DW_box 2 tabOK rfl ?_ | refine DW_box 6 tabOK rfl ?_ | refine DW_A tabs rfl ?_ | refine DW_nil ?_ | refine W_A rfl ?_ | refine DW_C rfl kt ?_ | refine DW_C rfl kg ?_ | refine DW_C rfl kT ?_)
   exact ⟨rfl, _, rfl, SubC.of_closed (closed_pr ⟨y, r⟩)⟩
  ·have d1 : decide (e = 0) = false := decide_eq_false h0
   rw [if_neg h0]
   repeat' (first | refine DW_VB tabs rfl d1 ?_ | refine DW_box 2 tabOK rfl ?_ | refine DW_box 6 tabOK rfl ?_ | refine DW_A tabs rfl ?_ | refine DW_nil ?_ | refine W_A rfl ?_ | refine DW_C rfl kt ?_ | refine DW_C rfl kg ?_ | refine DW_C rfl kT ?_ | refine DW_T rfl rfl (mustF) ?_)
   exact ⟨rfl, SubC.of_closed (closed_err 30)⟩
end Go.Proofs.YtmgkebghojhocaaGreatDoor
