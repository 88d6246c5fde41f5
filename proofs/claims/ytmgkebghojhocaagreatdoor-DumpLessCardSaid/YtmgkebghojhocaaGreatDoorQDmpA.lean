/- Rows of pins and of clients' last ops: which may be, which are the same. No further condition. -/
import Derived.Test.YtmgkebghojhocaaGreatDoorQDmpP
set_option linter.unusedVariables false
set_option linter.unusedSimpArgs false
namespace Go.Proofs.YtmgkebghojhocaaGreatDoor
open Go.Ab
def pinsA (l : List Pn) (t : Tag) : AV := .sl 2 (l.map Pn.av) t
def seenA (l : List Sn) (t : Tag) : AV := .sl 4 (l.map Sn.av) t
theorem closed_pnc (p : Pn) : ∀ c, c ∈ p.av.cells → Closed c := closed2 closed_int closed_int
theorem closed_snc (p : Sn) : ∀ c, c ∈ p.av.cells → Closed c := closedL_cons closed_int (closed3 closed_int closed_int closed_int)
theorem closed_pn (p : Pn) : Closed p.av := closed_agg (closed_pnc p)
theorem closed_sn (p : Sn) : Closed p.av := closed_agg (closed_snc p)
theorem closed_pins (l : List Pn) {t : Tag} (h : t = .none ∨ t = .full) : Closed (pinsA l t) := closed_sl h (fun x hx => by obtain ⟨p, _, rfl⟩ := List.mem_map.1 hx; exact closed_pn p) (fun x hx => by obtain ⟨p, _, rfl⟩ := List.mem_map.1 hx; exact closed_pnc p)
theorem closed_seen (l : List Sn) {t : Tag} (h : t = .none ∨ t = .full) : Closed (seenA l t) := closed_sl h (fun x hx => by obtain ⟨p, _, rfl⟩ := List.mem_map.1 hx; exact closed_sn p) (fun x hx => by obtain ⟨p, _, rfl⟩ := List.mem_map.1 hx; exact closed_snc p)
theorem upB_no1 {α : Type} {q : α → Bool} {k : α → Int} {p : Option Int} {x : α} {r : List α} (h : q x = false) : upB q k p (x :: r) = false := by
 cases p <;> simp [upB, h]
theorem upB_no2 {α : Type} {q : α → Bool} {k : α → Int} {n : Int} {x : α} {r : List α} (h : ¬ n < k x) : upB q k (some n) (x :: r) = false := by
 simp [upB, h]
theorem upB_go0 {α : Type} {q : α → Bool} {k : α → Int} {x : α} {r : List α} (h : q x = true) : upB q k none (x :: r) = upB q k (some (k x)) r := by
 simp [upB, h]
theorem upB_go1 {α : Type} {q : α → Bool} {k : α → Int} {n : Int} {x : α} {r : List α} (h : q x = true) (h2 : n < k x) : upB q k (some n) (x :: r) = upB q k (some (k x)) r := by
 simp [upB, h, h2]
theorem pv_at {α : Type} {k : α → Int} {l : List α} {i : Nat} {x : α} (h : l[i]? = some x) : pv k l (i + 1) = some (k x) := by
 show l[i]?.map k = some (k x)
 rw [h]
 rfl
theorem dropx {α : Type} {l : List α} {i : Nat} {x : α} (h : l[i]? = some x) : l.drop i = x :: l.drop (i + 1) := by
 obtain ⟨h1, rfl⟩ := List.getElem?_eq_some_iff.1 h
 exact List.drop_eq_getElem_cons h1
theorem le50 (n : Nat) : decide ((n : Int) ≤ 50) = decide (n ≤ 50) := decide_eq_decide.2 (by omega)
theorem pn_neB (p q : Pn) : (!((decide (p.session = q.session)) && ((decide (p.at_ = q.at_)) && true))) = !decide (p = q) := by
 obtain ⟨a, b⟩ := p
 obtain ⟨d, e⟩ := q
 congr 1
 rw [Bool.eq_iff_iff]
 simp
theorem sn_neB (p q : Sn) : (!((decide (p.client = q.client)) && ((decide (p.seq = q.seq)) && (((decide (p.code = q.code)) && ((decide (p.n = q.n)) && true)) && true)))) = !decide (p = q) := by
 obtain ⟨a, b, c, d⟩ := p
 obtain ⟨e, f, g, h⟩ := q
 congr 1
 rw [Bool.eq_iff_iff]
 simp
def inB (n a b : Int) : Bool := decide (a ≤ n) && decide (n ≤ b)
theorem mayBn_in (p : Sn) : mayBn p = (((inB p.client 0 1000000 && inB p.seq 1 1000000000) && inB p.code 0 1000) && inB p.n 0 1000000000) := by
 simp [mayBn, inB, Bool.and_assoc]
set_option maxRecDepth 100000 in
set_option maxHeartbeats 8000000 in
theorem pmay_ok (p : Pn) : APure Tryz.prog 119 [p.av] (.bool (mayPn p)) := by
 intro M
 refine acalls_of tabOK Tryz.func119 rfl (by decide) (by simp [Tryz.f119]) ?_
 unfold mayPn Pn.av
 cases h1 : decide (0 ≤ p.session)
 ·repeat' (first | refine DW_VB tabs rfl h1 ?_ | refine DW_A tabs rfl ?_ | refine DW_nil ?_ | refine W_A rfl ?_)
  exact ⟨rfl, _, rfl, rfl, rfl⟩
 ·skip
  cases h2 : decide (p.session ≤ 1000000)
  ·repeat' (first | refine DW_VB tabs rfl (by first | exact h1 | exact h2) ?_ | refine DW_A tabs rfl ?_ | refine DW_nil ?_ | refine W_A rfl ?_)
   exact ⟨rfl, _, rfl, rfl, rfl⟩
  ·skip
   cases h3 : decide (0 ≤ p.at_)
   ·repeat' (first | refine DW_VB tabs rfl (by first | exact h1 | exact h2 | exact h3) ?_ | refine DW_A tabs rfl ?_ | refine DW_nil ?_ | refine W_A rfl ?_)
    exact ⟨rfl, _, rfl, rfl, rfl⟩
   ·skip
    cases h4 : decide (p.at_ ≤ 1000000000)
    ·repeat' (first | refine DW_VB tabs rfl (by first | exact h1 | exact h2 | exact h3 | exact h4) ?_ | refine DW_A tabs rfl ?_ | refine DW_nil ?_ | refine W_A rfl ?_)
     exact ⟨rfl, _, rfl, rfl, rfl⟩
    ·repeat' (first | refine DW_VB tabs rfl (by first | exact h1 | exact h2 | exact h3 | exact h4) ?_ | refine DW_A tabs rfl ?_ | refine DW_nil ?_ | refine W_A rfl ?_)
     exact ⟨rfl, _, rfl, rfl, rfl⟩
set_option maxRecDepth 100000 in
set_option maxHeartbeats 8000000 in
theorem bin_ok (n a b : Int) : APure Tryz.prog 150 [.int .i64 n, .int .i64 a, .int .i64 b] (.bool (inB n a b)) := by
 intro M
 refine acalls_of tabOK Tryz.func150 rfl (by decide) (by simp [Tryz.f150]) ?_
 unfold inB
 cases h1 : decide (a ≤ n)
 ·repeat' (first | refine DW_VB tabs rfl h1 ?_ | refine DW_A tabs rfl ?_ | refine DW_nil ?_ | refine W_A rfl ?_)
  exact ⟨rfl, _, rfl, rfl, rfl⟩
 ·skip
  cases h2 : decide (n ≤ b)
  ·repeat' (first | refine DW_VB tabs rfl (by first | exact h1 | exact h2) ?_ | refine DW_A tabs rfl ?_ | refine DW_nil ?_ | refine W_A rfl ?_)
   exact ⟨rfl, _, rfl, rfl, rfl⟩
  ·repeat' (first | refine DW_VB tabs rfl (by first | exact h1 | exact h2) ?_ | refine DW_A tabs rfl ?_ | refine DW_nil ?_ | refine W_A rfl ?_)
   exact ⟨rfl, _, rfl, rfl, rfl⟩
set_option maxRecDepth 100000 in
set_option maxHeartbeats 8000000 in
theorem bmay_ok (p : Sn) : APure Tryz.prog 120 [p.av] (.bool (mayBn p)) := by
 intro M
 refine acalls_of tabOK Tryz.func120 rfl (by decide) (by simp [Tryz.f120]) ?_
 have k1 := bin_ok p.client 0 1000000
 have k2 := bin_ok p.seq 1 1000000000
 have k3 := bin_ok p.code 0 1000
 have k4 := bin_ok p.n 0 1000000000
 rw [mayBn_in]
 unfold Sn.av
 cases h1 : inB p.client 0 1000000
 ·rw [h1] at k1
  repeat' (first | refine DW_A tabs rfl ?_ | refine DW_nil ?_ | refine W_A rfl ?_ | refine DW_C rfl k1 ?_)
  exact ⟨rfl, _, rfl, rfl, rfl⟩
 ·rw [h1] at k1
  cases h2 : inB p.seq 1 1000000000
  ·rw [h2] at k2
   repeat' (first | refine DW_A tabs rfl ?_ | refine DW_nil ?_ | refine W_A rfl ?_ | refine DW_C rfl k1 ?_ | refine DW_C rfl k2 ?_)
   exact ⟨rfl, _, rfl, rfl, rfl⟩
  ·rw [h2] at k2
   cases h3 : inB p.code 0 1000
   ·rw [h3] at k3
    repeat' (first | refine DW_A tabs rfl ?_ | refine DW_nil ?_ | refine W_A rfl ?_ | refine DW_C rfl k1 ?_ | refine DW_C rfl k2 ?_ | refine DW_C rfl k3 ?_)
    exact ⟨rfl, _, rfl, rfl, rfl⟩
   ·rw [h3] at k3
    cases h4 : inB p.n 0 1000000000
    ·rw [h4] at k4
     repeat' (first | refine DW_A tabs rfl ?_ | refine DW_nil ?_ | refine W_A rfl ?_ | refine DW_C rfl k1 ?_ | refine DW_C rfl k2 ?_ | refine DW_C rfl k3 ?_ | refine DW_C rfl k4 ?_)
     exact ⟨rfl, _, rfl, rfl, rfl⟩
    ·rw [h4] at k4
     repeat' (first | refine DW_A tabs rfl ?_ | refine DW_nil ?_ | refine W_A rfl ?_ | refine DW_C rfl k1 ?_ | refine DW_C rfl k2 ?_ | refine DW_C rfl k3 ?_ | refine DW_C rfl k4 ?_)
     exact ⟨rfl, _, rfl, rfl, rfl⟩
set_option maxRecDepth 100000 in
set_option maxHeartbeats 8000000 in
theorem rbmay_ok (p : Sn) : APure Tryz.prog 122 [p.av] (.bool (mayBn p)) := by
 intro M
 refine acalls_of tabOK Tryz.func122 rfl (by decide) (by simp [Tryz.f122]) ?_
 unfold mayBn Sn.av
 cases h1 : decide (0 ≤ p.client)
 ·repeat' (first | refine DW_VB tabs rfl h1 ?_ | refine DW_A tabs rfl ?_ | refine DW_nil ?_ | refine W_A rfl ?_)
  exact ⟨rfl, _, rfl, rfl, rfl⟩
 ·skip
  cases h2 : decide (p.client ≤ 1000000)
  ·repeat' (first | refine DW_VB tabs rfl (by first | exact h1 | exact h2) ?_ | refine DW_A tabs rfl ?_ | refine DW_nil ?_ | refine W_A rfl ?_)
   exact ⟨rfl, _, rfl, rfl, rfl⟩
  ·skip
   cases h3 : decide (1 ≤ p.seq)
   ·repeat' (first | refine DW_VB tabs rfl (by first | exact h1 | exact h2 | exact h3) ?_ | refine DW_A tabs rfl ?_ | refine DW_nil ?_ | refine W_A rfl ?_)
    exact ⟨rfl, _, rfl, rfl, rfl⟩
   ·skip
    cases h4 : decide (p.seq ≤ 1000000000)
    ·repeat' (first | refine DW_VB tabs rfl (by first | exact h1 | exact h2 | exact h3 | exact h4) ?_ | refine DW_A tabs rfl ?_ | refine DW_nil ?_ | refine W_A rfl ?_)
     exact ⟨rfl, _, rfl, rfl, rfl⟩
    ·skip
     cases h5 : decide (0 ≤ p.code)
     ·repeat' (first | refine DW_VB tabs rfl (by first | exact h1 | exact h2 | exact h3 | exact h4 | exact h5) ?_ | refine DW_A tabs rfl ?_ | refine DW_nil ?_ | refine W_A rfl ?_)
      exact ⟨rfl, _, rfl, rfl, rfl⟩
     ·skip
      cases h6 : decide (p.code ≤ 1000)
      ·repeat' (first | refine DW_VB tabs rfl (by first | exact h1 | exact h2 | exact h3 | exact h4 | exact h5 | exact h6) ?_ | refine DW_A tabs rfl ?_ | refine DW_nil ?_ | refine W_A rfl ?_)
       exact ⟨rfl, _, rfl, rfl, rfl⟩
      ·skip
       cases h7 : decide (0 ≤ p.n)
       ·repeat' (first | refine DW_VB tabs rfl (by first | exact h1 | exact h2 | exact h3 | exact h4 | exact h5 | exact h6 | exact h7) ?_ | refine DW_A tabs rfl ?_ | refine DW_nil ?_ | refine W_A rfl ?_)
        exact ⟨rfl, _, rfl, rfl, rfl⟩
       ·skip
        cases h8 : decide (p.n ≤ 1000000000)
        ·repeat' (first | refine DW_VB tabs rfl (by first | exact h1 | exact h2 | exact h3 | exact h4 | exact h5 | exact h6 | exact h7 | exact h8) ?_ | refine DW_A tabs rfl ?_ | refine DW_nil ?_ | refine W_A rfl ?_)
         exact ⟨rfl, _, rfl, rfl, rfl⟩
        ·repeat' (first | refine DW_VB tabs rfl (by first | exact h1 | exact h2 | exact h3 | exact h4 | exact h5 | exact h6 | exact h7 | exact h8) ?_ | refine DW_A tabs rfl ?_ | refine DW_nil ?_ | refine W_A rfl ?_)
         exact ⟨rfl, _, rfl, rfl, rfl⟩
def pinIsF (l : List Pn) (i : Nat) : AF := ⟨[(0, pinsA l .none), (5, pinsA l .none), (6, .int .i64 (l.length : Int)), (7, .int .i64 (i : Int))], []⟩
set_option maxRecDepth 100000 in
set_option maxHeartbeats 8000000 in
theorem pinIs_ok (l : List Pn) (hl : l.length < 1000000) : APure Tryz.prog 62 [pinsA l .none] (.bool (upB mayPn Pn.session none l && decide (l.length ≤ 50))) := by
 refine pure_sub (closed1 (closed_pins l (.inl rfl))) (closed_bool) ?_
 refine acalls_of tabOK Tryz.func62 rfl (by decide) (by simp [Tryz.f62]) ?_
 have la := len_map Pn.av l
 have hc := closed_pins l (t := .none) (.inl rfl)
 have h50 := le50 l.length
 unfold pinsA at *
 repeat' (first | refine DW_VI tabs rfl la ?_ | refine DW_box 4 tabOK rfl ?_ | refine DW_oix tabOK rfl ?_ | refine DW_olenA tabOK rfl ?_ | refine DW_A tabs rfl ?_ | refine DW_nil ?_ | refine W_A rfl ?_ | refine W_draw mixed [0, 1, 2, 3, 4, 5, 6, 7, 8, 9, 10, 11, 12, 13, 14, 15, 16, 17] [.R, .P, .P, .P, .P, .P, .P, .P, .P, .P, .R, .R, .R, .R, .R, .P, .P, .P] rfl rfl (by kernel_rfl) ?_)
 refine W_count l.length (fun i f N => N = ⟨0, []⟩ ∧ upB mayPn Pn.session none l = upB mayPn Pn.session (pv Pn.session l i) (l.drop i) ∧ f = pinIsF l i) (Nat.zero_le _) ⟨rfl, rfl, rfl⟩ (Joint.le ?_ (Mem.le_nil rfl)) ?_
 ·unfold pinIsF pinsA
  repeat (refine AF.le_cons rfl ?_)
  exact AF.le_nil rfl
 rintro i f N hi ⟨rfl, hinv, rfl⟩
 unfold pinIsF pinsA
 by_cases h1 : i < l.length
 ·have d1 : decide ((i : Int) < (l.length : Int)) = true := decide_eq_true (by omega)
  have hx : l[i]? = some l[i] := List.getElem?_eq_getElem h1
  have fi := wrap_succ (i := i) (by omega)
  generalize l[i] = x at hx
  rw [dropx hx] at hinv
  have fin : ∀ {f : AF} {M : Mem}, upB mayPn Pn.session none l = upB mayPn Pn.session (pv Pn.session l (i + 1)) (l.drop (i + 1)) → f.d = [] → SubC 0 (f.get 0) (pinsA l .none) → SubC 0 (f.get 5) (pinsA l .none) → SubC 0 (f.get 6) (.int .i64 (l.length : Int)) → SubC 0 (f.get 7) (.int .i64 ((i + 1 : Nat) : Int)) → ∃ f'' N, (N = ⟨0, []⟩ ∧ upB mayPn Pn.session none l = upB mayPn Pn.session (pv Pn.session l (i + 1)) (l.drop (i + 1)) ∧ f'' = pinIsF l (i + 1)) ∧ Joint 0 f M f'' N   := fun {f M} hq h0 q1 q2 q3 q4 =>
   ⟨pinIsF l (i + 1), ⟨0, []⟩, ⟨rfl, hq, rfl⟩, Joint.cut (k := 0) (t := (pinIsF l (i + 1)).t) (l := []) (Nat.le_refl _) (Nat.zero_le _) h0 ⟨q1, q2, q3, q4, trivial⟩ trivial⟩
  have km := pmay_ok x
  unfold Pn.av at km
  cases hm : mayPn x
  ·rw [hm] at km
   rw [hinv, upB_no1 hm]
   repeat' (first | refine DW_VB tabs rfl d1 ?_ | refine DW_VI tabs rfl (by first | exact la | exact fi) ?_ | refine DW_box 4 tabOK rfl ?_ | refine DW_oix tabOK rfl ?_ | refine DW_olenA tabOK rfl ?_ | refine DW_A tabs rfl ?_ | refine DW_nil ?_ | refine W_A rfl ?_ | refine DW_C rfl km ?_ | refine DW_ix tabOK rfl (ixN hx) ?_ | refine W_draw mixed [0, 1, 2, 3, 4, 5, 6, 7, 8, 9, 10, 11, 12, 13, 14, 15, 16, 17] [.R, .P, .P, .P, .P, .P, .P, .P, .P, .P, .R, .R, .R, .R, .R, .P, .P, .P] rfl rfl (by kernel_rfl) ?_)
   exact ⟨rfl, _, rfl, _, rfl, SubC.of_closed closed_bool⟩
  ·rw [hm] at km
   by_cases h0 : i = 0
   ·subst h0
    have e := hinv.trans (upB_go0 hm)
    rw [← pv_at hx] at e
    repeat' (first | refine DW_VB tabs rfl d1 ?_ | refine DW_VI tabs rfl (by first | exact la | exact fi) ?_ | refine DW_box 4 tabOK rfl ?_ | refine DW_oix tabOK rfl ?_ | refine DW_olenA tabOK rfl ?_ | refine DW_A tabs rfl ?_ | refine DW_nil ?_ | refine W_A rfl ?_ | refine DW_C rfl km ?_ | refine DW_ix tabOK rfl (ixN hx) ?_ | refine W_draw mixed [0, 1, 2, 3, 4, 5, 6, 7, 8, 9, 10, 11, 12, 13, 14, 15, 16, 17] [.R, .P, .P, .P, .P, .P, .P, .P, .P, .P, .R, .R, .R, .R, .R, .P, .P, .P] rfl rfl (by kernel_rfl) ?_)
    refine ⟨h1, fin e rfl ?_ ?_ ?_ ?_⟩
    ·exact SubC.of_closed hc
    ·exact SubC.of_closed hc
    ·exact SubC.of_closed closed_int
    ·exact SubC.of_closed closed_int
   ·obtain ⟨k, rfl⟩ : ∃ k, i = k + 1 := ⟨i - 1, by omega⟩
    have d4 : decide ((0 : Int) < ((k + 1 : Nat) : Int)) = true := decide_eq_true (by omega)
    have w1 : IntKind.wrap .i64 (((k + 1 : Nat) : Int) - 1) = (k : Int) := (Go.Ab.wrap_small (by omega) (by omega)).trans (by omega)
    have hy : l[k]? = some l[k] := List.getElem?_eq_getElem (by omega)
    generalize l[k] = y at hy
    rw [pv_at hy] at hinv
    by_cases h2 : y.session < x.session
    ·have d5 : decide (x.session ≤ y.session) = false := decide_eq_false (by omega)
     have e := hinv.trans (upB_go1 hm h2)
     rw [← pv_at hx] at e
     repeat' (first | refine DW_VB tabs rfl (by first | exact d1 | exact d4 | exact d5) ?_ | refine DW_VI tabs rfl (by first | exact la | exact fi | exact w1) ?_ | refine DW_box 4 tabOK rfl ?_ | refine DW_oix tabOK rfl ?_ | refine DW_olenA tabOK rfl ?_ | refine DW_A tabs rfl ?_ | refine DW_nil ?_ | refine W_A rfl ?_ | refine DW_C rfl km ?_ | refine DW_ix tabOK rfl (ixN hx) ?_ | refine DW_ix tabOK rfl (ixN hy) ?_ | refine W_draw mixed [0, 1, 2, 3, 4, 5, 6, 7, 8, 9, 10, 11, 12, 13, 14, 15, 16, 17] [.R, .P, .P, .P, .P, .P, .P, .P, .P, .P, .R, .R, .R, .R, .R, .P, .P, .P] rfl rfl (by kernel_rfl) ?_)
     refine ⟨h1, fin e rfl ?_ ?_ ?_ ?_⟩
     ·exact SubC.of_closed hc
     ·exact SubC.of_closed hc
     ·exact SubC.of_closed closed_int
     ·exact SubC.of_closed closed_int
    ·have d5 : decide (x.session ≤ y.session) = true := decide_eq_true (by omega)
     rw [hinv, upB_no2 h2]
     repeat' (first | refine DW_VB tabs rfl (by first | exact d1 | exact d4 | exact d5) ?_ | refine DW_VI tabs rfl (by first | exact la | exact fi | exact w1) ?_ | refine DW_box 4 tabOK rfl ?_ | refine DW_oix tabOK rfl ?_ | refine DW_olenA tabOK rfl ?_ | refine DW_A tabs rfl ?_ | refine DW_nil ?_ | refine W_A rfl ?_ | refine DW_C rfl km ?_ | refine DW_ix tabOK rfl (ixN hx) ?_ | refine DW_ix tabOK rfl (ixN hy) ?_ | refine W_draw mixed [0, 1, 2, 3, 4, 5, 6, 7, 8, 9, 10, 11, 12, 13, 14, 15, 16, 17] [.R, .P, .P, .P, .P, .P, .P, .P, .P, .P, .R, .R, .R, .R, .R, .P, .P, .P] rfl rfl (by kernel_rfl) ?_)
     exact ⟨rfl, _, rfl, _, rfl, SubC.of_closed closed_bool⟩
 ·have d1 : decide ((i : Int) < (l.length : Int)) = false := decide_eq_false (by omega)
  obtain rfl : i = l.length := by omega
  rw [List.drop_length] at hinv
  have e : upB mayPn Pn.session none l = true := by
   rw [hinv]
   cases pv Pn.session l l.length <;> rfl
  rw [e, ← h50]
  repeat' (first | refine DW_VB tabs rfl d1 ?_ | refine DW_VI tabs rfl la ?_ | refine DW_box 4 tabOK rfl ?_ | refine DW_oix tabOK rfl ?_ | refine DW_olenA tabOK rfl ?_ | refine DW_A tabs rfl ?_ | refine DW_nil ?_ | refine W_A rfl ?_ | refine W_draw mixed [0, 1, 2, 3, 4, 5, 6, 7, 8, 9, 10, 11, 12, 13, 14, 15, 16, 17] [.R, .P, .P, .P, .P, .P, .P, .P, .P, .P, .R, .R, .R, .R, .R, .P, .P, .P] rfl rfl (by kernel_rfl) ?_)
  exact ⟨rfl, _, rfl, _, rfl, SubC.of_closed closed_bool⟩
def seenIsF (l : List Sn) (i : Nat) : AF := ⟨[(0, seenA l .none), (5, seenA l .none), (6, .int .i64 (l.length : Int)), (7, .int .i64 (i : Int))], []⟩
set_option maxRecDepth 100000 in
set_option maxHeartbeats 8000000 in
theorem seenIs_ok (l : List Sn) (hl : l.length < 1000000) : APure Tryz.prog 63 [seenA l .none] (.bool (upB mayBn Sn.client none l && decide (l.length ≤ 50))) := by
 refine pure_sub (closed1 (closed_seen l (.inl rfl))) (closed_bool) ?_
 refine acalls_of tabOK Tryz.func63 rfl (by decide) (by simp [Tryz.f63]) ?_
 have la := len_map Sn.av l
 have hc := closed_seen l (t := .none) (.inl rfl)
 have h50 := le50 l.length
 unfold seenA at *
 repeat' (first | refine DW_VI tabs rfl la ?_ | refine DW_box 4 tabOK rfl ?_ | refine DW_oix tabOK rfl ?_ | refine DW_olenA tabOK rfl ?_ | refine DW_A tabs rfl ?_ | refine DW_nil ?_ | refine W_A rfl ?_ | refine W_draw mixed [0, 1, 2, 3, 4, 5, 6, 7, 8, 9, 10, 11, 12, 13, 14, 15, 16, 17] [.R, .P, .P, .P, .P, .P, .P, .P, .P, .P, .R, .R, .R, .R, .R, .P, .P, .P] rfl rfl (by kernel_rfl) ?_)
 refine W_count l.length (fun i f N => N = ⟨0, []⟩ ∧ upB mayBn Sn.client none l = upB mayBn Sn.client (pv Sn.client l i) (l.drop i) ∧ f = seenIsF l i) (Nat.zero_le _) ⟨rfl, rfl, rfl⟩ (Joint.le ?_ (Mem.le_nil rfl)) ?_
 ·unfold seenIsF seenA
  repeat (refine AF.le_cons rfl ?_)
  exact AF.le_nil rfl
 rintro i f N hi ⟨rfl, hinv, rfl⟩
 unfold seenIsF seenA
 by_cases h1 : i < l.length
 ·have d1 : decide ((i : Int) < (l.length : Int)) = true := decide_eq_true (by omega)
  have hx : l[i]? = some l[i] := List.getElem?_eq_getElem h1
  have fi := wrap_succ (i := i) (by omega)
  generalize l[i] = x at hx
  rw [dropx hx] at hinv
  have fin : ∀ {f : AF} {M : Mem}, upB mayBn Sn.client none l = upB mayBn Sn.client (pv Sn.client l (i + 1)) (l.drop (i + 1)) → f.d = [] → SubC 0 (f.get 0) (seenA l .none) → SubC 0 (f.get 5) (seenA l .none) → SubC 0 (f.get 6) (.int .i64 (l.length : Int)) → SubC 0 (f.get 7) (.int .i64 ((i + 1 : Nat) : Int)) → ∃ f'' N, (N = ⟨0, []⟩ ∧ upB mayBn Sn.client none l = upB mayBn Sn.client (pv Sn.client l (i + 1)) (l.drop (i + 1)) ∧ f'' = seenIsF l (i + 1)) ∧ Joint 0 f M f'' N   := fun {f M} hq h0 q1 q2 q3 q4 =>
   ⟨seenIsF l (i + 1), ⟨0, []⟩, ⟨rfl, hq, rfl⟩, Joint.cut (k := 0) (t := (seenIsF l (i + 1)).t) (l := []) (Nat.le_refl _) (Nat.zero_le _) h0 ⟨q1, q2, q3, q4, trivial⟩ trivial⟩
  have km := bmay_ok x
  unfold Sn.av at km
  cases hm : mayBn x
  ·rw [hm] at km
   rw [hinv, upB_no1 hm]
   repeat' (first | refine DW_VB tabs rfl d1 ?_ | refine DW_VI tabs rfl (by first | exact la | exact fi) ?_ | refine DW_box 4 tabOK rfl ?_ | refine DW_oix tabOK rfl ?_ | refine DW_olenA tabOK rfl ?_ | refine DW_A tabs rfl ?_ | refine DW_nil ?_ | refine W_A rfl ?_ | refine DW_C rfl km ?_ | refine DW_ix tabOK rfl (ixN hx) ?_ | refine W_draw mixed [0, 1, 2, 3, 4, 5, 6, 7, 8, 9, 10, 11, 12, 13, 14, 15, 16, 17] [.R, .P, .P, .P, .P, .P, .P, .P, .P, .P, .R, .R, .R, .R, .R, .P, .P, .P] rfl rfl (by kernel_rfl) ?_)
   exact ⟨rfl, _, rfl, _, rfl, SubC.of_closed closed_bool⟩
  ·rw [hm] at km
   by_cases h0 : i = 0
   ·subst h0
    have e := hinv.trans (upB_go0 hm)
    rw [← pv_at hx] at e
    repeat' (first | refine DW_VB tabs rfl d1 ?_ | refine DW_VI tabs rfl (by first | exact la | exact fi) ?_ | refine DW_box 4 tabOK rfl ?_ | refine DW_oix tabOK rfl ?_ | refine DW_olenA tabOK rfl ?_ | refine DW_A tabs rfl ?_ | refine DW_nil ?_ | refine W_A rfl ?_ | refine DW_C rfl km ?_ | refine DW_ix tabOK rfl (ixN hx) ?_ | refine W_draw mixed [0, 1, 2, 3, 4, 5, 6, 7, 8, 9, 10, 11, 12, 13, 14, 15, 16, 17] [.R, .P, .P, .P, .P, .P, .P, .P, .P, .P, .R, .R, .R, .R, .R, .P, .P, .P] rfl rfl (by kernel_rfl) ?_)
    refine ⟨h1, fin e rfl ?_ ?_ ?_ ?_⟩
    ·exact SubC.of_closed hc
    ·exact SubC.of_closed hc
    ·exact SubC.of_closed closed_int
    ·exact SubC.of_closed closed_int
   ·obtain ⟨k, rfl⟩ : ∃ k, i = k + 1 := ⟨i - 1, by omega⟩
    have d4 : decide ((0 : Int) < ((k + 1 : Nat) : Int)) = true := decide_eq_true (by omega)
    have w1 : IntKind.wrap .i64 (((k + 1 : Nat) : Int) - 1) = (k : Int) := (Go.Ab.wrap_small (by omega) (by omega)).trans (by omega)
    have hy : l[k]? = some l[k] := List.getElem?_eq_getElem (by omega)
    generalize l[k] = y at hy
    rw [pv_at hy] at hinv
    by_cases h2 : y.client < x.client
    ·have d5 : decide (x.client ≤ y.client) = false := decide_eq_false (by omega)
     have e := hinv.trans (upB_go1 hm h2)
     rw [← pv_at hx] at e
     repeat' (first | refine DW_VB tabs rfl (by first | exact d1 | exact d4 | exact d5) ?_ | refine DW_VI tabs rfl (by first | exact la | exact fi | exact w1) ?_ | refine DW_box 4 tabOK rfl ?_ | refine DW_oix tabOK rfl ?_ | refine DW_olenA tabOK rfl ?_ | refine DW_A tabs rfl ?_ | refine DW_nil ?_ | refine W_A rfl ?_ | refine DW_C rfl km ?_ | refine DW_ix tabOK rfl (ixN hx) ?_ | refine DW_ix tabOK rfl (ixN hy) ?_ | refine W_draw mixed [0, 1, 2, 3, 4, 5, 6, 7, 8, 9, 10, 11, 12, 13, 14, 15, 16, 17] [.R, .P, .P, .P, .P, .P, .P, .P, .P, .P, .R, .R, .R, .R, .R, .P, .P, .P] rfl rfl (by kernel_rfl) ?_)
     refine ⟨h1, fin e rfl ?_ ?_ ?_ ?_⟩
     ·exact SubC.of_closed hc
     ·exact SubC.of_closed hc
     ·exact SubC.of_closed closed_int
     ·exact SubC.of_closed closed_int
    ·have d5 : decide (x.client ≤ y.client) = true := decide_eq_true (by omega)
     rw [hinv, upB_no2 h2]
     repeat' (first | refine DW_VB tabs rfl (by first | exact d1 | exact d4 | exact d5) ?_ | refine DW_VI tabs rfl (by first | exact la | exact fi | exact w1) ?_ | refine DW_box 4 tabOK rfl ?_ | refine DW_oix tabOK rfl ?_ | refine DW_olenA tabOK rfl ?_ | refine DW_A tabs rfl ?_ | refine DW_nil ?_ | refine W_A rfl ?_ | refine DW_C rfl km ?_ | refine DW_ix tabOK rfl (ixN hx) ?_ | refine DW_ix tabOK rfl (ixN hy) ?_ | refine W_draw mixed [0, 1, 2, 3, 4, 5, 6, 7, 8, 9, 10, 11, 12, 13, 14, 15, 16, 17] [.R, .P, .P, .P, .P, .P, .P, .P, .P, .P, .R, .R, .R, .R, .R, .P, .P, .P] rfl rfl (by kernel_rfl) ?_)
     exact ⟨rfl, _, rfl, _, rfl, SubC.of_closed closed_bool⟩
 ·have d1 : decide ((i : Int) < (l.length : Int)) = false := decide_eq_false (by omega)
  obtain rfl : i = l.length := by omega
  rw [List.drop_length] at hinv
  have e : upB mayBn Sn.client none l = true := by
   rw [hinv]
   cases pv Sn.client l l.length <;> rfl
  rw [e, ← h50]
  repeat' (first | refine DW_VB tabs rfl d1 ?_ | refine DW_VI tabs rfl la ?_ | refine DW_box 4 tabOK rfl ?_ | refine DW_oix tabOK rfl ?_ | refine DW_olenA tabOK rfl ?_ | refine DW_A tabs rfl ?_ | refine DW_nil ?_ | refine W_A rfl ?_ | refine W_draw mixed [0, 1, 2, 3, 4, 5, 6, 7, 8, 9, 10, 11, 12, 13, 14, 15, 16, 17] [.R, .P, .P, .P, .P, .P, .P, .P, .P, .P, .R, .R, .R, .R, .R, .P, .P, .P] rfl rfl (by kernel_rfl) ?_)
  exact ⟨rfl, _, rfl, _, rfl, SubC.of_closed closed_bool⟩
set_option maxRecDepth 100000 in
set_option maxHeartbeats 8000000 in
theorem rseenIs_ok (l : List Sn) (hl : l.length < 1000000) : APure Tryz.prog 67 [seenA l .none] (.bool (upB mayBn Sn.client none l && decide (l.length ≤ 50))) := by
 intro M
 refine acalls_of tabOK Tryz.func67 rfl (by decide) (by simp [Tryz.f67]) ?_
 have la := len_map Sn.av l
 have h50 := le50 l.length
 unfold seenA
 repeat' (first | refine DW_VI tabs rfl la ?_ | refine DW_A tabs rfl ?_ | refine DW_nil ?_ | refine W_A rfl ?_ | refine W_draw mixed [0, 1, 2, 3, 4, 5, 6, 7, 8, 9, 10, 11, 12, 16, 17, 13, 14, 15, 18, 19, 20, 21, 22, 23] [.P, .P, .R, .R, .P, .P, .P, .P, .P, .P, .P, .P, .P, .R, .R, .R, .P, .P, .R, .R, .R, .P, .P, .P] rfl rfl (by kernel_rfl) ?_)
 refine W_count l.length (fun i f N => N = M ∧ (upB mayBn Sn.client none l = upB mayBn Sn.client (pv Sn.client l i) (l.drop i)) ∧ f = ⟨[(0, .sl 4 (l.map Sn.av) .none), (3, .int .i64 (i : Int))], []⟩) (Nat.zero_le _) ⟨rfl, rfl, rfl⟩ (Joint.le ?_ (Mem.le_refl _)) ?_
 ·skip
  repeat (refine AF.le_cons rfl ?_)
  exact AF.le_nil rfl
 rintro i f N hi ⟨rfl, hinv, rfl⟩
 by_cases h1 : i < l.length
 ·have d1 : decide ((i : Int) < (l.length : Int)) = true := by simp; omega
  have hx : l[i]? = some l[i] := List.getElem?_eq_getElem h1
  have fi := wrap_succ (i := i) (by omega)
  have ht := take_succ hx
  have hm := List.getElem_mem h1
  generalize l[i] = x at hx ht hm
  rw [dropx hx] at hinv
  have km := rbmay_ok x
  unfold Sn.av at km
  cases hq : mayBn x
  ·rw [hq] at km
   rw [hinv, upB_no1 hq]
   repeat' (first | refine DW_VB tabs rfl d1 ?_ | refine DW_VI tabs rfl (by first | exact la | exact fi) ?_ | refine DW_A tabs rfl ?_ | refine DW_nil ?_ | refine W_A rfl ?_ | refine DW_C rfl km ?_ | refine DW_ix tabOK rfl (ixN hx) ?_ | refine W_draw mixed [0, 1, 2, 3, 4, 5, 6, 7, 8, 9, 10, 11, 12, 16, 17, 13, 14, 15, 18, 19, 20, 21, 22, 23] [.P, .P, .R, .R, .P, .P, .P, .P, .P, .P, .P, .P, .P, .R, .R, .R, .P, .P, .R, .R, .R, .P, .P, .P] rfl rfl (by kernel_rfl) ?_)
   exact ⟨rfl, _, rfl, rfl, rfl⟩
  ·rw [hq] at km
   by_cases h0 : i = 0
   ·subst h0
    have e := hinv.trans (upB_go0 hq)
    rw [← pv_at hx] at e
    repeat' (first | refine DW_VB tabs rfl d1 ?_ | refine DW_VI tabs rfl (by first | exact la | exact fi) ?_ | refine DW_A tabs rfl ?_ | refine DW_nil ?_ | refine W_A rfl ?_ | refine DW_C rfl km ?_ | refine DW_ix tabOK rfl (ixN hx) ?_ | refine W_draw mixed [0, 1, 2, 3, 4, 5, 6, 7, 8, 9, 10, 11, 12, 16, 17, 13, 14, 15, 18, 19, 20, 21, 22, 23] [.P, .P, .R, .R, .P, .P, .P, .P, .P, .P, .P, .P, .P, .R, .R, .R, .P, .P, .R, .R, .R, .P, .P, .P] rfl rfl (by kernel_rfl) ?_)
    refine ⟨h1, _, _, ⟨rfl, e, rfl⟩, Joint.le ?_ (Mem.le_refl _)⟩
    repeat (refine AF.le_cons rfl ?_)
    exact AF.le_nil rfl
   ·obtain ⟨k, rfl⟩ : ∃ k, i = k + 1 := ⟨i - 1, by omega⟩
    have d4 : decide ((0 : Int) < ((k + 1 : Nat) : Int)) = true := decide_eq_true (by omega)
    have w1 : IntKind.wrap .i64 (((k + 1 : Nat) : Int) - 1) = (k : Int) := (Go.Ab.wrap_small (by omega) (by omega)).trans (by omega)
    have hy : l[k]? = some l[k] := List.getElem?_eq_getElem (by omega)
    generalize l[k] = y at hy
    rw [pv_at hy] at hinv
    by_cases h2 : y.client < x.client
    ·have d5 : decide (x.client ≤ y.client) = false := decide_eq_false (by omega)
     have e := hinv.trans (upB_go1 hq h2)
     rw [← pv_at hx] at e
     repeat' (first | refine DW_VB tabs rfl (by first | exact d1 | exact d4 | exact d5) ?_ | refine DW_VI tabs rfl (by first | exact la | exact fi | exact w1) ?_ | refine DW_A tabs rfl ?_ | refine DW_nil ?_ | refine W_A rfl ?_ | refine DW_C rfl km ?_ | refine DW_ix tabOK rfl (ixN hx) ?_ | refine DW_ix tabOK rfl (ixN hy) ?_ | refine W_draw mixed [0, 1, 2, 3, 4, 5, 6, 7, 8, 9, 10, 11, 12, 16, 17, 13, 14, 15, 18, 19, 20, 21, 22, 23] [.P, .P, .R, .R, .P, .P, .P, .P, .P, .P, .P, .P, .P, .R, .R, .R, .P, .P, .R, .R, .R, .P, .P, .P] rfl rfl (by kernel_rfl) ?_)
     refine ⟨h1, _, _, ⟨rfl, e, rfl⟩, Joint.le ?_ (Mem.le_refl _)⟩
     repeat (refine AF.le_cons rfl ?_)
     exact AF.le_nil rfl
    ·have d5 : decide (x.client ≤ y.client) = true := decide_eq_true (by omega)
     rw [hinv, upB_no2 h2]
     repeat' (first | refine DW_VB tabs rfl (by first | exact d1 | exact d4 | exact d5) ?_ | refine DW_VI tabs rfl (by first | exact la | exact fi | exact w1) ?_ | refine DW_A tabs rfl ?_ | refine DW_nil ?_ | refine W_A rfl ?_ | refine DW_C rfl km ?_ | refine DW_ix tabOK rfl (ixN hx) ?_ | refine DW_ix tabOK rfl (ixN hy) ?_ | refine W_draw mixed [0, 1, 2, 3, 4, 5, 6, 7, 8, 9, 10, 11, 12, 16, 17, 13, 14, 15, 18, 19, 20, 21, 22, 23] [.P, .P, .R, .R, .P, .P, .P, .P, .P, .P, .P, .P, .P, .R, .R, .R, .P, .P, .R, .R, .R, .P, .P, .P] rfl rfl (by kernel_rfl) ?_)
     exact ⟨rfl, _, rfl, rfl, rfl⟩
 ·have d1 : decide ((i : Int) < (l.length : Int)) = false := by simp; omega
  obtain rfl : i = l.length := by omega
  rw [List.drop_length] at hinv
  have e : upB mayBn Sn.client none l = true := by
   rw [hinv]
   cases pv Sn.client l l.length <;> rfl
  rw [e, ← h50]
  repeat' (first | refine DW_VB tabs rfl d1 ?_ | refine DW_VI tabs rfl la ?_ | refine DW_A tabs rfl ?_ | refine DW_nil ?_ | refine W_A rfl ?_ | refine W_draw mixed [0, 1, 2, 3, 4, 5, 6, 7, 8, 9, 10, 11, 12, 16, 17, 13, 14, 15, 18, 19, 20, 21, 22, 23] [.P, .P, .R, .R, .P, .P, .P, .P, .P, .P, .P, .P, .P, .R, .R, .R, .P, .P, .R, .R, .R, .P, .P, .P] rfl rfl (by kernel_rfl) ?_)
  exact ⟨rfl, _, rfl, rfl, rfl⟩
set_option maxRecDepth 100000 in
set_option maxHeartbeats 8000000 in
theorem rpinIs_ok (l : List Pn) (hl : l.length < 1000000) : APure Tryz.prog 66 [pinsA l .none] (.bool (upB mayPn Pn.session none l && decide (l.length ≤ 50))) := by
 intro M
 refine acalls_of tabOK Tryz.func66 rfl (by decide) (by simp [Tryz.f66]) ?_
 have la := len_map Pn.av l
 have h50 := le50 l.length
 unfold pinsA
 repeat' (first | refine DW_VI tabs rfl la ?_ | refine DW_A tabs rfl ?_ | refine DW_nil ?_ | refine W_A rfl ?_ | refine W_draw mixed [0, 1, 2, 3, 4, 5, 6, 7, 8, 9, 10, 11, 12, 13, 14, 15, 16, 17, 18, 19, 20, 21, 22, 23, 24, 25, 26, 27, 28, 29, 30, 31, 32, 33, 34, 35, 36, 40, 41, 37, 38, 39, 42, 43, 44, 45, 46, 47] [.P, .P, .R, .R, .R, .P, .P, .P, .P, .R, .R, .R, .P, .P, .P, .P, .P, .R, .R, .R, .P, .P, .P, .P, .P, .R, .R, .R, .P, .P, .P, .P, .P, .P, .P, .P, .P, .R, .R, .R, .P, .P, .R, .R, .R, .P, .P, .P] rfl rfl (by kernel_rfl) ?_)
 refine W_count l.length (fun i f N => N = M ∧ (upB mayPn Pn.session none l = upB mayPn Pn.session (pv Pn.session l i) (l.drop i)) ∧ f = ⟨[(0, .sl 2 (l.map Pn.av) .none), (3, .int .i64 (i : Int))], []⟩) (Nat.zero_le _) ⟨rfl, rfl, rfl⟩ (Joint.le ?_ (Mem.le_refl _)) ?_
 ·skip
  repeat (refine AF.le_cons rfl ?_)
  exact AF.le_nil rfl
 rintro i f N hi ⟨rfl, hinv, rfl⟩
 by_cases h1 : i < l.length
 ·have d1 : decide ((i : Int) < (l.length : Int)) = true := by simp; omega
  have hx : l[i]? = some l[i] := List.getElem?_eq_getElem h1
  have fi := wrap_succ (i := i) (by omega)
  have ht := take_succ hx
  have hm := List.getElem_mem h1
  generalize l[i] = x at hx ht hm
  rw [dropx hx] at hinv
  by_cases a1 : 0 ≤ x.session
  ·have b1 : decide (x.session < 0) = false := decide_eq_false (by omega)
   by_cases a2 : x.session ≤ 1000000
   ·have b2 : decide (1000000 < x.session) = false := decide_eq_false (by omega)
    by_cases a3 : 0 ≤ x.at_
    ·have b3 : decide (x.at_ < 0) = false := decide_eq_false (by omega)
     by_cases a4 : x.at_ ≤ 1000000000
     ·have b4 : decide (1000000000 < x.at_) = false := decide_eq_false (by omega)
      have hq : mayPn x = true := by simp [mayPn, a1, a2, a3, a4]
      by_cases h0 : i = 0
      ·subst h0
       have e := hinv.trans (upB_go0 hq)
       rw [← pv_at hx] at e
       repeat' (first | refine DW_VB tabs rfl (by first | exact d1 | exact b1 | exact b2 | exact b3 | exact b4) ?_ | refine DW_VI tabs rfl (by first | exact la | exact fi) ?_ | refine DW_A tabs rfl ?_ | refine DW_nil ?_ | refine W_A rfl ?_ | refine DW_ix tabOK rfl (ixN hx) ?_ | refine W_draw mixed [0, 1, 2, 3, 4, 5, 6, 7, 8, 9, 10, 11, 12, 13, 14, 15, 16, 17, 18, 19, 20, 21, 22, 23, 24, 25, 26, 27, 28, 29, 30, 31, 32, 33, 34, 35, 36, 40, 41, 37, 38, 39, 42, 43, 44, 45, 46, 47] [.P, .P, .R, .R, .R, .P, .P, .P, .P, .R, .R, .R, .P, .P, .P, .P, .P, .R, .R, .R, .P, .P, .P, .P, .P, .R, .R, .R, .P, .P, .P, .P, .P, .P, .P, .P, .P, .R, .R, .R, .P, .P, .R, .R, .R, .P, .P, .P] rfl rfl (by kernel_rfl) ?_)
       refine ⟨h1, _, _, ⟨rfl, e, rfl⟩, Joint.le ?_ (Mem.le_refl _)⟩
       repeat (refine AF.le_cons rfl ?_)
       exact AF.le_nil rfl
      ·obtain ⟨k, rfl⟩ : ∃ k, i = k + 1 := ⟨i - 1, by omega⟩
       have d4 : decide ((0 : Int) < ((k + 1 : Nat) : Int)) = true := decide_eq_true (by omega)
       have w1 : IntKind.wrap .i64 (((k + 1 : Nat) : Int) - 1) = (k : Int) := (Go.Ab.wrap_small (by omega) (by omega)).trans (by omega)
       have hy : l[k]? = some l[k] := List.getElem?_eq_getElem (by omega)
       generalize l[k] = y at hy
       rw [pv_at hy] at hinv
       by_cases h2 : y.session < x.session
       ·have d5 : decide (x.session ≤ y.session) = false := decide_eq_false (by omega)
        have e := hinv.trans (upB_go1 hq h2)
        rw [← pv_at hx] at e
        repeat' (first | refine DW_VB tabs rfl (by first | exact d1 | exact d4 | exact d5 | exact b1 | exact b2 | exact b3 | exact b4) ?_ | refine DW_VI tabs rfl (by first | exact la | exact fi | exact w1) ?_ | refine DW_A tabs rfl ?_ | refine DW_nil ?_ | refine W_A rfl ?_ | refine DW_ix tabOK rfl (ixN hx) ?_ | refine DW_ix tabOK rfl (ixN hy) ?_ | refine W_draw mixed [0, 1, 2, 3, 4, 5, 6, 7, 8, 9, 10, 11, 12, 13, 14, 15, 16, 17, 18, 19, 20, 21, 22, 23, 24, 25, 26, 27, 28, 29, 30, 31, 32, 33, 34, 35, 36, 40, 41, 37, 38, 39, 42, 43, 44, 45, 46, 47] [.P, .P, .R, .R, .R, .P, .P, .P, .P, .R, .R, .R, .P, .P, .P, .P, .P, .R, .R, .R, .P, .P, .P, .P, .P, .R, .R, .R, .P, .P, .P, .P, .P, .P, .P, .P, .P, .R, .R, .R, .P, .P, .R, .R, .R, .P, .P, .P] rfl rfl (by kernel_rfl) ?_)
        refine ⟨h1, _, _, ⟨rfl, e, rfl⟩, Joint.le ?_ (Mem.le_refl _)⟩
        repeat (refine AF.le_cons rfl ?_)
        exact AF.le_nil rfl
       ·have d5 : decide (x.session ≤ y.session) = true := decide_eq_true (by omega)
        rw [hinv, upB_no2 h2]
        repeat' (first | refine DW_VB tabs rfl (by first | exact d1 | exact d4 | exact d5 | exact b1 | exact b2 | exact b3 | exact b4) ?_ | refine DW_VI tabs rfl (by first | exact la | exact fi | exact w1) ?_ | refine DW_A tabs rfl ?_ | refine DW_nil ?_ | refine W_A rfl ?_ | refine DW_ix tabOK rfl (ixN hx) ?_ | refine DW_ix tabOK rfl (ixN hy) ?_ | refine W_draw mixed [0, 1, 2, 3, 4, 5, 6, 7, 8, 9, 10, 11, 12, 13, 14, 15, 16, 17, 18, 19, 20, 21, 22, 23, 24, 25, 26, 27, 28, 29, 30, 31, 32, 33, 34, 35, 36, 40, 41, 37, 38, 39, 42, 43, 44, 45, 46, 47] [.P, .P, .R, .R, .R, .P, .P, .P, .P, .R, .R, .R, .P, .P, .P, .P, .P, .R, .R, .R, .P, .P, .P, .P, .P, .R, .R, .R, .P, .P, .P, .P, .P, .P, .P, .P, .P, .R, .R, .R, .P, .P, .R, .R, .R, .P, .P, .P] rfl rfl (by kernel_rfl) ?_)
        exact ⟨rfl, _, rfl, rfl, rfl⟩
     ·have b4 : decide (1000000000 < x.at_) = true := decide_eq_true (by omega)
      rw [hinv, upB_no1 (by simp [mayPn, a4])]
      repeat' (first | refine DW_VB tabs rfl (by first | exact d1 | exact b1 | exact b2 | exact b3 | exact b4) ?_ | refine DW_VI tabs rfl (by first | exact la | exact fi) ?_ | refine DW_A tabs rfl ?_ | refine DW_nil ?_ | refine W_A rfl ?_ | refine DW_ix tabOK rfl (ixN hx) ?_ | refine W_draw mixed [0, 1, 2, 3, 4, 5, 6, 7, 8, 9, 10, 11, 12, 13, 14, 15, 16, 17, 18, 19, 20, 21, 22, 23, 24, 25, 26, 27, 28, 29, 30, 31, 32, 33, 34, 35, 36, 40, 41, 37, 38, 39, 42, 43, 44, 45, 46, 47] [.P, .P, .R, .R, .R, .P, .P, .P, .P, .R, .R, .R, .P, .P, .P, .P, .P, .R, .R, .R, .P, .P, .P, .P, .P, .R, .R, .R, .P, .P, .P, .P, .P, .P, .P, .P, .P, .R, .R, .R, .P, .P, .R, .R, .R, .P, .P, .P] rfl rfl (by kernel_rfl) ?_)
      exact ⟨rfl, _, rfl, rfl, rfl⟩
    ·have b3 : decide (x.at_ < 0) = true := decide_eq_true (by omega)
     rw [hinv, upB_no1 (by simp [mayPn, a3])]
     repeat' (first | refine DW_VB tabs rfl (by first | exact d1 | exact b1 | exact b2 | exact b3) ?_ | refine DW_VI tabs rfl (by first | exact la | exact fi) ?_ | refine DW_A tabs rfl ?_ | refine DW_nil ?_ | refine W_A rfl ?_ | refine DW_ix tabOK rfl (ixN hx) ?_ | refine W_draw mixed [0, 1, 2, 3, 4, 5, 6, 7, 8, 9, 10, 11, 12, 13, 14, 15, 16, 17, 18, 19, 20, 21, 22, 23, 24, 25, 26, 27, 28, 29, 30, 31, 32, 33, 34, 35, 36, 40, 41, 37, 38, 39, 42, 43, 44, 45, 46, 47] [.P, .P, .R, .R, .R, .P, .P, .P, .P, .R, .R, .R, .P, .P, .P, .P, .P, .R, .R, .R, .P, .P, .P, .P, .P, .R, .R, .R, .P, .P, .P, .P, .P, .P, .P, .P, .P, .R, .R, .R, .P, .P, .R, .R, .R, .P, .P, .P] rfl rfl (by kernel_rfl) ?_)
     exact ⟨rfl, _, rfl, rfl, rfl⟩
   ·have b2 : decide (1000000 < x.session) = true := decide_eq_true (by omega)
    rw [hinv, upB_no1 (by simp [mayPn, a2])]
    repeat' (first | refine DW_VB tabs rfl (by first | exact d1 | exact b1 | exact b2) ?_ | refine DW_VI tabs rfl (by first | exact la | exact fi) ?_ | refine DW_A tabs rfl ?_ | refine DW_nil ?_ | refine W_A rfl ?_ | refine DW_ix tabOK rfl (ixN hx) ?_ | refine W_draw mixed [0, 1, 2, 3, 4, 5, 6, 7, 8, 9, 10, 11, 12, 13, 14, 15, 16, 17, 18, 19, 20, 21, 22, 23, 24, 25, 26, 27, 28, 29, 30, 31, 32, 33, 34, 35, 36, 40, 41, 37, 38, 39, 42, 43, 44, 45, 46, 47] [.P, .P, .R, .R, .R, .P, .P, .P, .P, .R, .R, .R, .P, .P, .P, .P, .P, .R, .R, .R, .P, .P, .P, .P, .P, .R, .R, .R, .P, .P, .P, .P, .P, .P, .P, .P, .P, .R, .R, .R, .P, .P, .R, .R, .R, .P, .P, .P] rfl rfl (by kernel_rfl) ?_)
    exact ⟨rfl, _, rfl, rfl, rfl⟩
  ·have b1 : decide (x.session < 0) = true := decide_eq_true (by omega)
   rw [hinv, upB_no1 (by simp [mayPn, a1])]
   repeat' (first | refine DW_VB tabs rfl (by first | exact d1 | exact b1) ?_ | refine DW_VI tabs rfl (by first | exact la | exact fi) ?_ | refine DW_A tabs rfl ?_ | refine DW_nil ?_ | refine W_A rfl ?_ | refine DW_ix tabOK rfl (ixN hx) ?_ | refine W_draw mixed [0, 1, 2, 3, 4, 5, 6, 7, 8, 9, 10, 11, 12, 13, 14, 15, 16, 17, 18, 19, 20, 21, 22, 23, 24, 25, 26, 27, 28, 29, 30, 31, 32, 33, 34, 35, 36, 40, 41, 37, 38, 39, 42, 43, 44, 45, 46, 47] [.P, .P, .R, .R, .R, .P, .P, .P, .P, .R, .R, .R, .P, .P, .P, .P, .P, .R, .R, .R, .P, .P, .P, .P, .P, .R, .R, .R, .P, .P, .P, .P, .P, .P, .P, .P, .P, .R, .R, .R, .P, .P, .R, .R, .R, .P, .P, .P] rfl rfl (by kernel_rfl) ?_)
   exact ⟨rfl, _, rfl, rfl, rfl⟩
 ·have d1 : decide ((i : Int) < (l.length : Int)) = false := by simp; omega
  obtain rfl : i = l.length := by omega
  rw [List.drop_length] at hinv
  have e : upB mayPn Pn.session none l = true := by
   rw [hinv]
   cases pv Pn.session l l.length <;> rfl
  rw [e, ← h50]
  repeat' (first | refine DW_VB tabs rfl d1 ?_ | refine DW_VI tabs rfl la ?_ | refine DW_A tabs rfl ?_ | refine DW_nil ?_ | refine W_A rfl ?_ | refine W_draw mixed [0, 1, 2, 3, 4, 5, 6, 7, 8, 9, 10, 11, 12, 13, 14, 15, 16, 17, 18, 19, 20, 21, 22, 23, 24, 25, 26, 27, 28, 29, 30, 31, 32, 33, 34, 35, 36, 40, 41, 37, 38, 39, 42, 43, 44, 45, 46, 47] [.P, .P, .R, .R, .R, .P, .P, .P, .P, .R, .R, .R, .P, .P, .P, .P, .P, .R, .R, .R, .P, .P, .P, .P, .P, .R, .R, .R, .P, .P, .P, .P, .P, .P, .P, .P, .P, .R, .R, .R, .P, .P, .R, .R, .R, .P, .P, .P] rfl rfl (by kernel_rfl) ?_)
  exact ⟨rfl, _, rfl, rfl, rfl⟩
set_option maxRecDepth 100000 in
set_option maxHeartbeats 8000000 in
theorem pinSame_ok (a b : List Pn) (ta tb : Tag) (ha : a.length < 1000000) (hb : b.length < 1000000) : APure Tryz.prog 69 [pinsA a ta, pinsA b tb] (.bool (decide (a = b))) := by
 intro M
 refine acalls_of tabOK Tryz.func69 rfl (by decide) (by simp [Tryz.f69]) ?_
 have la := len_map Pn.av a
 have lb := len_map Pn.av b
 unfold pinsA
 by_cases hl : a.length = b.length
 ·have d0 : (!decide ((a.length : Int) = (b.length : Int))) = false := by simp; omega
  repeat' (first | refine DW_VB tabs rfl d0 ?_ | refine DW_VI tabs rfl (by first | exact la | exact lb) ?_ | refine DW_A tabs rfl ?_ | refine DW_nil ?_ | refine W_A rfl ?_ | refine W_draw mixed [0, 1, 4, 5, 2, 3, 6, 7, 8] [.P, .P, .R, .R, .P, .P, .R, .R, .P] rfl rfl (by kernel_rfl) ?_)
  refine W_count a.length (fun i f N => N = M ∧ (a.take i = b.take i) ∧ f = ⟨[(0, .sl 2 (a.map Pn.av) ta), (1, .sl 2 (b.map Pn.av) tb), (5, .int .i64 (i : Int))], []⟩) (Nat.zero_le _) ⟨rfl, by simp, rfl⟩ (Joint.le ?_ (Mem.le_refl _)) ?_
  ·skip
   repeat (refine AF.le_cons rfl ?_)
   exact AF.le_nil rfl
  rintro i f N hi ⟨rfl, hinv, rfl⟩
  by_cases h1 : i < a.length
  ·have d1 : decide ((i : Int) < (a.length : Int)) = true := by simp; omega
   have hx : a[i]? = some a[i] := List.getElem?_eq_getElem h1
   have fi := wrap_succ (i := i) (by omega)
   have ht := take_succ hx
   have hm := List.getElem_mem h1
   generalize a[i] = x at hx ht hm
   have hy : b[i]? = some b[i] := List.getElem?_eq_getElem (by omega)
   have hu := take_succ hy
   generalize b[i] = y at hy hu
   by_cases h3 : x = y
   ·have d3 := (pn_neB x y).trans (show (!decide (x = y)) = false by simp [h3])
    repeat' (first | refine DW_VB tabs rfl (by first | exact d1 | exact d3) ?_ | refine DW_VI tabs rfl (by first | exact fi | exact la | exact lb) ?_ | refine DW_A tabs rfl ?_ | refine DW_nil ?_ | refine W_A rfl ?_ | refine DW_ix tabOK rfl (ixN hx) ?_ | refine DW_ix tabOK rfl (ixN hy) ?_ | refine W_draw mixed [0, 1, 4, 5, 2, 3, 6, 7, 8] [.P, .P, .R, .R, .P, .P, .R, .R, .P] rfl rfl (by kernel_rfl) ?_)
    refine ⟨h1, _, _, ⟨rfl, by rw [ht, hu, hinv, h3], rfl⟩, Joint.le ?_ (Mem.le_refl _)⟩
    repeat (refine AF.le_cons rfl ?_)
    exact AF.le_nil rfl
   ·have d3 := (pn_neB x y).trans (show (!decide (x = y)) = true by simp [h3])
    have e : decide (a = b) = false := by
     refine decide_eq_false fun e => h3 ?_
     subst e
     rw [hx] at hy
     cases hy
     rfl
    rw [e]
    repeat' (first | refine DW_VB tabs rfl (by first | exact d1 | exact d3) ?_ | refine DW_VI tabs rfl (by first | exact fi | exact la | exact lb) ?_ | refine DW_A tabs rfl ?_ | refine DW_nil ?_ | refine W_A rfl ?_ | refine DW_ix tabOK rfl (ixN hx) ?_ | refine DW_ix tabOK rfl (ixN hy) ?_ | refine W_draw mixed [0, 1, 4, 5, 2, 3, 6, 7, 8] [.P, .P, .R, .R, .P, .P, .R, .R, .P] rfl rfl (by kernel_rfl) ?_)
    exact ⟨rfl, _, rfl, rfl, rfl⟩
  ·have d1 : decide ((i : Int) < (a.length : Int)) = false := by simp; omega
   obtain rfl : i = a.length := by omega
   rw [take_all, hl, take_all] at hinv
   have e : decide (a = b) = true := by simp [hinv]
   rw [e]
   repeat' (first | refine DW_VB tabs rfl d1 ?_ | refine DW_VI tabs rfl la ?_ | refine DW_A tabs rfl ?_ | refine DW_nil ?_ | refine W_A rfl ?_ | refine W_draw mixed [0, 1, 4, 5, 2, 3, 6, 7, 8] [.P, .P, .R, .R, .P, .P, .R, .R, .P] rfl rfl (by kernel_rfl) ?_)
   exact ⟨rfl, _, rfl, rfl, rfl⟩
 ·have d0 : (!decide ((a.length : Int) = (b.length : Int))) = true := by simp; omega
  have e : decide (a = b) = false := decide_eq_false fun e => hl (by rw [e])
  rw [e]
  repeat' (first | refine DW_VB tabs rfl d0 ?_ | refine DW_VI tabs rfl (by first | exact la | exact lb) ?_ | refine DW_A tabs rfl ?_ | refine DW_nil ?_ | refine W_A rfl ?_ | refine W_draw mixed [0, 1, 4, 5, 2, 3, 6, 7, 8] [.P, .P, .R, .R, .P, .P, .R, .R, .P] rfl rfl (by kernel_rfl) ?_)
  exact ⟨rfl, _, rfl, rfl, rfl⟩
set_option maxRecDepth 100000 in
set_option maxHeartbeats 8000000 in
theorem seenSame_ok (a b : List Sn) (ta tb : Tag) (ha : a.length < 1000000) (hb : b.length < 1000000) : APure Tryz.prog 70 [seenA a ta, seenA b tb] (.bool (decide (a = b))) := by
 intro M
 refine acalls_of tabOK Tryz.func70 rfl (by decide) (by simp [Tryz.f70]) ?_
 have la := len_map Sn.av a
 have lb := len_map Sn.av b
 unfold seenA
 by_cases hl : a.length = b.length
 ·have d0 : (!decide ((a.length : Int) = (b.length : Int))) = false := by simp; omega
  repeat' (first | refine DW_VB tabs rfl d0 ?_ | refine DW_VI tabs rfl (by first | exact la | exact lb) ?_ | refine DW_A tabs rfl ?_ | refine DW_nil ?_ | refine W_A rfl ?_ | refine W_draw mixed [0, 1, 4, 5, 2, 3, 6, 7, 8] [.P, .P, .R, .R, .P, .P, .R, .R, .P] rfl rfl (by kernel_rfl) ?_)
  refine W_count a.length (fun i f N => N = M ∧ (a.take i = b.take i) ∧ f = ⟨[(0, .sl 4 (a.map Sn.av) ta), (1, .sl 4 (b.map Sn.av) tb), (5, .int .i64 (i : Int))], []⟩) (Nat.zero_le _) ⟨rfl, by simp, rfl⟩ (Joint.le ?_ (Mem.le_refl _)) ?_
  ·skip
   repeat (refine AF.le_cons rfl ?_)
   exact AF.le_nil rfl
  rintro i f N hi ⟨rfl, hinv, rfl⟩
  by_cases h1 : i < a.length
  ·have d1 : decide ((i : Int) < (a.length : Int)) = true := by simp; omega
   have hx : a[i]? = some a[i] := List.getElem?_eq_getElem h1
   have fi := wrap_succ (i := i) (by omega)
   have ht := take_succ hx
   have hm := List.getElem_mem h1
   generalize a[i] = x at hx ht hm
   have hy : b[i]? = some b[i] := List.getElem?_eq_getElem (by omega)
   have hu := take_succ hy
   generalize b[i] = y at hy hu
   by_cases h3 : x = y
   ·have d3 := (sn_neB x y).trans (show (!decide (x = y)) = false by simp [h3])
    repeat' (first | refine DW_VB tabs rfl (by first | exact d1 | exact d3) ?_ | refine DW_VI tabs rfl (by first | exact fi | exact la | exact lb) ?_ | refine DW_A tabs rfl ?_ | refine DW_nil ?_ | refine W_A rfl ?_ | refine DW_ix tabOK rfl (ixN hx) ?_ | refine DW_ix tabOK rfl (ixN hy) ?_ | refine W_draw mixed [0, 1, 4, 5, 2, 3, 6, 7, 8] [.P, .P, .R, .R, .P, .P, .R, .R, .P] rfl rfl (by kernel_rfl) ?_)
    refine ⟨h1, _, _, ⟨rfl, by rw [ht, hu, hinv, h3], rfl⟩, Joint.le ?_ (Mem.le_refl _)⟩
    repeat (refine AF.le_cons rfl ?_)
    exact AF.le_nil rfl
   ·have d3 := (sn_neB x y).trans (show (!decide (x = y)) = true by simp [h3])
    have e : decide (a = b) = false := by
     refine decide_eq_false fun e => h3 ?_
     subst e
     rw [hx] at hy
     cases hy
     rfl
    rw [e]
    repeat' (first | refine DW_VB tabs rfl (by first | exact d1 | exact d3) ?_ | refine DW_VI tabs rfl (by first | exact fi | exact la | exact lb) ?_ | refine DW_A tabs rfl ?_ | refine DW_nil ?_ | refine W_A rfl ?_ | refine DW_ix tabOK rfl (ixN hx) ?_ | refine DW_ix tabOK rfl (ixN hy) ?_ | refine W_draw mixed [0, 1, 4, 5, 2, 3, 6, 7, 8] [.P, .P, .R, .R, .P, .P, .R, .R, .P] rfl rfl (by kernel_rfl) ?_)
    exact ⟨rfl, _, rfl, rfl, rfl⟩
  ·have d1 : decide ((i : Int) < (a.length : Int)) = false := by simp; omega
   obtain rfl : i = a.length := by omega
   rw [take_all, hl, take_all] at hinv
   have e : decide (a = b) = true := by simp [hinv]
   rw [e]
   repeat' (first | refine DW_VB tabs rfl d1 ?_ | refine DW_VI tabs rfl la ?_ | refine DW_A tabs rfl ?_ | refine DW_nil ?_ | refine W_A rfl ?_ | refine W_draw mixed [0, 1, 4, 5, 2, 3, 6, 7, 8] [.P, .P, .R, .R, .P, .P, .R, .R, .P] rfl rfl (by kernel_rfl) ?_)
   exact ⟨rfl, _, rfl, rfl, rfl⟩
 ·have d0 : (!decide ((a.length : Int) = (b.length : Int))) = true := by simp; omega
  have e : decide (a = b) = false := decide_eq_false fun e => hl (by rw [e])
  rw [e]
  repeat' (first | refine DW_VB tabs rfl d0 ?_ | refine DW_VI tabs rfl (by first | exact la | exact lb) ?_ | refine DW_A tabs rfl ?_ | refine DW_nil ?_ | refine W_A rfl ?_ | refine W_draw mixed [0, 1, 4, 5, 2, 3, 6, 7, 8] [.P, .P, .R, .R, .P, .P, .R, .R, .P] rfl rfl (by kernel_rfl) ?_)
  exact ⟨rfl, _, rfl, rfl, rfl⟩
end Go.Proofs.YtmgkebghojhocaaGreatDoor
