/- States: which are more than are looked at, the same ones, in memory of their own; the document's rows. No further condition. -/
import Derived.Test.YtmgkebghojhocaaGreatDoorQDmpE
import Derived.Test.YtmgkebghojhocaaGreatDoorQDmpG
import Derived.Test.YtmgkebghojhocaaGreatDoorQDmpL
set_option linter.unusedVariables false
set_option linter.unusedSimpArgs false
namespace Go.Proofs.YtmgkebghojhocaaGreatDoor
open Go.Ab
def bigSg (s : Sg) : Bool := bigB s.pairs || decide (80 < s.pins.length) || decide (80 < s.seen.length)
set_option maxRecDepth 100000 in
set_option maxHeartbeats 8000000 in
theorem sgBig_ok (s : Sg) (h1 : s.pairs.length < 4611686018427387904) : APure Tryz.prog 13 [s.av] (.bool (bigSg s)) := by
 intro M
 refine acalls_of tabOK Tryz.func13 rfl (by decide) (by simp [Tryz.f13]) ?_
 have kb := big_ok s.pairs .none h1
 have lb := len_map Pn.av s.pins
 have lc := len_map Sn.av s.seen
 unfold bigSg Sg.av Sg.cells pinsA seenA
 cases h : bigB s.pairs
 ·rw [h] at kb
  by_cases h2 : 80 < s.pins.length
  ·have d1 : decide ((80 : Int) < (s.pins.length : Int)) = true := decide_eq_true (by omega)
   rw [decide_eq_true h2]
   repeat' (first | refine DW_VB tabs rfl d1 ?_ | refine DW_VI tabs rfl (by first | exact lb | exact lc) ?_ | refine DW_A tabs rfl ?_ | refine DW_nil ?_ | refine W_A rfl ?_ | refine DW_C rfl kb ?_)
   exact ⟨rfl, _, rfl, rfl, rfl⟩
  ·have d1 : decide ((80 : Int) < (s.pins.length : Int)) = false := decide_eq_false (by omega)
   rw [decide_eq_false h2]
   by_cases h3 : 80 < s.seen.length
   ·have d2 : decide ((80 : Int) < (s.seen.length : Int)) = true := decide_eq_true (by omega)
    rw [decide_eq_true h3]
    repeat' (first | refine DW_VB tabs rfl (by first | exact d1 | exact d2) ?_ | refine DW_VI tabs rfl (by first | exact lb | exact lc) ?_ | refine DW_A tabs rfl ?_ | refine DW_nil ?_ | refine W_A rfl ?_ | refine DW_C rfl kb ?_)
    exact ⟨rfl, _, rfl, rfl, rfl⟩
   ·have d2 : decide ((80 : Int) < (s.seen.length : Int)) = false := decide_eq_false (by omega)
    rw [decide_eq_false h3]
    repeat' (first | refine DW_VB tabs rfl (by first | exact d1 | exact d2) ?_ | refine DW_VI tabs rfl (by first | exact lb | exact lc) ?_ | refine DW_A tabs rfl ?_ | refine DW_nil ?_ | refine W_A rfl ?_ | refine DW_C rfl kb ?_)
    exact ⟨rfl, _, rfl, rfl, rfl⟩
 ·rw [h] at kb
  repeat' (first | refine DW_VI tabs rfl (by first | exact lb | exact lc) ?_ | refine DW_A tabs rfl ?_ | refine DW_nil ?_ | refine W_A rfl ?_ | refine DW_C rfl kb ?_)
  exact ⟨rfl, _, rfl, rfl, rfl⟩
structure TinySg (s : Sg) : Prop where
 pairs : s.pairs.length ≤ 80
 vals : ∀ p, p ∈ s.pairs → p.key.path.length ≤ 200 ∧ p.val.length ≤ 300
 pins : s.pins.length ≤ 80
 seen : s.seen.length ≤ 80
theorem sg_eqB (s t : Sg) : ((((decide (s.last = t.last) && decide (s.mark = t.mark)) && decide (s.pairs = t.pairs)) && decide (s.pins = t.pins)) && decide (s.seen = t.seen)) = decide (s = t) := by
 obtain ⟨a, b, c, d, e⟩ := s
 obtain ⟨f, g, h, i, j⟩ := t
 rw [Bool.eq_iff_iff]
 simp [and_assoc]
theorem bigSg_no {s : Sg} (h : bigSg s = false) : TinySg s := by
 unfold bigSg at h
 simp only [Bool.or_eq_false_iff, decide_eq_false_iff_not] at h
 obtain ⟨⟨h1, h2⟩, h3⟩ := h
 obtain ⟨h4, h5⟩ := bigB_no h1
 exact ⟨h4, h5, by omega, by omega⟩
theorem TinySg.small {s : Sg} (h : TinySg s) : SmallSg s := ⟨by have := h.pairs; omega, fun p hp => by have := h.vals p hp; omega, by have := h.pins; omega, by have := h.seen; omega⟩
structure LenSg (s : Sg) : Prop where
 pairs : s.pairs.length < 1000000
 pins : s.pins.length < 1000000
 seen : s.seen.length < 1000000
set_option maxRecDepth 100000 in
set_option maxHeartbeats 8000000 in
theorem sgSame_ok (s t : Sg) (hs : LenSg s) (ht : LenSg t) : APure Tryz.prog 21 [s.av, t.av] (.bool (decide (s = t))) := by
 intro M
 refine acalls_of tabOK Tryz.func21 rfl (by decide) (by simp [Tryz.f21]) ?_
 have k1 := same_ok s.pairs t.pairs .none .none hs.pairs ht.pairs
 have k2 := pinSame_ok s.pins t.pins .none .none hs.pins ht.pins
 have k3 := seenSame_ok s.seen t.seen .none .none hs.seen ht.seen
 rw [← sg_eqB]
 unfold Sg.av Sg.cells
 cases h1 : decide (s.last = t.last)
 ·repeat' (first | refine DW_VB tabs rfl h1 ?_ | refine DW_A tabs rfl ?_ | refine DW_nil ?_ | refine W_A rfl ?_)
  exact ⟨rfl, _, rfl, rfl, rfl⟩
 ·cases h2 : decide (s.mark = t.mark)
  ·repeat' (first | refine DW_VB tabs rfl (by first | exact h1 | exact h2) ?_ | refine DW_A tabs rfl ?_ | refine DW_nil ?_ | refine W_A rfl ?_)
   exact ⟨rfl, _, rfl, rfl, rfl⟩
  ·cases h3 : decide (s.pairs = t.pairs)
   ·rw [h3] at k1
    repeat' (first | refine DW_VB tabs rfl (by first | exact h1 | exact h2) ?_ | refine DW_A tabs rfl ?_ | refine DW_nil ?_ | refine W_A rfl ?_ | refine DW_C rfl k1 ?_)
    exact ⟨rfl, _, rfl, rfl, rfl⟩
   ·rw [h3] at k1
    cases h4 : decide (s.pins = t.pins)
    ·rw [h4] at k2
     repeat' (first | refine DW_VB tabs rfl (by first | exact h1 | exact h2) ?_ | refine DW_A tabs rfl ?_ | refine DW_nil ?_ | refine W_A rfl ?_ | refine DW_C rfl k1 ?_ | refine DW_C rfl k2 ?_)
     exact ⟨rfl, _, rfl, rfl, rfl⟩
    ·rw [h4] at k2
     cases h5 : decide (s.seen = t.seen)
     ·rw [h5] at k3
      repeat' (first | refine DW_VB tabs rfl (by first | exact h1 | exact h2) ?_ | refine DW_A tabs rfl ?_ | refine DW_nil ?_ | refine W_A rfl ?_ | refine DW_C rfl k1 ?_ | refine DW_C rfl k2 ?_ | refine DW_C rfl k3 ?_)
      exact ⟨rfl, _, rfl, rfl, rfl⟩
     ·rw [h5] at k3
      repeat' (first | refine DW_VB tabs rfl (by first | exact h1 | exact h2) ?_ | refine DW_A tabs rfl ?_ | refine DW_nil ?_ | refine W_A rfl ?_ | refine DW_C rfl k1 ?_ | refine DW_C rfl k2 ?_ | refine DW_C rfl k3 ?_)
      exact ⟨rfl, _, rfl, rfl, rfl⟩
set_option maxRecDepth 100000 in
set_option maxHeartbeats 8000000 in
theorem ownP_ok (l : List Pr) (hl : l.length < 1000000) : APure Tryz.prog 52 [.sl 3 (l.map Pr.av) .none] (.sl 3 (l.map Pr.av) .none) := by
 refine pure_sub (closed1 (closed_prs l)) (closed_prs l) ?_
 refine acalls_of tabOK Tryz.func52 rfl (by decide) (by simp [Tryz.f52]) ?_
 have la := len_map Pr.av l
 have hc := closed_prs l
 repeat' (first | refine DW_VI tabs rfl la ?_ | refine DW_A tabs rfl ?_ | refine DW_nil ?_ | refine W_A rfl ?_ | refine DW_app tabOK rfl rfl (by simp; omega) (by simp; omega) ?_ | refine DW_app0 tabOK rfl (by simp; omega) (by simp; omega) ?_)
 exact ⟨rfl, _, rfl, _, rfl, SubC.untag hc⟩
theorem SmallSg.len {s : Sg} (h : SmallSg s) : LenSg s := ⟨by have := h.pairs; omega, by have := h.pins; omega, by have := h.seen; omega⟩
theorem IsState.len {s : Sg} (h : IsState s) : LenSg s := ⟨by have := h.many; omega, by have := h.pinsN; omega, by have := h.seenN; omega⟩
set_option maxRecDepth 100000 in
set_option maxHeartbeats 8000000 in
theorem ownN_ok (l : List Pn) (hl : l.length < 1000000) : APure Tryz.prog 53 [pinsA l .none] (pinsA l .none) := by
 refine pure_sub (closed1 (closed_pins l (.inl rfl))) (closed_pins l (.inl rfl)) ?_
 refine acalls_of tabOK Tryz.func53 rfl (by decide) (by simp [Tryz.f53]) ?_
 have la := len_map Pn.av l
 have hc := closed_pins l (t := .none) (.inl rfl)
 unfold pinsA at *
 repeat' (first | refine DW_VI tabs rfl la ?_ | refine DW_A tabs rfl ?_ | refine DW_nil ?_ | refine W_A rfl ?_ | refine DW_app tabOK rfl rfl (by simp; omega) (by simp; omega) ?_ | refine DW_app0 tabOK rfl (by simp; omega) (by simp; omega) ?_)
 exact ⟨rfl, _, rfl, _, rfl, SubC.untag hc⟩
set_option maxRecDepth 100000 in
set_option maxHeartbeats 8000000 in
theorem ownS_ok (l : List Sn) (hl : l.length < 1000000) : APure Tryz.prog 54 [seenA l .none] (seenA l .none) := by
 refine pure_sub (closed1 (closed_seen l (.inl rfl))) (closed_seen l (.inl rfl)) ?_
 refine acalls_of tabOK Tryz.func54 rfl (by decide) (by simp [Tryz.f54]) ?_
 have la := len_map Sn.av l
 have hc := closed_seen l (t := .none) (.inl rfl)
 unfold seenA at *
 repeat' (first | refine DW_VI tabs rfl la ?_ | refine DW_A tabs rfl ?_ | refine DW_nil ?_ | refine W_A rfl ?_ | refine DW_app tabOK rfl rfl (by simp; omega) (by simp; omega) ?_ | refine DW_app0 tabOK rfl (by simp; omega) (by simp; omega) ?_)
 exact ⟨rfl, _, rfl, _, rfl, SubC.untag hc⟩
set_option maxRecDepth 100000 in
set_option maxHeartbeats 8000000 in
theorem ownT_ok (l : List Bytes) (hl : l.length < 1000000) (M : Mem) : ACalls Tryz.prog 25 [txA l .none] M (fun e N => e = .ret (txA l (.tok M.next 0)) ∧ N = M.push (.spare 0)) := by
 refine acalls_of tabOK Tryz.func25 rfl (by decide) (by simp [Tryz.f25]) ?_
 have la := len_map AV.str l
 unfold txA
 repeat' (first | refine DW_VI tabs rfl la ?_ | refine DW_A tabs rfl ?_ | refine DW_nil ?_ | refine W_A rfl ?_ | refine DW_app tabOK rfl rfl (by simp; omega) (by simp; omega) ?_ | refine DW_app0 tabOK rfl (by simp; omega) (by simp; omega) ?_)
 exact ⟨rfl, _, rfl, rfl, rfl⟩
set_option maxRecDepth 100000 in
set_option maxHeartbeats 8000000 in
theorem sgOwn_ok (s : Sg) (hs : LenSg s) : APure Tryz.prog 14 [s.av] s.av := by
 refine pure_sub (closed1 (closed_sg s)) (closed_sg s) ?_
 refine acalls_of tabOK Tryz.func14 rfl (by decide) (by simp [Tryz.f14]) ?_
 have k1 := ownP_ok s.pairs hs.pairs
 have k2 := ownN_ok s.pins hs.pins
 have k3 := ownS_ok s.seen hs.seen
 have hc := closed_sg s
 unfold Sg.av Sg.cells at *
 repeat' (first | refine DW_A tabs rfl ?_ | refine DW_nil ?_ | refine W_A rfl ?_ | refine DW_C rfl k1 ?_ | refine DW_C rfl k2 ?_ | refine DW_C rfl k3 ?_ | refine W_draw mixed [0, 1, 2, 3, 4, 5, 6, 7, 8, 9, 10, 11, 12, 13, 14] [.R, .R, .R, .R, .R, .R, .P, .R, .R, .P, .R, .R, .P, .P, .E] rfl rfl (by kernel_rfl) ?_)
 exact ⟨rfl, _, rfl, _, rfl, SubC.of_closed hc⟩
noncomputable def withT (s : Sg) (t : Tr) : Sg := ⟨s.last, s.mark, t.all, s.pins, s.seen⟩
set_option maxRecDepth 100000 in
set_option maxHeartbeats 8000000 in
theorem dWith_ok (s : Sg) (t : Tr) (hs : t.all.length < 10000000) : APure Tryz.prog 34 [s.av, t.av] (withT s t).av := by
 refine pure_sub (closed2 (closed_sg s) (closed_tr t)) (closed_sg _) ?_
 refine acalls_of tabOK Tryz.func34 rfl (by decide) (by simp [Tryz.f34]) ?_
 have ka := tAll_ok t hs
 have hc := closed_sg (withT s t)
 unfold withT Sg.av Sg.cells at *
 unfold Tr.av at ka ⊢
 generalize t.all = A at *
 repeat' (first | refine DW_box 2 tabOK rfl ?_ | refine DW_box 4 tabOK rfl ?_ | refine DW_A tabs rfl ?_ | refine DW_nil ?_ | refine W_A rfl ?_ | refine DW_C rfl ka ?_)
 exact ⟨rfl, _, rfl, _, rfl, SubC.of_closed hc⟩
def s0 : Sg := ⟨3, 1, [], [⟨5, 2⟩], []⟩
def s0A : AV := .agg [.int .i64 3, .int .i64 1, .sl 0 [] .full, .sl 2 [.agg [.int .i64 5, .int .i64 2]] .full, .sl 0 [] .full]
def s1 : Sg := ⟨0, 1, [], [], []⟩
def s1A : AV := .agg [.int .i64 0, .int .i64 1, .sl 0 [] .full, .sl 0 [] .full, .sl 0 [] .full]
theorem sub_s0 : Ab.Sub s0A s0.av := Sub.aggL ⟨Sub.refl, Sub.refl, Sub.nil, Sub.untag, Sub.nil, trivial⟩
theorem sub_s1 : Ab.Sub s1A s1.av := Sub.aggL ⟨Sub.refl, Sub.refl, Sub.nil, Sub.nil, Sub.nil, trivial⟩
theorem st_s0 : IsState s0 := ⟨by decide, by decide, by decide, by decide, List.Pairwise.nil, rfl, by decide, by decide, by decide, by decide, by decide⟩
theorem st_s1 : stateB s1 = false := rfl
theorem tx_s0 : texts s0 = [[1, 3, 1, 1, 0, 1, 1, 0], [1, 5, 1, 2]] := by decide
theorem small_s0 : SmallSg s0 := ⟨by decide, fun p hp => (by cases hp), by decide, by decide⟩
theorem small_s1 : SmallSg s1 := ⟨by decide, fun p hp => (by cases hp), by decide, by decide⟩
set_option maxRecDepth 100000 in
set_option maxHeartbeats 8000000 in
theorem dumped_ok : APure Tryz.prog 17 [] (.bool true) := by
 refine pure_sub (closedL_nil) (closed_bool) ?_
 refine acalls_of tabOK Tryz.func17 rfl (by decide) (by simp [Tryz.f17]) ?_
 have p0 := (dPut_ok s0 small_s0).sub (args := [s0A]) ⟨sub_s0, trivial⟩
 have p1 := (dPut_ok s1 small_s1).sub (args := [s1A]) ⟨sub_s1, trivial⟩
 have i0 := (dIs_ok s0 small_s0).sub (args := [s0A]) ⟨sub_s0, trivial⟩
 rw [stateB_iff.2 st_s0] at i0
 have g0 := dGet_ok (texts s0) (by rw [tx_s0]; decide) (by rw [tx_s0]; decide)
 rw [get_dump st_s0] at g0
 have g1 := (dGet_ok [] (by decide) (by simp)).sub (args := [.sl 0 [] .full]) ⟨Sub.nil, trivial⟩
 have sm := (sgSame_ok s0 s0 small_s0.len small_s0.len).sub (args := [s0.av, s0A]) ⟨Sub.refl, sub_s0, trivial⟩
 rw [decide_eq_true rfl] at sm
 unfold dumpO at p0 p1
 rw [if_pos (stateB_iff.2 st_s0)] at p0
 rw [if_neg (by rw [st_s1]; simp)] at p1
 have tx := rtexts_ok (texts s0) [[1, 3, 1, 1, 0, 1, 1, 0], [1, 5, 1, 2]] .none .full (by rw [tx_s0]; decide) (by decide)
 rw [decide_eq_true tx_s0] at tx
 generalize texts s0 = X at *
 unfold dmA txA at *
 unfold gsA at *
 unfold s0A s1A at *
 unfold Sg.av Sg.cells at *
 repeat' (first | refine DW_box 1 tabOK rfl ?_ | refine DW_box 4 tabOK rfl ?_ | refine DW_box 6 tabOK rfl ?_ | refine DW_orow 1 tabOK rfl ?_ | refine DW_orow 4 tabOK rfl ?_ | refine DW_orow 6 tabOK rfl ?_ | refine DW_A tabs rfl ?_ | refine DW_nil ?_ | refine W_A rfl ?_ | refine DW_C rfl p0 ?_ | refine DW_C rfl p1 ?_ | refine DW_C rfl i0 ?_ | refine DW_C rfl g0 ?_ | refine DW_C rfl g1 ?_ | refine DW_C rfl sm ?_ | refine DW_C rfl tx ?_ | refine DW_row tabOK rfl ?_)
 exact ⟨rfl, _, rfl, _, rfl, SubC.of_closed closed_bool⟩
def farB (l : List Bytes) : Bool := decide (120 < l.length) || l.any fun t => decide (300 < t.length)
theorem farB_no {l : List Bytes} (h : farB l = false) : l.length ≤ 120 ∧ ∀ t, t ∈ l → t.length ≤ 300 := by
 unfold farB at h
 simp only [Bool.or_eq_false_iff, decide_eq_false_iff_not, List.any_eq_false, decide_eq_true_eq] at h
 exact ⟨by omega, fun t ht => by have := h.2 t ht; omega⟩
set_option maxRecDepth 100000 in
set_option maxHeartbeats 8000000 in
theorem far_ok (l : List Bytes) (hl : l.length < 4611686018427387904) : APure Tryz.prog 22 [txA l .none] (.bool (farB l)) := by
 intro M
 refine acalls_of tabOK Tryz.func22 rfl (by decide) (by simp [Tryz.f22]) ?_
 have la := len_map AV.str l
 unfold farB txA
 by_cases h120 : 120 < l.length
 ·have d1 : decide ((0 : Int) < (l.length : Int)) = true := decide_eq_true (by omega)
  have d2 : decide ((l.length : Int) ≤ 120) = false := decide_eq_false (by omega)
  have d3 : decide ((120 : Int) < (l.length : Int)) = true := decide_eq_true (by omega)
  rw [decide_eq_true h120]
  repeat' (first | refine DW_VB tabs rfl (by first | exact d1 | exact d2) ?_ | refine DW_VI tabs rfl la ?_ | refine DW_A tabs rfl ?_ | refine DW_nil ?_ | refine W_A rfl ?_)
  refine W_count 0 (fun i f N => N = M ∧ f = ⟨[(0, .sl 1 (l.map AV.str) .none), (3, .int .i64 (i : Int))], []⟩) (Nat.zero_le _) ⟨rfl, rfl⟩ (Joint.le ?_ (Mem.le_refl _)) ?_
  ·skip
   repeat (refine AF.le_cons rfl ?_)
   exact AF.le_nil rfl
  rintro i f N hi ⟨rfl, rfl⟩
  obtain rfl : i = 0 := by omega
  repeat' (first | refine DW_VB tabs rfl (by first | exact d1 | exact d2 | exact d3) ?_ | refine DW_VI tabs rfl la ?_ | refine DW_A tabs rfl ?_ | refine DW_nil ?_ | refine W_A rfl ?_)
  exact ⟨rfl, _, rfl, rfl, rfl⟩
 ·have d2 : decide ((l.length : Int) ≤ 120) = true := decide_eq_true (by omega)
  have d3 : decide ((120 : Int) < (l.length : Int)) = false := decide_eq_false (by omega)
  rw [decide_eq_false h120, Bool.false_or]
  repeat' (first | refine DW_VB tabs rfl d2 ?_ | refine DW_VI tabs rfl la ?_ | refine DW_A tabs rfl ?_ | refine DW_nil ?_ | refine W_A rfl ?_)
  refine W_count l.length (fun i f N => N = M ∧ ((l.take i).any (fun t => decide (300 < t.length)) = false) ∧ f = ⟨[(0, .sl 1 (l.map AV.str) .none), (3, .int .i64 (i : Int))], []⟩) (Nat.zero_le _) ⟨rfl, by simp, rfl⟩ (Joint.le ?_ (Mem.le_refl _)) ?_
  ·skip
   repeat (refine AF.le_cons rfl ?_)
   exact AF.le_nil rfl
  rintro i f N hi ⟨rfl, hinv, rfl⟩
  by_cases h1 : i < l.length
  ·have d1 : decide ((i : Int) < (l.length : Int)) = true := by simp; omega
   have hx : l[i]? = some l[i] := List.getElem?_eq_getElem h1
   have fi := wrap_succ (i := i) (by omega)
   have ht := take_succ hx
   have hm := List.getElem_mem h1
   generalize l[i] = x at hx ht hm
   by_cases h5 : 300 < x.length
   ·have d5 : decide ((300 : Int) < (x.length : Int)) = true := decide_eq_true (by omega)
    rw [show l.any (fun t => decide (300 < t.length)) = true from List.any_eq_true.2 ⟨x, List.mem_of_getElem? hx, by simp [h5]⟩]
    repeat' (first | refine DW_VB tabs rfl (by first | exact d1 | exact d2 | exact d5) ?_ | refine DW_VI tabs rfl (by first | exact la | exact fi) ?_ | refine DW_A tabs rfl ?_ | refine DW_nil ?_ | refine W_A rfl ?_ | refine DW_ix tabOK rfl (ixN hx) ?_)
    exact ⟨rfl, _, rfl, rfl, rfl⟩
   ·have d5 : decide ((300 : Int) < (x.length : Int)) = false := decide_eq_false (by omega)
    repeat' (first | refine DW_VB tabs rfl (by first | exact d1 | exact d2 | exact d5) ?_ | refine DW_VI tabs rfl (by first | exact la | exact fi) ?_ | refine DW_A tabs rfl ?_ | refine DW_nil ?_ | refine W_A rfl ?_ | refine DW_ix tabOK rfl (ixN hx) ?_)
    refine ⟨h1, _, _, ⟨rfl, by rw [ht, List.any_append, hinv]; simp; omega, rfl⟩, Joint.le ?_ (Mem.le_refl _)⟩
    repeat (refine AF.le_cons rfl ?_)
    exact AF.le_nil rfl
  ·have d1 : decide ((i : Int) < (l.length : Int)) = false := by simp; omega
   obtain rfl : i = l.length := by omega
   rw [take_all] at hinv
   rw [hinv]
   repeat' (first | refine DW_VB tabs rfl (by first | exact d1 | exact d2 | exact d3) ?_ | refine DW_VI tabs rfl la ?_ | refine DW_A tabs rfl ?_ | refine DW_nil ?_ | refine W_A rfl ?_)
   exact ⟨rfl, _, rfl, rfl, rfl⟩
end Go.Proofs.YtmgkebghojhocaaGreatDoor
