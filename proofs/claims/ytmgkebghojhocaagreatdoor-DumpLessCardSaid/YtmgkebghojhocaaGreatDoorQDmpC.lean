/- States: which may be, by code and document. No further condition. -/
import Derived.Test.YtmgkebghojhocaaGreatDoorQDmpA
import Derived.Test.YtmgkebghojhocaaGreatDoorQV30
set_option linter.unusedVariables false
set_option linter.unusedSimpArgs false
namespace Go.Proofs.YtmgkebghojhocaaGreatDoor
open Go.Ab
def Sg.cells (s : Sg) : List AV := [.int .i64 s.last, .int .i64 s.mark, .sl 3 (s.pairs.map Pr.av) .none, pinsA s.pins .none, seenA s.seen .none]
def Sg.av (s : Sg) : AV := .agg s.cells
theorem closed_sgc (s : Sg) : ∀ c, c ∈ s.cells → Closed c := closedL_cons closed_int (closedL_cons closed_int (closed3 (closed_prs _) (closed_pins _ (.inl rfl)) (closed_seen _ (.inl rfl))))
theorem closed_sg (s : Sg) : Closed s.av := closed_agg (closed_sgc s)
set_option maxRecDepth 100000 in
set_option maxHeartbeats 8000000 in
theorem nIs_ok (l : List Pr) (tg : Tag) (hl : l.length < 1000000) : APure Tryz.prog 61 [.sl 3 (l.map Pr.av) tg] (.bool (decide (Rise l))) := by
 intro M
 refine acalls_of tabOK Tryz.func61 rfl (by decide) (by simp [Tryz.f61]) ?_
 have la := len_map Pr.av l
 by_cases h0 : l = []
 ·subst h0
  repeat' (first | refine DW_A tabs rfl ?_ | refine DW_nil ?_ | refine W_A rfl ?_ | refine W_draw mixed [0, 1, 2, 6, 7, 3, 4, 5, 8, 9, 10, 11, 12] [.P, .P, .P, .R, .R, .R, .P, .P, .R, .R, .R, .P, .P] rfl rfl (by kernel_rfl) ?_)
  refine W_count 0 (fun i f N => N = M ∧ f = ⟨[(0, .sl 3 ([].map Pr.av) tg), (3, .int .i64 ((i + 1 : Nat) : Int))], []⟩) (Nat.zero_le _) ⟨rfl, rfl⟩ (Joint.le ?_ (Mem.le_refl _)) ?_
  ·skip
   repeat (refine AF.le_cons rfl ?_)
   exact AF.le_nil rfl
  rintro i f N hi ⟨rfl, rfl⟩
  obtain rfl : i = 0 := by omega
  repeat' (first | refine DW_A tabs rfl ?_ | refine DW_nil ?_ | refine W_A rfl ?_ | refine W_draw mixed [0, 1, 2, 6, 7, 3, 4, 5, 8, 9, 10, 11, 12] [.P, .P, .P, .R, .R, .R, .P, .P, .R, .R, .R, .P, .P] rfl rfl (by kernel_rfl) ?_)
  exact ⟨rfl, _, rfl, by rw [decide_eq_true (List.Pairwise.nil : Rise [])]; rfl, rfl⟩
 ·have hpos : 0 < l.length := List.length_pos_iff.2 h0
  repeat' (first | refine DW_A tabs rfl ?_ | refine DW_nil ?_ | refine W_A rfl ?_ | refine W_draw mixed [0, 1, 2, 6, 7, 3, 4, 5, 8, 9, 10, 11, 12] [.P, .P, .P, .R, .R, .R, .P, .P, .R, .R, .R, .P, .P] rfl rfl (by kernel_rfl) ?_)
  refine W_count (l.length - 1) (fun i f N => N = M ∧ (∀ (j : Nat) a b, j < i → l[j]? = some a → l[j + 1]? = some b → rless a.key b.key = true) ∧ f = ⟨[(0, .sl 3 (l.map Pr.av) tg), (3, .int .i64 ((i + 1 : Nat) : Int))], []⟩) (Nat.zero_le _) ⟨rfl, fun j a b hj => absurd hj (Nat.not_lt_zero _), rfl⟩ (Joint.le ?_ (Mem.le_refl _)) ?_
  ·skip
   repeat (refine AF.le_cons rfl ?_)
   exact AF.le_nil rfl
  rintro i f N hi ⟨rfl, hinv, rfl⟩
  by_cases h1 : i < l.length - 1
  ·have d1 : decide (((i + 1 : Nat) : Int) < (l.length : Int)) = true := by simp; omega
   have hx : l[i]? = some l[i] := List.getElem?_eq_getElem (by omega)
   have hy : l[i + 1]? = some l[i + 1] := List.getElem?_eq_getElem (by omega)
   have fi := wrap_succ (i := i + 1) (by omega)
   have w1 : IntKind.wrap .i64 (((i + 1 : Nat) : Int) - 1) = (i : Int) := (Go.Ab.wrap_small (by omega) (by omega)).trans (by omega)
   generalize l[i] = x at hx
   generalize l[i + 1] = y at hy
   have kl := less_ok x.key y.key
   rw [toS_neg] at kl
   unfold Ky.av at kl
   cases h3 : rless x.key y.key
   ·rw [h3] at kl
    have e : decide (Rise l) = false := decide_eq_false fun hr => by rw [rise_at hr (Nat.lt_succ_self i) hx hy] at h3; cases h3
    rw [e]
    repeat' (first | refine DW_VB tabs rfl d1 ?_ | refine DW_VI tabs rfl (by first | exact fi | exact la | exact w1) ?_ | refine DW_A tabs rfl ?_ | refine DW_nil ?_ | refine W_A rfl ?_ | refine DW_C rfl kl ?_ | refine DW_ix tabOK rfl (ixN hx) ?_ | refine DW_ix tabOK rfl (ixN hy) ?_ | refine W_draw mixed [0, 1, 2, 6, 7, 3, 4, 5, 8, 9, 10, 11, 12] [.P, .P, .P, .R, .R, .R, .P, .P, .R, .R, .R, .P, .P] rfl rfl (by kernel_rfl) ?_)
    exact ⟨rfl, _, rfl, rfl, rfl⟩
   ·rw [h3] at kl
    repeat' (first | refine DW_VB tabs rfl d1 ?_ | refine DW_VI tabs rfl (by first | exact fi | exact la | exact w1) ?_ | refine DW_A tabs rfl ?_ | refine DW_nil ?_ | refine W_A rfl ?_ | refine DW_C rfl kl ?_ | refine DW_ix tabOK rfl (ixN hx) ?_ | refine DW_ix tabOK rfl (ixN hy) ?_ | refine W_draw mixed [0, 1, 2, 6, 7, 3, 4, 5, 8, 9, 10, 11, 12] [.P, .P, .P, .R, .R, .R, .P, .P, .R, .R, .R, .P, .P] rfl rfl (by kernel_rfl) ?_)
    refine ⟨h1, _, _, ⟨rfl, ?_, rfl⟩, Joint.le ?_ (Mem.le_refl _)⟩
    ·intro j a b hj ha hb
     by_cases hji : j = i
     ·subst hji
      rw [hx] at ha; rw [hy] at hb
      cases ha; cases hb
      exact h3
     ·exact hinv j a b (by omega) ha hb
    ·skip
     repeat (refine AF.le_cons rfl ?_)
     exact AF.le_nil rfl
  ·have d1 : decide (((i + 1 : Nat) : Int) < (l.length : Int)) = false := by simp; omega
   have e : decide (Rise l) = true := decide_eq_true (rise_adj l fun j a b ha hb => hinv j a b (by have := (List.getElem?_eq_some_iff.1 hb).1; omega) ha hb)
   rw [e]
   repeat' (first | refine DW_VB tabs rfl d1 ?_ | refine DW_VI tabs rfl la ?_ | refine DW_A tabs rfl ?_ | refine DW_nil ?_ | refine W_A rfl ?_ | refine W_draw mixed [0, 1, 2, 6, 7, 3, 4, 5, 8, 9, 10, 11, 12] [.P, .P, .P, .R, .R, .R, .P, .P, .R, .R, .R, .P, .P] rfl rfl (by kernel_rfl) ?_)
   exact ⟨rfl, _, rfl, rfl, rfl⟩
noncomputable def dtF (s : Sg) (i : Nat) : AF := ⟨[(3, (laidT (s.pairs.take i)).av), (8, .sl 3 (s.pairs.map Pr.av) .none), (9, .int .i64 (s.pairs.length : Int)), (10, .int .i64 (i : Int))], []⟩
set_option maxRecDepth 100000 in
set_option maxHeartbeats 8000000 in
theorem dTree_ok (s : Sg) (hl : s.pairs.length < 1000) : APure Tryz.prog 33 [s.av] (laidT s.pairs).av := by
 refine pure_sub (closed1 (closed_sg s)) (closed_tr _) ?_
 refine acalls_of tabOK Tryz.func33 rfl (by decide) (by simp [Tryz.f33]) ?_
 have la := len_map Pr.av s.pairs
 have k0 := new_ok
 unfold Sg.av Sg.cells
 repeat' (first | refine DW_VI tabs rfl la ?_ | refine DW_box 5 tabOK rfl ?_ | refine DW_oix tabOK rfl ?_ | refine DW_olenA tabOK rfl ?_ | refine DW_A tabs rfl ?_ | refine DW_nil ?_ | refine W_A rfl ?_ | refine DW_C rfl k0 ?_ | refine DW_nilc tabOK rfl ?_)
 refine W_count s.pairs.length (fun i f N => N = ⟨0, []⟩ ∧ f = dtF s i) (Nat.zero_le _) ⟨rfl, rfl⟩ (Joint.le ?_ (Mem.le_nil rfl)) ?_
 ·unfold dtF
  repeat (refine AF.le_cons rfl ?_)
  exact AF.le_nil rfl
 rintro i f N hi ⟨rfl, rfl⟩
 unfold dtF
 by_cases h1 : i < s.pairs.length
 ·have d1 : decide ((i : Int) < (s.pairs.length : Int)) = true := decide_eq_true (by omega)
  have hx : s.pairs[i]? = some s.pairs[i] := List.getElem?_eq_getElem h1
  have fi := wrap_succ (i := i) (by omega)
  have ht := take_succ hx
  generalize s.pairs[i] = x at hx ht
  have hall := (laid_all (l := s.pairs.take i) (by simp; omega))
  have kp := putT_ok (t := laidT (s.pairs.take i)) (p := x) (by rw [hall.1]; have := hall.2; simp at this; omega)
  rw [← laidT_step ht] at kp
  have hc := closed_tr (laidT (s.pairs.take (i + 1)))
  unfold Pr.av at kp
  unfold Tr.av at kp ⊢
  repeat' (first | refine DW_VB tabs rfl d1 ?_ | refine DW_VI tabs rfl (by first | exact fi | exact la) ?_ | refine DW_box 5 tabOK rfl ?_ | refine DW_oix tabOK rfl ?_ | refine DW_olenA tabOK rfl ?_ | refine DW_A tabs rfl ?_ | refine DW_nil ?_ | refine W_A rfl ?_ | refine DW_C rfl kp ?_ | refine DW_ix tabOK rfl (ixN hx) ?_ | refine DW_nilc tabOK rfl ?_)
  refine ⟨h1, dtF s (i + 1), ⟨0, []⟩, ⟨rfl, rfl⟩, Joint.cut (k := 0) (t := (dtF s (i + 1)).t) (l := []) (Nat.le_refl _) (Nat.zero_le _) rfl ⟨?_, ?_, ?_, ?_, trivial⟩ trivial⟩
  ·exact SubC.of_closed hc
  ·exact SubC.of_closed (closed_prs _)
  ·exact SubC.of_closed closed_int
  ·exact SubC.of_closed closed_int
 ·have d1 : decide ((i : Int) < (s.pairs.length : Int)) = false := decide_eq_false (by omega)
  obtain rfl : i = s.pairs.length := by omega
  rw [List.take_length]
  have hc := closed_tr (laidT s.pairs)
  generalize laidT s.pairs = T at *
  unfold Tr.av at hc ⊢
  repeat' (first | refine DW_VB tabs rfl d1 ?_ | refine DW_VI tabs rfl la ?_ | refine DW_box 5 tabOK rfl ?_ | refine DW_oix tabOK rfl ?_ | refine DW_olenA tabOK rfl ?_ | refine DW_A tabs rfl ?_ | refine DW_nil ?_ | refine W_A rfl ?_ | refine DW_nilc tabOK rfl ?_)
  exact ⟨rfl, _, rfl, _, rfl, SubC.of_closed hc⟩
/-- A state no larger than is walked. -/
structure SmallSg (s : Sg) : Prop where
 pairs : s.pairs.length < 1000
 vals : valsB s.pairs
 pins : s.pins.length < 1000
 seen : s.seen.length < 1000
set_option maxRecDepth 100000 in
set_option maxHeartbeats 8000000 in
theorem dIs_ok (s : Sg) (hs : SmallSg s) : APure Tryz.prog 18 [s.av] (.bool (stateB s)) := by
 refine pure_sub (closed1 (closed_sg s)) (closed_bool) ?_
 refine acalls_of tabOK Tryz.func18 rfl (by decide) (by simp [Tryz.f18]) ?_
 have hn := hs.pairs
 have kn := nIs_ok s.pairs .none (by omega)
 have kt := dTree_ok s hn
 have kp : APure Tryz.prog 62 [pinsA s.pins .none] (.bool (pinsB s.pins)) := pinIs_ok s.pins (by have := hs.pins; omega)
 have kq : APure Tryz.prog 63 [seenA s.seen .none] (.bool (seenB s.seen)) := seenIs_ok s.seen (by have := hs.seen; omega)
 have la := len_map Pr.av s.pairs
 by_cases a1 : 0 ≤ s.mark
 ·have b1 : decide (0 ≤ s.mark) = true := decide_eq_true a1
  by_cases a2 : s.mark ≤ s.last
  ·have b2 : decide (s.mark ≤ s.last) = true := decide_eq_true a2
   by_cases a3 : s.last ≤ 1000000000
   ·have b3 : decide (s.last ≤ 1000000000) = true := decide_eq_true a3
    by_cases a4 : s.pairs.length ≤ 200
    ·have b4 : decide ((200 : Int) < (s.pairs.length : Int)) = false := decide_eq_false (by omega)
     by_cases a5 : Rise s.pairs
     ·rw [decide_eq_true a5] at kn
      have hall := laidT_rise a5 (by omega)
      have k1 := isStore_ok (laidT s.pairs) (by rw [hall]; omega) (by rw [hall]; exact hs.vals)
      have k2 := last_ok (laidT s.pairs) (by rw [hall]; omega) (by rw [hall]; exact hs.vals)
      rw [hall] at k1 k2
      have e : stateB s = (((isSt s.pairs && decide (lastL s.pairs ≤ s.last)) && pinsB s.pins) && seenB s.seen) := by simp [stateB, a1, a2, a3, a4, a5]
      rw [e]
      clear hall e
      generalize laidT s.pairs = T at *
      generalize lastL s.pairs = m at *
      unfold Sg.av Sg.cells at *
      unfold Tr.av at kt k1 k2
      cases h1 : isSt s.pairs
      ·rw [h1] at k1
       repeat' (first | refine DW_VB tabs rfl (by first | exact b1 | exact b2 | exact b3 | exact b4) ?_ | refine DW_VI tabs rfl la ?_ | refine DW_A tabs rfl ?_ | refine DW_nil ?_ | refine W_A rfl ?_ | refine DW_C rfl kn ?_ | refine DW_C rfl kt ?_ | refine DW_C rfl k1 ?_ | refine DW_C rfl k2 ?_ | refine DW_C rfl kp ?_ | refine DW_C rfl kq ?_ | refine W_draw mixed [0, 1, 2, 3, 4, 5, 6, 7, 8, 9, 10, 11, 12, 13, 14, 15, 16, 17, 18, 19] [.P, .P, .P, .P, .P, .R, .R, .P, .P, .P, .R, .R, .P, .P, .P, .R, .R, .P, .P, .P] rfl rfl (by kernel_rfl) ?_)
       exact ⟨rfl, _, rfl, _, rfl, SubC.of_closed closed_bool⟩
      ·rw [h1] at k1
       cases h2 : decide (m ≤ s.last)
       ·repeat' (first | refine DW_VB tabs rfl (by first | exact b1 | exact b2 | exact b3 | exact b4 | exact h2) ?_ | refine DW_VI tabs rfl la ?_ | refine DW_A tabs rfl ?_ | refine DW_nil ?_ | refine W_A rfl ?_ | refine DW_C rfl kn ?_ | refine DW_C rfl kt ?_ | refine DW_C rfl k1 ?_ | refine DW_C rfl k2 ?_ | refine DW_C rfl kp ?_ | refine DW_C rfl kq ?_ | refine W_draw mixed [0, 1, 2, 3, 4, 5, 6, 7, 8, 9, 10, 11, 12, 13, 14, 15, 16, 17, 18, 19] [.P, .P, .P, .P, .P, .R, .R, .P, .P, .P, .R, .R, .P, .P, .P, .R, .R, .P, .P, .P] rfl rfl (by kernel_rfl) ?_)
        exact ⟨rfl, _, rfl, _, rfl, SubC.of_closed closed_bool⟩
       ·cases h3 : pinsB s.pins
        ·rw [h3] at kp
         repeat' (first | refine DW_VB tabs rfl (by first | exact b1 | exact b2 | exact b3 | exact b4 | exact h2) ?_ | refine DW_VI tabs rfl la ?_ | refine DW_A tabs rfl ?_ | refine DW_nil ?_ | refine W_A rfl ?_ | refine DW_C rfl kn ?_ | refine DW_C rfl kt ?_ | refine DW_C rfl k1 ?_ | refine DW_C rfl k2 ?_ | refine DW_C rfl kp ?_ | refine DW_C rfl kq ?_ | refine W_draw mixed [0, 1, 2, 3, 4, 5, 6, 7, 8, 9, 10, 11, 12, 13, 14, 15, 16, 17, 18, 19] [.P, .P, .P, .P, .P, .R, .R, .P, .P, .P, .R, .R, .P, .P, .P, .R, .R, .P, .P, .P] rfl rfl (by kernel_rfl) ?_)
         exact ⟨rfl, _, rfl, _, rfl, SubC.of_closed closed_bool⟩
        ·rw [h3] at kp
         cases h4 : seenB s.seen
         ·rw [h4] at kq
          repeat' (first | refine DW_VB tabs rfl (by first | exact b1 | exact b2 | exact b3 | exact b4 | exact h2) ?_ | refine DW_VI tabs rfl la ?_ | refine DW_A tabs rfl ?_ | refine DW_nil ?_ | refine W_A rfl ?_ | refine DW_C rfl kn ?_ | refine DW_C rfl kt ?_ | refine DW_C rfl k1 ?_ | refine DW_C rfl k2 ?_ | refine DW_C rfl kp ?_ | refine DW_C rfl kq ?_ | refine W_draw mixed [0, 1, 2, 3, 4, 5, 6, 7, 8, 9, 10, 11, 12, 13, 14, 15, 16, 17, 18, 19] [.P, .P, .P, .P, .P, .R, .R, .P, .P, .P, .R, .R, .P, .P, .P, .R, .R, .P, .P, .P] rfl rfl (by kernel_rfl) ?_)
          exact ⟨rfl, _, rfl, _, rfl, SubC.of_closed closed_bool⟩
         ·rw [h4] at kq
          repeat' (first | refine DW_VB tabs rfl (by first | exact b1 | exact b2 | exact b3 | exact b4 | exact h2) ?_ | refine DW_VI tabs rfl la ?_ | refine DW_A tabs rfl ?_ | refine DW_nil ?_ | refine W_A rfl ?_ | refine DW_C rfl kn ?_ | refine DW_C rfl kt ?_ | refine DW_C rfl k1 ?_ | refine DW_C rfl k2 ?_ | refine DW_C rfl kp ?_ | refine DW_C rfl kq ?_ | refine W_draw mixed [0, 1, 2, 3, 4, 5, 6, 7, 8, 9, 10, 11, 12, 13, 14, 15, 16, 17, 18, 19] [.P, .P, .P, .P, .P, .R, .R, .P, .P, .P, .R, .R, .P, .P, .P, .R, .R, .P, .P, .P] rfl rfl (by kernel_rfl) ?_)
          exact ⟨rfl, _, rfl, _, rfl, SubC.of_closed closed_bool⟩
     ·rw [decide_eq_false a5] at kn
      rw [show stateB s = false by simp [stateB, a5]]
      unfold Sg.av Sg.cells
      repeat' (first | refine DW_VB tabs rfl (by first | exact b1 | exact b2 | exact b3 | exact b4) ?_ | refine DW_VI tabs rfl la ?_ | refine DW_A tabs rfl ?_ | refine DW_nil ?_ | refine W_A rfl ?_ | refine DW_C rfl kn ?_ | refine W_draw mixed [0, 1, 2, 3, 4, 5, 6, 7, 8, 9, 10, 11, 12, 13, 14, 15, 16, 17, 18, 19] [.P, .P, .P, .P, .P, .R, .R, .P, .P, .P, .R, .R, .P, .P, .P, .R, .R, .P, .P, .P] rfl rfl (by kernel_rfl) ?_)
      exact ⟨rfl, _, rfl, _, rfl, SubC.of_closed closed_bool⟩
    ·have b4 : decide ((200 : Int) < (s.pairs.length : Int)) = true := decide_eq_true (by omega)
     rw [show stateB s = false by simp [stateB, a4]]
     unfold Sg.av Sg.cells
     repeat' (first | refine DW_VB tabs rfl (by first | exact b1 | exact b2 | exact b3 | exact b4) ?_ | refine DW_VI tabs rfl la ?_ | refine DW_A tabs rfl ?_ | refine DW_nil ?_ | refine W_A rfl ?_ | refine W_draw mixed [0, 1, 2, 3, 4, 5, 6, 7, 8, 9, 10, 11, 12, 13, 14, 15, 16, 17, 18, 19] [.P, .P, .P, .P, .P, .R, .R, .P, .P, .P, .R, .R, .P, .P, .P, .R, .R, .P, .P, .P] rfl rfl (by kernel_rfl) ?_)
     exact ⟨rfl, _, rfl, _, rfl, SubC.of_closed closed_bool⟩
   ·have b3 : decide (s.last ≤ 1000000000) = false := decide_eq_false a3
    rw [show stateB s = false by simp [stateB, a3]]
    unfold Sg.av Sg.cells
    repeat' (first | refine DW_VB tabs rfl (by first | exact b1 | exact b2 | exact b3) ?_ | refine DW_VI tabs rfl la ?_ | refine DW_A tabs rfl ?_ | refine DW_nil ?_ | refine W_A rfl ?_ | refine W_draw mixed [0, 1, 2, 3, 4, 5, 6, 7, 8, 9, 10, 11, 12, 13, 14, 15, 16, 17, 18, 19] [.P, .P, .P, .P, .P, .R, .R, .P, .P, .P, .R, .R, .P, .P, .P, .R, .R, .P, .P, .P] rfl rfl (by kernel_rfl) ?_)
    exact ⟨rfl, _, rfl, _, rfl, SubC.of_closed closed_bool⟩
  ·have b2 : decide (s.mark ≤ s.last) = false := decide_eq_false a2
   rw [show stateB s = false by simp [stateB, a2]]
   unfold Sg.av Sg.cells
   repeat' (first | refine DW_VB tabs rfl (by first | exact b1 | exact b2) ?_ | refine DW_VI tabs rfl la ?_ | refine DW_A tabs rfl ?_ | refine DW_nil ?_ | refine W_A rfl ?_ | refine W_draw mixed [0, 1, 2, 3, 4, 5, 6, 7, 8, 9, 10, 11, 12, 13, 14, 15, 16, 17, 18, 19] [.P, .P, .P, .P, .P, .R, .R, .P, .P, .P, .R, .R, .P, .P, .P, .R, .R, .P, .P, .P] rfl rfl (by kernel_rfl) ?_)
   exact ⟨rfl, _, rfl, _, rfl, SubC.of_closed closed_bool⟩
 ·have b1 : decide (0 ≤ s.mark) = false := decide_eq_false a1
  rw [show stateB s = false by simp [stateB, a1]]
  unfold Sg.av Sg.cells
  repeat' (first | refine DW_VB tabs rfl b1 ?_ | refine DW_VI tabs rfl la ?_ | refine DW_A tabs rfl ?_ | refine DW_nil ?_ | refine W_A rfl ?_ | refine W_draw mixed [0, 1, 2, 3, 4, 5, 6, 7, 8, 9, 10, 11, 12, 13, 14, 15, 16, 17, 18, 19] [.P, .P, .P, .P, .P, .R, .R, .P, .P, .P, .R, .R, .P, .P, .P, .R, .R, .P, .P, .P] rfl rfl (by kernel_rfl) ?_)
  exact ⟨rfl, _, rfl, _, rfl, SubC.of_closed closed_bool⟩
set_option maxRecDepth 100000 in
set_option maxHeartbeats 8000000 in
theorem rdIs_ok (s : Sg) (hs : SmallSg s) : APure Tryz.prog 19 [s.av] (.bool (stateB s)) := by
 intro M
 refine acalls_of tabOK Tryz.func19 rfl (by decide) (by simp [Tryz.f19]) ?_
 have hn := hs.pairs
 have kn := isRise_ok s.pairs .none (by omega)
 have k1 := rStIs_ok s.pairs (by omega) hs.vals
 have k2 := rLast_ok s.pairs (by omega) hs.vals
 have kp : APure Tryz.prog 66 [pinsA s.pins .none] (.bool (pinsB s.pins)) := rpinIs_ok s.pins (by have := hs.pins; omega)
 have kq : APure Tryz.prog 67 [seenA s.seen .none] (.bool (seenB s.seen)) := rseenIs_ok s.seen (by have := hs.seen; omega)
 have la := len_map Pr.av s.pairs
 unfold prA at k1 k2
 by_cases a1 : 0 ≤ s.mark
 ·have b1 : decide (s.mark < 0) = false := decide_eq_false (by omega)
  by_cases a2 : s.mark ≤ s.last
  ·have b2 : decide (s.last < s.mark) = false := decide_eq_false (by omega)
   by_cases a3 : s.last ≤ 1000000000
   ·have b3 : decide (1000000000 < s.last) = false := decide_eq_false (by omega)
    by_cases a4 : s.pairs.length ≤ 200
    ·have b4 : decide ((200 : Int) < (s.pairs.length : Int)) = false := decide_eq_false (by omega)
     have e : stateB s = ((((decide (Rise s.pairs) && isSt s.pairs) && decide (lastL s.pairs ≤ s.last)) && pinsB s.pins) && seenB s.seen) := by simp [stateB, a1, a2, a3, a4]
     rw [e]
     generalize lastL s.pairs = m at *
     unfold Sg.av Sg.cells
     cases h0 : decide (Rise s.pairs)
     ·rw [h0] at kn
      repeat' (first | refine DW_VB tabs rfl (by first | exact b1 | exact b2 | exact b3 | exact b4) ?_ | refine DW_VI tabs rfl la ?_ | refine DW_A tabs rfl ?_ | refine DW_nil ?_ | refine W_A rfl ?_ | refine DW_C rfl kn ?_ | refine DW_C rfl k1 ?_ | refine DW_C rfl k2 ?_ | refine DW_C rfl kp ?_ | refine DW_C rfl kq ?_ | refine W_draw mixed [0, 1, 2, 3, 4, 5, 6, 7, 8, 9, 10, 11, 12, 13, 14, 15, 16, 17, 18, 19, 20, 21, 22, 23, 24, 25, 26] [.R, .R, .P, .P, .R, .R, .P, .P, .P, .R, .R, .P, .R, .R, .P, .P, .P, .R, .R, .P, .P, .P, .R, .R, .P, .P, .P] rfl rfl (by kernel_rfl) ?_)
      exact ⟨rfl, _, rfl, rfl, rfl⟩
     ·rw [h0] at kn
      cases h1 : isSt s.pairs
      ·rw [h1] at k1
       repeat' (first | refine DW_VB tabs rfl (by first | exact b1 | exact b2 | exact b3 | exact b4) ?_ | refine DW_VI tabs rfl la ?_ | refine DW_A tabs rfl ?_ | refine DW_nil ?_ | refine W_A rfl ?_ | refine DW_C rfl kn ?_ | refine DW_C rfl k1 ?_ | refine DW_C rfl k2 ?_ | refine DW_C rfl kp ?_ | refine DW_C rfl kq ?_ | refine W_draw mixed [0, 1, 2, 3, 4, 5, 6, 7, 8, 9, 10, 11, 12, 13, 14, 15, 16, 17, 18, 19, 20, 21, 22, 23, 24, 25, 26] [.R, .R, .P, .P, .R, .R, .P, .P, .P, .R, .R, .P, .R, .R, .P, .P, .P, .R, .R, .P, .P, .P, .R, .R, .P, .P, .P] rfl rfl (by kernel_rfl) ?_)
       exact ⟨rfl, _, rfl, rfl, rfl⟩
      ·rw [h1] at k1
       cases h2 : decide (m ≤ s.last)
       ·repeat' (first | refine DW_VB tabs rfl (by first | exact b1 | exact b2 | exact b3 | exact b4 | exact h2) ?_ | refine DW_VI tabs rfl la ?_ | refine DW_A tabs rfl ?_ | refine DW_nil ?_ | refine W_A rfl ?_ | refine DW_C rfl kn ?_ | refine DW_C rfl k1 ?_ | refine DW_C rfl k2 ?_ | refine DW_C rfl kp ?_ | refine DW_C rfl kq ?_ | refine W_draw mixed [0, 1, 2, 3, 4, 5, 6, 7, 8, 9, 10, 11, 12, 13, 14, 15, 16, 17, 18, 19, 20, 21, 22, 23, 24, 25, 26] [.R, .R, .P, .P, .R, .R, .P, .P, .P, .R, .R, .P, .R, .R, .P, .P, .P, .R, .R, .P, .P, .P, .R, .R, .P, .P, .P] rfl rfl (by kernel_rfl) ?_)
        exact ⟨rfl, _, rfl, rfl, rfl⟩
       ·cases h3 : pinsB s.pins
        ·rw [h3] at kp
         repeat' (first | refine DW_VB tabs rfl (by first | exact b1 | exact b2 | exact b3 | exact b4 | exact h2) ?_ | refine DW_VI tabs rfl la ?_ | refine DW_A tabs rfl ?_ | refine DW_nil ?_ | refine W_A rfl ?_ | refine DW_C rfl kn ?_ | refine DW_C rfl k1 ?_ | refine DW_C rfl k2 ?_ | refine DW_C rfl kp ?_ | refine DW_C rfl kq ?_ | refine W_draw mixed [0, 1, 2, 3, 4, 5, 6, 7, 8, 9, 10, 11, 12, 13, 14, 15, 16, 17, 18, 19, 20, 21, 22, 23, 24, 25, 26] [.R, .R, .P, .P, .R, .R, .P, .P, .P, .R, .R, .P, .R, .R, .P, .P, .P, .R, .R, .P, .P, .P, .R, .R, .P, .P, .P] rfl rfl (by kernel_rfl) ?_)
         exact ⟨rfl, _, rfl, rfl, rfl⟩
        ·rw [h3] at kp
         cases h4 : seenB s.seen
         ·rw [h4] at kq
          repeat' (first | refine DW_VB tabs rfl (by first | exact b1 | exact b2 | exact b3 | exact b4 | exact h2) ?_ | refine DW_VI tabs rfl la ?_ | refine DW_A tabs rfl ?_ | refine DW_nil ?_ | refine W_A rfl ?_ | refine DW_C rfl kn ?_ | refine DW_C rfl k1 ?_ | refine DW_C rfl k2 ?_ | refine DW_C rfl kp ?_ | refine DW_C rfl kq ?_ | refine W_draw mixed [0, 1, 2, 3, 4, 5, 6, 7, 8, 9, 10, 11, 12, 13, 14, 15, 16, 17, 18, 19, 20, 21, 22, 23, 24, 25, 26] [.R, .R, .P, .P, .R, .R, .P, .P, .P, .R, .R, .P, .R, .R, .P, .P, .P, .R, .R, .P, .P, .P, .R, .R, .P, .P, .P] rfl rfl (by kernel_rfl) ?_)
          exact ⟨rfl, _, rfl, rfl, rfl⟩
         ·rw [h4] at kq
          repeat' (first | refine DW_VB tabs rfl (by first | exact b1 | exact b2 | exact b3 | exact b4 | exact h2) ?_ | refine DW_VI tabs rfl la ?_ | refine DW_A tabs rfl ?_ | refine DW_nil ?_ | refine W_A rfl ?_ | refine DW_C rfl kn ?_ | refine DW_C rfl k1 ?_ | refine DW_C rfl k2 ?_ | refine DW_C rfl kp ?_ | refine DW_C rfl kq ?_ | refine W_draw mixed [0, 1, 2, 3, 4, 5, 6, 7, 8, 9, 10, 11, 12, 13, 14, 15, 16, 17, 18, 19, 20, 21, 22, 23, 24, 25, 26] [.R, .R, .P, .P, .R, .R, .P, .P, .P, .R, .R, .P, .R, .R, .P, .P, .P, .R, .R, .P, .P, .P, .R, .R, .P, .P, .P] rfl rfl (by kernel_rfl) ?_)
          exact ⟨rfl, _, rfl, rfl, rfl⟩
    ·have b4 : decide ((200 : Int) < (s.pairs.length : Int)) = true := decide_eq_true (by omega)
     rw [show stateB s = false by simp [stateB, a4]]
     unfold Sg.av Sg.cells
     repeat' (first | refine DW_VB tabs rfl (by first | exact b1 | exact b2 | exact b3 | exact b4) ?_ | refine DW_VI tabs rfl la ?_ | refine DW_A tabs rfl ?_ | refine DW_nil ?_ | refine W_A rfl ?_ | refine W_draw mixed [0, 1, 2, 3, 4, 5, 6, 7, 8, 9, 10, 11, 12, 13, 14, 15, 16, 17, 18, 19, 20, 21, 22, 23, 24, 25, 26] [.R, .R, .P, .P, .R, .R, .P, .P, .P, .R, .R, .P, .R, .R, .P, .P, .P, .R, .R, .P, .P, .P, .R, .R, .P, .P, .P] rfl rfl (by kernel_rfl) ?_)
     exact ⟨rfl, _, rfl, rfl, rfl⟩
   ·have b3 : decide (1000000000 < s.last) = true := decide_eq_true (by omega)
    rw [show stateB s = false by simp [stateB, a3]]
    unfold Sg.av Sg.cells
    repeat' (first | refine DW_VB tabs rfl (by first | exact b1 | exact b2 | exact b3) ?_ | refine DW_VI tabs rfl la ?_ | refine DW_A tabs rfl ?_ | refine DW_nil ?_ | refine W_A rfl ?_ | refine W_draw mixed [0, 1, 2, 3, 4, 5, 6, 7, 8, 9, 10, 11, 12, 13, 14, 15, 16, 17, 18, 19, 20, 21, 22, 23, 24, 25, 26] [.R, .R, .P, .P, .R, .R, .P, .P, .P, .R, .R, .P, .R, .R, .P, .P, .P, .R, .R, .P, .P, .P, .R, .R, .P, .P, .P] rfl rfl (by kernel_rfl) ?_)
    exact ⟨rfl, _, rfl, rfl, rfl⟩
  ·have b2 : decide (s.last < s.mark) = true := decide_eq_true (by omega)
   rw [show stateB s = false by simp [stateB, a2]]
   unfold Sg.av Sg.cells
   repeat' (first | refine DW_VB tabs rfl (by first | exact b1 | exact b2) ?_ | refine DW_VI tabs rfl la ?_ | refine DW_A tabs rfl ?_ | refine DW_nil ?_ | refine W_A rfl ?_ | refine W_draw mixed [0, 1, 2, 3, 4, 5, 6, 7, 8, 9, 10, 11, 12, 13, 14, 15, 16, 17, 18, 19, 20, 21, 22, 23, 24, 25, 26] [.R, .R, .P, .P, .R, .R, .P, .P, .P, .R, .R, .P, .R, .R, .P, .P, .P, .R, .R, .P, .P, .P, .R, .R, .P, .P, .P] rfl rfl (by kernel_rfl) ?_)
   exact ⟨rfl, _, rfl, rfl, rfl⟩
 ·have b1 : decide (s.mark < 0) = true := decide_eq_true (by omega)
  rw [show stateB s = false by simp [stateB, a1]]
  unfold Sg.av Sg.cells
  repeat' (first | refine DW_VB tabs rfl b1 ?_ | refine DW_VI tabs rfl la ?_ | refine DW_A tabs rfl ?_ | refine DW_nil ?_ | refine W_A rfl ?_ | refine W_draw mixed [0, 1, 2, 3, 4, 5, 6, 7, 8, 9, 10, 11, 12, 13, 14, 15, 16, 17, 18, 19, 20, 21, 22, 23, 24, 25, 26] [.R, .R, .P, .P, .R, .R, .P, .P, .P, .R, .R, .P, .R, .R, .P, .P, .P, .R, .R, .P, .P, .P, .R, .R, .P, .P, .P] rfl rfl (by kernel_rfl) ?_)
  exact ⟨rfl, _, rfl, rfl, rfl⟩
end Go.Proofs.YtmgkebghojhocaaGreatDoor
