/- A state is right, or not, and has just these texts; texts are just this state, or none. No further condition. -/
import Derived.Test.YtmgkebghojhocaaGreatDoorQDmpJ
import Derived.Test.YtmgkebghojhocaaGreatDoorQDmpI
set_option linter.unusedVariables false
set_option linter.unusedSimpArgs false
namespace Go.Proofs.YtmgkebghojhocaaGreatDoor
open Go.Ab
theorem catN_small (l : List Int) (h : l.length ≤ 5) : (catN l).length < 100000 := by
 have := catN_len l
 omega
theorem texts_small {s : Sg} (ht : TinySg s) (hS : IsState s) : (texts s).length < 500 ∧ ∀ t, t ∈ texts s → t.length < 100000 := by
 have h1 := ht.pairs
 have h2 := ht.pins
 have h3 := ht.seen
 refine ⟨by simp [texts]; omega, fun t h => ?_⟩
 unfold texts at h
 rcases List.mem_cons.1 h with rfl | h
 ·exact catN_small _ (by simp)
 ·rcases List.mem_append.1 h with h | h
  ·obtain ⟨p, hp, rfl⟩ := List.mem_map.1 h
   have hk := key_len (okP_key (isSt_mem hS.st hp))
   have hv := ht.vals p hp
   have hn := putN_len (putB p.key).1.length
   unfold pairT textT
   rw [if_neg (by omega)]
   simp
   omega
  ·rcases List.mem_append.1 h with h | h
   ·obtain ⟨p, hp, rfl⟩ := List.mem_map.1 h
    exact catN_small _ (by simp)
   ·obtain ⟨p, hp, rfl⟩ := List.mem_map.1 h
    exact catN_small _ (by simp)
theorem dumpO_len {s : Sg} (hs : SmallSg s) : (dumpO s).1.length < 1000000 := by
 have h1 := hs.pairs
 have h2 := hs.pins
 have h3 := hs.seen
 unfold dumpO
 split
 ·simp [texts]; omega
 ·exact (show 0 < 1000000 by decide)
set_option maxRecDepth 100000 in
set_option maxHeartbeats 8000000 in
theorem dumpDoes_ok (s : Sg) (h1 : s.pairs.length < 4611686018427387904) : APure Tryz.prog 3 [s.av] (.bool true) := by
 refine pure_sub (closed1 (closed_sg s)) (closed_bool) ?_
 refine acalls_of tabOK Tryz.func3 rfl (by decide) (by simp [Tryz.f3]) ?_
 have kb := sgBig_ok s h1
 cases h : bigSg s
 ·rw [h] at kb
  have hs := (bigSg_no h).small
  have ko := sgOwn_ok s hs.len
  have p1 := dPut_ok s hs
  have p2 := rdPut_ok s hs
  have i1 := dIs_ok s hs
  have i2 := rdIs_ok s hs
  have sm := sgSame_ok s s hs.len hs.len
  have hl := dumpO_len hs
  have tx := rtexts_ok (dumpO s).1 (dumpO s).1 .none .none hl hl
  rw [decide_eq_true rfl] at sm tx
  have kd := dumped_ok
  generalize dumpO s = X at *
  generalize stateB s = b at *
  have c1 : decide (X.2 = X.2) = true := by simp
  have c2 : (b == b) = true := by simp
  unfold dmA at p1 p2
  unfold Sg.av Sg.cells at *
  repeat' (first | refine DW_VB tabs rfl (by first | exact c1 | exact c2) ?_ | refine DW_box 3 tabOK rfl ?_ | refine DW_A tabs rfl ?_ | refine DW_nil ?_ | refine W_A rfl ?_ | refine DW_C rfl kb ?_ | refine DW_C rfl ko ?_ | refine DW_C rfl p1 ?_ | refine DW_C rfl p2 ?_ | refine DW_C rfl i1 ?_ | refine DW_C rfl i2 ?_ | refine DW_C rfl sm ?_ | refine DW_C rfl tx ?_ | refine DW_C rfl kd ?_ | refine W_draw mixed [0, 1, 2, 3, 4, 5, 6, 7, 8, 9, 10, 11, 12, 13, 14, 15, 16, 17, 18, 19, 20, 21, 22, 23] [.P, .P, .R, .P, .R, .P, .P, .P, .P, .P, .P, .P, .P, .P, .P, .P, .P, .P, .P, .R, .R, .P, .P, .P] rfl rfl (by kernel_rfl) ?_)
  exact ⟨rfl, _, rfl, _, rfl, SubC.of_closed closed_bool⟩
 ·rw [h] at kb
  unfold Sg.av Sg.cells at *
  repeat' (first | refine DW_box 3 tabOK rfl ?_ | refine DW_A tabs rfl ?_ | refine DW_nil ?_ | refine W_A rfl ?_ | refine DW_C rfl kb ?_ | refine W_draw mixed [0, 1, 2, 3, 4, 5, 6, 7, 8, 9, 10, 11, 12, 13, 14, 15, 16, 17, 18, 19, 20, 21, 22, 23] [.P, .P, .R, .P, .R, .P, .P, .P, .P, .P, .P, .P, .P, .P, .P, .P, .P, .P, .P, .R, .R, .P, .P, .P] rfl rfl (by kernel_rfl) ?_)
  exact ⟨rfl, _, rfl, _, rfl, SubC.of_closed closed_bool⟩
set_option maxRecDepth 100000 in
set_option maxHeartbeats 8000000 in
theorem dumpGets_ok (l : List Bytes) (h1 : l.length < 4611686018427387904) : APure Tryz.prog 4 [txA l .none] (.bool true) := by
 refine pure_sub (closed1 (closed_tx l (.inl rfl))) (closed_bool) ?_
 refine acalls_of tabOK Tryz.func4 rfl (by decide) (by simp [Tryz.f4]) ?_
 have kf := far_ok l h1
 cases h : farB l
 ·rw [h] at kf
  obtain ⟨hl, ht⟩ := farB_no h
  have g1 := dGet_ok l (by omega) (fun t h => by have := ht t h; omega)
  have g2 := rdGet_ok l (by omega) (fun t h => by have := ht t h; omega)
  have kd := dumped_ok
  cases hg : getSg l with
  | none =>
   rw [hg] at g1 g2
   have sm := sgSame_ok zeroSg zeroSg ⟨by decide, by decide, by decide⟩ ⟨by decide, by decide, by decide⟩
   rw [decide_eq_true rfl] at sm
   unfold gsA at g1 g2
   generalize zeroSg = z at *
   unfold Sg.av Sg.cells at *
   repeat' (first | refine DW_box 3 tabOK rfl ?_ | refine DW_box 5 tabOK rfl ?_ | refine DW_A tabs rfl ?_ | refine DW_nil ?_ | refine W_A rfl ?_ | refine DW_C rfl kf ?_ | refine DW_C rfl g1 ?_ | refine DW_C rfl g2 ?_ | refine DW_C rfl sm ?_ | refine DW_C rfl kd ?_)
   exact ⟨rfl, _, rfl, _, rfl, SubC.of_closed closed_bool⟩
  | some s =>
   rw [hg] at g1 g2
   have hS := (dump_get hg).1
   have sm := sgSame_ok s s hS.len hS.len
   rw [decide_eq_true rfl] at sm
   unfold gsA at g1 g2
   unfold Sg.av Sg.cells at *
   repeat' (first | refine DW_box 3 tabOK rfl ?_ | refine DW_box 5 tabOK rfl ?_ | refine DW_A tabs rfl ?_ | refine DW_nil ?_ | refine W_A rfl ?_ | refine DW_C rfl kf ?_ | refine DW_C rfl g1 ?_ | refine DW_C rfl g2 ?_ | refine DW_C rfl sm ?_ | refine DW_C rfl kd ?_)
   exact ⟨rfl, _, rfl, _, rfl, SubC.of_closed closed_bool⟩
 ·rw [h] at kf
  repeat' (first | refine DW_box 3 tabOK rfl ?_ | refine DW_box 5 tabOK rfl ?_ | refine DW_A tabs rfl ?_ | refine DW_nil ?_ | refine W_A rfl ?_ | refine DW_C rfl kf ?_)
  exact ⟨rfl, _, rfl, _, rfl, SubC.of_closed closed_bool⟩
theorem pair_in {s : Sg} {l : List Bytes} (hS : IsState s) (e : texts s = l) (hl : ∀ t, t ∈ l → t.length ≤ 300) : SmallSg s := by
 refine ⟨by have := hS.many; omega, fun p hp => ?_, by have := hS.pinsN; omega, by have := hS.seenN; omega⟩
 have hk := okP_key (isSt_mem hS.st hp)
 have hkl := key_len hk
 have hm : pairT p ∈ l := by
  rw [← e]
  unfold texts
  exact List.mem_cons_of_mem _ (List.mem_append_left _ (List.mem_map.2 ⟨p, hp, rfl⟩))
 have h2 := hl _ hm
 unfold pairT at h2
 rw [List.length_append] at h2
 rw [putB_ok hk] at hkl
 simp at hkl
 exact ⟨by omega, by omega⟩
set_option maxRecDepth 100000 in
set_option maxHeartbeats 8000000 in
theorem dumpBack_ok (s : Sg) (l : List Bytes) (h1 : s.pairs.length < 4611686018427387904) (h2 : l.length < 4611686018427387904) : APure Tryz.prog 5 [s.av, txA l .none] (.bool true) := by
 refine pure_sub (closed2 (closed_sg s) (closed_tx l (.inl rfl))) (closed_bool) ?_
 refine acalls_of tabOK Tryz.func5 rfl (by decide) (by simp [Tryz.f5]) ?_
 have kb := sgBig_ok s h1
 have kf := far_ok l h2
 cases h : bigSg s
 ·rw [h] at kb
  cases hf : farB l
  ·rw [hf] at kf
   have hT := bigSg_no h
   have hs := hT.small
   obtain ⟨hl, ht⟩ := farB_no hf
   have p1 := dPut_ok s hs
   have i1 := dIs_ok s hs
   have g2 := dGet_ok l (by omega) (fun t h => by have := ht t h; omega)
   have kd := dumped_ok
   unfold dumpO at p1
   have hz : SmallSg zeroSg := ⟨by decide, fun p hp => (by cases hp), by decide, by decide⟩
   have hU : ∃ (u : Sg) (o : Int), gsA (getSg l) = .tup [u.av, .int .i64 o] ∧ SmallSg u ∧ (o = 0 → stateB u = true ∧ texts u = l) := by
    cases hg : getSg l with
    | none => exact ⟨zeroSg, 30, rfl, hz, fun e => by cases e⟩
    | some u =>
     obtain ⟨hS, he⟩ := dump_get hg
     exact ⟨u, 0, rfl, pair_in hS he ht, fun _ => ⟨stateB_iff.2 hS, he⟩⟩
   obtain ⟨u, o, eU, hu, hO⟩ := hU
   rw [eU] at g2
   have p2 := dPut_ok u hu
   have i2 := dIs_ok u hu
   have tx := rtexts_ok (texts u) l .none .none (by have := hu.pairs; have := hu.pins; have := hu.seen; simp [texts]; omega) (by omega)
   have hS := @stateB_iff s
   have hgd := @get_dump s
   have hts := @texts_small s hT
   cases hb : stateB s
   ·rw [hb] at p1 i1
    rw [if_neg (by simp)] at p1
    have g1 := dGet_ok [] (by decide) (by simp)
    rw [show getSg [] = none from rfl] at g1
    unfold gsA at g1
    unfold dmA at p1 p2
    by_cases ho : o = 0
    ·subst ho
     obtain ⟨e1, e2⟩ := hO rfl
     rw [e1] at i2
     unfold dumpO at p2
     rw [if_pos e1] at p2
     rw [decide_eq_true e2] at tx
     generalize texts u = Y at *
     generalize zeroSg = z at *
     unfold Sg.av Sg.cells at *
     repeat' (first | refine DW_box 7 tabOK rfl ?_ | refine DW_box 9 tabOK rfl ?_ | refine DW_A tabs rfl ?_ | refine DW_nil ?_ | refine W_A rfl ?_ | refine DW_C rfl kb ?_ | refine DW_C rfl kf ?_ | refine DW_C rfl p1 ?_ | refine DW_C rfl p2 ?_ | refine DW_C rfl i1 ?_ | refine DW_C rfl i2 ?_ | refine DW_C rfl g1 ?_ | refine DW_C rfl g2 ?_ | refine DW_C rfl tx ?_ | refine DW_C rfl kd ?_)
     exact ⟨rfl, _, rfl, _, rfl, SubC.of_closed closed_bool⟩
    ·have d1 : (!decide (o = 0)) = true := by simp [ho]
     generalize zeroSg = z at *
     generalize dumpO u = Y at *
     unfold Sg.av Sg.cells at *
     repeat' (first | refine DW_VB tabs rfl d1 ?_ | refine DW_box 7 tabOK rfl ?_ | refine DW_box 9 tabOK rfl ?_ | refine DW_A tabs rfl ?_ | refine DW_nil ?_ | refine W_A rfl ?_ | refine DW_C rfl kb ?_ | refine DW_C rfl kf ?_ | refine DW_C rfl p1 ?_ | refine DW_C rfl p2 ?_ | refine DW_C rfl i1 ?_ | refine DW_C rfl i2 ?_ | refine DW_C rfl g1 ?_ | refine DW_C rfl g2 ?_ | refine DW_C rfl kd ?_)
     exact ⟨rfl, _, rfl, _, rfl, SubC.of_closed closed_bool⟩
   ·rw [hb] at p1 i1
    rw [if_pos rfl] at p1
    have hS := hS.1 hb
    obtain ⟨q1, q2⟩ := hts hS
    have g1 := dGet_ok (texts s) (by omega) q2
    rw [hgd hS] at g1
    have sm := sgSame_ok s s hs.len hs.len
    rw [decide_eq_true rfl] at sm
    generalize texts s = X at *
    unfold gsA at g1
    unfold dmA at p1 p2
    by_cases ho : o = 0
    ·subst ho
     obtain ⟨e1, e2⟩ := hO rfl
     rw [e1] at i2
     unfold dumpO at p2
     rw [if_pos e1] at p2
     rw [decide_eq_true e2] at tx
     generalize texts u = Y at *
     unfold Sg.av Sg.cells at *
     repeat' (first | refine DW_box 7 tabOK rfl ?_ | refine DW_box 9 tabOK rfl ?_ | refine DW_A tabs rfl ?_ | refine DW_nil ?_ | refine W_A rfl ?_ | refine DW_C rfl kb ?_ | refine DW_C rfl kf ?_ | refine DW_C rfl p1 ?_ | refine DW_C rfl p2 ?_ | refine DW_C rfl i1 ?_ | refine DW_C rfl i2 ?_ | refine DW_C rfl g1 ?_ | refine DW_C rfl g2 ?_ | refine DW_C rfl sm ?_ | refine DW_C rfl tx ?_ | refine DW_C rfl kd ?_)
     exact ⟨rfl, _, rfl, _, rfl, SubC.of_closed closed_bool⟩
    ·have d1 : (!decide (o = 0)) = true := by simp [ho]
     generalize dumpO u = Y at *
     unfold Sg.av Sg.cells at *
     repeat' (first | refine DW_VB tabs rfl d1 ?_ | refine DW_box 7 tabOK rfl ?_ | refine DW_box 9 tabOK rfl ?_ | refine DW_A tabs rfl ?_ | refine DW_nil ?_ | refine W_A rfl ?_ | refine DW_C rfl kb ?_ | refine DW_C rfl kf ?_ | refine DW_C rfl p1 ?_ | refine DW_C rfl p2 ?_ | refine DW_C rfl i1 ?_ | refine DW_C rfl i2 ?_ | refine DW_C rfl g1 ?_ | refine DW_C rfl g2 ?_ | refine DW_C rfl sm ?_ | refine DW_C rfl kd ?_)
     exact ⟨rfl, _, rfl, _, rfl, SubC.of_closed closed_bool⟩
  ·rw [hf] at kf
   unfold Sg.av Sg.cells at *
   repeat' (first | refine DW_box 7 tabOK rfl ?_ | refine DW_box 9 tabOK rfl ?_ | refine DW_A tabs rfl ?_ | refine DW_nil ?_ | refine W_A rfl ?_ | refine DW_C rfl kb ?_ | refine DW_C rfl kf ?_)
   exact ⟨rfl, _, rfl, _, rfl, SubC.of_closed closed_bool⟩
 ·rw [h] at kb
  unfold Sg.av Sg.cells at *
  repeat' (first | refine DW_box 7 tabOK rfl ?_ | refine DW_box 9 tabOK rfl ?_ | refine DW_A tabs rfl ?_ | refine DW_nil ?_ | refine W_A rfl ?_ | refine DW_C rfl kb ?_)
  exact ⟨rfl, _, rfl, _, rfl, SubC.of_closed closed_bool⟩
end Go.Proofs.YtmgkebghojhocaaGreatDoor
