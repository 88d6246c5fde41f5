/- The statements on keys tell true: back, order. No further condition. -/
import Derived.Test.YteimhnedflbkmaaDoorKeyP
set_option linter.unusedVariables false
set_option linter.unusedSimpArgs false
namespace Go.Proofs.YteimhnedflbkmaaDoor
open Go.Ab

theorem self_eq (s : Bytes) : (s == s) = true := by simp
theorem all2 {a b : Bytes} (h : ([a, b].all fun s => decide (s.length ≤ 300)) = true) : a.length ≤ 300 ∧ b.length ≤ 300 := by simpa using h
theorem all3 {a b c : Bytes} (h : ([a, b, c].all fun s => decide (s.length ≤ 300)) = true) : a.length ≤ 300 ∧ b.length ≤ 300 ∧ c.length ≤ 300 := by simpa using h
theorem all1 {a : Bytes} (h : ([a].all fun s => decide (s.length ≤ 300)) = true) : a.length ≤ 300 := by simpa using h
theorem putB_len (k : Ky) : (putB k).1.length ≤ k.path.length + 5 := by
  unfold putB
  split
  · simp [be4]
  · simp

set_option maxHeartbeats 2000000 in
set_option maxRecDepth 100000 in
theorem keyBack_ok (a : Ky) (s : Bytes) : APure Tryd.prog 3 [a.av, .str s] (.bool true) := by
  refine pure_sub (closed2 (closed_ky a) closed_str) closed_bool ?_
  refine acalls_of tabOK Tryd.func3 rfl (by decide) (by simp [Tryd.f3]) ?_
  have ks := fun tg => short_ok [a.path, s] (by simp) tg
  cases hsh : [a.path, s].all fun s => decide (s.length ≤ 300)
  · rw [hsh] at ks
    repeat' (first | (show DW _ _ _ _ _ _ _ _; first | refine DW_A tabs rfl ?_ | refine DW_nil ?_ | refine DW_lits tabOK rfl rfl rfl rfl rfl rfl rfl rfl rfl rfl rfl rfl rfl ?_ | refine DW_pure rfl rfl rfl rfl rfl (ks _) ?_ | refine DW_append_own tabOK rfl rfl rfl rfl rfl rfl rfl rfl rfl rfl rfl rfl rfl rfl rfl (by simp; omega) (by simp; omega) ?_) | (show W _ _ _ _ _ _; first | refine W_seq ?_ | refine W_text rfl (fun _ _ _ h => h) ?_ | refine W_block ?_ | refine W_skip ?_ | refine W_exit ?_ | refine W_ret ?_ | refine W_true rfl ?_ | refine W_false rfl ?_ | refine W_cond rfl (fun _ => ?_) (fun _ => ?_)))
    exact ⟨rfl, _, rfl, _, rfl, SubC.of_closed closed_bool⟩
  · rw [hsh] at ks
    obtain ⟨h1, h2⟩ := all2 hsh
    have kp := put_ok a (by omega)
    have ki := isKey_ok a (by omega)
    have kg := get_ok s (by omega)
    have c0 := self_eq s
    have kq : ∃ z : Ky × Int, getB (putB a).1 = z ∧ APure Tryd.prog 16 [.str (putB a).1] (getA z) ∧ ((putB a).2 = 0 → z = (a, 0)) := by
      have hpl := putB_len a
      refine ⟨_, rfl, get_ok _ (by omega), fun h => ?_⟩
      cases hk : isKeyB a
      · rw [putB_no hk] at h
        cases h
      · rw [putB_ok hk]
        exact get_put hk
    obtain ⟨⟨gk, ge⟩, _, kg0, hgk⟩ := kq
    have kr : ∃ (k : Ky) (e : Int), getB s = (k, e) ∧ k.path.length < 1000000 ∧ (e ≠ 0 ∨ (e = 0 ∧ isKeyB k = true ∧ putB k = (s, 0))) := by
      rcases getB_cases s with hg | ⟨k, hg, hk2, hp2, hl⟩
      · exact ⟨_, _, hg, by simp [zeroK], .inl (by decide)⟩
      · exact ⟨_, _, hg, by omega, .inr ⟨rfl, hk2, hp2⟩⟩
    obtain ⟨k, e, hg, hl, hke⟩ := kr
    rw [hg] at kg
    have kp2 := put_ok k hl
    have ki2 := isKey_ok k hl
    cases hk : isKeyB a
    · rw [putB_no hk] at kp kg0
      rw [hk] at ki
      rcases hke with he | ⟨rfl, hk2, hp2⟩
      · have d0 : (!decide (e = 0)) = true := by simp [he]
        generalize putB k = z at kp2
        repeat' (first | (show DW _ _ _ _ _ _ _ _; first | refine DW_V tabs rfl rfl rfl rfl (congrArg AV.bool d0) ?_ | refine DW_A tabs rfl ?_ | refine DW_nil ?_ | refine DW_lits tabOK rfl rfl rfl rfl rfl rfl rfl rfl rfl rfl rfl rfl rfl ?_ | refine DW_pure rfl rfl rfl rfl rfl (ks _) ?_ | refine DW_pure rfl rfl rfl rfl rfl kp ?_ | refine DW_pure rfl rfl rfl rfl rfl kg0 ?_ | refine DW_pure rfl rfl rfl rfl rfl ki ?_ | refine DW_pure rfl rfl rfl rfl rfl kg ?_ | refine DW_pure rfl rfl rfl rfl rfl kp2 ?_ | refine DW_pure rfl rfl rfl rfl rfl keyed_ok ?_ | refine DW_append_own tabOK rfl rfl rfl rfl rfl rfl rfl rfl rfl rfl rfl rfl rfl rfl rfl (by simp; omega) (by simp; omega) ?_) | (show W _ _ _ _ _ _; first | refine W_seq ?_ | refine W_text rfl (fun _ _ _ h => h) ?_ | refine W_block ?_ | refine W_skip ?_ | refine W_exit ?_ | refine W_ret ?_ | refine W_true rfl ?_ | refine W_false rfl ?_ | refine W_cond rfl (fun _ => ?_) (fun _ => ?_)))
        exact ⟨rfl, _, rfl, _, rfl, SubC.of_closed closed_bool⟩
      · rw [hp2] at kp2
        rw [hk2] at ki2
        repeat' (first | (show DW _ _ _ _ _ _ _ _; first | refine DW_V tabs rfl rfl rfl rfl (congrArg AV.bool c0) ?_ | refine DW_A tabs rfl ?_ | refine DW_nil ?_ | refine DW_lits tabOK rfl rfl rfl rfl rfl rfl rfl rfl rfl rfl rfl rfl rfl ?_ | refine DW_pure rfl rfl rfl rfl rfl (ks _) ?_ | refine DW_pure rfl rfl rfl rfl rfl kp ?_ | refine DW_pure rfl rfl rfl rfl rfl kg0 ?_ | refine DW_pure rfl rfl rfl rfl rfl ki ?_ | refine DW_pure rfl rfl rfl rfl rfl kg ?_ | refine DW_pure rfl rfl rfl rfl rfl kp2 ?_ | refine DW_pure rfl rfl rfl rfl rfl keyed_ok ?_ | refine DW_pure rfl rfl rfl rfl rfl ki2 ?_ | refine DW_append_own tabOK rfl rfl rfl rfl rfl rfl rfl rfl rfl rfl rfl rfl rfl rfl rfl (by simp; omega) (by simp; omega) ?_) | (show W _ _ _ _ _ _; first | refine W_seq ?_ | refine W_text rfl (fun _ _ _ h => h) ?_ | refine W_block ?_ | refine W_skip ?_ | refine W_exit ?_ | refine W_ret ?_ | refine W_true rfl ?_ | refine W_false rfl ?_ | refine W_cond rfl (fun _ => ?_) (fun _ => ?_)))
        exact ⟨rfl, _, rfl, _, rfl, SubC.of_closed closed_bool⟩
    · rw [putB_ok hk] at kp kg0 hgk
      cases hgk rfl
      rw [hk] at ki
      have c3 : (!((a.path == a.path) && ((decide (a.time = a.time)) && true))) = false := by simp
      rcases hke with he | ⟨rfl, hk2, hp2⟩
      · have d0 : (!decide (e = 0)) = true := by simp [he]
        generalize putB k = z at kp2
        repeat' (first | (show DW _ _ _ _ _ _ _ _; first | refine DW_V tabs rfl rfl rfl rfl (congrArg AV.bool c3) ?_ | refine DW_V tabs rfl rfl rfl rfl (congrArg AV.bool d0) ?_ | refine DW_A tabs rfl ?_ | refine DW_nil ?_ | refine DW_lits tabOK rfl rfl rfl rfl rfl rfl rfl rfl rfl rfl rfl rfl rfl ?_ | refine DW_pure rfl rfl rfl rfl rfl (ks _) ?_ | refine DW_pure rfl rfl rfl rfl rfl kp ?_ | refine DW_pure rfl rfl rfl rfl rfl kg0 ?_ | refine DW_pure rfl rfl rfl rfl rfl ki ?_ | refine DW_pure rfl rfl rfl rfl rfl kg ?_ | refine DW_pure rfl rfl rfl rfl rfl kp2 ?_ | refine DW_pure rfl rfl rfl rfl rfl keyed_ok ?_ | refine DW_append_own tabOK rfl rfl rfl rfl rfl rfl rfl rfl rfl rfl rfl rfl rfl rfl rfl (by simp; omega) (by simp; omega) ?_) | (show W _ _ _ _ _ _; first | refine W_seq ?_ | refine W_text rfl (fun _ _ _ h => h) ?_ | refine W_block ?_ | refine W_skip ?_ | refine W_exit ?_ | refine W_ret ?_ | refine W_true rfl ?_ | refine W_false rfl ?_ | refine W_cond rfl (fun _ => ?_) (fun _ => ?_)))
        exact ⟨rfl, _, rfl, _, rfl, SubC.of_closed closed_bool⟩
      · rw [hp2] at kp2
        rw [hk2] at ki2
        repeat' (first | (show DW _ _ _ _ _ _ _ _; first | refine DW_V tabs rfl rfl rfl rfl (congrArg AV.bool c0) ?_ | refine DW_V tabs rfl rfl rfl rfl (congrArg AV.bool c3) ?_ | refine DW_A tabs rfl ?_ | refine DW_nil ?_ | refine DW_lits tabOK rfl rfl rfl rfl rfl rfl rfl rfl rfl rfl rfl rfl rfl ?_ | refine DW_pure rfl rfl rfl rfl rfl (ks _) ?_ | refine DW_pure rfl rfl rfl rfl rfl kp ?_ | refine DW_pure rfl rfl rfl rfl rfl kg0 ?_ | refine DW_pure rfl rfl rfl rfl rfl ki ?_ | refine DW_pure rfl rfl rfl rfl rfl kg ?_ | refine DW_pure rfl rfl rfl rfl rfl kp2 ?_ | refine DW_pure rfl rfl rfl rfl rfl keyed_ok ?_ | refine DW_pure rfl rfl rfl rfl rfl ki2 ?_ | refine DW_append_own tabOK rfl rfl rfl rfl rfl rfl rfl rfl rfl rfl rfl rfl rfl rfl rfl (by simp; omega) (by simp; omega) ?_) | (show W _ _ _ _ _ _; first | refine W_seq ?_ | refine W_text rfl (fun _ _ _ h => h) ?_ | refine W_block ?_ | refine W_skip ?_ | refine W_exit ?_ | refine W_ret ?_ | refine W_true rfl ?_ | refine W_false rfl ?_ | refine W_cond rfl (fun _ => ?_) (fun _ => ?_)))
        exact ⟨rfl, _, rfl, _, rfl, SubC.of_closed closed_bool⟩

set_option maxHeartbeats 2000000 in
set_option maxRecDepth 100000 in
theorem keyOrder_ok (a b c : Ky) : APure Tryd.prog 4 [a.av, b.av, c.av] (.bool true) := by
  refine pure_sub (closed3 (closed_ky a) (closed_ky b) (closed_ky c)) closed_bool ?_
  refine acalls_of tabOK Tryd.func4 rfl (by decide) (by simp [Tryd.f4]) ?_
  have ks := fun tg => short_ok [a.path, b.path, c.path] (by simp) tg
  cases hsh : [a.path, b.path, c.path].all fun s => decide (s.length ≤ 300)
  · rw [hsh] at ks
    repeat' (first | (show DW _ _ _ _ _ _ _ _; first | refine DW_A tabs rfl ?_ | refine DW_nil ?_ | refine DW_lits tabOK rfl rfl rfl rfl rfl rfl rfl rfl rfl rfl rfl rfl rfl ?_ | refine DW_pure rfl rfl rfl rfl rfl (ks _) ?_ | refine DW_append_own tabOK rfl rfl rfl rfl rfl rfl rfl rfl rfl rfl rfl rfl rfl rfl rfl (by simp; omega) (by simp; omega) ?_) | (show W _ _ _ _ _ _; first | refine W_seq ?_ | refine W_text rfl (fun _ _ _ h => h) ?_ | refine W_block ?_ | refine W_skip ?_ | refine W_exit ?_ | refine W_ret ?_ | refine W_true rfl ?_ | refine W_false rfl ?_ | refine W_cond rfl (fun _ => ?_) (fun _ => ?_)))
    exact ⟨rfl, _, rfl, _, rfl, SubC.of_closed closed_bool⟩
  · rw [hsh] at ks
    obtain ⟨h1, h2, h3⟩ := all3 hsh
    have kpa := put_ok a (by omega)
    have kpb := put_ok b (by omega)
    have lab := less_ok a b
    have lbc := less_ok b c
    have lac := less_ok a c
    rw [toS_neg] at lab lbc lac
    have cab := compare_ok a b
    have cba := compare_ok b a
    have hA := toS_anti a b
    have hZ := toS_zero a b
    have hN := toS_neg a b
    have hb : -1 ≤ toS a b ∧ toS a b ≤ 1 := by
      rw [toS_rcmp]
      unfold rcmp
      split
      · omega
      · split <;> omega
    have hs : IntKind.wrap .i64 (toS a b + toS b a) = 0 := by rw [hA]; rfl
    have q1 : decide ((toS a b) = 0) = (a.path == b.path && (decide (a.time = b.time) && true)) := by rw [hZ, Bool.and_true]
    have q2 : ∀ x : Bool, (x == x) = true := by intro x; cases x <;> rfl
    have hpl : (putB a).2 = 0 → (putB b).2 = 0 → bl (putB a).1 (putB b).1 = rless a b := by
      intro e1 e2
      refine put_less ?_ ?_
      · cases h : isKeyB a
        · rw [putB_no h] at e1; cases e1
        · rfl
      · cases h : isKeyB b
        · rw [putB_no h] at e2; cases e2
        · rfl
    have htr : rless a b = true → rless b c = true → rless a c = true := rless_trans
    generalize putB a = pa at kpa hpl
    generalize putB b = pb at kpb hpl
    obtain ⟨pa1, pa2⟩ := pa
    obtain ⟨pb1, pb2⟩ := pb
    have q3 := q2 (a.path == b.path && (decide (a.time = b.time) && true))
    by_cases e1 : pa2 = 0
    · have d1 : decide (pa2 = 0) = true := by simp [e1]
      by_cases e2 : pb2 = 0
      · have d2 : decide (pb2 = 0) = true := by simp [e2]
        have hbl : Op.bytesLess pa1 pb1 = rless a b := hpl e1 e2
        cases hab : rless a b
        · rw [hab] at lab hN hbl
          repeat' (first | (show DW _ _ _ _ _ _ _ _; first | refine DW_V tabs rfl rfl rfl rfl (congrArg AV.bool d1) ?_ | refine DW_V tabs rfl rfl rfl rfl (congrArg AV.bool d2) ?_ | refine DW_V tabs rfl rfl rfl rfl (congrArg AV.bool hbl) ?_ | refine DW_V tabs rfl rfl rfl rfl (congrArg AV.bool q1) ?_ | refine DW_V tabs rfl rfl rfl rfl (congrArg AV.bool q3) ?_ | refine DW_V tabs rfl rfl rfl rfl (congrArg AV.bool hN) ?_ | refine DW_V tabs rfl rfl rfl rfl (congrArg (AV.int _) hs) ?_ | refine DW_A tabs rfl ?_ | refine DW_nil ?_ | refine DW_lits tabOK rfl rfl rfl rfl rfl rfl rfl rfl rfl rfl rfl rfl rfl ?_ | refine DW_pure rfl rfl rfl rfl rfl (ks _) ?_ | refine DW_pure rfl rfl rfl rfl rfl kpa ?_ | refine DW_pure rfl rfl rfl rfl rfl kpb ?_ | refine DW_pure rfl rfl rfl rfl rfl lab ?_ | refine DW_pure rfl rfl rfl rfl rfl lbc ?_ | refine DW_pure rfl rfl rfl rfl rfl lac ?_ | refine DW_pure rfl rfl rfl rfl rfl cab ?_ | refine DW_pure rfl rfl rfl rfl rfl cba ?_ | refine DW_pure rfl rfl rfl rfl rfl keyed_ok ?_ | refine DW_append_own tabOK rfl rfl rfl rfl rfl rfl rfl rfl rfl rfl rfl rfl rfl rfl rfl (by simp; omega) (by simp; omega) ?_) | (show W _ _ _ _ _ _; first | refine W_seq ?_ | refine W_text rfl (fun _ _ _ h => h) ?_ | refine W_block ?_ | refine W_skip ?_ | refine W_exit ?_ | refine W_ret ?_ | refine W_true rfl ?_ | refine W_false rfl ?_ | refine W_cond rfl (fun _ => ?_) (fun _ => ?_)))
          exact ⟨rfl, _, rfl, _, rfl, SubC.of_closed closed_bool⟩
        · rw [hab] at lab hN hbl
          cases hbc : rless b c
          · rw [hbc] at lbc
            repeat' (first | (show DW _ _ _ _ _ _ _ _; first | refine DW_V tabs rfl rfl rfl rfl (congrArg AV.bool d1) ?_ | refine DW_V tabs rfl rfl rfl rfl (congrArg AV.bool d2) ?_ | refine DW_V tabs rfl rfl rfl rfl (congrArg AV.bool hbl) ?_ | refine DW_V tabs rfl rfl rfl rfl (congrArg AV.bool q1) ?_ | refine DW_V tabs rfl rfl rfl rfl (congrArg AV.bool q3) ?_ | refine DW_V tabs rfl rfl rfl rfl (congrArg AV.bool hN) ?_ | refine DW_V tabs rfl rfl rfl rfl (congrArg (AV.int _) hs) ?_ | refine DW_A tabs rfl ?_ | refine DW_nil ?_ | refine DW_lits tabOK rfl rfl rfl rfl rfl rfl rfl rfl rfl rfl rfl rfl rfl ?_ | refine DW_pure rfl rfl rfl rfl rfl (ks _) ?_ | refine DW_pure rfl rfl rfl rfl rfl kpa ?_ | refine DW_pure rfl rfl rfl rfl rfl kpb ?_ | refine DW_pure rfl rfl rfl rfl rfl lab ?_ | refine DW_pure rfl rfl rfl rfl rfl lbc ?_ | refine DW_pure rfl rfl rfl rfl rfl lac ?_ | refine DW_pure rfl rfl rfl rfl rfl cab ?_ | refine DW_pure rfl rfl rfl rfl rfl cba ?_ | refine DW_pure rfl rfl rfl rfl rfl keyed_ok ?_ | refine DW_append_own tabOK rfl rfl rfl rfl rfl rfl rfl rfl rfl rfl rfl rfl rfl rfl rfl (by simp; omega) (by simp; omega) ?_) | (show W _ _ _ _ _ _; first | refine W_seq ?_ | refine W_text rfl (fun _ _ _ h => h) ?_ | refine W_block ?_ | refine W_skip ?_ | refine W_exit ?_ | refine W_ret ?_ | refine W_true rfl ?_ | refine W_false rfl ?_ | refine W_cond rfl (fun _ => ?_) (fun _ => ?_)))
            exact ⟨rfl, _, rfl, _, rfl, SubC.of_closed closed_bool⟩
          · rw [hbc] at lbc
            rw [htr hab hbc] at lac
            repeat' (first | (show DW _ _ _ _ _ _ _ _; first | refine DW_V tabs rfl rfl rfl rfl (congrArg AV.bool d1) ?_ | refine DW_V tabs rfl rfl rfl rfl (congrArg AV.bool d2) ?_ | refine DW_V tabs rfl rfl rfl rfl (congrArg AV.bool hbl) ?_ | refine DW_V tabs rfl rfl rfl rfl (congrArg AV.bool q1) ?_ | refine DW_V tabs rfl rfl rfl rfl (congrArg AV.bool q3) ?_ | refine DW_V tabs rfl rfl rfl rfl (congrArg AV.bool hN) ?_ | refine DW_V tabs rfl rfl rfl rfl (congrArg (AV.int _) hs) ?_ | refine DW_A tabs rfl ?_ | refine DW_nil ?_ | refine DW_lits tabOK rfl rfl rfl rfl rfl rfl rfl rfl rfl rfl rfl rfl rfl ?_ | refine DW_pure rfl rfl rfl rfl rfl (ks _) ?_ | refine DW_pure rfl rfl rfl rfl rfl kpa ?_ | refine DW_pure rfl rfl rfl rfl rfl kpb ?_ | refine DW_pure rfl rfl rfl rfl rfl lab ?_ | refine DW_pure rfl rfl rfl rfl rfl lbc ?_ | refine DW_pure rfl rfl rfl rfl rfl lac ?_ | refine DW_pure rfl rfl rfl rfl rfl cab ?_ | refine DW_pure rfl rfl rfl rfl rfl cba ?_ | refine DW_pure rfl rfl rfl rfl rfl keyed_ok ?_ | refine DW_append_own tabOK rfl rfl rfl rfl rfl rfl rfl rfl rfl rfl rfl rfl rfl rfl rfl (by simp; omega) (by simp; omega) ?_) | (show W _ _ _ _ _ _; first | refine W_seq ?_ | refine W_text rfl (fun _ _ _ h => h) ?_ | refine W_block ?_ | refine W_skip ?_ | refine W_exit ?_ | refine W_ret ?_ | refine W_true rfl ?_ | refine W_false rfl ?_ | refine W_cond rfl (fun _ => ?_) (fun _ => ?_)))
            exact ⟨rfl, _, rfl, _, rfl, SubC.of_closed closed_bool⟩
      · have d2 : decide (pb2 = 0) = false := by simp [e2]
        cases hab : rless a b
        · rw [hab] at lab hN
          repeat' (first | (show DW _ _ _ _ _ _ _ _; first | refine DW_V tabs rfl rfl rfl rfl (congrArg AV.bool d1) ?_ | refine DW_V tabs rfl rfl rfl rfl (congrArg AV.bool d2) ?_ | refine DW_V tabs rfl rfl rfl rfl (congrArg AV.bool q1) ?_ | refine DW_V tabs rfl rfl rfl rfl (congrArg AV.bool q3) ?_ | refine DW_V tabs rfl rfl rfl rfl (congrArg AV.bool hN) ?_ | refine DW_V tabs rfl rfl rfl rfl (congrArg (AV.int _) hs) ?_ | refine DW_A tabs rfl ?_ | refine DW_nil ?_ | refine DW_lits tabOK rfl rfl rfl rfl rfl rfl rfl rfl rfl rfl rfl rfl rfl ?_ | refine DW_pure rfl rfl rfl rfl rfl (ks _) ?_ | refine DW_pure rfl rfl rfl rfl rfl kpa ?_ | refine DW_pure rfl rfl rfl rfl rfl kpb ?_ | refine DW_pure rfl rfl rfl rfl rfl lab ?_ | refine DW_pure rfl rfl rfl rfl rfl lbc ?_ | refine DW_pure rfl rfl rfl rfl rfl lac ?_ | refine DW_pure rfl rfl rfl rfl rfl cab ?_ | refine DW_pure rfl rfl rfl rfl rfl cba ?_ | refine DW_pure rfl rfl rfl rfl rfl keyed_ok ?_ | refine DW_append_own tabOK rfl rfl rfl rfl rfl rfl rfl rfl rfl rfl rfl rfl rfl rfl rfl (by simp; omega) (by simp; omega) ?_) | (show W _ _ _ _ _ _; first | refine W_seq ?_ | refine W_text rfl (fun _ _ _ h => h) ?_ | refine W_block ?_ | refine W_skip ?_ | refine W_exit ?_ | refine W_ret ?_ | refine W_true rfl ?_ | refine W_false rfl ?_ | refine W_cond rfl (fun _ => ?_) (fun _ => ?_)))
          exact ⟨rfl, _, rfl, _, rfl, SubC.of_closed closed_bool⟩
        · rw [hab] at lab hN
          cases hbc : rless b c
          · rw [hbc] at lbc
            repeat' (first | (show DW _ _ _ _ _ _ _ _; first | refine DW_V tabs rfl rfl rfl rfl (congrArg AV.bool d1) ?_ | refine DW_V tabs rfl rfl rfl rfl (congrArg AV.bool d2) ?_ | refine DW_V tabs rfl rfl rfl rfl (congrArg AV.bool q1) ?_ | refine DW_V tabs rfl rfl rfl rfl (congrArg AV.bool q3) ?_ | refine DW_V tabs rfl rfl rfl rfl (congrArg AV.bool hN) ?_ | refine DW_V tabs rfl rfl rfl rfl (congrArg (AV.int _) hs) ?_ | refine DW_A tabs rfl ?_ | refine DW_nil ?_ | refine DW_lits tabOK rfl rfl rfl rfl rfl rfl rfl rfl rfl rfl rfl rfl rfl ?_ | refine DW_pure rfl rfl rfl rfl rfl (ks _) ?_ | refine DW_pure rfl rfl rfl rfl rfl kpa ?_ | refine DW_pure rfl rfl rfl rfl rfl kpb ?_ | refine DW_pure rfl rfl rfl rfl rfl lab ?_ | refine DW_pure rfl rfl rfl rfl rfl lbc ?_ | refine DW_pure rfl rfl rfl rfl rfl lac ?_ | refine DW_pure rfl rfl rfl rfl rfl cab ?_ | refine DW_pure rfl rfl rfl rfl rfl cba ?_ | refine DW_pure rfl rfl rfl rfl rfl keyed_ok ?_ | refine DW_append_own tabOK rfl rfl rfl rfl rfl rfl rfl rfl rfl rfl rfl rfl rfl rfl rfl (by simp; omega) (by simp; omega) ?_) | (show W _ _ _ _ _ _; first | refine W_seq ?_ | refine W_text rfl (fun _ _ _ h => h) ?_ | refine W_block ?_ | refine W_skip ?_ | refine W_exit ?_ | refine W_ret ?_ | refine W_true rfl ?_ | refine W_false rfl ?_ | refine W_cond rfl (fun _ => ?_) (fun _ => ?_)))
            exact ⟨rfl, _, rfl, _, rfl, SubC.of_closed closed_bool⟩
          · rw [hbc] at lbc
            rw [htr hab hbc] at lac
            repeat' (first | (show DW _ _ _ _ _ _ _ _; first | refine DW_V tabs rfl rfl rfl rfl (congrArg AV.bool d1) ?_ | refine DW_V tabs rfl rfl rfl rfl (congrArg AV.bool d2) ?_ | refine DW_V tabs rfl rfl rfl rfl (congrArg AV.bool q1) ?_ | refine DW_V tabs rfl rfl rfl rfl (congrArg AV.bool q3) ?_ | refine DW_V tabs rfl rfl rfl rfl (congrArg AV.bool hN) ?_ | refine DW_V tabs rfl rfl rfl rfl (congrArg (AV.int _) hs) ?_ | refine DW_A tabs rfl ?_ | refine DW_nil ?_ | refine DW_lits tabOK rfl rfl rfl rfl rfl rfl rfl rfl rfl rfl rfl rfl rfl ?_ | refine DW_pure rfl rfl rfl rfl rfl (ks _) ?_ | refine DW_pure rfl rfl rfl rfl rfl kpa ?_ | refine DW_pure rfl rfl rfl rfl rfl kpb ?_ | refine DW_pure rfl rfl rfl rfl rfl lab ?_ | refine DW_pure rfl rfl rfl rfl rfl lbc ?_ | refine DW_pure rfl rfl rfl rfl rfl lac ?_ | refine DW_pure rfl rfl rfl rfl rfl cab ?_ | refine DW_pure rfl rfl rfl rfl rfl cba ?_ | refine DW_pure rfl rfl rfl rfl rfl keyed_ok ?_ | refine DW_append_own tabOK rfl rfl rfl rfl rfl rfl rfl rfl rfl rfl rfl rfl rfl rfl rfl (by simp; omega) (by simp; omega) ?_) | (show W _ _ _ _ _ _; first | refine W_seq ?_ | refine W_text rfl (fun _ _ _ h => h) ?_ | refine W_block ?_ | refine W_skip ?_ | refine W_exit ?_ | refine W_ret ?_ | refine W_true rfl ?_ | refine W_false rfl ?_ | refine W_cond rfl (fun _ => ?_) (fun _ => ?_)))
            exact ⟨rfl, _, rfl, _, rfl, SubC.of_closed closed_bool⟩
    · have d1 : decide (pa2 = 0) = false := by simp [e1]
      cases hab : rless a b
      · rw [hab] at lab hN
        repeat' (first | (show DW _ _ _ _ _ _ _ _; first | refine DW_V tabs rfl rfl rfl rfl (congrArg AV.bool d1) ?_ | refine DW_V tabs rfl rfl rfl rfl (congrArg AV.bool q1) ?_ | refine DW_V tabs rfl rfl rfl rfl (congrArg AV.bool q3) ?_ | refine DW_V tabs rfl rfl rfl rfl (congrArg AV.bool hN) ?_ | refine DW_V tabs rfl rfl rfl rfl (congrArg (AV.int _) hs) ?_ | refine DW_A tabs rfl ?_ | refine DW_nil ?_ | refine DW_lits tabOK rfl rfl rfl rfl rfl rfl rfl rfl rfl rfl rfl rfl rfl ?_ | refine DW_pure rfl rfl rfl rfl rfl (ks _) ?_ | refine DW_pure rfl rfl rfl rfl rfl kpa ?_ | refine DW_pure rfl rfl rfl rfl rfl kpb ?_ | refine DW_pure rfl rfl rfl rfl rfl lab ?_ | refine DW_pure rfl rfl rfl rfl rfl lbc ?_ | refine DW_pure rfl rfl rfl rfl rfl lac ?_ | refine DW_pure rfl rfl rfl rfl rfl cab ?_ | refine DW_pure rfl rfl rfl rfl rfl cba ?_ | refine DW_pure rfl rfl rfl rfl rfl keyed_ok ?_ | refine DW_append_own tabOK rfl rfl rfl rfl rfl rfl rfl rfl rfl rfl rfl rfl rfl rfl rfl (by simp; omega) (by simp; omega) ?_) | (show W _ _ _ _ _ _; first | refine W_seq ?_ | refine W_text rfl (fun _ _ _ h => h) ?_ | refine W_block ?_ | refine W_skip ?_ | refine W_exit ?_ | refine W_ret ?_ | refine W_true rfl ?_ | refine W_false rfl ?_ | refine W_cond rfl (fun _ => ?_) (fun _ => ?_)))
        exact ⟨rfl, _, rfl, _, rfl, SubC.of_closed closed_bool⟩
      · rw [hab] at lab hN
        cases hbc : rless b c
        · rw [hbc] at lbc
          repeat' (first | (show DW _ _ _ _ _ _ _ _; first | refine DW_V tabs rfl rfl rfl rfl (congrArg AV.bool d1) ?_ | refine DW_V tabs rfl rfl rfl rfl (congrArg AV.bool q1) ?_ | refine DW_V tabs rfl rfl rfl rfl (congrArg AV.bool q3) ?_ | refine DW_V tabs rfl rfl rfl rfl (congrArg AV.bool hN) ?_ | refine DW_V tabs rfl rfl rfl rfl (congrArg (AV.int _) hs) ?_ | refine DW_A tabs rfl ?_ | refine DW_nil ?_ | refine DW_lits tabOK rfl rfl rfl rfl rfl rfl rfl rfl rfl rfl rfl rfl rfl ?_ | refine DW_pure rfl rfl rfl rfl rfl (ks _) ?_ | refine DW_pure rfl rfl rfl rfl rfl kpa ?_ | refine DW_pure rfl rfl rfl rfl rfl kpb ?_ | refine DW_pure rfl rfl rfl rfl rfl lab ?_ | refine DW_pure rfl rfl rfl rfl rfl lbc ?_ | refine DW_pure rfl rfl rfl rfl rfl lac ?_ | refine DW_pure rfl rfl rfl rfl rfl cab ?_ | refine DW_pure rfl rfl rfl rfl rfl cba ?_ | refine DW_pure rfl rfl rfl rfl rfl keyed_ok ?_ | refine DW_append_own tabOK rfl rfl rfl rfl rfl rfl rfl rfl rfl rfl rfl rfl rfl rfl rfl (by simp; omega) (by simp; omega) ?_) | (show W _ _ _ _ _ _; first | refine W_seq ?_ | refine W_text rfl (fun _ _ _ h => h) ?_ | refine W_block ?_ | refine W_skip ?_ | refine W_exit ?_ | refine W_ret ?_ | refine W_true rfl ?_ | refine W_false rfl ?_ | refine W_cond rfl (fun _ => ?_) (fun _ => ?_)))
          exact ⟨rfl, _, rfl, _, rfl, SubC.of_closed closed_bool⟩
        · rw [hbc] at lbc
          rw [htr hab hbc] at lac
          repeat' (first | (show DW _ _ _ _ _ _ _ _; first | refine DW_V tabs rfl rfl rfl rfl (congrArg AV.bool d1) ?_ | refine DW_V tabs rfl rfl rfl rfl (congrArg AV.bool q1) ?_ | refine DW_V tabs rfl rfl rfl rfl (congrArg AV.bool q3) ?_ | refine DW_V tabs rfl rfl rfl rfl (congrArg AV.bool hN) ?_ | refine DW_V tabs rfl rfl rfl rfl (congrArg (AV.int _) hs) ?_ | refine DW_A tabs rfl ?_ | refine DW_nil ?_ | refine DW_lits tabOK rfl rfl rfl rfl rfl rfl rfl rfl rfl rfl rfl rfl rfl ?_ | refine DW_pure rfl rfl rfl rfl rfl (ks _) ?_ | refine DW_pure rfl rfl rfl rfl rfl kpa ?_ | refine DW_pure rfl rfl rfl rfl rfl kpb ?_ | refine DW_pure rfl rfl rfl rfl rfl lab ?_ | refine DW_pure rfl rfl rfl rfl rfl lbc ?_ | refine DW_pure rfl rfl rfl rfl rfl lac ?_ | refine DW_pure rfl rfl rfl rfl rfl cab ?_ | refine DW_pure rfl rfl rfl rfl rfl cba ?_ | refine DW_pure rfl rfl rfl rfl rfl keyed_ok ?_ | refine DW_append_own tabOK rfl rfl rfl rfl rfl rfl rfl rfl rfl rfl rfl rfl rfl rfl rfl (by simp; omega) (by simp; omega) ?_) | (show W _ _ _ _ _ _; first | refine W_seq ?_ | refine W_text rfl (fun _ _ _ h => h) ?_ | refine W_block ?_ | refine W_skip ?_ | refine W_exit ?_ | refine W_ret ?_ | refine W_true rfl ?_ | refine W_false rfl ?_ | refine W_cond rfl (fun _ => ?_) (fun _ => ?_)))
          exact ⟨rfl, _, rfl, _, rfl, SubC.of_closed closed_bool⟩
end Go.Proofs.YteimhnedflbkmaaDoor
