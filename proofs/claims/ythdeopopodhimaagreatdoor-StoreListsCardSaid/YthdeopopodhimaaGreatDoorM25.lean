/- Parts of the proof, one behind the other: SLawF, SLawG, AbR1. No further condition. -/
import Derived.Test.YthdeopopodhimaaGreatDoorM24
import Derived.Test.YthdeopopodhimaaGreatDoorM07
import Derived.ProofKit
import Derived.ReadAgain
set_option linter.unusedVariables false
set_option linter.unusedSimpArgs false
/- What is told of an earlier time stays; List tells just the files that AsOf tells. No further condition. -/
set_option linter.unusedVariables false
set_option linter.unusedSimpArgs false
namespace Go.Proofs.YthdeopopodhimaaGreatDoor
open Go.Ab

theorem getM_ch (s : Bytes) : (getM s).1.ch.length ≤ 16 := by
  unfold getM
  cases nums s with
  | none => exact Nat.zero_le _
  | some l =>
    match l with
    | [] => exact Nat.zero_le _
    | [_] => exact Nat.zero_le _
    | [_, _] => exact Nat.zero_le _
    | a :: b :: c :: m =>
      show (mtOf a b c m).1.ch.length ≤ 16
      unfold mtOf
      split
      · rename_i h
        have h2 := h.2
        unfold isM at h2
        simp at h2
        simp
        exact h2.2.2
      · exact Nat.zero_le _
theorem readM_ch (v : Bytes) : (readM v).1.ch.length ≤ 16 := by
  cases v with
  | nil => exact Nat.zero_le _
  | cons c r =>
    show (if c = 0 ∧ r = [] then (zeroMt, true, (0 : Int)) else if c = 1 then ((getM r).1, false, (getM r).2) else (zeroMt, false, 30)).1.ch.length ≤ 16
    split
    · exact Nat.zero_le _
    · split
      · exact getM_ch r
      · exact Nat.zero_le _
theorem pathsU_len : ∀ (n : Nat) (dir : Bytes) (m : List Pr), m.length ≤ n → (pathsU dir m).length ≤ m.length
  | n, dir, m, hn => by
    have hlen := (skipU_sub dir m).length_le
    cases hs : skipU dir m with
    | nil => rw [pathsU_nil hs]; exact Nat.zero_le _
    | cons x r =>
      rw [hs] at hlen
      have hlt := sameP_lt x r
      rw [pathsU_cons hs]
      match n, hn with
      | 0, hn => simp at hlen; omega
      | n + 1, hn =>
        simp at hlen
        have := pathsU_len n dir (sameP x.key.path (x :: r)) (by omega)
        simp
        omega
theorem list_len (l : List Pr) (dir : Bytes) (w : Int) : (listL l dir w).length ≤ l.length :=
  Nat.le_trans (List.length_filterMap_le _ _) (pathsU_len _ dir l (Nat.le_refl _))
theorem list_short {l : List Pr} (hr : Rise l) (ht : okT l) {dir : Bytes} {w : Int} : ∀ e, e ∈ listL l dir w → shortE e := fun e he => by
  obtain ⟨_, _, x, _, _, _, hm⟩ := at_is hr ht ((list_mem hr ht dir w e).1 he).2
  unfold shortE
  rw [hm]
  have := readM_ch x.val
  omega
theorem listO_short {l : List Pr} (hr : Rise l) (h : isSt l = true) (dir : Bytes) (w : Int) : (listO l dir w).1.length ≤ l.length ∧ ∀ e, e ∈ (listO l dir w).1 → shortE e := by
  unfold listO
  split
  · exact ⟨list_len l dir w, list_short hr (isSt_okT h)⟩
  · exact ⟨Nat.zero_le _, fun e he => by cases he⟩
theorem listO_congr {l m : List Pr} (hr : Rise l) (h : isSt l = true) (hr' : Rise m) (h' : isSt m = true) {w : Int} (hh : ∀ p, atL l p w = atL m p w) (dir : Bytes) : listO l dir w = listO m dir w := by
  unfold listO
  rw [openE_st h, openE_st h', list_congr hr (isSt_okT h) hr' (isSt_okT h') hh]

def stF (more : List Ld) (dir : Bytes) (w : Int) (t u : Tr) (i : Nat) : AF := ⟨[(1, ldA more .none), (2, .str dir), (3, .int .i64 w), (9, t.av), (11, u.av), (12, .int .i64 (i : Int))], []⟩
set_option maxRecDepth 100000 in
set_option maxHeartbeats 8000000 in
theorem storeStays_ok (l more : List Ld) (dir : Bytes) (w : Int) (hl : ldsB l) (hm : ldsB more) : APure Tryz.prog 8 [ldA l .none, ldA more .none, .str dir, .int .i64 w] (.bool true) := by
  refine pure_sub (closedL_cons (closed_lds l (.inl rfl)) (closed3 (closed_lds more (.inl rfl)) closed_str closed_int)) (closed_bool) ?_
  refine acalls_of tabOK Tryz.func8 rfl (by decide) (by simp [Tryz.f8]) ?_
  have kb := bigL_ok l .none hl.1 hl.2
  have kc := bigL_ok more .none hm.1 hm.2
  cases hb : bigL l
  · rw [hb] at kb
    cases hb2 : bigL more
    · rw [hb2] at kc
      by_cases hp : 300 < dir.length
      · have d1 : decide ((300 : Int) < (dir.length : Int)) = true := by simp; omega
        unfold ldA at *
        repeat' (first | refine DW_VB tabs rfl d1 ?_ | refine DW_A tabs rfl ?_ | refine DW_nil ?_ | refine W_A rfl ?_ | refine DW_C rfl kb ?_ | refine DW_C rfl kc ?_ | refine W_draw mixed [0, 1, 2, 6, 7, 3, 4, 5, 8, 9, 10, 11, 12, 13, 14, 15, 16] [.P, .P, .P, .R, .R, .R, .P, .P, .R, .R, .R, .P, .P, .P, .P, .P, .P] rfl rfl (by kernel_rfl) ?_)
        exact ⟨rfl, _, rfl, _, rfl, SubC.of_closed closed_bool⟩
      · have d1 : decide ((300 : Int) < (dir.length : Int)) = false := by simp; omega
        obtain ⟨hs, h20⟩ := small_of' hb
        obtain ⟨hms, hm20⟩ := small_of' hb2
        have kl := laid_ok l .none (.inl rfl) h20 hs
        obtain ⟨hi, ho, _, _⟩ := laid_all_inv hs h20
        have kst := stored_ok
        unfold lwA at kl
        generalize laidS l = S at *
        obtain ⟨t, took⟩ := S
        simp only at kl
        have lm := len_map Ld.av more
        have hst : isSt t.all = true := hi.st
        have ho : okS t 500 := ho
        clear hi
        have klt := list_ok t (by have := ho.1; omega) ho.vals dir (by omega) w
        have kat := last_ok t (by have := ho.1; omega) ho.vals
        have hrt : Rise t.all := t.rise
        unfold Tr.av ldA at kl
        unfold ldA at kb kc
        unfold ldA
        repeat' (first | refine DW_VB tabs rfl d1 ?_ | refine DW_A tabs rfl ?_ | refine DW_nil ?_ | refine W_A rfl ?_ | refine DW_C rfl kb ?_ | refine DW_C rfl kc ?_ | refine DW_C rfl kl ?_ | refine W_draw mixed [0, 1, 2, 6, 7, 3, 4, 5, 8, 9, 10, 11, 12, 13, 14, 15, 16] [.P, .P, .P, .R, .R, .R, .P, .P, .R, .R, .R, .P, .P, .P, .P, .P, .P] rfl rfl (by kernel_rfl) ?_)
        refine W_count more.length (fun i f N => ∃ u : Tr, N = ⟨0, []⟩ ∧ (isSt u.all = true ∧ okS u (500 + 25 * i) ∧ (∀ p, atL t.all p w = atL u.all p w) ∧ lastL t.all ≤ lastL u.all) ∧ f = stF more dir w t u i) (Nat.zero_le _) ⟨t, rfl, ⟨hst, ho, fun _ => rfl, Int.le_refl _⟩, rfl⟩ (Joint.cut (k := 0) (t := (stF more dir w t t 0).t) (l := []) (Nat.le_refl _) (Nat.zero_le _) rfl ⟨?_, ?_, ?_, ?_, ?_, ?_, trivial⟩ trivial) ?_
        · exact SubC.of_closed (closed_lds more (.inl rfl))
        · exact SubC.of_closed closed_str
        · exact SubC.of_closed closed_int
        · exact SubC.of_closed (closed_tr t)
        · exact SubC.of_closed (closed_tr t)
        · exact SubC.of_closed closed_int
        rintro i f N hi ⟨u, rfl, ⟨q1, q2, q3, q4⟩, rfl⟩
        unfold stF ldA
        by_cases h1 : i < more.length
        · have d2 : decide ((i : Int) < (more.length : Int)) = true := by simp; omega
          have hx : more[i]? = some more[i] := List.getElem?_eq_getElem h1
          have fi := wrap_succ (i := i) (by omega)
          have hbx := hms _ (List.getElem_mem h1)
          generalize more[i] = x at hx hbx
          have ky := lay_ok u x.at_ x.batch .none (.inl rfl) (by have := q2.1; omega) q2.vals (fun c hc => by have := hbx.2 c hc; exact ⟨by omega, by omega⟩)
          unfold layA at ky
          have hstep : okS u (500 + 25 * (i + 1)) := ⟨by have := q2.1; omega, q2.2⟩
          cases hy : layB u.all x.at_ x.batch
          · rw [if_neg (by simp [hy])] at ky
            unfold Tr.av chA at *
            repeat' (first | refine DW_VB tabs rfl d2 ?_ | refine DW_VI tabs rfl (by first | exact lm | exact fi) ?_ | refine DW_A tabs rfl ?_ | refine DW_nil ?_ | refine W_A rfl ?_ | refine DW_C rfl ky ?_ | refine DW_ix tabOK rfl (ixN hx) ?_ | refine W_draw mixed [0, 1, 2, 6, 7, 3, 4, 5, 8, 9, 10, 11, 12, 13, 14, 15, 16] [.P, .P, .P, .R, .R, .R, .P, .P, .R, .R, .R, .P, .P, .P, .P, .P, .P] rfl rfl (by kernel_rfl) ?_)
            refine ⟨h1, stF more dir w t u (i + 1), ⟨0, []⟩, ⟨u, rfl, ⟨q1, hstep, q3, q4⟩, rfl⟩, Joint.le ?_ (Mem.le_nil rfl)⟩
            unfold stF Tr.av ldA
            repeat (refine AF.le_cons rfl ?_)
            exact AF.le_nil rfl
          · rw [if_pos hy] at ky
            by_cases hw : w < x.at_
            · have d3 : decide (w < x.at_) = true := by simp [hw]
              have hL := layB_parts hy
              have he := layT_all (t := u) (at_ := x.at_) (c := x.batch) (by have := q2.1; omega)
              have r1 : isSt (layT u x.at_ x.batch).all = true := by rw [he]; exact lays_st hL
              have r2 : okS (layT u x.at_ x.batch) (500 + 25 * (i + 1)) := okS_lay (n := 500 + 25 * i) q2 (by omega) hbx.1 hbx.2
              have r3 : ∀ p, atL t.all p w = atL (layT u x.at_ x.batch).all p w := fun p => by
                rw [q3, he]
                have hr' := (layT u x.at_ x.batch).rise
                change Rise (layT u x.at_ x.batch).all at hr'
                rw [he] at hr'
                exact (lays_old hL u.rise hr' (.inl hw)).symm
              have r4 : lastL t.all ≤ lastL (layT u x.at_ x.batch).all := by
                rw [he, lays_last hL]
                have := hL.last
                omega
              clear he
              generalize layT u x.at_ x.batch = v at *
              unfold Tr.av chA at ky
              unfold Tr.av
              repeat' (first | refine DW_VB tabs rfl (by first | exact d2 | exact d3) ?_ | refine DW_VI tabs rfl (by first | exact lm | exact fi) ?_ | refine DW_A tabs rfl ?_ | refine DW_nil ?_ | refine W_A rfl ?_ | refine DW_C rfl ky ?_ | refine DW_ix tabOK rfl (ixN hx) ?_ | refine W_draw mixed [0, 1, 2, 6, 7, 3, 4, 5, 8, 9, 10, 11, 12, 13, 14, 15, 16] [.P, .P, .P, .R, .R, .R, .P, .P, .R, .R, .R, .P, .P, .P, .P, .P, .P] rfl rfl (by kernel_rfl) ?_)
              refine ⟨h1, stF more dir w t v (i + 1), ⟨0, []⟩, ⟨v, rfl, ⟨r1, r2, r3, r4⟩, rfl⟩, Joint.le ?_ (Mem.le_nil rfl)⟩
              unfold stF Tr.av ldA
              repeat (refine AF.le_cons rfl ?_)
              exact AF.le_nil rfl
            · have d3 : decide (w < x.at_) = false := by simp [hw]
              generalize layT u x.at_ x.batch = v at *
              unfold Tr.av chA at ky
              unfold Tr.av
              repeat' (first | refine DW_VB tabs rfl (by first | exact d2 | exact d3) ?_ | refine DW_VI tabs rfl (by first | exact lm | exact fi) ?_ | refine DW_A tabs rfl ?_ | refine DW_nil ?_ | refine W_A rfl ?_ | refine DW_C rfl ky ?_ | refine DW_ix tabOK rfl (ixN hx) ?_ | refine W_draw mixed [0, 1, 2, 6, 7, 3, 4, 5, 8, 9, 10, 11, 12, 13, 14, 15, 16] [.P, .P, .P, .R, .R, .R, .P, .P, .R, .R, .R, .P, .P, .P, .P, .P, .P] rfl rfl (by kernel_rfl) ?_)
              refine ⟨h1, stF more dir w t u (i + 1), ⟨0, []⟩, ⟨u, rfl, ⟨q1, hstep, q3, q4⟩, rfl⟩, Joint.le ?_ (Mem.le_nil rfl)⟩
              unfold stF Tr.av ldA
              repeat (refine AF.le_cons rfl ?_)
              exact AF.le_nil rfl
        · have d2 : decide ((i : Int) < (more.length : Int)) = false := by simp; omega
          have klu := list_ok u (by have := q2.1; omega) q2.vals dir (by omega) w
          have kau := last_ok u (by have := q2.1; omega) q2.vals
          have kis := isStore_ok u (by have := q2.1; omega) q2.vals
          rw [q1] at kis
          rw [← listO_congr hrt hst (show Rise u.all from u.rise) q1 q3 dir] at klu
          obtain ⟨s1, s2⟩ := listO_short hrt hst dir w
          have ks := sameEs_ok (listO t.all dir w).1 (listO t.all dir w).1 .none .none (by have := ho.1; omega) (by have := ho.1; omega) s2 s2
          rw [decide_eq_true (rfl : (listO t.all dir w).1 = _)] at ks
          have d4 : decide ((listO t.all dir w).2 = (listO t.all dir w).2) = true := by simp
          have d5 : decide (lastL t.all ≤ lastL u.all) = true := by simp [q4]
          generalize listO t.all dir w = z at *
          obtain ⟨a, e⟩ := z
          unfold lsA ensA at *
          unfold Tr.av at *
          repeat' (first | refine DW_VB tabs rfl (by first | exact d2 | exact d4 | exact d5) ?_ | refine DW_VI tabs rfl lm ?_ | refine DW_A tabs rfl ?_ | refine DW_nil ?_ | refine W_A rfl ?_ | refine DW_C rfl klt ?_ | refine DW_C rfl klu ?_ | refine DW_C rfl kst ?_ | refine DW_C rfl ks ?_ | refine DW_C rfl kis ?_ | refine DW_C rfl kau ?_ | refine DW_C rfl kat ?_ | refine W_draw mixed [0, 1, 2, 6, 7, 3, 4, 5, 8, 9, 10, 11, 12, 13, 14, 15, 16] [.P, .P, .P, .R, .R, .R, .P, .P, .R, .R, .R, .P, .P, .P, .P, .P, .P] rfl rfl (by kernel_rfl) ?_)
          exact ⟨rfl, _, rfl, _, rfl, SubC.of_closed closed_bool⟩
    · rw [hb2] at kc
      unfold ldA at *
      repeat' (first | refine DW_A tabs rfl ?_ | refine DW_nil ?_ | refine W_A rfl ?_ | refine DW_C rfl kb ?_ | refine DW_C rfl kc ?_ | refine W_draw mixed [0, 1, 2, 6, 7, 3, 4, 5, 8, 9, 10, 11, 12, 13, 14, 15, 16] [.P, .P, .P, .R, .R, .R, .P, .P, .R, .R, .R, .P, .P, .P, .P, .P, .P] rfl rfl (by kernel_rfl) ?_)
      exact ⟨rfl, _, rfl, _, rfl, SubC.of_closed closed_bool⟩
  · rw [hb] at kb
    unfold ldA at *
    repeat' (first | refine DW_A tabs rfl ?_ | refine DW_nil ?_ | refine W_A rfl ?_ | refine DW_C rfl kb ?_ | refine W_draw mixed [0, 1, 2, 6, 7, 3, 4, 5, 8, 9, 10, 11, 12, 13, 14, 15, 16] [.P, .P, .P, .R, .R, .R, .P, .P, .R, .R, .R, .P, .P, .P, .P, .P, .P] rfl rfl (by kernel_rfl) ?_)
    exact ⟨rfl, _, rfl, _, rfl, SubC.of_closed closed_bool⟩
end Go.Proofs.YthdeopopodhimaaGreatDoor

/- List tells just the files under a path that AsOf tells. No further condition. -/
set_option linter.unusedVariables false
set_option linter.unusedSimpArgs false
namespace Go.Proofs.YthdeopopodhimaaGreatDoor
open Go.Ab

theorem under_path {d s : Bytes} (h : underB d s = true) : isPathB s = true := by
  unfold underB at h
  simp at h
  exact h.1.2
theorem list_root {l : List Pr} (hr : Rise l) (ht : okT l) (dir : Bytes) (w : Int) : listL l dir w = (listL l [] w).filter fun e => underB dir e.path := by
  refine riseE_eq (list_rise hr ht dir w) ((list_rise hr ht [] w).sublist List.filter_sublist) fun e => ?_
  rw [List.mem_filter, list_mem hr ht, list_mem hr ht]
  constructor
  · rintro ⟨h1, h2⟩
    exact ⟨⟨under_nil (under_path h1), h2⟩, h1⟩
  · rintro ⟨⟨_, h2⟩, h1⟩
    exact ⟨h1, h2⟩
def slF (dir p : Bytes) (w : Int) (t : Tr) (a : List En) (i : Nat) : AF := ⟨[(1, .str dir), (2, .str p), (3, .int .i64 w), (9, t.av), (11, ensA a .none), (13, .bool ((a.take i).any fun e => e.path == p)), (14, .int .i64 (i : Int))], []⟩
set_option maxRecDepth 100000 in
set_option maxHeartbeats 8000000 in
theorem storeLists_ok (l : List Ld) (dir p : Bytes) (w : Int) (hl : ldsB l) : APure Tryz.prog 9 [ldA l .none, .str dir, .str p, .int .i64 w] (.bool true) := by
  refine pure_sub (closedL_cons (closed_lds l (.inl rfl)) (closed3 closed_str closed_str closed_int)) (closed_bool) ?_
  refine acalls_of tabOK Tryz.func9 rfl (by decide) (by simp [Tryz.f9]) ?_
  have kb := bigL_ok l .none hl.1 hl.2
  cases hb : bigL l
  · rw [hb] at kb
    by_cases hp : 300 < dir.length
    · have d1 : decide ((300 : Int) < (dir.length : Int)) = true := by simp; omega
      unfold ldA at *
      repeat' (first | refine DW_VB tabs rfl d1 ?_ | refine DW_A tabs rfl ?_ | refine DW_nil ?_ | refine W_A rfl ?_ | refine DW_C rfl kb ?_ | refine W_draw mixed [0, 1, 2, 3, 4, 5, 6, 8, 9, 7, 10, 11, 12, 13, 14, 15, 16, 17, 18, 19, 20, 21, 25, 26, 22, 23, 24, 27, 28, 29, 30, 31, 32, 33, 34, 35, 39, 36, 37, 38, 40, 41] [.P, .P, .P, .P, .P, .P, .P, .R, .P, .P, .R, .R, .P, .P, .P, .P, .P, .P, .P, .P, .P, .P, .R, .R, .R, .P, .P, .R, .R, .R, .P, .P, .P, .P, .P, .P, .R, .R, .R, .P, .P, .P] rfl rfl (by kernel_rfl) ?_)
      exact ⟨rfl, _, rfl, _, rfl, SubC.of_closed closed_bool⟩
    · have d1 : decide ((300 : Int) < (dir.length : Int)) = false := by simp; omega
      by_cases hp2 : 300 < p.length
      · have d2 : decide ((300 : Int) < (p.length : Int)) = true := by simp; omega
        unfold ldA at *
        repeat' (first | refine DW_VB tabs rfl (by first | exact d1 | exact d2) ?_ | refine DW_A tabs rfl ?_ | refine DW_nil ?_ | refine W_A rfl ?_ | refine DW_C rfl kb ?_ | refine W_draw mixed [0, 1, 2, 3, 4, 5, 6, 8, 9, 7, 10, 11, 12, 13, 14, 15, 16, 17, 18, 19, 20, 21, 25, 26, 22, 23, 24, 27, 28, 29, 30, 31, 32, 33, 34, 35, 39, 36, 37, 38, 40, 41] [.P, .P, .P, .P, .P, .P, .P, .R, .P, .P, .R, .R, .P, .P, .P, .P, .P, .P, .P, .P, .P, .P, .R, .R, .R, .P, .P, .R, .R, .R, .P, .P, .P, .P, .P, .P, .R, .R, .R, .P, .P, .P] rfl rfl (by kernel_rfl) ?_)
        exact ⟨rfl, _, rfl, _, rfl, SubC.of_closed closed_bool⟩
      · have d2 : decide ((300 : Int) < (p.length : Int)) = false := by simp; omega
        obtain ⟨hs, h20⟩ := small_of' hb
        have kl := laid_ok l .none (.inl rfl) h20 hs
        obtain ⟨hi, ho, _, _⟩ := laid_all_inv hs h20
        have kst := stored_ok
        unfold lwA at kl
        generalize laidS l = S at *
        obtain ⟨t, took⟩ := S
        simp only at kl
        have hst : isSt t.all = true := hi.st
        have ho : okS t 500 := ho
        clear hi
        have h10 : t.all.length < 10000000 := by have := ho.1; omega
        have klt := list_ok t h10 ho.vals dir (by omega) w
        have kas := fun (q : Bytes) (hq : q.length < 1000000) => asOf_ok t h10 ho.vals q hq w
        have klr := list_ok t h10 ho.vals [] (by decide) w
        have hrt : Rise t.all := t.rise
        have ht := isSt_okT hst
        have ho1 := ho.1
        have hop := fun q => openE_st hst q w
        by_cases hE : openE t.all dir w = 0
        · obtain ⟨_, e2, e3⟩ := openE_parts hE
          have hw : ¬ w < 0 := by omega
          have hop0 : ∀ q, isPathB q = true → openE t.all q w = 0 := fun q hq => by rw [hop, if_neg (by simp [hq]), if_neg hw]
          unfold listO at klt klr
          rw [if_pos hE] at klt
          rw [if_pos (hop0 [] isPath_nil)] at klr
          have hmem := list_mem hrt ht dir w
          have hri := list_rise hrt ht dir w
          have hroot := list_root hrt ht dir w
          have hmr := list_mem hrt ht [] w
          have hsh := list_short hrt ht (dir := dir) (w := w)
          have hln := list_len t.all dir w
          have hpth : ∀ e, e ∈ listL t.all dir w → e.path.length < 1000000 ∧ e.time ≤ w := fun e he => by
            obtain ⟨_, h2, x, hx, hxp, _⟩ := at_is hrt ht ((hmem e).1 he).2
            have := (ho.2 x hx).1
            rw [hxp] at this
            exact ⟨by omega, h2⟩
          have hle : (listL t.all dir w).length ≤ (listL t.all [] w).length := by
            rw [hroot]
            exact List.length_filter_le _ _
          have la := len_map En.av (listL t.all dir w)
          have lr := len_map En.av (listL t.all [] w)
          generalize hA : listL t.all dir w = A at *
          generalize hR : listL t.all [] w = R at *
          have kasp := kas p (by omega)
          unfold Tr.av ldA at kl
          unfold ldA at kb
          unfold lsA ensA at klt klr
          unfold Tr.av at klt klr kas kasp
          unfold ldA
          repeat' (first | refine DW_VB tabs rfl (by first | exact d1 | exact d2) ?_ | refine DW_A tabs rfl ?_ | refine DW_nil ?_ | refine W_A rfl ?_ | refine DW_C rfl kb ?_ | refine DW_C rfl kl ?_ | refine DW_C rfl klt ?_ | refine W_draw mixed [0, 1, 2, 3, 4, 5, 6, 8, 9, 7, 10, 11, 12, 13, 14, 15, 16, 17, 18, 19, 20, 21, 25, 26, 22, 23, 24, 27, 28, 29, 30, 31, 32, 33, 34, 35, 39, 36, 37, 38, 40, 41] [.P, .P, .P, .P, .P, .P, .P, .R, .P, .P, .R, .R, .P, .P, .P, .P, .P, .P, .P, .P, .P, .P, .R, .R, .R, .P, .P, .R, .R, .R, .P, .P, .P, .P, .P, .P, .R, .R, .R, .P, .P, .P] rfl rfl (by kernel_rfl) ?_)
          refine W_count A.length (fun i f N => N = ⟨0, []⟩ ∧ f = slF dir p w t A i) (Nat.zero_le _) ⟨rfl, rfl⟩ (Joint.cut (k := 0) (t := (slF dir p w t A 0).t) (l := []) (Nat.le_refl _) (Nat.zero_le _) rfl ⟨?_, ?_, ?_, ?_, ?_, ?_, ?_, trivial⟩ trivial) ?_
          · exact SubC.of_closed closed_str
          · exact SubC.of_closed closed_str
          · exact SubC.of_closed closed_int
          · exact SubC.of_closed (closed_tr t)
          · exact SubC.of_closed (closed_ens A)
          · exact SubC.of_closed closed_bool
          · exact SubC.of_closed closed_int
          rintro i f N hi ⟨rfl, rfl⟩
          unfold slF ensA
          by_cases h1 : i < A.length
          · have d3 : decide ((i : Int) < (A.length : Int)) = true := by simp; omega
            have hx : A[i]? = some A[i] := List.getElem?_eq_getElem h1
            have fi := wrap_succ (i := i) (by omega)
            have htk := take_succ hx
            have hmx := List.getElem_mem h1
            have hadj : ∀ j y, i = j + 1 → A[j]? = some y → bl y.path A[i].path = true := by
              intro j y hj hy
              subst hj
              obtain ⟨hj1, rfl⟩ := List.getElem?_eq_some_iff.1 hy
              exact List.pairwise_iff_getElem.1 hri j (j + 1) hj1 h1 (Nat.lt_succ_self j)
            generalize A[i] = x at hx htk hmx hadj
            obtain ⟨m1, m2⟩ := (hmem x).1 hmx
            obtain ⟨p1, p2⟩ := hpth x hmx
            have kx := kas x.path p1
            unfold asOf at kx
            rw [if_pos (hop0 _ (under_path m1)), m2] at kx
            have ks := sameEn_ok x x (hsh x hmx) (hsh x hmx)
            rw [decide_eq_true (rfl : x = x)] at ks
            have d5 : decide (w < x.time) = false := by simp; omega
            have hin : ((A.take (i + 1)).any fun e => e.path == p) = ((A.take i).any (fun e => e.path == p) || (x.path == p)) := by rw [htk, List.any_append]; simp
            have fin : ∀ (f2 : AF) (M2 : Mem) (b : Bool), ((A.take (i + 1)).any fun e => e.path == p) = b → f2.d = [] → SubsC 0 f2 [(1, .str dir), (2, .str p), (3, .int .i64 w), (9, t.av), (11, ensA A .none), (13, .bool b), (14, .int .i64 ((i + 1 : Nat) : Int))] →
                i < A.length ∧ ∃ f'' M'', (M'' = ⟨0, []⟩ ∧ f'' = slF dir p w t A (i + 1)) ∧ Joint 0 f2 M2 f'' M'' := by
              intro f2 M2 b hb hd hsub
              refine ⟨h1, slF dir p w t A (i + 1), ⟨0, []⟩, ⟨rfl, rfl⟩, ?_⟩
              have := Joint.cut (n0 := 0) (M := M2) (k := 0) (l := []) (Nat.le_refl _) (Nat.zero_le _) hd hsub trivial
              unfold slF
              rw [hb]
              exact this
            have hA5 : A.length ≤ 500 := by omega
            clear hmem hri hroot hmr hsh hln hle
            unfold Tr.av at *
            cases i with
            | zero =>
              have z1 : decide ((0 : Int) < ((0 : Nat) : Int)) = false := rfl
              cases ha : (A.take 0).any fun e => e.path == p
              · repeat' (first | refine DW_VB tabs rfl (by first | exact d3 | exact z1 | exact d5) ?_ | refine DW_VI tabs rfl (by first | exact la | exact fi) ?_ | refine DW_A tabs rfl ?_ | refine DW_nil ?_ | refine W_A rfl ?_ | refine DW_C rfl kx ?_ | refine DW_C rfl ks ?_ | refine DW_ix tabOK rfl (ixN hx) ?_ | refine W_draw mixed [0, 1, 2, 3, 4, 5, 6, 8, 9, 7, 10, 11, 12, 13, 14, 15, 16, 17, 18, 19, 20, 21, 25, 26, 22, 23, 24, 27, 28, 29, 30, 31, 32, 33, 34, 35, 39, 36, 37, 38, 40, 41] [.P, .P, .P, .P, .P, .P, .P, .R, .P, .P, .R, .R, .P, .P, .P, .P, .P, .P, .P, .P, .P, .P, .R, .R, .R, .P, .P, .R, .R, .R, .P, .P, .P, .P, .P, .P, .R, .R, .R, .P, .P, .P] rfl rfl (by kernel_rfl) ?_)
                refine fin _ _ (x.path == p) (by rw [hin, ha]; rfl) rfl ⟨?_, ?_, ?_, ?_, ?_, ?_, ?_, trivial⟩
                · exact SubC.of_closed closed_str
                · exact SubC.of_closed closed_str
                · exact SubC.of_closed closed_int
                · exact SubC.of_closed (closed_tr t)
                · exact SubC.of_closed (closed_ens A)
                · exact SubC.of_closed closed_bool
                · exact SubC.of_closed closed_int
              · cases ha
            | succ j =>
              have hy : A[j]? = some A[j] := List.getElem?_eq_getElem (by omega)
              have hbl := hadj j _ rfl hy
              generalize A[j] = y at hy hbl
              have z1 : decide ((0 : Int) < ((j + 1 : Nat) : Int)) = true := decide_eq_true (by omega)
              have z2 : (!bl y.path x.path) = false := by rw [hbl]; rfl
              have fj : IntKind.wrap .i64 (((j + 1 : Nat) : Int) - 1) = (j : Int) := (Go.Ab.wrap_small (by omega) (by omega)).trans (by omega)
              cases ha : (A.take (j + 1)).any fun e => e.path == p
              · repeat' (first | refine DW_VB tabs rfl (by first | exact d3 | exact z1 | exact z2 | exact d5) ?_ | refine DW_VI tabs rfl (by first | exact la | exact fi | exact fj) ?_ | refine DW_A tabs rfl ?_ | refine DW_nil ?_ | refine W_A rfl ?_ | refine DW_C rfl kx ?_ | refine DW_C rfl ks ?_ | refine DW_ix tabOK rfl (ixN hx) ?_ | refine DW_ix tabOK rfl (ixN hy) ?_ | refine W_draw mixed [0, 1, 2, 3, 4, 5, 6, 8, 9, 7, 10, 11, 12, 13, 14, 15, 16, 17, 18, 19, 20, 21, 25, 26, 22, 23, 24, 27, 28, 29, 30, 31, 32, 33, 34, 35, 39, 36, 37, 38, 40, 41] [.P, .P, .P, .P, .P, .P, .P, .R, .P, .P, .R, .R, .P, .P, .P, .P, .P, .P, .P, .P, .P, .P, .R, .R, .R, .P, .P, .R, .R, .R, .P, .P, .P, .P, .P, .P, .R, .R, .R, .P, .P, .P] rfl rfl (by kernel_rfl) ?_)
                refine fin _ _ (x.path == p) (by rw [hin, ha]; rfl) rfl ⟨?_, ?_, ?_, ?_, ?_, ?_, ?_, trivial⟩
                · exact SubC.of_closed closed_str
                · exact SubC.of_closed closed_str
                · exact SubC.of_closed closed_int
                · exact SubC.of_closed (closed_tr t)
                · exact SubC.of_closed (closed_ens A)
                · exact SubC.of_closed closed_bool
                · exact SubC.of_closed closed_int
              · repeat' (first | refine DW_VB tabs rfl (by first | exact d3 | exact z1 | exact z2 | exact d5) ?_ | refine DW_VI tabs rfl (by first | exact la | exact fi | exact fj) ?_ | refine DW_A tabs rfl ?_ | refine DW_nil ?_ | refine W_A rfl ?_ | refine DW_C rfl kx ?_ | refine DW_C rfl ks ?_ | refine DW_ix tabOK rfl (ixN hx) ?_ | refine DW_ix tabOK rfl (ixN hy) ?_ | refine W_draw mixed [0, 1, 2, 3, 4, 5, 6, 8, 9, 7, 10, 11, 12, 13, 14, 15, 16, 17, 18, 19, 20, 21, 25, 26, 22, 23, 24, 27, 28, 29, 30, 31, 32, 33, 34, 35, 39, 36, 37, 38, 40, 41] [.P, .P, .P, .P, .P, .P, .P, .R, .P, .P, .R, .R, .P, .P, .P, .P, .P, .P, .P, .P, .P, .P, .R, .R, .R, .P, .P, .R, .R, .R, .P, .P, .P, .P, .P, .P, .R, .R, .R, .P, .P, .P] rfl rfl (by kernel_rfl) ?_)
                refine fin _ _ true (by rw [hin, ha]; rfl) rfl ⟨?_, ?_, ?_, ?_, ?_, ?_, ?_, trivial⟩
                · exact SubC.of_closed closed_str
                · exact SubC.of_closed closed_str
                · exact SubC.of_closed closed_int
                · exact SubC.of_closed (closed_tr t)
                · exact SubC.of_closed (closed_ens A)
                · exact SubC.of_closed closed_bool
                · exact SubC.of_closed closed_int
          · have d3 : decide ((i : Int) < (A.length : Int)) = false := by simp; omega
            obtain rfl : i = A.length := by omega
            rw [List.take_length]
            have d6 : decide ((A.length : Int) ≤ (R.length : Int)) = true := by simp; omega
            have hin : (A.any fun e => e.path == p) = true → ∃ e, atL t.all p w = some e := fun h => by
              rw [List.any_eq_true] at h
              obtain ⟨e, he, hep⟩ := h
              have hep : e.path = p := by simpa using hep
              have := ((hmem e).1 he).2
              rw [hep] at this
              exact ⟨e, this⟩
            have hou : dir = [] → isPathB p = true → ∀ e, atL t.all p w = some e → (A.any fun e => e.path == p) = true := fun hd hpp e he => by
              have hep := (at_is hrt ht he).1
              refine List.any_eq_true.2 ⟨e, (hmem e).2 ⟨?_, by rw [hep]; exact he⟩, by simp [hep]⟩
              rw [hd, hep]
              exact under_nil hpp
            have hopp := hop p
            unfold asOf at kasp
            have z0 : decide ((0 : Int) = 0) = true := rfl
            cases hpp : isPathB p
            · rw [hpp, if_pos rfl] at hopp
              rw [hopp, if_neg (by decide)] at kasp
              clear hmem hri hroot hmr hsh hln hle kas hin hou
              unfold Tr.av
              cases hd : !(dir == [])
              · cases ha : A.any fun e => e.path == p
                · repeat' (first | refine DW_VB tabs rfl (by first | exact d3 | exact d6 | exact hd) ?_ | refine DW_VI tabs rfl (by first | exact la | exact lr) ?_ | refine DW_A tabs rfl ?_ | refine DW_nil ?_ | refine W_A rfl ?_ | refine DW_C rfl klr ?_ | refine DW_C rfl kst ?_ | refine DW_C rfl kasp ?_ | refine W_draw mixed [0, 1, 2, 3, 4, 5, 6, 8, 9, 7, 10, 11, 12, 13, 14, 15, 16, 17, 18, 19, 20, 21, 25, 26, 22, 23, 24, 27, 28, 29, 30, 31, 32, 33, 34, 35, 39, 36, 37, 38, 40, 41] [.P, .P, .P, .P, .P, .P, .P, .R, .P, .P, .R, .R, .P, .P, .P, .P, .P, .P, .P, .P, .P, .P, .R, .R, .R, .P, .P, .R, .R, .R, .P, .P, .P, .P, .P, .P, .R, .R, .R, .P, .P, .P] rfl rfl (by kernel_rfl) ?_)
                  exact ⟨rfl, _, rfl, _, rfl, SubC.of_closed closed_bool⟩
                · repeat' (first | refine DW_VB tabs rfl (by first | exact d3 | exact d6 | exact hd) ?_ | refine DW_VI tabs rfl (by first | exact la | exact lr) ?_ | refine DW_A tabs rfl ?_ | refine DW_nil ?_ | refine W_A rfl ?_ | refine DW_C rfl klr ?_ | refine DW_C rfl kst ?_ | refine DW_C rfl kasp ?_ | refine W_draw mixed [0, 1, 2, 3, 4, 5, 6, 8, 9, 7, 10, 11, 12, 13, 14, 15, 16, 17, 18, 19, 20, 21, 25, 26, 22, 23, 24, 27, 28, 29, 30, 31, 32, 33, 34, 35, 39, 36, 37, 38, 40, 41] [.P, .P, .P, .P, .P, .P, .P, .R, .P, .P, .R, .R, .P, .P, .P, .P, .P, .P, .P, .P, .P, .P, .R, .R, .R, .P, .P, .R, .R, .R, .P, .P, .P, .P, .P, .P, .R, .R, .R, .P, .P, .P] rfl rfl (by kernel_rfl) ?_)
                  exact ⟨rfl, _, rfl, _, rfl, SubC.of_closed closed_bool⟩
              · cases ha : A.any fun e => e.path == p
                · repeat' (first | refine DW_VB tabs rfl (by first | exact d3 | exact d6 | exact hd) ?_ | refine DW_VI tabs rfl (by first | exact la | exact lr) ?_ | refine DW_A tabs rfl ?_ | refine DW_nil ?_ | refine W_A rfl ?_ | refine DW_C rfl klr ?_ | refine DW_C rfl kst ?_ | refine DW_C rfl kasp ?_ | refine W_draw mixed [0, 1, 2, 3, 4, 5, 6, 8, 9, 7, 10, 11, 12, 13, 14, 15, 16, 17, 18, 19, 20, 21, 25, 26, 22, 23, 24, 27, 28, 29, 30, 31, 32, 33, 34, 35, 39, 36, 37, 38, 40, 41] [.P, .P, .P, .P, .P, .P, .P, .R, .P, .P, .R, .R, .P, .P, .P, .P, .P, .P, .P, .P, .P, .P, .R, .R, .R, .P, .P, .R, .R, .R, .P, .P, .P, .P, .P, .P, .R, .R, .R, .P, .P, .P] rfl rfl (by kernel_rfl) ?_)
                  exact ⟨rfl, _, rfl, _, rfl, SubC.of_closed closed_bool⟩
                · repeat' (first | refine DW_VB tabs rfl (by first | exact d3 | exact d6 | exact hd) ?_ | refine DW_VI tabs rfl (by first | exact la | exact lr) ?_ | refine DW_A tabs rfl ?_ | refine DW_nil ?_ | refine W_A rfl ?_ | refine DW_C rfl klr ?_ | refine DW_C rfl kst ?_ | refine DW_C rfl kasp ?_ | refine W_draw mixed [0, 1, 2, 3, 4, 5, 6, 8, 9, 7, 10, 11, 12, 13, 14, 15, 16, 17, 18, 19, 20, 21, 25, 26, 22, 23, 24, 27, 28, 29, 30, 31, 32, 33, 34, 35, 39, 36, 37, 38, 40, 41] [.P, .P, .P, .P, .P, .P, .P, .R, .P, .P, .R, .R, .P, .P, .P, .P, .P, .P, .P, .P, .P, .P, .R, .R, .R, .P, .P, .R, .R, .R, .P, .P, .P, .P, .P, .P, .R, .R, .R, .P, .P, .P] rfl rfl (by kernel_rfl) ?_)
                  exact ⟨rfl, _, rfl, _, rfl, SubC.of_closed closed_bool⟩
            · rw [hop0 p hpp, if_pos rfl] at kasp
              clear hmem hri hroot hmr hsh hln hle kas
              cases hat : atL t.all p w with
              | none =>
                rw [hat] at kasp
                cases ha : A.any fun e => e.path == p
                · unfold Tr.av
                  cases hd : !(dir == [])
                  · repeat' (first | refine DW_VB tabs rfl (by first | exact d3 | exact d6 | exact hd) ?_ | refine DW_VI tabs rfl (by first | exact la | exact lr) ?_ | refine DW_A tabs rfl ?_ | refine DW_nil ?_ | refine W_A rfl ?_ | refine DW_C rfl klr ?_ | refine DW_C rfl kst ?_ | refine DW_C rfl kasp ?_ | refine W_draw mixed [0, 1, 2, 3, 4, 5, 6, 8, 9, 7, 10, 11, 12, 13, 14, 15, 16, 17, 18, 19, 20, 21, 25, 26, 22, 23, 24, 27, 28, 29, 30, 31, 32, 33, 34, 35, 39, 36, 37, 38, 40, 41] [.P, .P, .P, .P, .P, .P, .P, .R, .P, .P, .R, .R, .P, .P, .P, .P, .P, .P, .P, .P, .P, .P, .R, .R, .R, .P, .P, .R, .R, .R, .P, .P, .P, .P, .P, .P, .R, .R, .R, .P, .P, .P] rfl rfl (by kernel_rfl) ?_)
                    exact ⟨rfl, _, rfl, _, rfl, SubC.of_closed closed_bool⟩
                  · repeat' (first | refine DW_VB tabs rfl (by first | exact d3 | exact d6 | exact hd) ?_ | refine DW_VI tabs rfl (by first | exact la | exact lr) ?_ | refine DW_A tabs rfl ?_ | refine DW_nil ?_ | refine W_A rfl ?_ | refine DW_C rfl klr ?_ | refine DW_C rfl kst ?_ | refine DW_C rfl kasp ?_ | refine W_draw mixed [0, 1, 2, 3, 4, 5, 6, 8, 9, 7, 10, 11, 12, 13, 14, 15, 16, 17, 18, 19, 20, 21, 25, 26, 22, 23, 24, 27, 28, 29, 30, 31, 32, 33, 34, 35, 39, 36, 37, 38, 40, 41] [.P, .P, .P, .P, .P, .P, .P, .R, .P, .P, .R, .R, .P, .P, .P, .P, .P, .P, .P, .P, .P, .P, .R, .R, .R, .P, .P, .R, .R, .R, .P, .P, .P, .P, .P, .P, .R, .R, .R, .P, .P, .P] rfl rfl (by kernel_rfl) ?_)
                    exact ⟨rfl, _, rfl, _, rfl, SubC.of_closed closed_bool⟩
                · obtain ⟨e, he⟩ := hin ha
                  rw [hat] at he
                  cases he
              | some e =>
                rw [hat] at kasp
                cases hd : !(dir == [])
                · have hdd : dir = [] := by simpa using hd
                  rw [hou hdd hpp e hat]
                  unfold Tr.av
                  repeat' (first | refine DW_VB tabs rfl (by first | exact d3 | exact d6 | exact hd) ?_ | refine DW_VI tabs rfl (by first | exact la | exact lr) ?_ | refine DW_A tabs rfl ?_ | refine DW_nil ?_ | refine W_A rfl ?_ | refine DW_C rfl klr ?_ | refine DW_C rfl kst ?_ | refine DW_C rfl kasp ?_ | refine W_draw mixed [0, 1, 2, 3, 4, 5, 6, 8, 9, 7, 10, 11, 12, 13, 14, 15, 16, 17, 18, 19, 20, 21, 25, 26, 22, 23, 24, 27, 28, 29, 30, 31, 32, 33, 34, 35, 39, 36, 37, 38, 40, 41] [.P, .P, .P, .P, .P, .P, .P, .R, .P, .P, .R, .R, .P, .P, .P, .P, .P, .P, .P, .P, .P, .P, .R, .R, .R, .P, .P, .R, .R, .R, .P, .P, .P, .P, .P, .P, .R, .R, .R, .P, .P, .P] rfl rfl (by kernel_rfl) ?_)
                  exact ⟨rfl, _, rfl, _, rfl, SubC.of_closed closed_bool⟩
                · unfold Tr.av
                  cases ha : A.any fun e => e.path == p
                  · repeat' (first | refine DW_VB tabs rfl (by first | exact d3 | exact d6 | exact hd) ?_ | refine DW_VI tabs rfl (by first | exact la | exact lr) ?_ | refine DW_A tabs rfl ?_ | refine DW_nil ?_ | refine W_A rfl ?_ | refine DW_C rfl klr ?_ | refine DW_C rfl kst ?_ | refine DW_C rfl kasp ?_ | refine W_draw mixed [0, 1, 2, 3, 4, 5, 6, 8, 9, 7, 10, 11, 12, 13, 14, 15, 16, 17, 18, 19, 20, 21, 25, 26, 22, 23, 24, 27, 28, 29, 30, 31, 32, 33, 34, 35, 39, 36, 37, 38, 40, 41] [.P, .P, .P, .P, .P, .P, .P, .R, .P, .P, .R, .R, .P, .P, .P, .P, .P, .P, .P, .P, .P, .P, .R, .R, .R, .P, .P, .R, .R, .R, .P, .P, .P, .P, .P, .P, .R, .R, .R, .P, .P, .P] rfl rfl (by kernel_rfl) ?_)
                    exact ⟨rfl, _, rfl, _, rfl, SubC.of_closed closed_bool⟩
                  · repeat' (first | refine DW_VB tabs rfl (by first | exact d3 | exact d6 | exact hd) ?_ | refine DW_VI tabs rfl (by first | exact la | exact lr) ?_ | refine DW_A tabs rfl ?_ | refine DW_nil ?_ | refine W_A rfl ?_ | refine DW_C rfl klr ?_ | refine DW_C rfl kst ?_ | refine DW_C rfl kasp ?_ | refine W_draw mixed [0, 1, 2, 3, 4, 5, 6, 8, 9, 7, 10, 11, 12, 13, 14, 15, 16, 17, 18, 19, 20, 21, 25, 26, 22, 23, 24, 27, 28, 29, 30, 31, 32, 33, 34, 35, 39, 36, 37, 38, 40, 41] [.P, .P, .P, .P, .P, .P, .P, .R, .P, .P, .R, .R, .P, .P, .P, .P, .P, .P, .P, .P, .P, .P, .R, .R, .R, .P, .P, .R, .R, .R, .P, .P, .P, .P, .P, .P, .R, .R, .R, .P, .P, .P] rfl rfl (by kernel_rfl) ?_)
                    exact ⟨rfl, _, rfl, _, rfl, SubC.of_closed closed_bool⟩
        · unfold listO at klt
          rw [if_neg hE] at klt
          have d3 : (!decide (openE t.all dir w = 0)) = true := by simp [hE]
          generalize openE t.all dir w = e at *
          unfold Tr.av ldA at kl
          unfold ldA at kb
          unfold lsA ensA Tr.av at klt
          unfold ldA
          repeat' (first | refine DW_VB tabs rfl (by first | exact d1 | exact d2 | exact d3) ?_ | refine DW_A tabs rfl ?_ | refine DW_nil ?_ | refine W_A rfl ?_ | refine DW_C rfl kb ?_ | refine DW_C rfl kl ?_ | refine DW_C rfl klt ?_ | refine DW_C rfl kst ?_ | refine W_draw mixed [0, 1, 2, 3, 4, 5, 6, 8, 9, 7, 10, 11, 12, 13, 14, 15, 16, 17, 18, 19, 20, 21, 25, 26, 22, 23, 24, 27, 28, 29, 30, 31, 32, 33, 34, 35, 39, 36, 37, 38, 40, 41] [.P, .P, .P, .P, .P, .P, .P, .R, .P, .P, .R, .R, .P, .P, .P, .P, .P, .P, .P, .P, .P, .P, .R, .R, .R, .P, .P, .R, .R, .R, .P, .P, .P, .P, .P, .P, .R, .R, .R, .P, .P, .P] rfl rfl (by kernel_rfl) ?_)
          exact ⟨rfl, _, rfl, _, rfl, SubC.of_closed closed_bool⟩
  · rw [hb] at kb
    unfold ldA at *
    repeat' (first | refine DW_A tabs rfl ?_ | refine DW_nil ?_ | refine W_A rfl ?_ | refine DW_C rfl kb ?_ | refine W_draw mixed [0, 1, 2, 3, 4, 5, 6, 8, 9, 7, 10, 11, 12, 13, 14, 15, 16, 17, 18, 19, 20, 21, 25, 26, 22, 23, 24, 27, 28, 29, 30, 31, 32, 33, 34, 35, 39, 36, 37, 38, 40, 41] [.P, .P, .P, .P, .P, .P, .P, .R, .P, .P, .R, .R, .P, .P, .P, .P, .P, .P, .P, .P, .P, .P, .R, .R, .R, .P, .P, .R, .R, .R, .P, .P, .P, .P, .P, .P, .R, .R, .R, .P, .P, .P] rfl rfl (by kernel_rfl) ?_)
    exact ⟨rfl, _, rfl, _, rfl, SubC.of_closed closed_bool⟩
end Go.Proofs.YthdeopopodhimaaGreatDoor

/- Arguments that a row hands in: what was read of them stands for abstract values. -/
set_option linter.unusedVariables false
set_option linter.unusedSimpArgs false
namespace Go.Ab
open Go.RowKit

def mu0 : Mu := fun _ => none
def fr0 : Frm := fun _ _ => False

theorem free0 (b o : Nat) : Free mu0 fr0 b o := ⟨fun h => h, by rintro ⟨id, h | ⟨e, g, h, _⟩⟩ <;> cases h⟩

structure RepCs (w : World) (l : List AV) (cs : List Value) : Prop where
  len : l.length = cs.length
  rep : ∀ (i : Nat) (x : AV) (v : Value), l[i]? = some x → cs[i]? = some v → Rep mu0 fr0 w x v ∧ v.oneCell' = true

def sizeT (τ : Tab) (e : TypeId) : Nat := match lookup τ e with | some i => i.size | none => 0
def elA (τ : Tab) (e : TypeId) (c : List AV) : AV := match lookup τ e with | some i => (if i.agg = true then .agg c else c.getD 0 .top) | none => .top

def shapes (sh : TypeId → List AV → Prop) : List (Nat × TypeId) → List AV → Prop
  | [], l => l = []
  | (_, ft) :: r, l => ∃ a b, l = a ++ b ∧ sh ft a ∧ shapes sh r b

/-- Cells of a type that is made of numbers, bools, strings, slices and structs. -/
def shape (τ : Tab) : Nat → TypeId → List AV → Prop
  | 0, _, _ => False
  | n + 1, t, l =>
    match lookup τ t with
    | none => False
    | some i =>
      match i.k with
      | .int k => ∃ m, l = [.int k m] ∧ (Lit.int k m).wf = true
      | .bool => ∃ b, l = [.bool b]
      | .str => ∃ s, l = [.str s] ∧ s.length ≤ reachBytes
      | .slice e => ∃ xs, l = [.sl (sizeT τ e) xs .none] ∧ xs.length ≤ reachBytes ∧ ∀ x, x ∈ xs → ∃ c, x = elA τ e c ∧ shape τ n e c
      | .struct fs => shapes (shape τ n) fs l
      | _ => False

def offsOK (τ : Tab) : List (Nat × TypeId) → Nat → Nat → Bool
  | [], o, s => o == s
  | (o', ft) :: r, o, s => o' == o && (match lookup τ ft with | some fi => offsOK τ r (o + fi.size) s | none => false)

def plainT (τ : Tab) : Nat → TypeId → Bool
  | 0, _ => false
  | n + 1, t =>
    match lookup τ t with
    | none => false
    | some i =>
      match i.k with
      | .int _ => true
      | .bool => true
      | .str => true
      | .slice e => plainT τ n e && (match lookup τ e with | some ei => decide (0 < ei.size) && decide (0 < ei.bytes) && (ei.agg || ei.size == 1) | none => false)
      | .struct fs => fs.all (fun p => plainT τ n p.2) && offsOK τ fs 0 i.size
      | _ => false

section
variable {H : Type} {enc : TypeId × Value → H} {P : Program} {τ : Tab} {w : World} {base : Nat} {spare : Nat → Bool} {held : Bool}

theorem repCs_one {x : AV} {v : Value} (h : Rep mu0 fr0 w x v) (h1 : v.oneCell' = true) : RepCs w [x] [v] := by
  refine ⟨rfl, ?_⟩
  intro i y u hy hu
  cases i with
  | zero => cases hy; cases hu; exact ⟨h, h1⟩
  | succ i => simp at hy

theorem repCs_app {l m : List AV} {c d : List Value} (h : RepCs w l c) (k : RepCs w m d) : RepCs w (l ++ m) (c ++ d) := by
  refine ⟨by simp [h.len, k.len], ?_⟩
  intro i x v hx hv
  by_cases hi : i < l.length
  · rw [List.getElem?_append_left hi] at hx
    rw [List.getElem?_append_left (by rw [← h.len]; exact hi)] at hv
    exact h.rep i x v hx hv
  · rw [List.getElem?_append_right (by omega)] at hx
    rw [List.getElem?_append_right (by rw [← h.len]; omega), ← h.len] at hv
    exact k.rep _ x v hx hv

/-- The fields, one after the other. -/
theorem fields_rep {n : Nat} {cs : List Value} {size : Nat} (hlen : cs.length = size) : ∀ (fs : List (Nat × TypeId)) (o : Nat), offsOK τ fs o size = true → o ≤ size →
    (∀ p, p ∈ fs → ∀ fi, lookup τ p.2 = some fi → ∃ l, RepCs w l ((cs.drop p.1).take fi.size) ∧ shape τ n p.2 l) → ∃ l, RepCs w l (cs.drop o) ∧ shapes (shape τ n) fs l
  | [], o, h, ho, _ => by
    simp only [offsOK, beq_iff_eq] at h
    refine ⟨[], ⟨by simp [hlen, h], by simp⟩, rfl⟩
  | (o', ft) :: r, o, h, ho, hall => by
    simp only [offsOK, Bool.and_eq_true, beq_iff_eq] at h
    obtain ⟨h1, h2⟩ := h
    subst h1
    split at h2
    case h_2 => cases h2
    rename_i fi hfi
    obtain ⟨a, ha, hsa⟩ := hall (o', ft) List.mem_cons_self fi hfi
    have hle : o' + fi.size ≤ size := by
      clear hall ha hsa
      have key : ∀ (r : List (Nat × TypeId)) (o : Nat), offsOK τ r o size = true → o ≤ size := by
        intro r
        induction r with
        | nil => intro o h; simp only [offsOK, beq_iff_eq] at h; omega
        | cons p r ih =>
          intro o h
          obtain ⟨po, pt⟩ := p
          simp only [offsOK, Bool.and_eq_true, beq_iff_eq] at h
          obtain ⟨h3, h4⟩ := h
          split at h4
          · have := ih _ h4; omega
          · cases h4
      exact key r _ h2
    obtain ⟨b, hb, hsb⟩ := fields_rep hlen r (o' + fi.size) h2 hle (fun p hp => hall p (List.mem_cons_of_mem _ hp))
    refine ⟨a ++ b, ?_, a, b, rfl, hsa, hsb⟩
    have e : cs.drop o' = (cs.drop o').take fi.size ++ cs.drop (o' + fi.size) := by
      rw [← List.drop_drop]
      exact (List.take_append_drop _ _).symm
    rw [e]
    exact repCs_app ha hb

theorem weightsAll_get {e : TypeId} : ∀ {l : List (DataW H)}, (DataW.weightsAll P e l).all (· ≤ reachBytes) = true → ∀ {i : Nat} {d : DataW H}, l[i]? = some d → (d.weights P e).all (· ≤ reachBytes) = true
  | [], _, i, _, hd => by simp at hd
  | a :: r, h, 0, d, hd => by
    cases hd
    simp only [DataW.weightsAll, List.all_append, Bool.and_eq_true] at h
    exact h.1
  | a :: r, h, i + 1, d, hd => by
    simp only [DataW.weightsAll, List.all_append, Bool.and_eq_true] at h
    exact weightsAll_get h.2 hd
theorem weightsEach_get : ∀ {ts : List TypeId} {l : List (DataW H)}, (DataW.weightsEach P ts l).all (· ≤ reachBytes) = true → ∀ {i : Nat} {t : TypeId} {d : DataW H}, ts[i]? = some t → l[i]? = some d → (d.weights P t).all (· ≤ reachBytes) = true
  | [], _, _, i, _, _, ht, _ => by simp at ht
  | _ :: _, [], _, i, _, _, _, hd => by simp at hd
  | t :: ts, a :: r, h, 0, _, d, ht, hd => by
    cases hd
    cases ht
    simp only [DataW.weightsEach, List.all_append, Bool.and_eq_true] at h
    exact h.1
  | t :: ts, a :: r, h, i + 1, _, d, ht, hd => by
    simp only [DataW.weightsEach, List.all_append, Bool.and_eq_true] at h
    exact weightsEach_get h.2 ht hd

theorem trod_rep (hτ : TabOK P τ) : ∀ (n fuel : Nat) (t : TypeId) (cs : List Value) (x : DataW H × List MemPlace), plainT τ n t = true → DataW.trod enc P w base spare held fuel t cs = some x → (x.1.weights P t).all (· ≤ reachBytes) = true →
    ∃ l, RepCs w l cs ∧ shape τ n t l
  | 0, _, _, _, _, h, _, _ => by cases h
  | n + 1, fuel, t, cs, x, hp, h, hwt => by
    simp only [plainT] at hp
    split at hp
    case h_1 => cases hp
    rename_i i hi
    obtain ⟨f, fd, z, HI⟩ := TI.spec hτ hi
    have hf := HI.fits
    have hu := HI.und
    have hfuel : ∃ m, fuel = m + 1 := by
      cases fuel with
      | zero => simp [DataW.trod] at h
      | succ m => exact ⟨m, rfl⟩
    obtain ⟨m, rfl⟩ := hfuel
    have hsh : ∀ l, shape τ (n + 1) t l = (match i.k with
      | .int k => ∃ m, l = [.int k m] ∧ (Lit.int k m).wf = true
      | .bool => ∃ b, l = [.bool b]
      | .str => ∃ s, l = [.str s] ∧ s.length ≤ reachBytes
      | .slice e => ∃ xs, l = [.sl (sizeT τ e) xs .none] ∧ xs.length ≤ reachBytes ∧ ∀ x, x ∈ xs → ∃ c, x = elA τ e c ∧ shape τ n e c
      | .struct fs => shapes (shape τ n) fs l
      | _ => False) := fun l => by simp only [shape, hi]
    split at hp
    · rename_i k hk
      rw [hk] at hf
      cases fd <;> simp [TK.fits] at hf
      subst hf
      obtain ⟨n0, hcs, _, hwf⟩ := DataW.trod_int hu h
      subst hcs
      refine ⟨[.int k n0], repCs_one (.int _ _) rfl, ?_⟩
      rw [hsh, hk]
      exact ⟨n0, rfl, hwf⟩
    · rename_i hk
      rw [hk] at hf
      cases fd <;> simp [TK.fits] at hf
      obtain ⟨b0, hcs, _⟩ := DataW.trod_bool hu h
      subst hcs
      refine ⟨[.bool b0], repCs_one (.bool _) rfl, ?_⟩
      rw [hsh, hk]
      exact ⟨b0, rfl⟩
    · rename_i hk
      rw [hk] at hf
      cases fd <;> simp [TK.fits] at hf
      obtain ⟨s0, hcs, hx0, _⟩ := DataW.trod_string hu h
      subst hcs
      rw [hx0] at hwt
      have hle : s0.data.toList.length ≤ reachBytes := by simpa [DataW.weights] using hwt
      have hs := Rep.str (μ := mu0) (F := fr0) (w := w) s0.data.toList
      refine ⟨[.str s0.data.toList], repCs_one (by simpa using hs) rfl, ?_⟩
      rw [hsh, hk]
      exact ⟨_, rfl, hle⟩
    · rename_i e hk
      rw [hk] at hf
      cases fd <;> simp [TK.fits] at hf
      subst hf
      simp only [Bool.and_eq_true] at hp
      obtain ⟨hpe, hp2⟩ := hp
      split at hp2
      case h_2 => cases hp2
      rename_i ei hei
      simp only [Bool.and_eq_true, decide_eq_true_eq] at hp2
      obtain ⟨⟨hpos, hby⟩, hone⟩ := hp2
      obtain ⟨fe, de, ze, HE⟩ := TI.spec hτ hei
      have hce : P.cellsOf e = ei.size := HE.cellsOf
      have hsz : sizeT τ e = ei.size := by simp [sizeT, hei]
      rcases DataW.trod_slice hu h with ⟨rfl, _⟩ | ⟨a, len, cap, elems, rest, m', hm', rfl, hx0, hb, hlc, hcm, hel, hall, _⟩
      · refine ⟨[.sl ei.size [] .none], repCs_one ?_ rfl, ?_⟩
        · exact Rep.sl _ [] .none none 0 ⟨0, 0, none⟩ (fun _ => undef) (by simp) (by simp) (by simp) (by simp) (by simp) (by simp) trivial
        · rw [hsh, hk]
          exact ⟨[], by rw [hsz], by simp, by simp⟩
      · rw [hx0] at hwt
        have hbe : P.bytesOf e = ei.bytes := by simp [Program.bytesOf, HE.info, HE.bytes]
        simp only [DataW.weights, hu, List.all_cons, List.all_append, Bool.and_eq_true, decide_eq_true_eq, List.length_map] at hwt
        obtain ⟨hw1, hw2, _⟩ := hwt
        rw [hbe, hel] at hw1
        have hlr : len ≤ reachBytes := by
          have h1 : (len + rest.length) * 1 ≤ (len + rest.length) * ei.bytes := Nat.mul_le_mul_left _ hby
          omega
        have hget : ∀ i, i < len → ∃ cs' l, (w.cells? base (a.add (i * ei.size)) ei.size = some cs') ∧ RepCs w l cs' ∧ shape τ n e l := by
          intro i hi'
          have h1 := hall i hi'
          rw [hce] at h1
          have h2 : ∃ y, elems[i]? = some y := ⟨_, List.getElem?_eq_getElem (by omega)⟩
          obtain ⟨y, hy⟩ := h2
          rw [hy] at h1
          obtain ⟨cs', h3, h4⟩ := Option.bind_eq_some_iff.1 h1
          obtain ⟨l, h5, h6⟩ := trod_rep hτ n _ e cs' y hpe h4 (weightsAll_get hw2 (i := i) (by rw [List.getElem?_map, hy]; rfl))
          exact ⟨cs', l, h3, h5, h6⟩
        have hget' : ∀ i : Nat, ∃ p : List Value × List AV, i < len → (w.cells? base (a.add (i * ei.size)) ei.size = some p.1) ∧ RepCs w p.2 p.1 ∧ shape τ n e p.2 := by
          intro i
          by_cases hi' : i < len
          · obtain ⟨cs', l, h1, h2, h3⟩ := hget i hi'
            exact ⟨(cs', l), fun _ => ⟨h1, h2, h3⟩⟩
          · exact ⟨([], []), fun h => absurd h hi'⟩
        obtain ⟨CL, hCL0⟩ := Classical.axiomOfChoice hget'
        obtain ⟨C, hC⟩ : ∃ C : Nat → List Value, ∀ i, C i = (CL i).1 := ⟨_, fun _ => rfl⟩
        obtain ⟨L, hL0⟩ : ∃ L : Nat → List AV, ∀ i, L i = (CL i).2 := ⟨_, fun _ => rfl⟩
        have hCL : ∀ i, i < len → (w.cells? base (a.add (i * ei.size)) ei.size = some (C i)) ∧ RepCs w (L i) (C i) ∧ shape τ n e (L i) := by
          intro i hi'
          rw [hC, hL0]
          exact hCL0 i hi'
        have hlenL : ∀ i, i < len → (L i).length = ei.size := by
          intro i hi'
          obtain ⟨h1, h2, _⟩ := hCL i hi'
          rw [h2.len]
          exact (World.cells?_some h1).2.1
        have hcells : ∀ i, i < len → (elA τ e (L i)).cells = L i := by
          intro i hi'
          have h1 := hlenL i hi'
          simp only [elA, hei]
          by_cases hagg : ei.agg = true
          · simp [hagg, AV.cells]
          · have h1' : ei.size = 1 := by
              rcases Bool.or_eq_true _ _ ▸ hone with h | h
              · exact absurd h hagg
              · simpa using h
            rw [if_neg hagg]
            rw [h1'] at h1
            match hL : L i, h1 with
            | [y], _ =>
              obtain ⟨g1, g2, g3⟩ := hCL i hi'
              have hcl : (C i).length = 1 := by rw [← g2.len, hL]; rfl
              obtain ⟨v, hv⟩ : ∃ v, (C i)[0]? = some v := ⟨_, List.getElem?_eq_getElem (by omega)⟩
              have hr := g2.rep 0 y v (by rw [hL]; rfl) hv
              simp only [List.getD_cons_zero]
              cases y <;> first | rfl | skip
              obtain ⟨c, rfl, _⟩ := hr.1.agg_inv
              simp [Value.oneCell'] at hr
        have hspot : 0 < len → a.spot = none := by
          intro h0
          obtain ⟨h1, _⟩ := hCL 0 h0
          obtain ⟨_, g2, g3⟩ := World.cells?_some h1
          have h4 := g3 0 hpos
          have h5 : ∃ v, (C 0)[0]? = some v := ⟨_, List.getElem?_eq_getElem (by omega)⟩
          obtain ⟨v, hv⟩ := h5
          rw [hv] at h4
          simpa [Addr.add] using World.cell?_spot h4
        refine ⟨[.sl ei.size ((List.range len).map fun i => elA τ e (L i)) .none], repCs_one ?_ rfl, ?_⟩
        · have hxs : ∀ (i : Nat) (x : AV), ((List.range len).map fun i => elA τ e (L i))[i]? = some x → i < len ∧ x = elA τ e (L i) := by
            intro i x hx
            simp only [List.getElem?_map, List.getElem?_range, Option.map_eq_some_iff] at hx
            by_cases hi' : i < len
            · simp [hi'] at hx
              exact ⟨hi', hx.symm⟩
            · simp [hi'] at hx
          have hl0 : ((List.range len).map fun i => elA τ e (L i)).length = len := by simp
          have hv : Value.slice (some a) len cap = Value.slice (some a) ((List.range len).map fun i => elA τ e (L i)).length cap := by rw [hl0]
          rw [hv]
          refine Rep.sl ei.size _ .none (some a) cap a (fun p => (C (p / ei.size)).getD (p % ei.size) undef) ?_ (by rw [hl0]; exact hlc) ?_ ?_ ?_ ?_ trivial
          · intro x hx
            obtain ⟨i, hi'⟩ := List.getElem?_of_mem hx
            obtain ⟨h1, rfl⟩ := hxs i x hi'
            rw [hcells i h1]
            exact hlenL i h1
          · intro h0
            rw [hl0] at h0
            exact ⟨rfl, hspot h0⟩
          all_goals
            intro i x j c hx hc
            obtain ⟨h1, rfl⟩ := hxs i x hx
            rw [hcells i h1] at hc
            obtain ⟨g1, g2, g3⟩ := hCL i h1
            have hj : j < ei.size := by rw [← hlenL i h1]; exact (List.getElem?_eq_some_iff.1 hc).1
            have hd : (i * ei.size + j) / ei.size = i := by
              rw [Nat.mul_comm, Nat.mul_add_div hpos, Nat.div_eq_of_lt hj, Nat.add_zero]
            have hmd : (i * ei.size + j) % ei.size = j := by
              rw [Nat.mul_comm, Nat.mul_add_mod, Nat.mod_eq_of_lt hj]
            have hcl : j < (C i).length := by rw [← g2.len, hlenL i h1]; exact hj
            have hval : (C i).getD j undef = (C i)[j] := by simp [List.getD, List.getElem?_eq_getElem hcl]
            have hr := g2.rep j c _ hc (List.getElem?_eq_getElem hcl)
            simp only [hd, hmd, hval]
          · exact hr.2
          · refine ⟨?_, free0 _ _⟩
            obtain ⟨_, k2, k3⟩ := World.cells?_some g1
            have k4 := k3 j hj
            rw [List.getElem?_eq_getElem hcl] at k4
            rw [← k4]
            have hs := hspot (by omega)
            obtain ⟨ab, ao, ags⟩ := a
            simp only at hs
            subst hs
            congr 1
            rw [Addr.add_lit, Addr.add_lit]
            simp [Nat.add_assoc]
          · exact hr.1
        · rw [hsh, hk]
          refine ⟨_, by rw [hsz], by simp; exact hlr, ?_⟩
          intro x hx
          obtain ⟨i, hi', rfl⟩ := List.mem_map.1 hx
          exact ⟨L i, rfl, (hCL i (List.mem_range.1 hi')).2.2⟩
    · rename_i fs hk
      rw [hk] at hf
      cases fd <;> simp [TK.fits] at hf
      rename_i gs
      simp only [Bool.and_eq_true] at hp
      obtain ⟨hpf, hoffs⟩ := hp
      obtain ⟨xs, n', _, hx0, hcl, hxl, hget⟩ := DataW.trod_struct hu h
      rw [hx0] at hwt
      simp only [DataW.weights, hu] at hwt
      have hci : P.cellsOf t = i.size := HI.cellsOf
      rw [hci] at hcl
      obtain ⟨l, h1, h2⟩ := fields_rep (n := n) hcl fs 0 hoffs (Nat.zero_le _) (by
        intro p hpm fi hfi
        have hp1 : plainT τ n p.2 = true := List.all_eq_true.1 hpf p hpm
        rw [← hf] at hpm
        obtain ⟨g, hg, rfl⟩ := List.mem_map.1 hpm
        obtain ⟨j, hj⟩ := List.getElem?_of_mem hg
        have hgj : gs[j]? = some g := by simpa using hj
        have h3 := hget j g hgj
        have hj2 : j < xs.length := by rw [hxl]; exact (Array.getElem?_eq_some_iff.1 hgj).1
        rw [List.getElem?_eq_getElem hj2] at h3
        obtain ⟨ff, fd', fz, HF⟩ := TI.spec hτ hfi
        rw [HF.cellsOf] at h3
        exact trod_rep hτ n _ _ _ _ hp1 h3 (weightsEach_get hwt (i := j) (by rw [List.getElem?_map, hj]; rfl) (by rw [List.getElem?_map, List.getElem?_eq_getElem hj2]; rfl)))
      refine ⟨l, by simpa using h1, ?_⟩
      rw [hsh, hk]
      exact h2
    · cases hp
end
end Go.Ab
