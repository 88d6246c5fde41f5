/- Of any pairs just these deltas are told between two times. No further condition. -/
import Derived.Test.YthdeopopodhimaaGreatDoorDifH
import Derived.Test.YthdeopopodhimaaGreatDoorStD5
set_option linter.unusedVariables false
set_option linter.unusedSimpArgs false
namespace Go.Proofs.YthdeopopodhimaaGreatDoor
open Go.Ab

set_option maxRecDepth 100000 in
set_option maxHeartbeats 8000000 in
theorem dmade_ok (l : List Pr) (tg : Tag) (hl : l.length < 1000) : APure Tryz.prog 25 [.sl 3 (l.map Pr.av) tg] (laidT l).av := by
  intro M
  refine acalls_of tabOK Tryz.func25 rfl (by decide) (by simp [Tryz.f25]) ?_
  have la := len_map Pr.av l
  have k0 := new_ok
  repeat' (first | refine DW_A tabs rfl ?_ | refine DW_nil ?_ | refine W_A rfl ?_ | refine DW_C rfl k0 ?_ | refine DW_nilc tabOK rfl ?_)
  refine W_count l.length (fun i f N => N = M ∧ (True) ∧ f = ⟨[(0, .sl 3 (l.map Pr.av) tg), (3, (laidT (l.take i)).av), (4, .int .i64 (i : Int))], []⟩) (Nat.zero_le _) ⟨rfl, trivial, rfl⟩ (Joint.le ?_ (Mem.le_refl _)) ?_
  · skip
    repeat (refine AF.le_cons rfl ?_)
    exact AF.le_nil rfl
  rintro i f N hi ⟨rfl, hinv, rfl⟩
  by_cases h1 : i < l.length
  · have d1 : decide ((i : Int) < (l.length : Int)) = true := by simp; omega
    have hx : l[i]? = some l[i] := List.getElem?_eq_getElem h1
    have fi := wrap_succ (i := i) (by omega)
    have ht := take_succ hx
    have hm := List.getElem_mem h1
    generalize l[i] = x at hx ht hm
    have hall := (laid_all (l := l.take i) (by simp; omega))
    have kp := putT_ok (t := laidT (l.take i)) (p := x) (by rw [hall.1]; have := hall.2; simp at this; omega)
    rw [← laidT_step ht] at kp
    unfold Tr.av at kp ⊢
    repeat' (first | refine DW_VB tabs rfl d1 ?_ | refine DW_VI tabs rfl (by first | exact fi | exact la) ?_ | refine DW_A tabs rfl ?_ | refine DW_nil ?_ | refine W_A rfl ?_ | refine DW_C rfl kp ?_ | refine DW_ix tabOK rfl (ixN hx) ?_ | refine DW_nilc tabOK rfl ?_)
    refine ⟨h1, _, _, ⟨rfl, trivial, rfl⟩, Joint.le ?_ (Mem.le_refl _)⟩
    repeat (refine AF.le_cons rfl ?_)
    exact AF.le_nil rfl
  · have d1 : decide ((i : Int) < (l.length : Int)) = false := by simp; omega
    obtain rfl : i = l.length := by omega
    rw [take_all]
    repeat' (first | refine DW_VB tabs rfl d1 ?_ | refine DW_VI tabs rfl la ?_ | refine DW_A tabs rfl ?_ | refine DW_nil ?_ | refine W_A rfl ?_ | refine DW_nilc tabOK rfl ?_)
    exact ⟨rfl, _, rfl, rfl, rfl⟩
set_option maxRecDepth 100000 in
set_option maxHeartbeats 8000000 in
theorem rdOf_ok (l : List Pr) (hl : l.length < 1000000) (hv : ∀ p, p ∈ l → p.key.path.length < 99999 ∧ p.val.length < 1000000) (hr : Rise l) (dir : Bytes) (hp : dir.length < 99999) (u v : Int) : APure Tryz.prog 27 [prA l, .str dir, .int .i64 u, .int .i64 v] (dlO (ofD l dir u v)) := by
  refine pure_sub (closedL_cons (closed_prA l) (closed3 closed_str closed_int closed_int)) (closed_dlO _) ?_
  refine acalls_of tabOK Tryz.func27 rfl (by decide) (by simp [Tryz.f27]) ?_
  have l1 := rList_ok l hl hv hr dir hp u
  have l2 := rList_ok l hl hv hr dir hp v
  have s1 := listO_small hr hl dir u
  have s2 := listO_small hr hl dir v
  unfold ofD
  generalize listO l dir u = x at *
  generalize listO l dir v = y at *
  obtain ⟨a, e⟩ := x
  obtain ⟨b, e2⟩ := y
  have ke := rentries_ok a b s1 s2
  unfold lsA at l1 l2
  by_cases h1 : e = 0
  · subst h1
    by_cases h2 : e2 = 0
    · subst h2
      rw [if_pos rfl, if_pos rfl]
      have hc := closed_dlO (ents a b, 0)
      unfold ents dlO at hc
      unfold prA ensA at *
      repeat' (first | refine DW_A tabs rfl ?_ | refine DW_nil ?_ | refine W_A rfl ?_ | refine DW_C rfl l1 ?_ | refine DW_C rfl l2 ?_ | refine DW_C rfl ke ?_)
      exact ⟨rfl, _, rfl, _, rfl, SubC.of_closed hc⟩
    · have d2 : (!decide (e2 = 0)) = true := by simp [h2]
      rw [if_pos rfl, if_neg h2]
      unfold prA ensA at *
      repeat' (first | refine DW_VB tabs rfl d2 ?_ | refine DW_A tabs rfl ?_ | refine DW_nil ?_ | refine W_A rfl ?_ | refine DW_C rfl l1 ?_ | refine DW_C rfl l2 ?_)
      exact ⟨rfl, _, rfl, _, rfl, SubC.tup2 SubC.nil (SubC.of_closed closed_int)⟩
  · have d1 : (!decide (e = 0)) = true := by simp [h1]
    rw [if_neg h1]
    unfold prA ensA at *
    repeat' (first | refine DW_VB tabs rfl d1 ?_ | refine DW_A tabs rfl ?_ | refine DW_nil ?_ | refine W_A rfl ?_ | refine DW_C rfl l1 ?_ | refine DW_C rfl l2 ?_)
    exact ⟨rfl, _, rfl, _, rfl, SubC.tup2 SubC.nil (SubC.of_closed closed_int)⟩
theorem dmade_small {l : List Pr} (h : bigB l = false) : (laidT l).all.length ≤ 80 ∧ valsB (laidT l).all ∧ ∀ q, q ∈ (laidT l).all → q.key.path.length < 99999 ∧ q.val.length < 1000000 := by
  obtain ⟨h1, h2⟩ := bigB_no h
  obtain ⟨h3, h4⟩ := laid_all (l := l) (by omega)
  refine ⟨by rw [h3]; omega, fun p hp => ?_, fun p hp => ?_⟩
  · rw [h3] at hp
    have := h2 p (laid_mem hp)
    exact ⟨by omega, by omega⟩
  · rw [h3] at hp
    have := h2 p (laid_mem hp)
    exact ⟨by omega, by omega⟩
set_option maxRecDepth 100000 in
set_option maxHeartbeats 8000000 in
theorem diffOf_ok (l : List Pr) (dir : Bytes) (u v : Int) (hl : l.length < 4611686018427387904) : APure Tryz.prog 5 [prA l, .str dir, .int .i64 u, .int .i64 v] (.bool true) := by
  intro M
  refine acalls_of tabOK Tryz.func5 rfl (by decide) (by simp [Tryz.f5]) ?_
  have kb := big_ok l .none hl
  cases h : bigB l
  · rw [h] at kb
    by_cases h3 : 300 < dir.length
    · have d1 : decide ((300 : Int) < (dir.length : Int)) = true := decide_eq_true (by omega)
      unfold prA at *
      repeat' (first | refine DW_VB tabs rfl d1 ?_ | refine DW_A tabs rfl ?_ | refine DW_nil ?_ | refine W_A rfl ?_ | refine DW_C rfl kb ?_)
      exact ⟨rfl, _, rfl, rfl, rfl⟩
    · have d1 : decide ((300 : Int) < (dir.length : Int)) = false := decide_eq_false (by omega)
      obtain ⟨hn, ks, kpl⟩ := dmade_small h
      have km := dmade_ok l .none (by have := (bigB_no h).1; omega)
      have kd := diffs_ok
      generalize laidT l = T at *
      have hr := T.rise
      change Rise T.all at hr
      have ka := tAll_ok T (by omega)
      have o1 := of16_ok T (by omega) ks dir (by omega) u v
      have o2 := rdOf_ok T.all (by omega) kpl hr dir (by omega) u v
      have hlen := ofD_len T.all dir u v
      generalize ofD T.all dir u v = z at *
      have sD := dlSame_ok z.1 z.1 .none .none (by omega) (by omega)
      rw [decide_eq_true rfl] at sD
      have c1 : decide (z.2 = z.2) = true := by simp
      unfold dlO at o1 o2
      unfold prA dlA at *
      unfold Tr.av at km ka o1
      repeat' (first | refine DW_VB tabs rfl (by first | exact d1 | exact c1) ?_ | refine DW_A tabs rfl ?_ | refine DW_nil ?_ | refine W_A rfl ?_ | refine DW_C rfl kb ?_ | refine DW_C rfl km ?_ | refine DW_C rfl ka ?_ | refine DW_C rfl o1 ?_ | refine DW_C rfl o2 ?_ | refine DW_C rfl sD ?_ | refine DW_C rfl kd ?_)
      exact ⟨rfl, _, rfl, rfl, rfl⟩
  · rw [h] at kb
    unfold prA at *
    repeat' (first | refine DW_A tabs rfl ?_ | refine DW_nil ?_ | refine W_A rfl ?_ | refine DW_C rfl kb ?_)
    exact ⟨rfl, _, rfl, rfl, rfl⟩
end Go.Proofs.YthdeopopodhimaaGreatDoor
