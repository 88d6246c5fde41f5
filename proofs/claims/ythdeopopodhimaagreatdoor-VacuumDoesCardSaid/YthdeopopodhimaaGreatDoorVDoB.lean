/- Of, Run and Live by the document. No further condition. -/
import Derived.Test.YthdeopopodhimaaGreatDoorVDoA
import Derived.Test.YthdeopopodhimaaGreatDoorV26
set_option linter.unusedVariables false
set_option linter.unusedSimpArgs false
namespace Go.Proofs.YthdeopopodhimaaGreatDoor
open Go.Ab

theorem filt_step {l : List Pr} {i : Nat} {x : Pr} (q : Pr → Bool) (ht : l.take (i + 1) = l.take i ++ [x]) : (l.take (i + 1)).filter q = if q x = true then (l.take i).filter q ++ [x] else (l.take i).filter q := by
  rw [ht, List.filter_append]
  cases h : q x
  · simp [h]
  · simp [h]
noncomputable def dk (l : List Pr) (w : Int) (i : Nat) : List Ky := ((l.take i).filter (deadB l w)).map (·.key)
noncomputable def rofF (l : List Pr) (w : Int) (i g : Nat) : AF := ⟨[(0, prA l), (1, .int .i64 w), (6, .sl 2 ((dk l w i).map Ky.av) (.tok 0 g)), (7, .int .i64 (i : Int))], []⟩
set_option maxRecDepth 100000 in
set_option maxHeartbeats 8000000 in
theorem rOf_ok (l : List Pr) (w : Int) (hl : l.length < 1000000) (hv : valsB l) (hr : Rise l) : APure Tryz.prog 16 [prA l, .int .i64 w] (ofA (ofO l w)) := by
  refine pure_sub (closed2 (closed_prA l) closed_int) (closed_ofA _) ?_
  refine acalls_of tabOK Tryz.func16 rfl (by decide) (by simp [Tryz.f16]) ?_
  have ki := rStIs_ok l hl hv
  have la := len_map Pr.av l
  have hcl := closed_prA l
  cases h : vOk l w
  · rw [ofO_no h]
    unfold ofA
    unfold vOk at h
    cases h2 : isSt l
    · rw [h2] at ki
      unfold prA at *
      repeat' (first | refine DW_A tabs rfl ?_ | refine DW_nil ?_ | refine W_A rfl ?_ | refine DW_C rfl ki ?_ | refine DW_row tabOK rfl ?_ | refine DW_app tabOK rfl rfl (by simp; omega) (by simp; omega) ?_ | refine DW_app0 tabOK rfl (by simp; omega) (by simp; omega) ?_)
      exact ⟨rfl, _, rfl, _, rfl, SubC.tup2 SubC.nil (SubC.of_closed closed_int)⟩
    · rw [h2] at ki h
      have d1 : decide (w < 0) = true := by simpa using h
      unfold prA at *
      repeat' (first | refine DW_VB tabs rfl d1 ?_ | refine DW_A tabs rfl ?_ | refine DW_nil ?_ | refine W_A rfl ?_ | refine DW_C rfl ki ?_ | refine DW_row tabOK rfl ?_ | refine DW_app tabOK rfl rfl (by simp; omega) (by simp; omega) ?_ | refine DW_app0 tabOK rfl (by simp; omega) (by simp; omega) ?_)
      exact ⟨rfl, _, rfl, _, rfl, SubC.tup2 SubC.nil (SubC.of_closed closed_int)⟩
  · rw [ofO_yes h, scan_dead hr]
    unfold vOk at h
    simp at h
    rw [h.1] at ki
    have d0 : decide (w < 0) = false := by simp; omega
    unfold ofA
    unfold prA at *
    repeat' (first | refine DW_VB tabs rfl d0 ?_ | refine DW_A tabs rfl ?_ | refine DW_nil ?_ | refine W_A rfl ?_ | refine DW_C rfl ki ?_ | refine DW_row tabOK rfl ?_ | refine DW_app tabOK rfl rfl (by simp; omega) (by simp; omega) ?_ | refine DW_app0 tabOK rfl (by simp; omega) (by simp; omega) ?_)
    refine W_count l.length (fun i f N => ∃ g, N = tokM g ∧ f = rofF l w i g) (Nat.zero_le _) ⟨0, rfl, rfl⟩ ((Joint.tok 6 rfl (sz' := 2) (.inr rfl)).trans (Joint.le ?_ (tokM_of rfl rfl))) ?_
    · unfold rofF dk prA
      repeat (refine AF.le_cons rfl ?_)
      exact AF.le_nil rfl
    rintro i f N hi ⟨g, rfl, rfl⟩
    unfold rofF prA
    have lo := len_map Ky.av (dk l w i)
    have hob : (dk l w i).length ≤ i := by
      have := List.length_filter_le (deadB l w) (l.take i)
      unfold dk
      simp at this ⊢
      omega
    by_cases h1 : i < l.length
    · have d1 : decide ((i : Int) < (l.length : Int)) = true := by simp; omega
      have hx : l[i]? = some l[i] := List.getElem?_eq_getElem h1
      have fi := wrap_succ (i := i) (by omega)
      have ht := take_succ hx
      have hm := List.getElem_mem h1
      have hst := filt_step (deadB l w) ht
      generalize l[i] = x at *
      have kd := rDead_ok l i x w hl hx (hv x hm).2
      unfold prA at kd
      cases hd : deadB l w x
      · rw [hd] at kd hst
        repeat' (first | refine DW_VB tabs rfl d1 ?_ | refine DW_VI tabs rfl (by first | exact la | exact fi) ?_ | refine DW_A tabs rfl ?_ | refine DW_nil ?_ | refine W_A rfl ?_ | refine DW_C rfl kd ?_ | refine DW_ix tabOK rfl (ixN hx) ?_ | refine DW_row tabOK rfl ?_ | refine DW_app tabOK rfl rfl (by simp; omega) (by simp; omega) ?_ | refine DW_app0 tabOK rfl (by simp; omega) (by simp; omega) ?_)
        refine ⟨h1, rofF l w (i + 1) g, tokM g, ⟨g, rfl, rfl⟩, ?_⟩
        refine Joint.le ?_ (tokM_of rfl rfl)
        have e : dk l w (i + 1) = dk l w i := by unfold dk; rw [hst]; rfl
        unfold rofF prA
        rw [e]
        repeat (refine AF.le_cons rfl ?_)
        exact AF.le_nil rfl
      · rw [hd] at kd hst
        repeat' (first | refine DW_VB tabs rfl d1 ?_ | refine DW_VI tabs rfl (by first | exact la | exact lo | exact fi) ?_ | refine DW_A tabs rfl ?_ | refine DW_nil ?_ | refine W_A rfl ?_ | refine DW_C rfl kd ?_ | refine DW_ix tabOK rfl (ixN hx) ?_ | refine DW_row tabOK rfl ?_ | refine DW_app tabOK rfl rfl (by simp; omega) (by simp; omega) ?_ | refine DW_app0 tabOK rfl (by simp; omega) (by simp; omega) ?_)
        refine ⟨h1, rofF l w (i + 1) (g + 1), tokM (g + 1), ⟨g + 1, rfl, rfl⟩, ?_⟩
        refine Joint.le ?_ (tokM_of rfl rfl)
        have e : AV.sl 2 ((dk l w (i + 1)).map Ky.av) (.tok 0 (g + 1)) = .sl 2 ((dk l w i).map Ky.av ++ [x.key.av]) (.tok 0 (g + 1)) := by unfold dk; rw [hst]; simp
        unfold rofF prA
        rw [e]
        repeat (refine AF.le_cons rfl ?_)
        exact AF.le_nil rfl
    · have d1 : decide ((i : Int) < (l.length : Int)) = false := by simp; omega
      obtain rfl : i = l.length := by omega
      have hk := closed_kys (dk l w l.length)
      rw [show (l.filter (deadB l w)).map (·.key) = dk l w l.length by unfold dk; rw [List.take_length]]
      repeat' (first | refine DW_VB tabs rfl d1 ?_ | refine DW_VI tabs rfl la ?_ | refine DW_A tabs rfl ?_ | refine DW_nil ?_ | refine W_A rfl ?_ | refine DW_row tabOK rfl ?_ | refine DW_app tabOK rfl rfl (by simp; omega) (by simp; omega) ?_ | refine DW_app0 tabOK rfl (by simp; omega) (by simp; omega) ?_)
      exact ⟨rfl, _, rfl, _, rfl, SubC.tup2 (SubC.untag hk) (SubC.of_closed closed_int)⟩

noncomputable def rl (l : List Pr) (w : Int) (i : Nat) : List Pr := (l.take i).filter fun x => !deadB l w x
noncomputable def rrA (l : List Pr) (w : Int) : AV := if vOk l w = true then .tup [prA (runL l w), .int .i64 ((scanD w l).2.length : Int), .int .i64 0] else .tup [prA [], .int .i64 0, .int .i64 1]
theorem closed_rrA (l : List Pr) (w : Int) : Closed (rrA l w) := by
  unfold rrA
  split
  · exact closed_tup (closed3 (closed_prA _) closed_int closed_int)
  · exact closed_tup (closed3 (closed_prA _) closed_int closed_int)
noncomputable def rrF (l : List Pr) (w : Int) (i g : Nat) : AF := ⟨[(0, prA l), (1, .int .i64 w), (7, .sl 3 ((rl l w i).map Pr.av) (.tok 0 g)), (8, .int .i64 (i : Int))], []⟩
set_option maxRecDepth 100000 in
set_option maxHeartbeats 8000000 in
theorem rRun_ok (l : List Pr) (w : Int) (hl : l.length < 1000000) (hv : valsB l) (hr : Rise l) : APure Tryz.prog 18 [prA l, .int .i64 w] (rrA l w) := by
  refine pure_sub (closed2 (closed_prA l) closed_int) (closed_rrA _ _) ?_
  refine acalls_of tabOK Tryz.func18 rfl (by decide) (by simp [Tryz.f18]) ?_
  have ki := rStIs_ok l hl hv
  have la := len_map Pr.av l
  have hcl := closed_prA l
  unfold rrA
  cases h : vOk l w
  · rw [if_neg (by simp)]
    unfold vOk at h
    cases h2 : isSt l
    · rw [h2] at ki
      unfold prA at *
      repeat' (first | refine DW_A tabs rfl ?_ | refine DW_nil ?_ | refine W_A rfl ?_ | refine DW_C rfl ki ?_ | refine DW_row tabOK rfl ?_ | refine DW_app tabOK rfl rfl (by simp; omega) (by simp; omega) ?_ | refine DW_app0 tabOK rfl (by simp; omega) (by simp; omega) ?_)
      exact ⟨rfl, _, rfl, _, rfl, SubC.tup3 SubC.nil (SubC.of_closed closed_int) (SubC.of_closed closed_int)⟩
    · rw [h2] at ki h
      have d1 : decide (w < 0) = true := by simpa using h
      unfold prA at *
      repeat' (first | refine DW_VB tabs rfl d1 ?_ | refine DW_A tabs rfl ?_ | refine DW_nil ?_ | refine W_A rfl ?_ | refine DW_C rfl ki ?_ | refine DW_row tabOK rfl ?_ | refine DW_app tabOK rfl rfl (by simp; omega) (by simp; omega) ?_ | refine DW_app0 tabOK rfl (by simp; omega) (by simp; omega) ?_)
      exact ⟨rfl, _, rfl, _, rfl, SubC.tup3 SubC.nil (SubC.of_closed closed_int) (SubC.of_closed closed_int)⟩
  · rw [if_pos rfl]
    unfold vOk at h
    simp at h
    rw [h.1] at ki
    have d0 : decide (w < 0) = false := by simp; omega
    unfold prA at *
    repeat' (first | refine DW_VB tabs rfl d0 ?_ | refine DW_A tabs rfl ?_ | refine DW_nil ?_ | refine W_A rfl ?_ | refine DW_C rfl ki ?_ | refine DW_row tabOK rfl ?_ | refine DW_app tabOK rfl rfl (by simp; omega) (by simp; omega) ?_ | refine DW_app0 tabOK rfl (by simp; omega) (by simp; omega) ?_)
    refine W_count l.length (fun i f N => ∃ g, N = tokM g ∧ f = rrF l w i g) (Nat.zero_le _) ⟨0, rfl, rfl⟩ ((Joint.tok 7 rfl (sz' := 3) (.inr rfl)).trans (Joint.le ?_ (tokM_of rfl rfl))) ?_
    · unfold rrF rl prA
      repeat (refine AF.le_cons rfl ?_)
      exact AF.le_nil rfl
    rintro i f N hi ⟨g, rfl, rfl⟩
    unfold rrF prA
    have lo := len_map Pr.av (rl l w i)
    have hob : (rl l w i).length ≤ i := by
      have := List.length_filter_le (fun x => !deadB l w x) (l.take i)
      unfold rl
      simp at this ⊢
      omega
    by_cases h1 : i < l.length
    · have d1 : decide ((i : Int) < (l.length : Int)) = true := by simp; omega
      have hx : l[i]? = some l[i] := List.getElem?_eq_getElem h1
      have fi := wrap_succ (i := i) (by omega)
      have ht := take_succ hx
      have hm := List.getElem_mem h1
      have hst := filt_step (fun x => !deadB l w x) ht
      generalize l[i] = x at *
      have kd := rDead_ok l i x w hl hx (hv x hm).2
      unfold prA at kd
      cases hd : deadB l w x
      · rw [hd] at kd hst
        repeat' (first | refine DW_VB tabs rfl d1 ?_ | refine DW_VI tabs rfl (by first | exact la | exact lo | exact fi) ?_ | refine DW_A tabs rfl ?_ | refine DW_nil ?_ | refine W_A rfl ?_ | refine DW_C rfl kd ?_ | refine DW_ix tabOK rfl (ixN hx) ?_ | refine DW_row tabOK rfl ?_ | refine DW_app tabOK rfl rfl (by simp; omega) (by simp; omega) ?_ | refine DW_app0 tabOK rfl (by simp; omega) (by simp; omega) ?_)
        refine ⟨h1, rrF l w (i + 1) (g + 1), tokM (g + 1), ⟨g + 1, rfl, rfl⟩, ?_⟩
        refine Joint.le ?_ (tokM_of rfl rfl)
        have e : AV.sl 3 ((rl l w (i + 1)).map Pr.av) (.tok 0 (g + 1)) = .sl 3 ((rl l w i).map Pr.av ++ [x.av]) (.tok 0 (g + 1)) := by unfold rl; rw [hst]; simp
        unfold rrF prA
        rw [e]
        repeat (refine AF.le_cons rfl ?_)
        exact AF.le_nil rfl
      · rw [hd] at kd hst
        repeat' (first | refine DW_VB tabs rfl d1 ?_ | refine DW_VI tabs rfl (by first | exact la | exact fi) ?_ | refine DW_A tabs rfl ?_ | refine DW_nil ?_ | refine W_A rfl ?_ | refine DW_C rfl kd ?_ | refine DW_ix tabOK rfl (ixN hx) ?_ | refine DW_row tabOK rfl ?_ | refine DW_app tabOK rfl rfl (by simp; omega) (by simp; omega) ?_ | refine DW_app0 tabOK rfl (by simp; omega) (by simp; omega) ?_)
        refine ⟨h1, rrF l w (i + 1) g, tokM g, ⟨g, rfl, rfl⟩, ?_⟩
        refine Joint.le ?_ (tokM_of rfl rfl)
        have e : rl l w (i + 1) = rl l w i := by unfold rl; rw [hst]; rfl
        unfold rrF prA
        rw [e]
        repeat (refine AF.le_cons rfl ?_)
        exact AF.le_nil rfl
    · have d1 : decide ((i : Int) < (l.length : Int)) = false := by simp; omega
      obtain rfl : i = l.length := by omega
      have hk := closed_prA (rl l w l.length)
      have hn := run_len hr w
      rw [show runL l w = rl l w l.length by unfold rl runL; rw [List.take_length]] at hn ⊢
      have f1 : IntKind.wrap .i64 ((l.length : Int) - ((rl l w l.length).length : Int)) = ((scanD w l).2.length : Int) := by
        have : (l.length : Int) - ((rl l w l.length).length : Int) = ((scanD w l).2.length : Int) := by omega
        rw [this]
        exact Go.Ab.wrap_small (by omega) (by omega)
      repeat' (first | refine DW_VB tabs rfl d1 ?_ | refine DW_VI tabs rfl (by first | exact la | exact lo | exact f1) ?_ | refine DW_A tabs rfl ?_ | refine DW_nil ?_ | refine W_A rfl ?_ | refine DW_row tabOK rfl ?_ | refine DW_app tabOK rfl rfl (by simp; omega) (by simp; omega) ?_ | refine DW_app0 tabOK rfl (by simp; omega) (by simp; omega) ?_)
      exact ⟨rfl, _, rfl, _, rfl, SubC.tup3 (SubC.untag hk) (SubC.of_closed closed_int) (SubC.of_closed closed_int)⟩
set_option maxRecDepth 100000 in
set_option maxHeartbeats 8000000 in
theorem rLive_ok (l : List Pr) (w : Int) (hl : l.length < 1000000) (hv : valsB l) (hr : Rise l) : APure Tryz.prog 20 [prA l, .int .i64 w] (liveA l w) := by
  intro M
  refine acalls_of tabOK Tryz.func20 rfl (by decide) (by simp [Tryz.f20]) ?_
  have kr := rRun_ok l w hl hv hr
  unfold liveA
  unfold rrA at kr
  cases h : vOk l w
  · rw [h] at kr
    rw [if_neg (by simp)] at kr ⊢
    unfold prA at *
    repeat' (first | refine DW_A tabs rfl ?_ | refine DW_nil ?_ | refine W_A rfl ?_ | refine DW_C rfl kr ?_)
    exact ⟨rfl, _, rfl, rfl, rfl⟩
  · rw [if_pos h] at kr
    rw [if_pos rfl]
    have hn := run_len hr w
    have lo := len_map Pr.av (runL l w)
    have e : (l.length : Int) - ((scanD w l).2.length : Int) = ((runL l w).length : Int) := by omega
    rw [e]
    unfold prA at *
    repeat' (first | refine DW_VI tabs rfl lo ?_ | refine DW_A tabs rfl ?_ | refine DW_nil ?_ | refine W_A rfl ?_ | refine DW_C rfl kr ?_)
    exact ⟨rfl, _, rfl, rfl, rfl⟩
end Go.Proofs.YthdeopopodhimaaGreatDoor
