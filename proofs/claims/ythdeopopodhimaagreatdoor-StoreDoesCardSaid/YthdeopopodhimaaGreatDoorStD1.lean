/- Batches by the document: may a change be, is it a batch. No further condition. -/
import Derived.Test.YthdeopopodhimaaGreatDoorV24
set_option linter.unusedVariables false
set_option linter.unusedSimpArgs false
namespace Go.Proofs.YthdeopopodhimaaGreatDoor
open Go.Ab

theorem zero_dec (m : Mt) : decide (m = zeroMt) = zeroB m := by
  obtain ⟨a, b, c⟩ := m
  unfold zeroB zeroMt
  rw [Bool.eq_iff_iff]
  simp [and_assoc]
set_option maxRecDepth 100000 in
set_option maxHeartbeats 8000000 in
theorem rMay_ok (c : Ch) (hs : shortCh c) : APure Tryz.prog 106 [c.av] (.bool (mayB c)) := by
  intro M
  refine acalls_of tabOK Tryz.func106 rfl (by decide) (by simp [Tryz.f106]) ?_
  have k1 := refIs_ok c.path (by have := hs.1; omega)
  have k2 := rmIs_ok c.meta_ hs.2
  have k3 := (rmSame_ok c.meta_ zeroMt hs.2 (by decide)).sub (args := [c.meta_.av, .agg [.int .i64 0, .int .i64 0, .sl 0 [] .full]]) ⟨Sub.refl, Sub.aggL ⟨Sub.refl, Sub.refl, Sub.nil, trivial⟩, trivial⟩
  rw [zero_dec] at k3
  unfold mayB
  by_cases h1 : c.path = []
  · have d1 : (c.path == ([] : Bytes)) = true := by simp [h1]
    rw [d1]
    repeat' (first | refine DW_VB tabs rfl d1 ?_ | refine DW_A tabs rfl ?_ | refine DW_nil ?_ | refine W_A rfl ?_ | refine DW_C rfl k1 ?_ | refine DW_C rfl k2 ?_ | refine DW_C rfl k3 ?_)
    exact ⟨rfl, _, rfl, rfl, rfl⟩
  · have d1 : (c.path == ([] : Bytes)) = false := by simp [h1]
    rw [d1]
    cases h2 : isPathB c.path
    · rw [h2] at k1
      repeat' (first | refine DW_VB tabs rfl d1 ?_ | refine DW_A tabs rfl ?_ | refine DW_nil ?_ | refine W_A rfl ?_ | refine DW_C rfl k1 ?_ | refine DW_C rfl k2 ?_ | refine DW_C rfl k3 ?_)
      exact ⟨rfl, _, rfl, rfl, rfl⟩
    · rw [h2] at k1
      cases h3 : isM c.meta_
      · rw [h3] at k2
        repeat' (first | refine DW_VB tabs rfl d1 ?_ | refine DW_A tabs rfl ?_ | refine DW_nil ?_ | refine W_A rfl ?_ | refine DW_C rfl k1 ?_ | refine DW_C rfl k2 ?_ | refine DW_C rfl k3 ?_)
        exact ⟨rfl, _, rfl, rfl, rfl⟩
      · rw [h3] at k2
        cases h4 : c.gone
        · have d4 : (!c.gone) = true := by simp [h4]
          repeat' (first | refine DW_VB tabs rfl (by first | exact d1 | exact d4 | exact h4) ?_ | refine DW_A tabs rfl ?_ | refine DW_nil ?_ | refine W_A rfl ?_ | refine DW_C rfl k1 ?_ | refine DW_C rfl k2 ?_ | refine DW_C rfl k3 ?_)
          exact ⟨rfl, _, rfl, rfl, rfl⟩
        · have d4 : (!c.gone) = false := by simp [h4]
          repeat' (first | refine DW_VB tabs rfl (by first | exact d1 | exact d4 | exact h4) ?_ | refine DW_A tabs rfl ?_ | refine DW_nil ?_ | refine W_A rfl ?_ | refine DW_C rfl k1 ?_ | refine DW_C rfl k2 ?_ | refine DW_C rfl k3 ?_)
          exact ⟨rfl, _, rfl, rfl, rfl⟩
set_option maxRecDepth 100000 in
set_option maxHeartbeats 8000000 in
theorem rBatch_ok (l : List Ch) (tg : Tag) (hl : l.length < 1000000) (hs : ∀ c, c ∈ l → shortCh c) : APure Tryz.prog 66 [chA l tg] (.bool (batchB l)) := by
  intro M
  refine acalls_of tabOK Tryz.func66 rfl (by decide) (by simp [Tryz.f66]) ?_
  have la := len_map Ch.av l
  unfold batchB chA
  by_cases h1 : 1 ≤ l.length
  · by_cases h2 : l.length ≤ 20
    · have d1 : decide ((l.length : Int) < 1) = false := by simp; omega
      have d2 : decide ((20 : Int) < (l.length : Int)) = false := by simp; omega
      rw [decide_eq_true h1, decide_eq_true h2]
      repeat' (first | refine DW_VB tabs rfl (by first | exact d1 | exact d2) ?_ | refine DW_VI tabs rfl la ?_ | refine DW_A tabs rfl ?_ | refine DW_nil ?_ | refine W_A rfl ?_ | refine W_draw mixed [0, 1, 2, 3, 4, 5, 6, 7, 8, 9, 10, 11, 12, 16, 17, 13, 14, 15, 18, 19, 20, 21, 22, 23] [.P, .P, .R, .R, .P, .P, .P, .P, .P, .P, .P, .P, .P, .R, .R, .R, .P, .P, .R, .R, .R, .P, .P, .P] rfl rfl (by kernel_rfl) ?_)
      refine W_count l.length (fun i f N => N = M ∧ ((∀ (j : Nat) a, j < i → l[j]? = some a → mayB a = true) ∧ ∀ (j : Nat) a b, j + 1 < i → l[j]? = some a → l[j + 1]? = some b → bl a.path b.path = true) ∧ f = ⟨[(0, .sl 5 (l.map Ch.av) tg), (3, .int .i64 (i : Int))], []⟩) (Nat.zero_le _) ⟨rfl, ⟨fun j a hj => absurd hj (Nat.not_lt_zero _), fun j a b hj => absurd hj (Nat.not_lt_zero _)⟩, rfl⟩ (Joint.le ?_ (Mem.le_refl _)) ?_
      · skip
        repeat (refine AF.le_cons rfl ?_)
        exact AF.le_nil rfl
      rintro i f N hi ⟨rfl, ⟨hm, hr⟩, rfl⟩
      by_cases g1 : i < l.length
      · have d3 : decide ((i : Int) < (l.length : Int)) = true := by simp; omega
        have hy : l[i]? = some l[i] := List.getElem?_eq_getElem g1
        have fi := wrap_succ (i := i) (by omega)
        have hmem := List.getElem_mem g1
        generalize l[i] = y at hy hmem
        have km := rMay_ok y (hs y hmem)
        cases g2 : mayB y
        · rw [g2] at km
          have e : l.all mayB = false := by
            rw [List.all_eq_false]
            exact ⟨y, hmem, by simp [g2]⟩
          rw [e]
          repeat' (first | refine DW_VB tabs rfl d3 ?_ | refine DW_VI tabs rfl (by first | exact fi | exact la) ?_ | refine DW_A tabs rfl ?_ | refine DW_nil ?_ | refine W_A rfl ?_ | refine DW_C rfl km ?_ | refine DW_ix tabOK rfl (ixN hy) ?_ | refine W_draw mixed [0, 1, 2, 3, 4, 5, 6, 7, 8, 9, 10, 11, 12, 16, 17, 13, 14, 15, 18, 19, 20, 21, 22, 23] [.P, .P, .R, .R, .P, .P, .P, .P, .P, .P, .P, .P, .P, .R, .R, .R, .P, .P, .R, .R, .R, .P, .P, .P] rfl rfl (by kernel_rfl) ?_)
          exact ⟨rfl, _, rfl, rfl, rfl⟩
        · rw [g2] at km
          have hm' : ∀ (j : Nat) a, j < i + 1 → l[j]? = some a → mayB a = true := by
            intro j a hj ha
            by_cases hji : j = i
            · subst hji
              rw [hy] at ha
              cases ha
              exact g2
            · exact hm j a (by omega) ha
          by_cases g0 : i = 0
          · subst g0
            repeat' (first | refine DW_VB tabs rfl d3 ?_ | refine DW_VI tabs rfl (by first | exact fi | exact la) ?_ | refine DW_A tabs rfl ?_ | refine DW_nil ?_ | refine W_A rfl ?_ | refine DW_C rfl km ?_ | refine DW_ix tabOK rfl (ixN hy) ?_ | refine W_draw mixed [0, 1, 2, 3, 4, 5, 6, 7, 8, 9, 10, 11, 12, 16, 17, 13, 14, 15, 18, 19, 20, 21, 22, 23] [.P, .P, .R, .R, .P, .P, .P, .P, .P, .P, .P, .P, .P, .R, .R, .R, .P, .P, .R, .R, .R, .P, .P, .P] rfl rfl (by kernel_rfl) ?_)
            refine ⟨g1, _, _, ⟨rfl, ⟨hm', fun j a b hj => absurd hj (by omega)⟩, rfl⟩, Joint.le ?_ (Mem.le_refl _)⟩
            skip
            repeat (refine AF.le_cons rfl ?_)
            exact AF.le_nil rfl
          · obtain ⟨k, rfl⟩ : ∃ k, i = k + 1 := ⟨i - 1, by omega⟩
            have d0 : decide ((0 : Int) < ((k + 1 : Nat) : Int)) = true := decide_eq_true (by omega)
            have w1 : IntKind.wrap .i64 (((k + 1 : Nat) : Int) - 1) = (k : Int) := (Go.Ab.wrap_small (by omega) (by omega)).trans (by omega)
            have hx : l[k]? = some l[k] := List.getElem?_eq_getElem (by omega)
            generalize l[k] = x at hx
            cases g3 : bl x.path y.path
            · have d4 : (!bl x.path y.path) = true := by simp [g3]
              have e : decide (RiseC l) = false := decide_eq_false fun h => by rw [riseC_at h hx hy] at g3; cases g3
              rw [e]
              repeat' (first | refine DW_VB tabs rfl (by first | exact d3 | exact d0 | exact d4 | exact g3) ?_ | refine DW_VI tabs rfl (by first | exact fi | exact la | exact w1) ?_ | refine DW_A tabs rfl ?_ | refine DW_nil ?_ | refine W_A rfl ?_ | refine DW_C rfl km ?_ | refine DW_ix tabOK rfl (ixN hx) ?_ | refine DW_ix tabOK rfl (ixN hy) ?_ | refine W_draw mixed [0, 1, 2, 3, 4, 5, 6, 7, 8, 9, 10, 11, 12, 16, 17, 13, 14, 15, 18, 19, 20, 21, 22, 23] [.P, .P, .R, .R, .P, .P, .P, .P, .P, .P, .P, .P, .P, .R, .R, .R, .P, .P, .R, .R, .R, .P, .P, .P] rfl rfl (by kernel_rfl) ?_)
              exact ⟨rfl, _, rfl, by simp; rfl, rfl⟩
            · have d4 : (!bl x.path y.path) = false := by simp [g3]
              repeat' (first | refine DW_VB tabs rfl (by first | exact d3 | exact d0 | exact d4 | exact g3) ?_ | refine DW_VI tabs rfl (by first | exact fi | exact la | exact w1) ?_ | refine DW_A tabs rfl ?_ | refine DW_nil ?_ | refine W_A rfl ?_ | refine DW_C rfl km ?_ | refine DW_ix tabOK rfl (ixN hx) ?_ | refine DW_ix tabOK rfl (ixN hy) ?_ | refine W_draw mixed [0, 1, 2, 3, 4, 5, 6, 7, 8, 9, 10, 11, 12, 16, 17, 13, 14, 15, 18, 19, 20, 21, 22, 23] [.P, .P, .R, .R, .P, .P, .P, .P, .P, .P, .P, .P, .P, .R, .R, .R, .P, .P, .R, .R, .R, .P, .P, .P] rfl rfl (by kernel_rfl) ?_)
              refine ⟨g1, _, _, ⟨rfl, ⟨hm', ?_⟩, rfl⟩, Joint.le ?_ (Mem.le_refl _)⟩
              · intro j a b hj ha hb
                by_cases hji : j = k
                · subst hji
                  rw [hx] at ha; rw [hy] at hb
                  cases ha; cases hb
                  exact g3
                · exact hr j a b (by omega) ha hb
              · skip
                repeat (refine AF.le_cons rfl ?_)
                exact AF.le_nil rfl
      · have d3 : decide ((i : Int) < (l.length : Int)) = false := by simp; omega
        obtain rfl : i = l.length := by omega
        have e1 : l.all mayB = true := List.all_eq_true.2 fun x hx => by
          obtain ⟨j, hj⟩ := List.mem_iff_getElem?.1 hx
          exact hm j x (List.getElem?_eq_some_iff.1 hj).1 hj
        have e2 : decide (RiseC l) = true := decide_eq_true (riseC_adj l fun j a b ha hb => hr j a b (List.getElem?_eq_some_iff.1 hb).1 ha hb)
        rw [e1, e2]
        repeat' (first | refine DW_VB tabs rfl d3 ?_ | refine DW_VI tabs rfl la ?_ | refine DW_A tabs rfl ?_ | refine DW_nil ?_ | refine W_A rfl ?_ | refine W_draw mixed [0, 1, 2, 3, 4, 5, 6, 7, 8, 9, 10, 11, 12, 16, 17, 13, 14, 15, 18, 19, 20, 21, 22, 23] [.P, .P, .R, .R, .P, .P, .P, .P, .P, .P, .P, .P, .P, .R, .R, .R, .P, .P, .R, .R, .R, .P, .P, .P] rfl rfl (by kernel_rfl) ?_)
        exact ⟨rfl, _, rfl, rfl, rfl⟩
    · have d1 : decide ((l.length : Int) < 1) = false := by simp; omega
      have d2 : decide ((20 : Int) < (l.length : Int)) = true := by simp; omega
      rw [decide_eq_false h2]
      repeat' (first | refine DW_VB tabs rfl (by first | exact d1 | exact d2) ?_ | refine DW_VI tabs rfl la ?_ | refine DW_A tabs rfl ?_ | refine DW_nil ?_ | refine W_A rfl ?_ | refine W_draw mixed [0, 1, 2, 3, 4, 5, 6, 7, 8, 9, 10, 11, 12, 16, 17, 13, 14, 15, 18, 19, 20, 21, 22, 23] [.P, .P, .R, .R, .P, .P, .P, .P, .P, .P, .P, .P, .P, .R, .R, .R, .P, .P, .R, .R, .R, .P, .P, .P] rfl rfl (by kernel_rfl) ?_)
      exact ⟨rfl, _, rfl, by simp; rfl, rfl⟩
  · have d1 : decide ((l.length : Int) < 1) = true := by simp; omega
    rw [decide_eq_false h1]
    repeat' (first | refine DW_VB tabs rfl d1 ?_ | refine DW_VI tabs rfl la ?_ | refine DW_A tabs rfl ?_ | refine DW_nil ?_ | refine W_A rfl ?_ | refine W_draw mixed [0, 1, 2, 3, 4, 5, 6, 7, 8, 9, 10, 11, 12, 16, 17, 13, 14, 15, 18, 19, 20, 21, 22, 23] [.P, .P, .R, .R, .P, .P, .P, .P, .P, .P, .P, .P, .P, .R, .R, .R, .P, .P, .R, .R, .R, .P, .P, .P] rfl rfl (by kernel_rfl) ?_)
    exact ⟨rfl, _, rfl, rfl, rfl⟩
set_option maxRecDepth 100000 in
set_option maxHeartbeats 8000000 in
theorem rLast_ok (l : List Pr) (hl : l.length < 1000000) (hv : valsB l) : APure Tryz.prog 46 [prA l] (.int .i64 (lastL l)) := by
  intro M
  refine acalls_of tabOK Tryz.func46 rfl (by decide) (by simp [Tryz.f46]) ?_
  have la := len_map Pr.av l
  have ki := rStIs_ok l hl hv
  unfold prA lastL at *
  cases h : isSt l
  · rw [h] at ki
    rw [if_neg (by simp)]
    repeat' (first | refine DW_VI tabs rfl la ?_ | refine DW_A tabs rfl ?_ | refine DW_nil ?_ | refine W_A rfl ?_)
    refine W_count 0 (fun i f N => N = M ∧ f = ⟨[(0, .sl 3 (l.map Pr.av) .none), (3, .int .i64 0), (4, .int .i64 (i : Int))], []⟩) (Nat.zero_le _) ⟨rfl, rfl⟩ (Joint.le ?_ (Mem.le_refl _)) ?_
    · skip
      repeat (refine AF.le_cons rfl ?_)
      exact AF.le_nil rfl
    rintro i f N hi ⟨rfl, rfl⟩
    obtain rfl : i = 0 := by omega
    by_cases h1 : 0 < l.length
    · have d1 : decide ((((0 : Nat) : Int)) < (l.length : Int)) = true := decide_eq_true (by omega)
      have d2 : decide ((0 : Int) < (l.length : Int)) = true := decide_eq_true (by omega)
      repeat' (first | refine DW_VB tabs rfl (by first | exact d1 | exact d2) ?_ | refine DW_VI tabs rfl la ?_ | refine DW_A tabs rfl ?_ | refine DW_nil ?_ | refine W_A rfl ?_ | refine DW_C rfl ki ?_)
      exact ⟨rfl, _, rfl, rfl, rfl⟩
    · have d1 : decide ((((0 : Nat) : Int)) < (l.length : Int)) = false := decide_eq_false (by omega)
      have d2 : decide ((0 : Int) < (l.length : Int)) = false := decide_eq_false (by omega)
      repeat' (first | refine DW_VB tabs rfl (by first | exact d1 | exact d2) ?_ | refine DW_VI tabs rfl la ?_ | refine DW_A tabs rfl ?_ | refine DW_nil ?_ | refine W_A rfl ?_ | refine DW_C rfl ki ?_)
      exact ⟨rfl, _, rfl, rfl, rfl⟩
  · rw [h] at ki
    rw [if_pos rfl]
    repeat' (first | refine DW_VI tabs rfl la ?_ | refine DW_A tabs rfl ?_ | refine DW_nil ?_ | refine W_A rfl ?_)
    refine W_count l.length (fun i f N => N = M ∧ f = ⟨[(0, .sl 3 (l.map Pr.av) .none), (3, .int .i64 (maxAt (l.take i))), (4, .int .i64 (i : Int))], []⟩) (Nat.zero_le _) ⟨rfl, rfl⟩ (Joint.le ?_ (Mem.le_refl _)) ?_
    · skip
      repeat (refine AF.le_cons rfl ?_)
      exact AF.le_nil rfl
    rintro i f N hi ⟨rfl, rfl⟩
    by_cases h1 : i < l.length
    · have d1 : decide ((i : Int) < (l.length : Int)) = true := by simp; omega
      have hx : l[i]? = some l[i] := List.getElem?_eq_getElem h1
      have fi := wrap_succ (i := i) (by omega)
      have ht := take_succ hx
      generalize l[i] = x at hx ht
      have mx := max_is (maxAt (l.take i)) x.key.time
      have ms : maxAt (l.take (i + 1)) = max (maxAt (l.take i)) x.key.time := by unfold maxAt; rw [ht, List.foldl_append]; rfl
      repeat' (first | refine DW_VB tabs rfl d1 ?_ | refine DW_VI tabs rfl (by first | exact la | exact fi | exact mx) ?_ | refine DW_A tabs rfl ?_ | refine DW_nil ?_ | refine W_A rfl ?_ | refine DW_C rfl ki ?_ | refine DW_ix tabOK rfl (ixN hx) ?_)
      refine ⟨h1, _, _, ⟨rfl, rfl⟩, Joint.le ?_ (Mem.le_refl _)⟩
      rw [ms]
      repeat (refine AF.le_cons rfl ?_)
      exact AF.le_nil rfl
    · have d1 : decide ((i : Int) < (l.length : Int)) = false := by simp; omega
      obtain rfl : i = l.length := by omega
      rw [List.take_length]
      repeat' (first | refine DW_VB tabs rfl d1 ?_ | refine DW_VI tabs rfl la ?_ | refine DW_A tabs rfl ?_ | refine DW_nil ?_ | refine W_A rfl ?_ | refine DW_C rfl ki ?_)
      exact ⟨rfl, _, rfl, rfl, rfl⟩
end Go.Proofs.YthdeopopodhimaaGreatDoor
