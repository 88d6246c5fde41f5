/- Put and Lay by the document. No further condition. -/
import Derived.Test.YthdeopopodhimaaGreatDoorStD1
set_option linter.unusedVariables false
set_option linter.unusedSimpArgs false
namespace Go.Proofs.YthdeopopodhimaaGreatDoor
open Go.Ab

set_option maxRecDepth 100000 in
set_option maxHeartbeats 8000000 in
theorem rPut_ok (l : List Pr) (hl : l.length < 100000) (p : Pr) : APure Tryz.prog 68 [prA l, p.av] (prA (putP l p)) := by
  refine pure_sub (closed2 (closed_prA l) (closed_pr p)) (closed_prA _) ?_
  refine acalls_of tabOK Tryz.func68 rfl (by decide) (by simp [Tryz.f68]) ?_
  have kf := rFind_ok l .none (by omega) p.key
  have hle := findP_le l p.key
  rw [putP_cut]
  have hh := @hasP_lt l p.key
  generalize findP l p.key = n at kf hle hh
  unfold prA
  cases hp : hasP l p.key
  · rw [hp] at kf
    rw [if_neg (by simp)]
    have hc := closed_prA (l.take n ++ ([p] ++ l.drop n))
    unfold prA at hc
    rw [show (l.take n ++ ([p] ++ l.drop n)).map Pr.av = [] ++ (l.take n).map Pr.av ++ [p.av] ++ (l.drop n).map Pr.av by simp] at hc ⊢
    repeat' (first | refine DW_A tabs rfl ?_ | refine DW_nil ?_ | refine W_A rfl ?_ | refine DW_C rfl kf ?_ | refine DW_row tabOK rfl ?_ | refine DW_app tabOK rfl rfl (by simp; omega) (by simp; omega) ?_ | refine DW_app0 tabOK rfl (by simp; omega) (by simp; omega) ?_)
    refine DW_to tabOK rfl rfl rfl rfl (n := n) rfl rfl rfl rfl rfl rfl hle ?_
    repeat' (first | refine DW_A tabs rfl ?_ | refine DW_nil ?_ | refine W_A rfl ?_ | refine DW_row tabOK rfl ?_ | refine DW_app tabOK rfl rfl (by simp; omega) (by simp; omega) ?_ | refine DW_app0 tabOK rfl (by simp; omega) (by simp; omega) ?_)
    refine DW_from tabOK rfl rfl rfl rfl (lo := n) rfl rfl rfl rfl rfl rfl hle ?_
    repeat' (first | refine DW_A tabs rfl ?_ | refine DW_nil ?_ | refine W_A rfl ?_ | refine DW_row tabOK rfl ?_ | refine DW_app tabOK rfl rfl (by simp; omega) (by simp; omega) ?_ | refine DW_app0 tabOK rfl (by simp; omega) (by simp; omega) ?_)
    exact ⟨rfl, _, rfl, _, rfl, SubC.untag hc⟩
  · have hlt := hh hp
    have fi := wrap_succ (i := n) (by omega)
    rw [hp] at kf
    rw [if_pos rfl]
    have hc := closed_prA (l.take n ++ ([p] ++ l.drop (n + 1)))
    unfold prA at hc
    rw [show (l.take n ++ ([p] ++ l.drop (n + 1))).map Pr.av = [] ++ (l.take n).map Pr.av ++ [p.av] ++ (l.drop (n + 1)).map Pr.av by simp] at hc ⊢
    repeat' (first | refine DW_VI tabs rfl fi ?_ | refine DW_A tabs rfl ?_ | refine DW_nil ?_ | refine W_A rfl ?_ | refine DW_C rfl kf ?_ | refine DW_row tabOK rfl ?_ | refine DW_app tabOK rfl rfl (by simp; omega) (by simp; omega) ?_ | refine DW_app0 tabOK rfl (by simp; omega) (by simp; omega) ?_)
    refine DW_to tabOK rfl rfl rfl rfl (n := n) rfl rfl rfl rfl rfl rfl hle ?_
    repeat' (first | refine DW_VI tabs rfl fi ?_ | refine DW_A tabs rfl ?_ | refine DW_nil ?_ | refine W_A rfl ?_ | refine DW_row tabOK rfl ?_ | refine DW_app tabOK rfl rfl (by simp; omega) (by simp; omega) ?_ | refine DW_app0 tabOK rfl (by simp; omega) (by simp; omega) ?_)
    refine DW_from tabOK rfl rfl rfl rfl (lo := n + 1) rfl rfl rfl rfl rfl rfl (by omega) ?_
    repeat' (first | refine DW_A tabs rfl ?_ | refine DW_nil ?_ | refine W_A rfl ?_ | refine DW_row tabOK rfl ?_ | refine DW_app tabOK rfl rfl (by simp; omega) (by simp; omega) ?_ | refine DW_app0 tabOK rfl (by simp; omega) (by simp; omega) ?_)
    exact ⟨rfl, _, rfl, _, rfl, SubC.untag hc⟩

noncomputable def rlF (l : List Pr) (a : Int) (c : List Ch) (tg : Tag) (i : Nat) : AF := ⟨[(0, prA (layL l a (c.take i))), (1, .int .i64 a), (2, chA c tg), (8, .int .i64 (i : Int))], []⟩
noncomputable def rlayA (l : List Pr) (a : Int) (c : List Ch) : AV := if layB l a c = true then .tup [prA (layL l a c), .int .i64 0] else .tup [prA [], .int .i64 1]
theorem closed_rlayA (l : List Pr) (a : Int) (c : List Ch) : Closed (rlayA l a c) := by
  unfold rlayA
  split
  · exact closed_tup (closed2 (closed_prA _) closed_int)
  · exact closed_tup (closed2 (closed_prA _) closed_int)
theorem layL_len (a : Int) : ∀ (c : List Ch) (l : List Pr), (layL l a c).length ≤ l.length + c.length
  | [], l => Nat.le_refl _
  | x :: r, l => by
    have h1 := (putP_len l (chP a x)).2.1
    have h2 := layL_len a r (putP l (chP a x))
    have h3 : layL l a (x :: r) = layL (putP l (chP a x)) a r := rfl
    rw [h3]
    simp only [List.length_cons]
    omega
set_option maxRecDepth 100000 in
set_option maxHeartbeats 8000000 in
theorem rLay_ok (l : List Pr) (a : Int) (c : List Ch) (tg : Tag) (htg : tg = .none ∨ tg = .full) (hl : l.length < 1000) (hv : valsB l) (hcl : c.length < 1000) (hc : ∀ x, x ∈ c → shortCh x) : APure Tryz.prog 33 [prA l, .int .i64 a, chA c tg] (rlayA l a c) := by
  refine pure_sub (closed3 (closed_prA l) closed_int (closed_chs c htg)) (closed_rlayA _ _ _) ?_
  refine acalls_of tabOK Tryz.func33 rfl (by decide) (by simp [Tryz.f33]) ?_
  have k1 := rStIs_ok l (by omega) hv
  have k2 := rBatch_ok c tg (by omega) hc
  have k3 := rLast_ok l (by omega) hv
  have la := len_map Ch.av c
  have no : ∀ h : layB l a c = false, rlayA l a c = .tup [prA [], .int .i64 1] := fun h => by unfold rlayA; rw [if_neg (by simp [h])]
  unfold layB at no
  cases h1 : isSt l
  · rw [no (by rw [h1]; rfl)]
    rw [h1] at k1
    unfold prA at *
    repeat' (first | refine DW_A tabs rfl ?_ | refine DW_nil ?_ | refine W_A rfl ?_ | refine DW_C rfl k1 ?_ | refine W_draw mixed [0, 1, 5, 6, 2, 3, 4, 7, 8, 9, 10, 11, 12, 13, 14, 15] [.P, .P, .R, .R, .R, .P, .P, .R, .R, .R, .P, .P, .P, .P, .P, .P] rfl rfl (by kernel_rfl) ?_)
    exact ⟨rfl, _, rfl, _, rfl, SubC.tup2 SubC.nil (SubC.of_closed closed_int)⟩
  · rw [h1] at k1
    by_cases h2 : 1 ≤ a
    · have d2 : decide (a < 1) = false := decide_eq_false (by omega)
      by_cases h3 : a ≤ 1000000000
      · have d3 : decide (1000000000 < a) = false := decide_eq_false (by omega)
        cases h4 : batchB c
        · rw [no (by rw [h4]; simp)]
          rw [h4] at k2
          unfold prA at *
          unfold chA at *
          repeat' (first | refine DW_VB tabs rfl (by first | exact d2 | exact d3) ?_ | refine DW_A tabs rfl ?_ | refine DW_nil ?_ | refine W_A rfl ?_ | refine DW_C rfl k1 ?_ | refine DW_C rfl k2 ?_ | refine W_draw mixed [0, 1, 5, 6, 2, 3, 4, 7, 8, 9, 10, 11, 12, 13, 14, 15] [.P, .P, .R, .R, .R, .P, .P, .R, .R, .R, .P, .P, .P, .P, .P, .P] rfl rfl (by kernel_rfl) ?_)
          exact ⟨rfl, _, rfl, _, rfl, SubC.tup2 SubC.nil (SubC.of_closed closed_int)⟩
        · rw [h4] at k2
          by_cases h5 : lastL l < a
          · have d5 : decide (a ≤ lastL l) = false := decide_eq_false (by omega)
            have yes : rlayA l a c = .tup [prA (layL l a c), .int .i64 0] := by
              unfold rlayA layB
              rw [h1, h4, decide_eq_true h2, decide_eq_true h3, decide_eq_true h5]
              rfl
            rw [yes]
            have hm : ∀ x, x ∈ c → mayB x = true := by
              unfold batchB at h4
              simp at h4
              exact h4.1.2
            have hR := closed_prA (layL l a c)
            have hcc := closed_chs c htg
            unfold chA at *
            unfold prA at k1 k3 hR ⊢
            repeat' (first | refine DW_VB tabs rfl (by first | exact d2 | exact d3 | exact d5) ?_ | refine DW_VI tabs rfl la ?_ | refine DW_A tabs rfl ?_ | refine DW_nil ?_ | refine W_A rfl ?_ | refine DW_C rfl k1 ?_ | refine DW_C rfl k2 ?_ | refine DW_C rfl k3 ?_ | refine W_draw mixed [0, 1, 5, 6, 2, 3, 4, 7, 8, 9, 10, 11, 12, 13, 14, 15] [.P, .P, .R, .R, .R, .P, .P, .R, .R, .R, .P, .P, .P, .P, .P, .P] rfl rfl (by kernel_rfl) ?_)
            refine W_count c.length (fun i f N => N = ⟨0, []⟩ ∧ f = rlF l a c tg i) (Nat.zero_le _) ⟨rfl, rfl⟩ (Joint.le ?_ (Mem.le_nil rfl)) ?_
            · unfold rlF chA prA
              repeat (refine AF.le_cons rfl ?_)
              exact AF.le_nil rfl
            rintro i f N hi ⟨rfl, rfl⟩
            unfold rlF chA prA
            by_cases g1 : i < c.length
            · have d1 : decide ((i : Int) < (c.length : Int)) = true := decide_eq_true (by omega)
              have hx : c[i]? = some c[i] := List.getElem?_eq_getElem g1
              have fi := wrap_succ (i := i) (by omega)
              have ht := take_succ hx
              have hmx := may_value (hm _ (List.getElem_mem g1))
              have hcx := hc _ (List.getElem_mem g1)
              generalize c[i] = x at hx ht hmx hcx
              have kv := rValue_ok x.meta_ x.gone hcx.2
              have e0 : strA (valueM x.meta_ x.gone) = .tup [.str (valueM x.meta_ x.gone).1, .int .i64 0] := by unfold strA; rw [hmx]
              rw [e0] at kv
              have hl2 := layL_len a (c.take i) l
              rw [List.length_take] at hl2
              have hst : layL l a (c.take (i + 1)) = putP (layL l a (c.take i)) (chP a x) := by unfold layL; rw [ht, List.foldl_append]; rfl
              have kp := rPut_ok (layL l a (c.take i)) (by omega) (chP a x)
              rw [← hst] at kp
              generalize layL l a (c.take i) = u at kp
              generalize hU : layL l a (c.take (i + 1)) = U at kp
              have hUc := closed_prA U
              unfold chP at kp
              unfold prA at kp
              repeat' (first | refine DW_VB tabs rfl d1 ?_ | refine DW_VI tabs rfl (by first | exact fi | exact la) ?_ | refine DW_A tabs rfl ?_ | refine DW_nil ?_ | refine W_A rfl ?_ | refine DW_C rfl kv ?_ | refine DW_C rfl kp ?_ | refine DW_ix tabOK rfl (ixN hx) ?_ | refine W_draw mixed [0, 1, 5, 6, 2, 3, 4, 7, 8, 9, 10, 11, 12, 13, 14, 15] [.P, .P, .R, .R, .R, .P, .P, .R, .R, .R, .P, .P, .P, .P, .P, .P] rfl rfl (by kernel_rfl) ?_)
              refine ⟨g1, rlF l a c tg (i + 1), ⟨0, []⟩, ⟨rfl, by unfold rlF prA chA; rw [hU]⟩, Joint.cut (k := 0) (t := (rlF l a c tg (i + 1)).t) (l := []) (Nat.le_refl _) (Nat.zero_le _) rfl ⟨?_, ?_, ?_, ?_, trivial⟩ trivial⟩
              · rw [hU]
                exact SubC.of_closed hUc
              · exact SubC.of_closed closed_int
              · exact SubC.of_closed hcc
              · exact SubC.of_closed closed_int
            · have d1 : decide ((i : Int) < (c.length : Int)) = false := decide_eq_false (by omega)
              obtain rfl : i = c.length := by omega
              rw [List.take_length]
              repeat' (first | refine DW_VB tabs rfl d1 ?_ | refine DW_VI tabs rfl la ?_ | refine DW_A tabs rfl ?_ | refine DW_nil ?_ | refine W_A rfl ?_ | refine W_draw mixed [0, 1, 5, 6, 2, 3, 4, 7, 8, 9, 10, 11, 12, 13, 14, 15] [.P, .P, .R, .R, .R, .P, .P, .R, .R, .R, .P, .P, .P, .P, .P, .P] rfl rfl (by kernel_rfl) ?_)
              exact ⟨rfl, _, rfl, _, rfl, SubC.of_closed (closed_tup (closed2 hR closed_int))⟩
          · have d5 : decide (a ≤ lastL l) = true := decide_eq_true (by omega)
            rw [no (by rw [decide_eq_false h5]; simp)]
            unfold prA at *
            unfold chA at *
            repeat' (first | refine DW_VB tabs rfl (by first | exact d2 | exact d3 | exact d5) ?_ | refine DW_A tabs rfl ?_ | refine DW_nil ?_ | refine W_A rfl ?_ | refine DW_C rfl k1 ?_ | refine DW_C rfl k2 ?_ | refine DW_C rfl k3 ?_ | refine W_draw mixed [0, 1, 5, 6, 2, 3, 4, 7, 8, 9, 10, 11, 12, 13, 14, 15] [.P, .P, .R, .R, .R, .P, .P, .R, .R, .R, .P, .P, .P, .P, .P, .P] rfl rfl (by kernel_rfl) ?_)
            exact ⟨rfl, _, rfl, _, rfl, SubC.tup2 SubC.nil (SubC.of_closed closed_int)⟩
      · have d3 : decide (1000000000 < a) = true := decide_eq_true (by omega)
        rw [no (by rw [decide_eq_false h3]; simp)]
        unfold prA at *
        unfold chA at *
        repeat' (first | refine DW_VB tabs rfl (by first | exact d2 | exact d3) ?_ | refine DW_A tabs rfl ?_ | refine DW_nil ?_ | refine W_A rfl ?_ | refine DW_C rfl k1 ?_ | refine DW_C rfl k2 ?_ | refine DW_C rfl k3 ?_ | refine W_draw mixed [0, 1, 5, 6, 2, 3, 4, 7, 8, 9, 10, 11, 12, 13, 14, 15] [.P, .P, .R, .R, .R, .P, .P, .R, .R, .R, .P, .P, .P, .P, .P, .P] rfl rfl (by kernel_rfl) ?_)
        exact ⟨rfl, _, rfl, _, rfl, SubC.tup2 SubC.nil (SubC.of_closed closed_int)⟩
    · have d2 : decide (a < 1) = true := decide_eq_true (by omega)
      rw [no (by rw [decide_eq_false h2]; simp)]
      unfold prA at *
      unfold chA at *
      repeat' (first | refine DW_VB tabs rfl d2 ?_ | refine DW_A tabs rfl ?_ | refine DW_nil ?_ | refine W_A rfl ?_ | refine DW_C rfl k1 ?_ | refine DW_C rfl k2 ?_ | refine DW_C rfl k3 ?_ | refine W_draw mixed [0, 1, 5, 6, 2, 3, 4, 7, 8, 9, 10, 11, 12, 13, 14, 15] [.P, .P, .R, .R, .R, .P, .P, .R, .R, .R, .P, .P, .P, .P, .P, .P] rfl rfl (by kernel_rfl) ?_)
      exact ⟨rfl, _, rfl, _, rfl, SubC.tup2 SubC.nil (SubC.of_closed closed_int)⟩
end Go.Proofs.YthdeopopodhimaaGreatDoor
