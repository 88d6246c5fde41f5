/- Behind a Run each path has at most one version up to w, and that one is there. No further condition. -/
import Derived.Test.YtmgkebghojhocaaGreatDoorV27
import Derived.Test.YtmgkebghojhocaaGreatDoorTreG
import Derived.Test.YtmgkebghojhocaaGreatDoorV24
set_option linter.unusedVariables false
set_option linter.unusedSimpArgs false
namespace Go.Proofs.YtmgkebghojhocaaGreatDoor
open Go.Ab

theorem least_gone {l : List Pr} {w : Int} {x : Pr} (hx : x ∈ runL l w) (hw : x.key.time ≤ w) : (readM x.val).2.1 = false := by
  obtain ⟨_, h2⟩ := run_mem.1 hx
  cases h : (readM x.val).2.1 with
  | false => rfl
  | true => exact absurd ⟨hw, .inr h⟩ h2
theorem least_adj {l : List Pr} (hr : Rise l) {w : Int} {k : Nat} {x y : Pr} (hy : (runL l w)[k]? = some y) (hx : (runL l w)[k + 1]? = some x) (hw : x.key.time ≤ w) (hp : y.key.path = x.key.path) : ¬ y.key.time ≤ w := by
  intro h
  have h1 := rise_at (run_rise hr w) (Nat.lt_succ_self k) hy hx
  obtain ⟨_, h2⟩ := run_mem.1 (List.mem_of_getElem? hx)
  obtain ⟨h3, _⟩ := run_mem.1 (List.mem_of_getElem? hy)
  rcases (rless_def _ _).1 h1 with h4 | ⟨_, h4⟩
  · rw [hp, bl_irrefl] at h4
    cases h4
  · exact h2 ⟨hw, .inl ⟨y, h3, hp, h4, h⟩⟩
theorem least_in {l : List Pr} (hr : Rise l) {w : Int} {x : Pr} (hx : x ∈ l) (hw : w < x.key.time) : (getT (runL l w) x.key).2 = true := by
  rw [getT_in (run_rise hr w) (run_mem.2 ⟨hx, fun h => by have := h.1; omega⟩)]
def laterN (l : List Pr) (w : Int) : Nat := (l.filter fun x => decide (w < x.key.time)).length
theorem later_le {l : List Pr} {w : Int} : laterN l w ≤ (runL l w).length := by
  unfold laterN runL
  have e : (l.filter fun x => decide (w < x.key.time)) = (l.filter fun x => !deadB l w x).filter fun x => decide (w < x.key.time) := by
    rw [List.filter_filter]
    refine List.filter_congr fun x hx => ?_
    by_cases h : w < x.key.time
    · have : deadB l w x = false := by
        cases hd : deadB l w x with
        | false => rfl
        | true => have := (deadB_iff.1 hd).1; omega
      simp [h, this]
    · simp [h]
  rw [e]
  exact List.length_filter_le _ _
theorem later_step {l : List Pr} {w : Int} {i : Nat} {x : Pr} (h : l.take (i + 1) = l.take i ++ [x]) : laterN (l.take (i + 1)) w = laterN (l.take i) w + if w < x.key.time then 1 else 0 := by
  unfold laterN
  rw [h, List.filter_append, List.length_append]
  congr 1
  by_cases hw : w < x.key.time <;> simp [hw]
theorem later_len (l : List Pr) (w : Int) : laterN l w ≤ l.length := List.length_filter_le _ _
noncomputable def leF (w : Int) (T A : Tr) (n : Int) (i : Nat) : AF := ⟨[(1, .int .i64 w), (5, T.av), (6, A.av), (7, .int .i64 n), (9, .sl 3 (A.all.map Pr.av) .none), (10, .int .i64 (i : Int))], []⟩
set_option maxRecDepth 100000 in
set_option maxHeartbeats 8000000 in
theorem vacuumLeast_ok (l : List Ld) (w : Int) (hl : ldsB l) : APure Tryz.prog 7 [ldA l .none, .int .i64 w] (.bool true) := by
  refine pure_sub (closed2 (closed_lds l (.inl rfl)) closed_int) (closed_bool) ?_
  refine acalls_of tabOK Tryz.func7 rfl (by decide) (by simp [Tryz.f7]) ?_
  have kb := bigL_ok l .none hl.1 hl.2
  cases h : bigL l
  · rw [h] at kb
    obtain ⟨hs, h20⟩ := bigL_no h |>.symm
    obtain ⟨hi, ho, _, _⟩ := laid_all_inv hs h20
    have km := vlaid_ok l .none (.inl rfl) h20 hs
    have kw := swept_ok
    have hst := hi.st
    have hvs := ho.vals
    have hln : (laidS l).1.all.length ≤ 500 := ho.1
    clear hi ho
    generalize (laidS l).1 = T at *
    have hr := T.rise
    change Rise T.all at hr
    have r1 := run_ok T (by omega) hvs w
    unfold runA at r1
    have ev : ∀ x : Int, vOk T.all x = !decide (x < 0) := fun x => by unfold vOk; rw [hst]; rfl
    by_cases hw : w < 0
    · have d1 : decide (w < 0) = true := by simp [hw]
      rw [if_neg (by rw [ev]; simp [hw])] at r1
      unfold ldA at *
      unfold Tr.av at km r1
      repeat' (first | refine DW_VB tabs rfl d1 ?_ | refine DW_box 11 tabOK rfl ?_ | refine DW_oix tabOK rfl ?_ | refine DW_olenA tabOK rfl ?_ | refine DW_A tabs rfl ?_ | refine DW_nil ?_ | refine W_A rfl ?_ | refine DW_C rfl kb ?_ | refine DW_C rfl km ?_ | refine DW_C rfl r1 ?_ | refine DW_C rfl kw ?_ | refine W_draw mixed [0, 1, 2, 3, 4, 5, 6, 7, 8, 9, 10, 11, 12, 13, 14, 15, 16, 17, 22, 23, 18, 19, 20, 21, 24, 25, 26, 27, 28, 29, 30, 31, 32, 33, 38, 34, 35, 36, 37, 39, 40, 41] [.P, .P, .P, .P, .P, .P, .P, .P, .P, .P, .P, .P, .P, .P, .P, .P, .P, .P, .R, .R, .R, .R, .P, .P, .R, .R, .R, .R, .P, .P, .P, .P, .P, .P, .R, .R, .R, .R, .P, .P, .P, .P] rfl rfl (by kernel_rfl) ?_)
      exact ⟨rfl, _, rfl, _, rfl, SubC.of_closed closed_bool⟩
    · have d1 : decide (w < 0) = false := by simp [hw]
      rw [if_pos (by rw [ev]; simp [hw])] at r1
      have hA := runT_all (t := T) (by omega) w
      have n1 := run_len hr w
      have hg := fun x hx hw => @least_gone T.all w x hx hw
      have hadj := fun k x y a b c d => @least_adj T.all hr w k x y a b c d
      have hin := fun x hx hw => @least_in T.all hr w x hx hw
      have hlt := @later_le T.all w
      have hAs := run_st hst w
      have hAv := run_vals hvs w
      rw [← hA] at n1 hg hadj hin hlt hAs hAv
      generalize runT T w = A at *
      generalize (scanD w T.all).2 = p1 at *
      have a1 := tAll_ok A (by omega)
      have a2 := tAll_ok T (by omega)
      have la := len_map Pr.av A.all
      have lb := len_map Pr.av T.all
      have kg := fun k => getT_ok A (by omega) k
      have hcT := closed_tr T
      have hcA := closed_tr A
      have f2 : IntKind.wrap .i64 ((A.all.length : Int) + (p1.length : Int)) = (T.all.length : Int) := by
        have : (A.all.length : Int) + (p1.length : Int) = (T.all.length : Int) := by omega
        rw [this]
        exact Go.Ab.wrap_small (by omega) (by omega)
      have hcL : Closed (.sl 3 (A.all.map Pr.av) .none) := closed_prs _
      unfold ldA at *
      unfold Tr.av at km r1 a1 a2
      repeat' (first | refine DW_VB tabs rfl d1 ?_ | refine DW_box 11 tabOK rfl ?_ | refine DW_oix tabOK rfl ?_ | refine DW_olenA tabOK rfl ?_ | refine DW_A tabs rfl ?_ | refine DW_nil ?_ | refine W_A rfl ?_ | refine DW_C rfl kb ?_ | refine DW_C rfl km ?_ | refine DW_C rfl r1 ?_ | refine DW_C rfl a1 ?_ | refine W_draw mixed [0, 1, 2, 3, 4, 5, 6, 7, 8, 9, 10, 11, 12, 13, 14, 15, 16, 17, 22, 23, 18, 19, 20, 21, 24, 25, 26, 27, 28, 29, 30, 31, 32, 33, 38, 34, 35, 36, 37, 39, 40, 41] [.P, .P, .P, .P, .P, .P, .P, .P, .P, .P, .P, .P, .P, .P, .P, .P, .P, .P, .R, .R, .R, .R, .P, .P, .R, .R, .R, .R, .P, .P, .P, .P, .P, .P, .R, .R, .R, .R, .P, .P, .P, .P] rfl rfl (by kernel_rfl) ?_)
      refine W_count A.all.length (fun i f N => N = ⟨0, []⟩ ∧ f = leF w T A p1.length i) (Nat.zero_le _) ⟨rfl, rfl⟩ (Joint.le ?_ (Mem.le_nil rfl)) ?_
      · unfold leF Tr.av
        repeat (refine AF.le_cons rfl ?_)
        exact AF.le_nil rfl
      rintro i f N hi ⟨rfl, rfl⟩
      unfold leF Tr.av
      by_cases h1 : i < A.all.length
      · have d2 : decide ((i : Int) < (A.all.length : Int)) = true := decide_eq_true (by omega)
        have hx : A.all[i]? = some A.all[i] := List.getElem?_eq_getElem h1
        have fi := wrap_succ (i := i) (by omega)
        have hm := List.getElem_mem h1
        generalize A.all[i] = x at hx hm
        have kr := read_ok x.val (hAv x hm).2
        have hk : okP x = true := isSt_mem hAs hm
        have fin : ∀ {f : AF} {M : Mem}, f.d = [] → SubC 0 (f.get 1) (.int .i64 w) → SubC 0 (f.get 5) T.av → SubC 0 (f.get 6) A.av → SubC 0 (f.get 7) (.int .i64 (p1.length : Int)) → SubC 0 (f.get 9) (.sl 3 (A.all.map Pr.av) .none) → SubC 0 (f.get 10) (.int .i64 ((i + 1 : Nat) : Int)) → ∃ f'' N, (N = ⟨0, []⟩ ∧ f'' = leF w T A p1.length (i + 1)) ∧ Joint 0 f M f'' N   := fun {f M} h0 q1 q2 q3 q4 q5 q6 =>
          ⟨leF w T A p1.length (i + 1), ⟨0, []⟩, ⟨rfl, rfl⟩, Joint.cut (k := 0) (t := (leF w T A p1.length (i + 1)).t) (l := []) (Nat.le_refl _) (Nat.zero_le _) h0 ⟨q1, q2, q3, q4, q5, q6, trivial⟩ trivial⟩
        unfold okP at hk
        simp only [Bool.and_eq_true, decide_eq_true_eq] at hk
        have hgx := hg x hm
        have hadx := fun k y => hadj k x y
        unfold rmA at kr
        rw [hk.1.1] at kr
        generalize readM x.val = rd at *
        obtain ⟨m, g, e⟩ := rd
        by_cases ho : x.key.time ≤ w
        · have d3 : decide (x.key.time ≤ w) = true := decide_eq_true ho
          obtain rfl : g = false := hgx ho
          by_cases h0 : i = 0
          · subst h0
            repeat' (first | refine DW_VB tabs rfl (by first | exact d2 | exact d3) ?_ | refine DW_VI tabs rfl (by first | exact la | exact fi) ?_ | refine DW_box 11 tabOK rfl ?_ | refine DW_oix tabOK rfl ?_ | refine DW_olenA tabOK rfl ?_ | refine DW_A tabs rfl ?_ | refine DW_nil ?_ | refine W_A rfl ?_ | refine DW_C rfl kr ?_ | refine DW_ix tabOK rfl (ixN hx) ?_ | refine W_draw mixed [0, 1, 2, 3, 4, 5, 6, 7, 8, 9, 10, 11, 12, 13, 14, 15, 16, 17, 22, 23, 18, 19, 20, 21, 24, 25, 26, 27, 28, 29, 30, 31, 32, 33, 38, 34, 35, 36, 37, 39, 40, 41] [.P, .P, .P, .P, .P, .P, .P, .P, .P, .P, .P, .P, .P, .P, .P, .P, .P, .P, .R, .R, .R, .R, .P, .P, .R, .R, .R, .R, .P, .P, .P, .P, .P, .P, .R, .R, .R, .R, .P, .P, .P, .P] rfl rfl (by kernel_rfl) ?_)
            refine ⟨h1, fin rfl ?_ ?_ ?_ ?_ ?_ ?_⟩
            · exact SubC.of_closed closed_int
            · exact SubC.of_closed hcT
            · exact SubC.of_closed hcA
            · exact SubC.of_closed closed_int
            · exact SubC.of_closed hcL
            · exact SubC.of_closed closed_int
          · obtain ⟨k, rfl⟩ : ∃ k, i = k + 1 := ⟨i - 1, by omega⟩
            have d4 : decide ((0 : Int) < ((k + 1 : Nat) : Int)) = true := decide_eq_true (by omega)
            have w1 : IntKind.wrap .i64 (((k + 1 : Nat) : Int) - 1) = (k : Int) := (Go.Ab.wrap_small (by omega) (by omega)).trans (by omega)
            have hy : A.all[k]? = some A.all[k] := List.getElem?_eq_getElem (by omega)
            have hyx := hadx k A.all[k] hy hx ho
            generalize A.all[k] = y at hy hyx
            by_cases hp : y.key.path = x.key.path
            · have d5 : (y.key.path == x.key.path) = true := by simp [hp]
              have d6 : decide (y.key.time ≤ w) = false := decide_eq_false (hyx hp)
              repeat' (first | refine DW_VB tabs rfl (by first | exact d2 | exact d3 | exact d4 | exact d5 | exact d6) ?_ | refine DW_VI tabs rfl (by first | exact la | exact fi | exact w1) ?_ | refine DW_box 11 tabOK rfl ?_ | refine DW_oix tabOK rfl ?_ | refine DW_olenA tabOK rfl ?_ | refine DW_A tabs rfl ?_ | refine DW_nil ?_ | refine W_A rfl ?_ | refine DW_C rfl kr ?_ | refine DW_ix tabOK rfl (ixN hx) ?_ | refine DW_ix tabOK rfl (ixN hy) ?_ | refine W_draw mixed [0, 1, 2, 3, 4, 5, 6, 7, 8, 9, 10, 11, 12, 13, 14, 15, 16, 17, 22, 23, 18, 19, 20, 21, 24, 25, 26, 27, 28, 29, 30, 31, 32, 33, 38, 34, 35, 36, 37, 39, 40, 41] [.P, .P, .P, .P, .P, .P, .P, .P, .P, .P, .P, .P, .P, .P, .P, .P, .P, .P, .R, .R, .R, .R, .P, .P, .R, .R, .R, .R, .P, .P, .P, .P, .P, .P, .R, .R, .R, .R, .P, .P, .P, .P] rfl rfl (by kernel_rfl) ?_)
              refine ⟨h1, fin rfl ?_ ?_ ?_ ?_ ?_ ?_⟩
              · exact SubC.of_closed closed_int
              · exact SubC.of_closed hcT
              · exact SubC.of_closed hcA
              · exact SubC.of_closed closed_int
              · exact SubC.of_closed hcL
              · exact SubC.of_closed closed_int
            · have d5 : (y.key.path == x.key.path) = false := by simp [hp]
              repeat' (first | refine DW_VB tabs rfl (by first | exact d2 | exact d3 | exact d4 | exact d5) ?_ | refine DW_VI tabs rfl (by first | exact la | exact fi | exact w1) ?_ | refine DW_box 11 tabOK rfl ?_ | refine DW_oix tabOK rfl ?_ | refine DW_olenA tabOK rfl ?_ | refine DW_A tabs rfl ?_ | refine DW_nil ?_ | refine W_A rfl ?_ | refine DW_C rfl kr ?_ | refine DW_ix tabOK rfl (ixN hx) ?_ | refine DW_ix tabOK rfl (ixN hy) ?_ | refine W_draw mixed [0, 1, 2, 3, 4, 5, 6, 7, 8, 9, 10, 11, 12, 13, 14, 15, 16, 17, 22, 23, 18, 19, 20, 21, 24, 25, 26, 27, 28, 29, 30, 31, 32, 33, 38, 34, 35, 36, 37, 39, 40, 41] [.P, .P, .P, .P, .P, .P, .P, .P, .P, .P, .P, .P, .P, .P, .P, .P, .P, .P, .R, .R, .R, .R, .P, .P, .R, .R, .R, .R, .P, .P, .P, .P, .P, .P, .R, .R, .R, .R, .P, .P, .P, .P] rfl rfl (by kernel_rfl) ?_)
              refine ⟨h1, fin rfl ?_ ?_ ?_ ?_ ?_ ?_⟩
              · exact SubC.of_closed closed_int
              · exact SubC.of_closed hcT
              · exact SubC.of_closed hcA
              · exact SubC.of_closed closed_int
              · exact SubC.of_closed hcL
              · exact SubC.of_closed closed_int
        · have d3 : decide (x.key.time ≤ w) = false := decide_eq_false ho
          by_cases h0 : i = 0
          · subst h0
            repeat' (first | refine DW_VB tabs rfl (by first | exact d2 | exact d3) ?_ | refine DW_VI tabs rfl (by first | exact la | exact fi) ?_ | refine DW_box 11 tabOK rfl ?_ | refine DW_oix tabOK rfl ?_ | refine DW_olenA tabOK rfl ?_ | refine DW_A tabs rfl ?_ | refine DW_nil ?_ | refine W_A rfl ?_ | refine DW_C rfl kr ?_ | refine DW_ix tabOK rfl (ixN hx) ?_ | refine W_draw mixed [0, 1, 2, 3, 4, 5, 6, 7, 8, 9, 10, 11, 12, 13, 14, 15, 16, 17, 22, 23, 18, 19, 20, 21, 24, 25, 26, 27, 28, 29, 30, 31, 32, 33, 38, 34, 35, 36, 37, 39, 40, 41] [.P, .P, .P, .P, .P, .P, .P, .P, .P, .P, .P, .P, .P, .P, .P, .P, .P, .P, .R, .R, .R, .R, .P, .P, .R, .R, .R, .R, .P, .P, .P, .P, .P, .P, .R, .R, .R, .R, .P, .P, .P, .P] rfl rfl (by kernel_rfl) ?_)
            refine ⟨h1, fin rfl ?_ ?_ ?_ ?_ ?_ ?_⟩
            · exact SubC.of_closed closed_int
            · exact SubC.of_closed hcT
            · exact SubC.of_closed hcA
            · exact SubC.of_closed closed_int
            · exact SubC.of_closed hcL
            · exact SubC.of_closed closed_int
          · have d4 : decide ((0 : Int) < (i : Int)) = true := decide_eq_true (by omega)
            repeat' (first | refine DW_VB tabs rfl (by first | exact d2 | exact d3 | exact d4) ?_ | refine DW_VI tabs rfl (by first | exact la | exact fi) ?_ | refine DW_box 11 tabOK rfl ?_ | refine DW_oix tabOK rfl ?_ | refine DW_olenA tabOK rfl ?_ | refine DW_A tabs rfl ?_ | refine DW_nil ?_ | refine W_A rfl ?_ | refine DW_C rfl kr ?_ | refine DW_ix tabOK rfl (ixN hx) ?_ | refine W_draw mixed [0, 1, 2, 3, 4, 5, 6, 7, 8, 9, 10, 11, 12, 13, 14, 15, 16, 17, 22, 23, 18, 19, 20, 21, 24, 25, 26, 27, 28, 29, 30, 31, 32, 33, 38, 34, 35, 36, 37, 39, 40, 41] [.P, .P, .P, .P, .P, .P, .P, .P, .P, .P, .P, .P, .P, .P, .P, .P, .P, .P, .R, .R, .R, .R, .P, .P, .R, .R, .R, .R, .P, .P, .P, .P, .P, .P, .R, .R, .R, .R, .P, .P, .P, .P] rfl rfl (by kernel_rfl) ?_)
            refine ⟨h1, fin rfl ?_ ?_ ?_ ?_ ?_ ?_⟩
            · exact SubC.of_closed closed_int
            · exact SubC.of_closed hcT
            · exact SubC.of_closed hcA
            · exact SubC.of_closed closed_int
            · exact SubC.of_closed hcL
            · exact SubC.of_closed closed_int
      · have d2 : decide ((i : Int) < (A.all.length : Int)) = false := decide_eq_false (by omega)
        obtain rfl : i = A.all.length := by omega
        repeat' (first | refine DW_VB tabs rfl d2 ?_ | refine DW_VI tabs rfl la ?_ | refine DW_box 11 tabOK rfl ?_ | refine DW_oix tabOK rfl ?_ | refine DW_olenA tabOK rfl ?_ | refine DW_A tabs rfl ?_ | refine DW_nil ?_ | refine W_A rfl ?_ | refine DW_C rfl a2 ?_ | refine W_draw mixed [0, 1, 2, 3, 4, 5, 6, 7, 8, 9, 10, 11, 12, 13, 14, 15, 16, 17, 22, 23, 18, 19, 20, 21, 24, 25, 26, 27, 28, 29, 30, 31, 32, 33, 38, 34, 35, 36, 37, 39, 40, 41] [.P, .P, .P, .P, .P, .P, .P, .P, .P, .P, .P, .P, .P, .P, .P, .P, .P, .P, .R, .R, .R, .R, .P, .P, .R, .R, .R, .R, .P, .P, .P, .P, .P, .P, .R, .R, .R, .R, .P, .P, .P, .P] rfl rfl (by kernel_rfl) ?_)
        have hin' : ∀ x, x ∈ T.all → w < x.key.time → (getT A.all x.key).2 = true := hin
        have lt := later_len
        have hn : A.all.length ≤ 500 := by omega
        clear hg hadj hin
        refine W_count T.all.length (fun i f N => N = ⟨0, []⟩ ∧ f = ⟨[(1, .int .i64 w), (6, A.av), (7, .int .i64 (p1.length : Int)), (9, .sl 3 (A.all.map Pr.av) .none), (15, .sl 3 (T.all.map Pr.av) .none), (16, .int .i64 (laterN (T.all.take i) w : Int)), (17, .int .i64 (i : Int))], []⟩) (Nat.zero_le _) ⟨rfl, rfl⟩ (Joint.le ?_ (Mem.le_nil rfl)) ?_
        · unfold Tr.av
          repeat (refine AF.le_cons rfl ?_)
          exact AF.le_nil rfl
        rintro i f N hi ⟨rfl, rfl⟩
        by_cases h1 : i < T.all.length
        · have d2 : decide ((i : Int) < (T.all.length : Int)) = true := decide_eq_true (by omega)
          have hx : T.all[i]? = some T.all[i] := List.getElem?_eq_getElem h1
          have fi := wrap_succ (i := i) (by omega)
          have hm := List.getElem_mem h1
          have hst := later_step (w := w) (take_succ hx)
          have hll := lt (T.all.take i) w
          rw [List.length_take] at hll
          generalize T.all[i] = x at hx hm hst
          have kgx := kg x.key
          unfold gtA at kgx
          by_cases hw2 : w < x.key.time
          · have d3 : decide (w < x.key.time) = true := decide_eq_true hw2
            rw [hin' x hm hw2] at kgx
            rw [if_pos hw2] at hst
            have fl : IntKind.wrap .i64 ((laterN (T.all.take i) w : Int) + 1) = ((laterN (T.all.take (i + 1)) w : Nat) : Int) := by
              rw [hst]
              exact wrap_succ (by omega)
            unfold Ky.av at kgx
            unfold Tr.av at kgx ⊢
            repeat' (first | refine DW_VB tabs rfl (by first | exact d2 | exact d3) ?_ | refine DW_VI tabs rfl (by first | exact lb | exact fi | exact fl) ?_ | refine DW_box 11 tabOK rfl ?_ | refine DW_oix tabOK rfl ?_ | refine DW_olenA tabOK rfl ?_ | refine DW_A tabs rfl ?_ | refine DW_nil ?_ | refine W_A rfl ?_ | refine DW_C rfl kgx ?_ | refine DW_ix tabOK rfl (ixN hx) ?_ | refine W_draw mixed [0, 1, 2, 3, 4, 5, 6, 7, 8, 9, 10, 11, 12, 13, 14, 15, 16, 17, 22, 23, 18, 19, 20, 21, 24, 25, 26, 27, 28, 29, 30, 31, 32, 33, 38, 34, 35, 36, 37, 39, 40, 41] [.P, .P, .P, .P, .P, .P, .P, .P, .P, .P, .P, .P, .P, .P, .P, .P, .P, .P, .R, .R, .R, .R, .P, .P, .R, .R, .R, .R, .P, .P, .P, .P, .P, .P, .R, .R, .R, .R, .P, .P, .P, .P] rfl rfl (by kernel_rfl) ?_)
            refine ⟨h1, _, _, ⟨rfl, rfl⟩, Joint.le ?_ (Mem.le_nil rfl)⟩
            repeat (refine AF.le_cons rfl ?_)
            exact AF.le_nil rfl
          · have d3 : decide (w < x.key.time) = false := decide_eq_false hw2
            rw [if_neg hw2, Nat.add_zero] at hst
            unfold Ky.av at kgx
            unfold Tr.av at kgx ⊢
            rw [hst]
            repeat' (first | refine DW_VB tabs rfl (by first | exact d2 | exact d3) ?_ | refine DW_VI tabs rfl (by first | exact lb | exact fi) ?_ | refine DW_box 11 tabOK rfl ?_ | refine DW_oix tabOK rfl ?_ | refine DW_olenA tabOK rfl ?_ | refine DW_A tabs rfl ?_ | refine DW_nil ?_ | refine W_A rfl ?_ | refine DW_C rfl kgx ?_ | refine DW_ix tabOK rfl (ixN hx) ?_ | refine W_draw mixed [0, 1, 2, 3, 4, 5, 6, 7, 8, 9, 10, 11, 12, 13, 14, 15, 16, 17, 22, 23, 18, 19, 20, 21, 24, 25, 26, 27, 28, 29, 30, 31, 32, 33, 38, 34, 35, 36, 37, 39, 40, 41] [.P, .P, .P, .P, .P, .P, .P, .P, .P, .P, .P, .P, .P, .P, .P, .P, .P, .P, .R, .R, .R, .R, .P, .P, .R, .R, .R, .R, .P, .P, .P, .P, .P, .P, .R, .R, .R, .R, .P, .P, .P, .P] rfl rfl (by kernel_rfl) ?_)
            refine ⟨h1, _, _, ⟨rfl, rfl⟩, Joint.le ?_ (Mem.le_nil rfl)⟩
            repeat (refine AF.le_cons rfl ?_)
            exact AF.le_nil rfl
        · have d2 : decide ((i : Int) < (T.all.length : Int)) = false := decide_eq_false (by omega)
          obtain rfl : i = T.all.length := by omega
          rw [List.take_length]
          have d3 : decide ((laterN T.all w : Int) ≤ (A.all.length : Int)) = true := decide_eq_true (by omega)
          have d4 : decide ((T.all.length : Int) = (T.all.length : Int)) = true := by simp
          unfold Tr.av
          repeat' (first | refine DW_VB tabs rfl (by first | exact d2 | exact d3 | exact d4) ?_ | refine DW_VI tabs rfl (by first | exact la | exact lb | exact f2) ?_ | refine DW_box 11 tabOK rfl ?_ | refine DW_oix tabOK rfl ?_ | refine DW_olenA tabOK rfl ?_ | refine DW_A tabs rfl ?_ | refine DW_nil ?_ | refine W_A rfl ?_ | refine DW_C rfl kw ?_ | refine W_draw mixed [0, 1, 2, 3, 4, 5, 6, 7, 8, 9, 10, 11, 12, 13, 14, 15, 16, 17, 22, 23, 18, 19, 20, 21, 24, 25, 26, 27, 28, 29, 30, 31, 32, 33, 38, 34, 35, 36, 37, 39, 40, 41] [.P, .P, .P, .P, .P, .P, .P, .P, .P, .P, .P, .P, .P, .P, .P, .P, .P, .P, .R, .R, .R, .R, .P, .P, .R, .R, .R, .R, .P, .P, .P, .P, .P, .P, .R, .R, .R, .R, .P, .P, .P, .P] rfl rfl (by kernel_rfl) ?_)
          exact ⟨rfl, _, rfl, _, rfl, SubC.of_closed closed_bool⟩
  · rw [h] at kb
    unfold ldA at *
    repeat' (first | refine DW_box 11 tabOK rfl ?_ | refine DW_oix tabOK rfl ?_ | refine DW_olenA tabOK rfl ?_ | refine DW_A tabs rfl ?_ | refine DW_nil ?_ | refine W_A rfl ?_ | refine DW_C rfl kb ?_ | refine W_draw mixed [0, 1, 2, 3, 4, 5, 6, 7, 8, 9, 10, 11, 12, 13, 14, 15, 16, 17, 22, 23, 18, 19, 20, 21, 24, 25, 26, 27, 28, 29, 30, 31, 32, 33, 38, 34, 35, 36, 37, 39, 40, 41] [.P, .P, .P, .P, .P, .P, .P, .P, .P, .P, .P, .P, .P, .P, .P, .P, .P, .P, .R, .R, .R, .R, .P, .P, .R, .R, .R, .R, .P, .P, .P, .P, .P, .P, .R, .R, .R, .R, .P, .P, .P, .P] rfl rfl (by kernel_rfl) ?_)
    exact ⟨rfl, _, rfl, _, rfl, SubC.of_closed closed_bool⟩
end Go.Proofs.YtmgkebghojhocaaGreatDoor
