/- Versions that are dead, by the document. No further condition. -/
import Derived.Test.YthdeopopodhimaaGreatDoorV25
set_option linter.unusedVariables false
set_option linter.unusedSimpArgs false
namespace Go.Proofs.YthdeopopodhimaaGreatDoor
open Go.Ab

def prA (l : List Pr) : AV := .sl 3 (l.map Pr.av) .none
theorem closed_prA (l : List Pr) : Closed (prA l) := closed_slmap (fun p => closed_pr p) (fun p c hc => by
  have : c ∈ [AV.str p.key.path, .int .i64 p.key.time, .str p.val] := hc
  exact closed3 closed_str closed_int closed_str c this)
def riF1 (l : List Pr) (i : Nat) : AF := ⟨[(0, prA l), (3, .int .i64 (i : Int))], []⟩
set_option maxRecDepth 100000 in
set_option maxHeartbeats 8000000 in
theorem rStIs_ok (l : List Pr) (hl : l.length < 1000000) (hv : valsB l) : APure Tryz.prog 44 [prA l] (.bool (isSt l)) := by
  refine pure_sub (closed1 (closed_prA l)) (closed_bool) ?_
  refine acalls_of tabOK Tryz.func44 rfl (by decide) (by simp [Tryz.f44]) ?_
  have la := len_map Pr.av l
  unfold prA
  repeat' (first | refine DW_VI tabs rfl la ?_ | refine DW_A tabs rfl ?_ | refine DW_nil ?_ | refine W_A rfl ?_)
  refine W_count l.length (fun i f N => N = ⟨0, []⟩ ∧ isSt (l.take i) = true ∧ f = riF1 l i) (Nat.zero_le _) ⟨rfl, rfl, rfl⟩ (Joint.le ?_ (Mem.le_nil rfl)) ?_
  · unfold riF1 prA
    repeat (refine AF.le_cons rfl ?_)
    exact AF.le_nil rfl
  rintro i f N hi ⟨rfl, hinv, rfl⟩
  unfold riF1 prA
  by_cases h1 : i < l.length
  · have d1 : decide ((i : Int) < (l.length : Int)) = true := by simp; omega
    have hx : l[i]? = some l[i] := List.getElem?_eq_getElem h1
    have fi := wrap_succ (i := i) (by omega)
    have ht := take_succ hx
    have hm := List.getElem_mem h1
    have hsx := hv _ hm
    have hno : okP l[i] = false → isSt l = false := fun h => by
      rw [Bool.eq_false_iff]
      intro h2
      rw [isSt_mem h2 hm] at h
      cases h
    have hyes : okP l[i] = true → isSt (l.take (i + 1)) = true := fun h => by
      unfold isSt at hinv ⊢
      rw [ht, List.all_append, hinv]
      simp [h]
    generalize l[i] = x at *
    have kr := rRead_ok x.val hsx.2
    have kk := rIsKey_ok x.key hsx.1
    have hcl := closed_prA l
    unfold okP at hno hyes
    unfold rmA at kr
    cases g1 : isKeyB x.key
    · rw [g1] at kk
      rw [hno (by rw [g1]; simp)]
      repeat' (first | refine DW_VB tabs rfl d1 ?_ | refine DW_VI tabs rfl la ?_ | refine DW_A tabs rfl ?_ | refine DW_nil ?_ | refine W_A rfl ?_ | refine DW_C rfl kr ?_ | refine DW_C rfl kk ?_ | refine DW_ix tabOK rfl (ixN hx) ?_)
      exact ⟨rfl, _, rfl, _, rfl, SubC.of_closed closed_bool⟩
    · rw [g1] at kk
      by_cases g2 : x.key.path = []
      · have d2 : (x.key.path == ([] : Bytes)) = true := by simp [g2]
        rw [hno (by rw [d2]; simp)]
        repeat' (first | refine DW_VB tabs rfl (by first | exact d1 | exact d2) ?_ | refine DW_VI tabs rfl la ?_ | refine DW_A tabs rfl ?_ | refine DW_nil ?_ | refine W_A rfl ?_ | refine DW_C rfl kr ?_ | refine DW_C rfl kk ?_ | refine DW_ix tabOK rfl (ixN hx) ?_)
        exact ⟨rfl, _, rfl, _, rfl, SubC.of_closed closed_bool⟩
      · have d2 : (x.key.path == ([] : Bytes)) = false := by simp [g2]
        by_cases g3 : (readM x.val).2.2 = 0
        · have d3 : (!decide ((readM x.val).2.2 = 0)) = false := by simp [g3]
          repeat' (first | refine DW_VB tabs rfl (by first | exact d1 | exact d2 | exact d3) ?_ | refine DW_VI tabs rfl (by first | exact la | exact fi) ?_ | refine DW_A tabs rfl ?_ | refine DW_nil ?_ | refine W_A rfl ?_ | refine DW_C rfl kr ?_ | refine DW_C rfl kk ?_ | refine DW_ix tabOK rfl (ixN hx) ?_)
          refine ⟨h1, riF1 l (i + 1), ⟨0, []⟩, ⟨rfl, hyes (by rw [g1, d2, decide_eq_true g3]; rfl), rfl⟩, Joint.cut (k := 0) (t := (riF1 l (i + 1)).t) (l := []) (Nat.le_refl _) (Nat.zero_le _) rfl ⟨SubC.of_closed hcl, SubC.of_closed closed_int, trivial⟩ trivial⟩
        · have d3 : (!decide ((readM x.val).2.2 = 0)) = true := by simp [g3]
          rw [hno (by rw [decide_eq_false g3]; rfl)]
          repeat' (first | refine DW_VB tabs rfl (by first | exact d1 | exact d2 | exact d3) ?_ | refine DW_VI tabs rfl la ?_ | refine DW_A tabs rfl ?_ | refine DW_nil ?_ | refine W_A rfl ?_ | refine DW_C rfl kr ?_ | refine DW_C rfl kk ?_ | refine DW_ix tabOK rfl (ixN hx) ?_)
          exact ⟨rfl, _, rfl, _, rfl, SubC.of_closed closed_bool⟩
  · have d1 : decide ((i : Int) < (l.length : Int)) = false := by simp; omega
    obtain rfl : i = l.length := by omega
    rw [List.take_length] at hinv
    rw [hinv]
    repeat' (first | refine DW_VB tabs rfl d1 ?_ | refine DW_VI tabs rfl la ?_ | refine DW_A tabs rfl ?_ | refine DW_nil ?_ | refine W_A rfl ?_)
    exact ⟨rfl, _, rfl, _, rfl, SubC.of_closed closed_bool⟩

def rdF (l : List Pr) (i : Nat) (w : Int) (j : Nat) : AF := ⟨[(0, prA l), (1, .int .i64 (i : Int)), (2, .int .i64 w), (7, .ptr 0 0), (8, .int .i64 (j : Int))], []⟩
set_option maxRecDepth 100000 in
set_option maxHeartbeats 8000000 in
theorem rDead_ok (l : List Pr) (i : Nat) (x : Pr) (w : Int) (hl : l.length < 1000000) (hx : l[i]? = some x) (hv : x.val.length < 1000000) : APure Tryz.prog 56 [prA l, .int .i64 (i : Int), .int .i64 w] (.bool (deadB l w x)) := by
  refine pure_sub (closed3 (closed_prA l) closed_int closed_int) (closed_bool) ?_
  refine acalls_of tabOK Tryz.func56 rfl (by decide) (by simp [Tryz.f56]) ?_
  have la := len_map Pr.av l
  have kr := rRead_ok x.val hv
  unfold rmA at kr
  have hcl := closed_prA l
  have hil := (List.getElem?_eq_some_iff.1 hx).1
  by_cases h0 : w < x.key.time
  · have d0 : decide (w < x.key.time) = true := by simp [h0]
    have e : deadB l w x = false := by
      rw [Bool.eq_false_iff]
      intro h
      have := (deadB_iff.1 h).1
      omega
    rw [e]
    unfold prA
    repeat' (first | refine DW_VB tabs rfl d0 ?_ | refine DW_VI tabs rfl la ?_ | refine DW_A tabs rfl ?_ | refine DW_nil ?_ | refine W_A rfl ?_ | refine DW_ix tabOK rfl (ixN hx) ?_ | refine W_draw mixed [0, 1, 2, 3, 4, 5, 6, 7, 8, 9, 10, 11, 16, 12, 13, 14, 15, 17, 18, 19, 20, 21, 22, 23, 24, 25, 26, 27, 28, 29] [.P, .P, .R, .R, .R, .R, .R, .R, .P, .P, .P, .P, .R, .R, .R, .R, .P, .P, .P, .P, .P, .P, .R, .R, .R, .R, .R, .R, .P, .P] rfl rfl (by kernel_rfl) ?_)
    exact ⟨rfl, _, rfl, _, rfl, SubC.of_closed closed_bool⟩
  · have d0 : decide (w < x.key.time) = false := by simp; omega
    unfold prA
    repeat' (first | refine DW_VB tabs rfl d0 ?_ | refine DW_VI tabs rfl la ?_ | refine DW_A tabs rfl ?_ | refine DW_nil ?_ | refine W_A rfl ?_ | refine DW_ix tabOK rfl (ixN hx) ?_ | refine W_draw mixed [0, 1, 2, 3, 4, 5, 6, 7, 8, 9, 10, 11, 16, 12, 13, 14, 15, 17, 18, 19, 20, 21, 22, 23, 24, 25, 26, 27, 28, 29] [.P, .P, .R, .R, .R, .R, .R, .R, .P, .P, .P, .P, .R, .R, .R, .R, .P, .P, .P, .P, .P, .P, .R, .R, .R, .R, .R, .R, .P, .P] rfl rfl (by kernel_rfl) ?_)
    refine W_count l.length (fun j f N => N = ⟨1, [(0, .cells [.str x.key.path, .int .i64 x.key.time])]⟩ ∧ ¬ newer (l.take j) w x ∧ f = rdF l i w j) (Nat.zero_le _) ⟨rfl, by rintro ⟨y, hy, _⟩; simp at hy, rfl⟩ (Joint.le ?_ (Mem.le_cons rfl (Mem.le_nil rfl))) ?_
    · unfold rdF prA
      repeat (refine AF.le_cons rfl ?_)
      exact AF.le_nil rfl
    rintro j f N hj ⟨rfl, hinv, rfl⟩
    unfold rdF prA
    by_cases h1 : j < l.length
    · have d1 : decide ((j : Int) < (l.length : Int)) = true := by simp; omega
      have hy : l[j]? = some l[j] := List.getElem?_eq_getElem h1
      have fi := wrap_succ (i := j) (by omega)
      have ht := take_succ hy
      have hm := List.getElem_mem h1
      have hnx : ¬ newer [l[j]] w x → ¬ newer (l.take (j + 1)) w x := by
        rintro h2 ⟨y, hy2, h3⟩
        rw [ht] at hy2
        rcases List.mem_append.1 hy2 with hy2 | hy2
        · exact hinv ⟨y, hy2, h3⟩
        · exact h2 ⟨y, hy2, h3⟩
      generalize l[j] = y at *
      have step : ¬ newer [y] w x → rdF l i w (j + 1) = rdF l i w (j + 1) := fun _ => rfl
      by_cases g1 : y.key.path = x.key.path
      · have c1 : (y.key.path == x.key.path) = true := by simp [g1]
        by_cases g2 : y.key.time ≤ w
        · have c2 : decide (y.key.time ≤ w) = true := by simp [g2]
          by_cases g3 : x.key.time < y.key.time
          · have c3 : decide (x.key.time < y.key.time) = true := by simp [g3]
            have e : deadB l w x = true := deadB_iff.2 ⟨by omega, .inl ⟨y, hm, g1, g3, g2⟩⟩
            rw [e]
            repeat' (first | refine DW_VB tabs rfl (by first | exact d1 | exact c1 | exact c2 | exact c3) ?_ | refine DW_VI tabs rfl la ?_ | refine DW_A tabs rfl ?_ | refine DW_nil ?_ | refine W_A rfl ?_ | refine DW_ix tabOK rfl (ixN hy) ?_ | refine W_draw mixed [0, 1, 2, 3, 4, 5, 6, 7, 8, 9, 10, 11, 16, 12, 13, 14, 15, 17, 18, 19, 20, 21, 22, 23, 24, 25, 26, 27, 28, 29] [.P, .P, .R, .R, .R, .R, .R, .R, .P, .P, .P, .P, .R, .R, .R, .R, .P, .P, .P, .P, .P, .P, .R, .R, .R, .R, .R, .R, .P, .P] rfl rfl (by kernel_rfl) ?_)
            exact ⟨rfl, _, rfl, _, rfl, SubC.of_closed closed_bool⟩
          · have c3 : decide (x.key.time < y.key.time) = false := by simp; omega
            have hn := hnx (by rintro ⟨z, hz, _, h4, _⟩; simp at hz; subst hz; omega)
            repeat' (first | refine DW_VB tabs rfl (by first | exact d1 | exact c1 | exact c2 | exact c3) ?_ | refine DW_VI tabs rfl (by first | exact la | exact fi) ?_ | refine DW_A tabs rfl ?_ | refine DW_nil ?_ | refine W_A rfl ?_ | refine DW_ix tabOK rfl (ixN hy) ?_ | refine W_draw mixed [0, 1, 2, 3, 4, 5, 6, 7, 8, 9, 10, 11, 16, 12, 13, 14, 15, 17, 18, 19, 20, 21, 22, 23, 24, 25, 26, 27, 28, 29] [.P, .P, .R, .R, .R, .R, .R, .R, .P, .P, .P, .P, .R, .R, .R, .R, .P, .P, .P, .P, .P, .P, .R, .R, .R, .R, .R, .R, .P, .P] rfl rfl (by kernel_rfl) ?_)
            refine ⟨h1, rdF l i w (j + 1), _, ⟨rfl, hn, rfl⟩, Joint.le ?_ (Mem.le_cons rfl (Mem.le_nil rfl))⟩
            unfold rdF prA
            repeat (refine AF.le_cons rfl ?_)
            exact AF.le_nil rfl
        · have c2 : decide (y.key.time ≤ w) = false := by simp; omega
          have hn := hnx (by rintro ⟨z, hz, _, _, h4⟩; simp at hz; subst hz; omega)
          repeat' (first | refine DW_VB tabs rfl (by first | exact d1 | exact c1 | exact c2) ?_ | refine DW_VI tabs rfl (by first | exact la | exact fi) ?_ | refine DW_A tabs rfl ?_ | refine DW_nil ?_ | refine W_A rfl ?_ | refine DW_ix tabOK rfl (ixN hy) ?_ | refine W_draw mixed [0, 1, 2, 3, 4, 5, 6, 7, 8, 9, 10, 11, 16, 12, 13, 14, 15, 17, 18, 19, 20, 21, 22, 23, 24, 25, 26, 27, 28, 29] [.P, .P, .R, .R, .R, .R, .R, .R, .P, .P, .P, .P, .R, .R, .R, .R, .P, .P, .P, .P, .P, .P, .R, .R, .R, .R, .R, .R, .P, .P] rfl rfl (by kernel_rfl) ?_)
          refine ⟨h1, rdF l i w (j + 1), _, ⟨rfl, hn, rfl⟩, Joint.le ?_ (Mem.le_cons rfl (Mem.le_nil rfl))⟩
          unfold rdF prA
          repeat (refine AF.le_cons rfl ?_)
          exact AF.le_nil rfl
      · have c1 : (y.key.path == x.key.path) = false := by simp [g1]
        have hn := hnx (by rintro ⟨z, hz, h4, _⟩; simp at hz; subst hz; exact g1 h4)
        repeat' (first | refine DW_VB tabs rfl (by first | exact d1 | exact c1) ?_ | refine DW_VI tabs rfl (by first | exact la | exact fi) ?_ | refine DW_A tabs rfl ?_ | refine DW_nil ?_ | refine W_A rfl ?_ | refine DW_ix tabOK rfl (ixN hy) ?_ | refine W_draw mixed [0, 1, 2, 3, 4, 5, 6, 7, 8, 9, 10, 11, 16, 12, 13, 14, 15, 17, 18, 19, 20, 21, 22, 23, 24, 25, 26, 27, 28, 29] [.P, .P, .R, .R, .R, .R, .R, .R, .P, .P, .P, .P, .R, .R, .R, .R, .P, .P, .P, .P, .P, .P, .R, .R, .R, .R, .R, .R, .P, .P] rfl rfl (by kernel_rfl) ?_)
        refine ⟨h1, rdF l i w (j + 1), _, ⟨rfl, hn, rfl⟩, Joint.le ?_ (Mem.le_cons rfl (Mem.le_nil rfl))⟩
        unfold rdF prA
        repeat (refine AF.le_cons rfl ?_)
        exact AF.le_nil rfl
    · have d1 : decide ((j : Int) < (l.length : Int)) = false := by simp; omega
      obtain rfl : j = l.length := by omega
      rw [List.take_length] at hinv
      have e : deadB l w x = (readM x.val).2.1 := by
        rw [Bool.eq_iff_iff, deadB_iff]
        constructor
        · rintro ⟨_, h2 | h2⟩
          · exact absurd h2 hinv
          · exact h2
        · intro h2
          exact ⟨by omega, .inr h2⟩
      rw [e]
      repeat' (first | refine DW_VB tabs rfl d1 ?_ | refine DW_VI tabs rfl la ?_ | refine DW_A tabs rfl ?_ | refine DW_nil ?_ | refine W_A rfl ?_ | refine DW_C rfl kr ?_ | refine DW_ix tabOK rfl (ixN hx) ?_ | refine W_draw mixed [0, 1, 2, 3, 4, 5, 6, 7, 8, 9, 10, 11, 16, 12, 13, 14, 15, 17, 18, 19, 20, 21, 22, 23, 24, 25, 26, 27, 28, 29] [.P, .P, .R, .R, .R, .R, .R, .R, .P, .P, .P, .P, .R, .R, .R, .R, .P, .P, .P, .P, .P, .P, .R, .R, .R, .R, .R, .R, .P, .P] rfl rfl (by kernel_rfl) ?_)
      exact ⟨rfl, _, rfl, _, rfl, SubC.of_closed closed_bool⟩
end Go.Proofs.YthdeopopodhimaaGreatDoor
