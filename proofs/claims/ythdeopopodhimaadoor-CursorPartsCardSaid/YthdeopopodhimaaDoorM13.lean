/- Parts of the proof, one behind the other: TreeH, TreeI. No further condition. -/
import Derived.Test.YthdeopopodhimaaDoorM12
set_option linter.unusedVariables false
set_option linter.unusedSimpArgs false
/- What stands in a fork from a key on is told. No further condition. -/
set_option linter.unusedVariables false
set_option linter.unusedSimpArgs false
namespace Go.Proofs.YthdeopopodhimaaDoor
open Go.Ab

theorem from_zero {out : List Pr} {n : Nat} {k : Ky} {h : Nat} {l : List (Vt h)} : fromF out n k l 0 = out := by
  unfold fromF takeF
  have : allL h (l.take 0) = [] := rfl
  rw [this]
  simp [fromP]

set_option maxHeartbeats 1000000 in
set_option maxRecDepth 100000 in
theorem forkFrom_ok (h : Nat) (IH : FromOK h) (l : Vt (h + 1)) (hv : okN (h + 1) l) (hr : Rise (allV (h + 1) l)) (k : Ky) (out : List Pr) (ho : out.length < 100000000) (n : Nat) (hn : n < 100000000) (g : Nat) :
    ACalls Tryd.prog 110 [inV (h + 1) l, k.av, .sl 3 (out.map Pr.av) (.tok 0 g), .int .i64 (n : Int)] (tokM g) (fun e M' => ∃ g', e = .ret (.sl 3 ((takeF out n (fromP (allV (h + 1) l) k)).map Pr.av) (.tok 0 g')) ∧ (tokM g').le M') := by
  obtain ⟨h1, h2, h3⟩ := hv
  have h0 : l.kids ≠ [] := by intro he; rw [he] at h1; simp at h1
  obtain ⟨a, v, b, e1, e2, e3, e4, e5⟩ := below_cut h0 h3 hr k
  have hall : allV (h + 1) l = allL h a ++ allL h (v :: b) := by
    show allL h l.kids = _
    rw [e1, allL_app]
  have hrb : Rise (allL h (v :: b)) := by rw [hall] at hr; exact (List.pairwise_append.1 hr).2.1
  have hdrop : l.kids.drop (belowV l.kids k) = v :: b := by rw [e2, e1, List.drop_left]
  have hble : belowV l.kids k ≤ l.kids.length := by rw [e2, e1]; simp
  have hkids : ∀ x, x ∈ v :: b → okN h x := fun x hx => h3 x (by rw [e1]; simp at hx ⊢; rcases hx with rfl | hx <;> simp [*])
  have hbl : (v :: b).length ≤ 4 := by rw [e1] at h2; simp at h2 ⊢; omega
  have hlater : ∀ x, x ∈ allL h b → rless x.key k = false := fun x hx => rless_asymm (e5 x hx)
  rw [hall, fromP_ahead e4]
  have hfin : takeF out n (fromP (allL h (v :: b)) k) = fromF out n k (v :: b) (v :: b).length := by unfold fromF; rw [List.take_length]
  rw [hfin]
  have kb := below_ok h l.kids ((allV (h + 1) l).length : Int) (by omega) h3 k
  have hlat2 : ∀ i, 0 < i → ∀ p, p ∈ allL h ((v :: b).drop i) → rless p.key k = false := by
    intro i hi p hp
    match i, hi with
    | i + 1, _ =>
      refine hlater p ?_
      have := allL_app (h := h) (b.take i) (b.drop i)
      rw [List.take_append_drop] at this
      rw [this]
      simp at hp ⊢
      exact .inr hp
  generalize belowV l.kids k = at_ at kb hdrop hble
  have hin : inV (h + 1) l = .agg [.sl 1 (l.kids.map (avV h)) .none, .int .i64 ((allV (h + 1) l).length : Int)] := rfl
  rw [hin]
  generalize ((allV (h + 1) l).length : Int) = cnt at kb
  refine acalls_of tabOK Tryd.func110 rfl (by decide) (by simp [Tryd.f110]) ?_
  repeat' (first | (show DW _ _ _ _ _ _ _ _; first | refine DW_A tabs rfl ?_ | refine DW_nil ?_ | refine DW_lits tabOK rfl rfl rfl rfl rfl rfl rfl rfl rfl rfl rfl rfl rfl ?_ | refine DW_pure rfl rfl rfl rfl rfl kb ?_ | refine DW_append_own tabOK rfl rfl rfl rfl rfl rfl rfl rfl rfl rfl rfl rfl rfl rfl rfl (by simp; omega) (by simp; omega) ?_) | (show W _ _ _ _ _ _; first | refine W_seq ?_ | refine W_text rfl (fun _ _ _ h => h) ?_ | refine W_block ?_ | refine W_skip ?_ | refine W_exit ?_ | refine W_ret ?_ | refine W_true rfl ?_ | refine W_false rfl ?_ | refine W_cond rfl (fun _ => ?_) (fun _ => ?_) | refine W_draw mixed [7, 0, 1, 2, 3, 4, 5, 6] [.R, .R, .R, .R, .P, .P, .P, .P] rfl rfl (by kernel_rfl) ?_))
  refine DW_from tabOK rfl rfl rfl rfl (lo := at_) rfl rfl rfl rfl rfl rfl hble ?_
  rw [hdrop]
  generalize hL : v :: b = L at hkids hbl hlat2 hrb
  have la : ((L.map (avV h)).length : Int) = (L.length : Int) := by simp
  repeat' (first | (show DW _ _ _ _ _ _ _ _; first | refine DW_V tabs rfl rfl rfl rfl (congrArg (AV.int _) la) ?_ | refine DW_A tabs rfl ?_ | refine DW_nil ?_ | refine DW_lits tabOK rfl rfl rfl rfl rfl rfl rfl rfl rfl rfl rfl rfl rfl ?_ | refine DW_append_own tabOK rfl rfl rfl rfl rfl rfl rfl rfl rfl rfl rfl rfl rfl rfl rfl (by simp; omega) (by simp; omega) ?_) | (show W _ _ _ _ _ _; first | refine W_seq ?_ | refine W_text rfl (fun _ _ _ h => h) ?_ | refine W_block ?_ | refine W_skip ?_ | refine W_exit ?_ | refine W_ret ?_ | refine W_true rfl ?_ | refine W_false rfl ?_ | refine W_cond rfl (fun _ => ?_) (fun _ => ?_) | refine W_draw mixed [7, 0, 1, 2, 3, 4, 5, 6] [.R, .R, .R, .R, .P, .P, .P, .P] rfl rfl (by kernel_rfl) ?_))
  refine W_count L.length (fun i f N => ∃ (g : Nat), N = tokM g ∧ f = ⟨[(2, .sl 3 ((fromF out n k L i).map Pr.av) (.tok 0 g)), (3, .int .i64 (n : Int)), (5, .ref [.str k.path, .int .i64 k.time]), (16, .sl 1 (L.map (avV h)) .none), (17, .int .i64 (L.length : Int)), (18, .int .i64 (i : Int))], []⟩) (Nat.zero_le _) ⟨g, rfl, rfl⟩
    (Joint.le (AF.le_cons (by rw [from_zero]; rfl) (AF.le_cons rfl (AF.le_cons rfl (AF.le_cons rfl (AF.le_cons rfl (AF.le_cons rfl (AF.le_nil rfl))))))) (tokM_of rfl rfl)) ?_
  rintro i f N hi ⟨g, rfl, rfl⟩
  by_cases hi1 : i < L.length
  · have d1 : decide ((i : Int) < (L.length : Int)) = true := by simp; omega
    have hx : L[i]? = some L[i] := List.getElem?_eq_getElem hi1
    have fi := wrap_succ (i := i) (by omega)
    have hxm : L[i] ∈ L := List.getElem_mem hi1
    have hxl : ∀ p, p ∈ allV h L[i] → p ∈ allL h (L.drop i) := by
      intro p hp
      rw [List.drop_eq_getElem_cons hi1, allL_cons]
      simp [hp]
    have hxr : Rise (allV h L[i]) := by
      have e : allL h L = allL h (L.take i) ++ (allV h L[i] ++ allL h (L.drop (i + 1))) := by
        rw [← allL_cons, ← List.drop_eq_getElem_cons hi1, ← allL_app, List.take_append_drop]
      rw [e] at hrb
      exact rise_mid hrb
    generalize L[i] = x at hx hxm hxl hxr
    have hstep := from_step (k := k) (out := out) (n := n) hx (fun h0 p hp => hlat2 i h0 p (hxl p hp))
    have hlen : (fromF out n k L i).length < 100000000 := Nat.lt_of_le_of_lt (takeF_len _ _ _) (Nat.max_lt.2 ⟨by first | exact ho | simp, hn⟩)
    have lo : (((fromF out n k L i).map Pr.av).length : Int) = ((fromF out n k L i).length : Int) := by simp
    by_cases hf : n ≤ (fromF out n k L i).length
    · have d2 : decide ((n : Int) ≤ ((fromF out n k L i).length : Int)) = true := by simp; omega
      have hst : fromF out n k L i = fromF out n k L L.length := by
        refine from_stop hrb hf ?_ (hlat2 i)
        by_cases h0 : i = 0
        · subst h0
          rw [from_zero] at hf
          exact .inr hf
        · exact .inl (by omega)
      repeat' (first | (show DW _ _ _ _ _ _ _ _; first | refine DW_V tabs rfl rfl rfl rfl (congrArg AV.bool d1) ?_ | refine DW_V tabs rfl rfl rfl rfl (congrArg (AV.int _) fi) ?_ | refine DW_A tabs rfl ?_ | refine DW_nil ?_ | refine DW_lits tabOK rfl rfl rfl rfl rfl rfl rfl rfl rfl rfl rfl rfl rfl ?_ | refine DW_append_own tabOK rfl rfl rfl rfl rfl rfl rfl rfl rfl rfl rfl rfl rfl rfl rfl (by simp; omega) (by simp; omega) ?_) | (show W _ _ _ _ _ _; first | refine W_seq ?_ | refine W_text rfl (fun _ _ _ h => h) ?_ | refine W_block ?_ | refine W_skip ?_ | refine W_exit ?_ | refine W_ret ?_ | refine W_true rfl ?_ | refine W_false rfl ?_ | refine W_cond rfl (fun _ => ?_) (fun _ => ?_) | refine W_draw mixed [7, 0, 1, 2, 3, 4, 5, 6] [.R, .R, .R, .R, .P, .P, .P, .P] rfl rfl (by kernel_rfl) ?_))
      refine DW_index tabOK rfl rfl rfl rfl rfl rfl rfl rfl rfl rfl (Int.natCast_nonneg _) (vx_get hx) ?_
      repeat' (first | (show DW _ _ _ _ _ _ _ _; first | refine DW_V tabs rfl rfl rfl rfl (congrArg AV.bool d2) ?_ | refine DW_V tabs rfl rfl rfl rfl (congrArg (AV.int _) fi) ?_ | refine DW_V tabs rfl rfl rfl rfl (congrArg (AV.int _) lo) ?_ | refine DW_A tabs rfl ?_ | refine DW_nil ?_ | refine DW_lits tabOK rfl rfl rfl rfl rfl rfl rfl rfl rfl rfl rfl rfl rfl ?_ | refine DW_append_own tabOK rfl rfl rfl rfl rfl rfl rfl rfl rfl rfl rfl rfl rfl rfl rfl (by simp; omega) (by simp; omega) ?_) | (show W _ _ _ _ _ _; first | refine W_seq ?_ | refine W_text rfl (fun _ _ _ h => h) ?_ | refine W_block ?_ | refine W_skip ?_ | refine W_exit ?_ | refine W_ret ?_ | refine W_true rfl ?_ | refine W_false rfl ?_ | refine W_cond rfl (fun _ => ?_) (fun _ => ?_) | refine W_draw mixed [7, 0, 1, 2, 3, 4, 5, 6] [.R, .R, .R, .R, .P, .P, .P, .P] rfl rfl (by kernel_rfl) ?_))
      refine ⟨rfl, _, rfl, g, ?_, tokM_of rfl rfl⟩
      rw [← hst]
      rfl
    · have d2 : decide ((n : Int) ≤ ((fromF out n k L i).length : Int)) = false := by simp; omega
      have my := mFrom h
      have kc := IH x k (fromF out n k L i) n g (okN_okR (hkids x hxm)) hxr hlen hn
      rw [hstep] at kc
      repeat' (first | (show DW _ _ _ _ _ _ _ _; first | refine DW_V tabs rfl rfl rfl rfl (congrArg AV.bool d1) ?_ | refine DW_V tabs rfl rfl rfl rfl (congrArg (AV.int _) fi) ?_ | refine DW_A tabs rfl ?_ | refine DW_nil ?_ | refine DW_lits tabOK rfl rfl rfl rfl rfl rfl rfl rfl rfl rfl rfl rfl rfl ?_ | refine DW_append_own tabOK rfl rfl rfl rfl rfl rfl rfl rfl rfl rfl rfl rfl rfl rfl rfl (by simp; omega) (by simp; omega) ?_) | (show W _ _ _ _ _ _; first | refine W_seq ?_ | refine W_text rfl (fun _ _ _ h => h) ?_ | refine W_block ?_ | refine W_skip ?_ | refine W_exit ?_ | refine W_ret ?_ | refine W_true rfl ?_ | refine W_false rfl ?_ | refine W_cond rfl (fun _ => ?_) (fun _ => ?_) | refine W_draw mixed [7, 0, 1, 2, 3, 4, 5, 6] [.R, .R, .R, .R, .P, .P, .P, .P] rfl rfl (by kernel_rfl) ?_))
      refine DW_index tabOK rfl rfl rfl rfl rfl rfl rfl rfl rfl rfl (Int.natCast_nonneg _) (vx_get hx) ?_
      repeat' (first | (show DW _ _ _ _ _ _ _ _; first | refine DW_V tabs rfl rfl rfl rfl (congrArg AV.bool d2) ?_ | refine DW_V tabs rfl rfl rfl rfl (congrArg (AV.int _) fi) ?_ | refine DW_V tabs rfl rfl rfl rfl (congrArg (AV.int _) lo) ?_ | refine DW_A tabs rfl ?_ | refine DW_nil ?_ | refine DW_lits tabOK rfl rfl rfl rfl rfl rfl rfl rfl rfl rfl rfl rfl rfl ?_ | refine DW_append_own tabOK rfl rfl rfl rfl rfl rfl rfl rfl rfl rfl rfl rfl rfl rfl rfl (by simp; omega) (by simp; omega) ?_) | (show W _ _ _ _ _ _; first | refine W_seq ?_ | refine W_text rfl (fun _ _ _ h => h) ?_ | refine W_block ?_ | refine W_skip ?_ | refine W_exit ?_ | refine W_ret ?_ | refine W_true rfl ?_ | refine W_false rfl ?_ | refine W_cond rfl (fun _ => ?_) (fun _ => ?_) | refine W_draw mixed [7, 0, 1, 2, 3, 4, 5, 6] [.R, .R, .R, .R, .P, .P, .P, .P] rfl rfl (by kernel_rfl) ?_))
      refine DW_invokeM rfl rfl rfl rfl rfl my rfl kc ?_ (fun u M' ⟨_, e, _⟩ => by cases e)
      rintro u M' ⟨g', e, hM⟩
      cases e
      repeat' (first | (show DW _ _ _ _ _ _ _ _; first | refine DW_V tabs rfl rfl rfl rfl (congrArg (AV.int _) fi) ?_ | refine DW_A tabs rfl ?_ | refine DW_nil ?_ | refine DW_lits tabOK rfl rfl rfl rfl rfl rfl rfl rfl rfl rfl rfl rfl rfl ?_ | refine DW_append_own tabOK rfl rfl rfl rfl rfl rfl rfl rfl rfl rfl rfl rfl rfl rfl rfl (by simp; omega) (by simp; omega) ?_) | (show W _ _ _ _ _ _; first | refine W_seq ?_ | refine W_text rfl (fun _ _ _ h => h) ?_ | refine W_block ?_ | refine W_skip ?_ | refine W_exit ?_ | refine W_ret ?_ | refine W_true rfl ?_ | refine W_false rfl ?_ | refine W_cond rfl (fun _ => ?_) (fun _ => ?_) | refine W_draw mixed [7, 0, 1, 2, 3, 4, 5, 6] [.R, .R, .R, .R, .P, .P, .P, .P] rfl rfl (by kernel_rfl) ?_))
      refine ⟨hi1, _, _, ⟨g', rfl, rfl⟩, Joint.le ?_ hM⟩
      repeat (refine AF.le_cons rfl ?_)
      exact AF.le_nil rfl
  · have d1 : decide ((i : Int) < (L.length : Int)) = false := by simp; omega
    obtain rfl : i = L.length := by omega
    repeat' (first | (show DW _ _ _ _ _ _ _ _; first | refine DW_V tabs rfl rfl rfl rfl (congrArg AV.bool d1) ?_ | refine DW_A tabs rfl ?_ | refine DW_nil ?_ | refine DW_lits tabOK rfl rfl rfl rfl rfl rfl rfl rfl rfl rfl rfl rfl rfl ?_ | refine DW_append_own tabOK rfl rfl rfl rfl rfl rfl rfl rfl rfl rfl rfl rfl rfl rfl rfl (by simp; omega) (by simp; omega) ?_) | (show W _ _ _ _ _ _; first | refine W_seq ?_ | refine W_text rfl (fun _ _ _ h => h) ?_ | refine W_block ?_ | refine W_skip ?_ | refine W_exit ?_ | refine W_ret ?_ | refine W_true rfl ?_ | refine W_false rfl ?_ | refine W_cond rfl (fun _ => ?_) (fun _ => ?_) | refine W_draw mixed [7, 0, 1, 2, 3, 4, 5, 6] [.R, .R, .R, .R, .P, .P, .P, .P] rfl rfl (by kernel_rfl) ?_))
    exact ⟨rfl, _, rfl, g, rfl, tokM_of rfl rfl⟩

set_option maxHeartbeats 1000000 in
set_option maxRecDepth 100000 in
theorem forkFrom0_ok (h : Nat) (IH : FromOK h) (l : Vt (h + 1)) (hv : okN (h + 1) l) (hr : Rise (allV (h + 1) l)) (k : Ky) (n : Nat) (hn : n < 100000000) :
    ACalls Tryd.prog 110 [inV (h + 1) l, k.av, .sl 0 [] .full, .int .i64 (n : Int)] ⟨0, []⟩ (fun e M' => ∃ g', e = .ret (.sl 3 ((takeF [] n (fromP (allV (h + 1) l) k)).map Pr.av) (.tok 0 g')) ∧ (tokM g').le M') := by
  obtain ⟨h1, h2, h3⟩ := hv
  have h0 : l.kids ≠ [] := by intro he; rw [he] at h1; simp at h1
  obtain ⟨a, v, b, e1, e2, e3, e4, e5⟩ := below_cut h0 h3 hr k
  have hall : allV (h + 1) l = allL h a ++ allL h (v :: b) := by
    show allL h l.kids = _
    rw [e1, allL_app]
  have hrb : Rise (allL h (v :: b)) := by rw [hall] at hr; exact (List.pairwise_append.1 hr).2.1
  have hdrop : l.kids.drop (belowV l.kids k) = v :: b := by rw [e2, e1, List.drop_left]
  have hble : belowV l.kids k ≤ l.kids.length := by rw [e2, e1]; simp
  have hkids : ∀ x, x ∈ v :: b → okN h x := fun x hx => h3 x (by rw [e1]; simp at hx ⊢; rcases hx with rfl | hx <;> simp [*])
  have hbl : (v :: b).length ≤ 4 := by rw [e1] at h2; simp at h2 ⊢; omega
  have hlater : ∀ x, x ∈ allL h b → rless x.key k = false := fun x hx => rless_asymm (e5 x hx)
  rw [hall, fromP_ahead e4]
  have hfin : takeF [] n (fromP (allL h (v :: b)) k) = fromF [] n k (v :: b) (v :: b).length := by unfold fromF; rw [List.take_length]
  rw [hfin]
  have kb := below_ok h l.kids ((allV (h + 1) l).length : Int) (by omega) h3 k
  have hlat2 : ∀ i, 0 < i → ∀ p, p ∈ allL h ((v :: b).drop i) → rless p.key k = false := by
    intro i hi p hp
    match i, hi with
    | i + 1, _ =>
      refine hlater p ?_
      have := allL_app (h := h) (b.take i) (b.drop i)
      rw [List.take_append_drop] at this
      rw [this]
      simp at hp ⊢
      exact .inr hp
  generalize belowV l.kids k = at_ at kb hdrop hble
  have hin : inV (h + 1) l = .agg [.sl 1 (l.kids.map (avV h)) .none, .int .i64 ((allV (h + 1) l).length : Int)] := rfl
  rw [hin]
  generalize ((allV (h + 1) l).length : Int) = cnt at kb
  refine acalls_of tabOK Tryd.func110 rfl (by decide) (by simp [Tryd.f110]) ?_
  refine W_ghost (Joint.tok 2 rfl (sz' := 3) (.inr rfl)) ?_
  repeat' (first | (show DW _ _ _ _ _ _ _ _; first | refine DW_A tabs rfl ?_ | refine DW_nil ?_ | refine DW_lits tabOK rfl rfl rfl rfl rfl rfl rfl rfl rfl rfl rfl rfl rfl ?_ | refine DW_pure rfl rfl rfl rfl rfl kb ?_ | refine DW_append_own tabOK rfl rfl rfl rfl rfl rfl rfl rfl rfl rfl rfl rfl rfl rfl rfl (by simp; omega) (by simp; omega) ?_) | (show W _ _ _ _ _ _; first | refine W_seq ?_ | refine W_text rfl (fun _ _ _ h => h) ?_ | refine W_block ?_ | refine W_skip ?_ | refine W_exit ?_ | refine W_ret ?_ | refine W_true rfl ?_ | refine W_false rfl ?_ | refine W_cond rfl (fun _ => ?_) (fun _ => ?_) | refine W_draw mixed [7, 0, 1, 2, 3, 4, 5, 6] [.R, .R, .R, .R, .P, .P, .P, .P] rfl rfl (by kernel_rfl) ?_))
  refine DW_from tabOK rfl rfl rfl rfl (lo := at_) rfl rfl rfl rfl rfl rfl hble ?_
  rw [hdrop]
  generalize hL : v :: b = L at hkids hbl hlat2 hrb
  have la : ((L.map (avV h)).length : Int) = (L.length : Int) := by simp
  repeat' (first | (show DW _ _ _ _ _ _ _ _; first | refine DW_V tabs rfl rfl rfl rfl (congrArg (AV.int _) la) ?_ | refine DW_A tabs rfl ?_ | refine DW_nil ?_ | refine DW_lits tabOK rfl rfl rfl rfl rfl rfl rfl rfl rfl rfl rfl rfl rfl ?_ | refine DW_append_own tabOK rfl rfl rfl rfl rfl rfl rfl rfl rfl rfl rfl rfl rfl rfl rfl (by simp; omega) (by simp; omega) ?_) | (show W _ _ _ _ _ _; first | refine W_seq ?_ | refine W_text rfl (fun _ _ _ h => h) ?_ | refine W_block ?_ | refine W_skip ?_ | refine W_exit ?_ | refine W_ret ?_ | refine W_true rfl ?_ | refine W_false rfl ?_ | refine W_cond rfl (fun _ => ?_) (fun _ => ?_) | refine W_draw mixed [7, 0, 1, 2, 3, 4, 5, 6] [.R, .R, .R, .R, .P, .P, .P, .P] rfl rfl (by kernel_rfl) ?_))
  refine W_count L.length (fun i f N => ∃ (g : Nat), N = tokM g ∧ f = ⟨[(2, .sl 3 ((fromF [] n k L i).map Pr.av) (.tok 0 g)), (3, .int .i64 (n : Int)), (5, .ref [.str k.path, .int .i64 k.time]), (16, .sl 1 (L.map (avV h)) .none), (17, .int .i64 (L.length : Int)), (18, .int .i64 (i : Int))], []⟩) (Nat.zero_le _) ⟨0, rfl, rfl⟩
    (Joint.le (AF.le_cons (by rw [from_zero]; rfl) (AF.le_cons rfl (AF.le_cons rfl (AF.le_cons rfl (AF.le_cons rfl (AF.le_cons rfl (AF.le_nil rfl))))))) (tokM_of rfl rfl)) ?_
  rintro i f N hi ⟨g, rfl, rfl⟩
  by_cases hi1 : i < L.length
  · have d1 : decide ((i : Int) < (L.length : Int)) = true := by simp; omega
    have hx : L[i]? = some L[i] := List.getElem?_eq_getElem hi1
    have fi := wrap_succ (i := i) (by omega)
    have hxm : L[i] ∈ L := List.getElem_mem hi1
    have hxl : ∀ p, p ∈ allV h L[i] → p ∈ allL h (L.drop i) := by
      intro p hp
      rw [List.drop_eq_getElem_cons hi1, allL_cons]
      simp [hp]
    have hxr : Rise (allV h L[i]) := by
      have e : allL h L = allL h (L.take i) ++ (allV h L[i] ++ allL h (L.drop (i + 1))) := by
        rw [← allL_cons, ← List.drop_eq_getElem_cons hi1, ← allL_app, List.take_append_drop]
      rw [e] at hrb
      exact rise_mid hrb
    generalize L[i] = x at hx hxm hxl hxr
    have hstep := from_step (k := k) (out := []) (n := n) hx (fun h0 p hp => hlat2 i h0 p (hxl p hp))
    have hlen : (fromF [] n k L i).length < 100000000 := Nat.lt_of_le_of_lt (takeF_len _ _ _) (Nat.max_lt.2 ⟨by first | exact ho | simp, hn⟩)
    have lo : (((fromF [] n k L i).map Pr.av).length : Int) = ((fromF [] n k L i).length : Int) := by simp
    by_cases hf : n ≤ (fromF [] n k L i).length
    · have d2 : decide ((n : Int) ≤ ((fromF [] n k L i).length : Int)) = true := by simp; omega
      have hst : fromF [] n k L i = fromF [] n k L L.length := by
        refine from_stop hrb hf ?_ (hlat2 i)
        by_cases h0 : i = 0
        · subst h0
          rw [from_zero] at hf
          exact .inr hf
        · exact .inl (by omega)
      repeat' (first | (show DW _ _ _ _ _ _ _ _; first | refine DW_V tabs rfl rfl rfl rfl (congrArg AV.bool d1) ?_ | refine DW_V tabs rfl rfl rfl rfl (congrArg (AV.int _) fi) ?_ | refine DW_A tabs rfl ?_ | refine DW_nil ?_ | refine DW_lits tabOK rfl rfl rfl rfl rfl rfl rfl rfl rfl rfl rfl rfl rfl ?_ | refine DW_append_own tabOK rfl rfl rfl rfl rfl rfl rfl rfl rfl rfl rfl rfl rfl rfl rfl (by simp; omega) (by simp; omega) ?_) | (show W _ _ _ _ _ _; first | refine W_seq ?_ | refine W_text rfl (fun _ _ _ h => h) ?_ | refine W_block ?_ | refine W_skip ?_ | refine W_exit ?_ | refine W_ret ?_ | refine W_true rfl ?_ | refine W_false rfl ?_ | refine W_cond rfl (fun _ => ?_) (fun _ => ?_) | refine W_draw mixed [7, 0, 1, 2, 3, 4, 5, 6] [.R, .R, .R, .R, .P, .P, .P, .P] rfl rfl (by kernel_rfl) ?_))
      refine DW_index tabOK rfl rfl rfl rfl rfl rfl rfl rfl rfl rfl (Int.natCast_nonneg _) (vx_get hx) ?_
      repeat' (first | (show DW _ _ _ _ _ _ _ _; first | refine DW_V tabs rfl rfl rfl rfl (congrArg AV.bool d2) ?_ | refine DW_V tabs rfl rfl rfl rfl (congrArg (AV.int _) fi) ?_ | refine DW_V tabs rfl rfl rfl rfl (congrArg (AV.int _) lo) ?_ | refine DW_A tabs rfl ?_ | refine DW_nil ?_ | refine DW_lits tabOK rfl rfl rfl rfl rfl rfl rfl rfl rfl rfl rfl rfl rfl ?_ | refine DW_append_own tabOK rfl rfl rfl rfl rfl rfl rfl rfl rfl rfl rfl rfl rfl rfl rfl (by simp; omega) (by simp; omega) ?_) | (show W _ _ _ _ _ _; first | refine W_seq ?_ | refine W_text rfl (fun _ _ _ h => h) ?_ | refine W_block ?_ | refine W_skip ?_ | refine W_exit ?_ | refine W_ret ?_ | refine W_true rfl ?_ | refine W_false rfl ?_ | refine W_cond rfl (fun _ => ?_) (fun _ => ?_) | refine W_draw mixed [7, 0, 1, 2, 3, 4, 5, 6] [.R, .R, .R, .R, .P, .P, .P, .P] rfl rfl (by kernel_rfl) ?_))
      refine ⟨rfl, _, rfl, g, ?_, tokM_of rfl rfl⟩
      rw [← hst]
      rfl
    · have d2 : decide ((n : Int) ≤ ((fromF [] n k L i).length : Int)) = false := by simp; omega
      have my := mFrom h
      have kc := IH x k (fromF [] n k L i) n g (okN_okR (hkids x hxm)) hxr hlen hn
      rw [hstep] at kc
      repeat' (first | (show DW _ _ _ _ _ _ _ _; first | refine DW_V tabs rfl rfl rfl rfl (congrArg AV.bool d1) ?_ | refine DW_V tabs rfl rfl rfl rfl (congrArg (AV.int _) fi) ?_ | refine DW_A tabs rfl ?_ | refine DW_nil ?_ | refine DW_lits tabOK rfl rfl rfl rfl rfl rfl rfl rfl rfl rfl rfl rfl rfl ?_ | refine DW_append_own tabOK rfl rfl rfl rfl rfl rfl rfl rfl rfl rfl rfl rfl rfl rfl rfl (by simp; omega) (by simp; omega) ?_) | (show W _ _ _ _ _ _; first | refine W_seq ?_ | refine W_text rfl (fun _ _ _ h => h) ?_ | refine W_block ?_ | refine W_skip ?_ | refine W_exit ?_ | refine W_ret ?_ | refine W_true rfl ?_ | refine W_false rfl ?_ | refine W_cond rfl (fun _ => ?_) (fun _ => ?_) | refine W_draw mixed [7, 0, 1, 2, 3, 4, 5, 6] [.R, .R, .R, .R, .P, .P, .P, .P] rfl rfl (by kernel_rfl) ?_))
      refine DW_index tabOK rfl rfl rfl rfl rfl rfl rfl rfl rfl rfl (Int.natCast_nonneg _) (vx_get hx) ?_
      repeat' (first | (show DW _ _ _ _ _ _ _ _; first | refine DW_V tabs rfl rfl rfl rfl (congrArg AV.bool d2) ?_ | refine DW_V tabs rfl rfl rfl rfl (congrArg (AV.int _) fi) ?_ | refine DW_V tabs rfl rfl rfl rfl (congrArg (AV.int _) lo) ?_ | refine DW_A tabs rfl ?_ | refine DW_nil ?_ | refine DW_lits tabOK rfl rfl rfl rfl rfl rfl rfl rfl rfl rfl rfl rfl rfl ?_ | refine DW_append_own tabOK rfl rfl rfl rfl rfl rfl rfl rfl rfl rfl rfl rfl rfl rfl rfl (by simp; omega) (by simp; omega) ?_) | (show W _ _ _ _ _ _; first | refine W_seq ?_ | refine W_text rfl (fun _ _ _ h => h) ?_ | refine W_block ?_ | refine W_skip ?_ | refine W_exit ?_ | refine W_ret ?_ | refine W_true rfl ?_ | refine W_false rfl ?_ | refine W_cond rfl (fun _ => ?_) (fun _ => ?_) | refine W_draw mixed [7, 0, 1, 2, 3, 4, 5, 6] [.R, .R, .R, .R, .P, .P, .P, .P] rfl rfl (by kernel_rfl) ?_))
      refine DW_invokeM rfl rfl rfl rfl rfl my rfl kc ?_ (fun u M' ⟨_, e, _⟩ => by cases e)
      rintro u M' ⟨g', e, hM⟩
      cases e
      repeat' (first | (show DW _ _ _ _ _ _ _ _; first | refine DW_V tabs rfl rfl rfl rfl (congrArg (AV.int _) fi) ?_ | refine DW_A tabs rfl ?_ | refine DW_nil ?_ | refine DW_lits tabOK rfl rfl rfl rfl rfl rfl rfl rfl rfl rfl rfl rfl rfl ?_ | refine DW_append_own tabOK rfl rfl rfl rfl rfl rfl rfl rfl rfl rfl rfl rfl rfl rfl rfl (by simp; omega) (by simp; omega) ?_) | (show W _ _ _ _ _ _; first | refine W_seq ?_ | refine W_text rfl (fun _ _ _ h => h) ?_ | refine W_block ?_ | refine W_skip ?_ | refine W_exit ?_ | refine W_ret ?_ | refine W_true rfl ?_ | refine W_false rfl ?_ | refine W_cond rfl (fun _ => ?_) (fun _ => ?_) | refine W_draw mixed [7, 0, 1, 2, 3, 4, 5, 6] [.R, .R, .R, .R, .P, .P, .P, .P] rfl rfl (by kernel_rfl) ?_))
      refine ⟨hi1, _, _, ⟨g', rfl, rfl⟩, Joint.le ?_ hM⟩
      repeat (refine AF.le_cons rfl ?_)
      exact AF.le_nil rfl
  · have d1 : decide ((i : Int) < (L.length : Int)) = false := by simp; omega
    obtain rfl : i = L.length := by omega
    repeat' (first | (show DW _ _ _ _ _ _ _ _; first | refine DW_V tabs rfl rfl rfl rfl (congrArg AV.bool d1) ?_ | refine DW_A tabs rfl ?_ | refine DW_nil ?_ | refine DW_lits tabOK rfl rfl rfl rfl rfl rfl rfl rfl rfl rfl rfl rfl rfl ?_ | refine DW_append_own tabOK rfl rfl rfl rfl rfl rfl rfl rfl rfl rfl rfl rfl rfl rfl rfl (by simp; omega) (by simp; omega) ?_) | (show W _ _ _ _ _ _; first | refine W_seq ?_ | refine W_text rfl (fun _ _ _ h => h) ?_ | refine W_block ?_ | refine W_skip ?_ | refine W_exit ?_ | refine W_ret ?_ | refine W_true rfl ?_ | refine W_false rfl ?_ | refine W_cond rfl (fun _ => ?_) (fun _ => ?_) | refine W_draw mixed [7, 0, 1, 2, 3, 4, 5, 6] [.R, .R, .R, .R, .P, .P, .P, .P] rfl rfl (by kernel_rfl) ?_))
    exact ⟨rfl, _, rfl, g, rfl, tokM_of rfl rfl⟩

theorem from_all : ∀ h : Nat, FromOK h
  | 0 => fun v k out n g hv _ ho hn => leafFrom_ok v.row (by have : v.row.length ≤ 4 := hv; omega) k out ho n hn g
  | h + 1 => fun v k out n g hv hr ho hn => forkFrom_ok h (from_all h) v hv hr k out ho n hn g
theorem from0_ok (h : Nat) (v : Vt h) (hv : okR h v) (hr : Rise (allV h v)) (k : Ky) (n : Nat) (hn : n < 100000000) :
    ACalls Tryd.prog (fFrom h) [inV h v, k.av, .sl 0 [] .full, .int .i64 (n : Int)] ⟨0, []⟩ (fun e M' => ∃ g', e = .ret (.sl 3 (((fromP (allV h v) k).take n).map Pr.av) (.tok 0 g')) ∧ (tokM g').le M') := by
  have e : takeF [] n (fromP (allV h v) k) = (fromP (allV h v) k).take n := by simp [takeF]
  rw [← e]
  cases h with
  | zero => exact leafFrom0_ok v.row (by have : v.row.length ≤ 4 := hv; omega) k n hn
  | succ h => exact forkFrom0_ok h (from_all h) v hv hr k n hn
end Go.Proofs.YthdeopopodhimaaDoor

/- Trees: New, Put, Len, From, All. No further condition. -/
set_option linter.unusedVariables false
set_option linter.unusedSimpArgs false
namespace Go.Proofs.YthdeopopodhimaaDoor
open Go.Ab

/-- A tree that is in order. -/
structure Tr where
  h : Nat
  v : Vt h
  ok : okR h v
  rise : Rise (allV h v)
def Tr.av (t : Tr) : AV := .ref [.iface (tyV t.h) (inV t.h t.v)]
def Tr.all (t : Tr) : List Pr := allV t.h t.v
theorem closed_tr (t : Tr) : Closed t.av := closed_ref (closed1 (by rw [← avV_eq]; exact closed_avV _ _))
def nilT : Tr := ⟨0, ([] : List Pr), Nat.zero_le _, List.Pairwise.nil⟩
theorem nilT_all : nilT.all = [] := rfl

theorem new_ok : APure Tryd.prog 24 [] nilT.av := by
  refine pure_sub (by simp) (closed_tr _) ?_
  refine acalls_of tabOK Tryd.func24 rfl (by decide) (by simp [Tryd.f24]) ?_
  repeat' (first | (show DW _ _ _ _ _ _ _ _; first | refine DW_A tabs rfl ?_ | refine DW_nil ?_ | refine DW_lits tabOK rfl rfl rfl rfl rfl rfl rfl rfl rfl rfl rfl rfl rfl ?_ | refine DW_append_own tabOK rfl rfl rfl rfl rfl rfl rfl rfl rfl rfl rfl rfl rfl rfl rfl (by simp; omega) (by simp; omega) ?_) | (show W _ _ _ _ _ _; first | refine W_seq ?_ | refine W_text rfl (fun _ _ _ h => h) ?_ | refine W_block ?_ | refine W_skip ?_ | refine W_exit ?_ | refine W_ret ?_ | refine W_true rfl ?_ | refine W_false rfl ?_ | refine W_cond rfl (fun _ => ?_) (fun _ => ?_)))
  exact ⟨rfl, _, rfl, _, rfl, SubC.pre (Sub.ref1 (Sub.iface Sub.nil)) (SubC.of_closed (closed_tr nilT))⟩

theorem ifaceV : Tryd.prog.underlying 69 = some (.interface (Tryd.prog.methodsAt 69)) := by kernel_rfl
theorem ptrT : Tryd.prog.underlying 26 = some (.pointer (Tryd.prog.pointee 26)) := by kernel_rfl
set_option maxRecDepth 100000 in
theorem top_ok (t : Tr) : APure Tryd.prog 34 [t.av] (.iface (tyV t.h) (inV t.h t.v)) := by
  intro M
  refine acalls_of tabOK Tryd.func34 rfl (by decide) (by simp [Tryd.f34]) ?_
  unfold Tr.av
  repeat' (first | (show DW _ _ _ _ _ _ _ _; first | refine DW_A tabs rfl ?_ | refine DW_nil ?_ | refine DW_lits tabOK rfl rfl rfl rfl rfl rfl rfl rfl rfl rfl rfl rfl rfl ?_ | refine DW_append_own tabOK rfl rfl rfl rfl rfl rfl rfl rfl rfl rfl rfl rfl rfl rfl rfl (by simp; omega) (by simp; omega) ?_) | (show W _ _ _ _ _ _; first | refine W_seq ?_ | refine W_text rfl (fun _ _ _ h => h) ?_ | refine W_block ?_ | refine W_skip ?_ | refine W_exit ?_ | refine W_ret ?_ | refine W_true rfl ?_ | refine W_false rfl ?_ | refine W_cond rfl (fun _ => ?_) (fun _ => ?_)))
  refine DW_refnil rfl rfl rfl rfl (.inl rfl) ptrT rfl rfl ?_
  repeat' (first | (show DW _ _ _ _ _ _ _ _; first | refine DW_A tabs rfl ?_ | refine DW_nil ?_ | refine DW_lits tabOK rfl rfl rfl rfl rfl rfl rfl rfl rfl rfl rfl rfl rfl ?_ | refine DW_append_own tabOK rfl rfl rfl rfl rfl rfl rfl rfl rfl rfl rfl rfl rfl rfl rfl (by simp; omega) (by simp; omega) ?_) | (show W _ _ _ _ _ _; first | refine W_seq ?_ | refine W_text rfl (fun _ _ _ h => h) ?_ | refine W_block ?_ | refine W_skip ?_ | refine W_exit ?_ | refine W_ret ?_ | refine W_true rfl ?_ | refine W_false rfl ?_ | refine W_cond rfl (fun _ => ?_) (fun _ => ?_)))
  refine DW_inil rfl rfl rfl rfl ifaceV rfl rfl ?_
  repeat' (first | (show DW _ _ _ _ _ _ _ _; first | refine DW_A tabs rfl ?_ | refine DW_nil ?_ | refine DW_lits tabOK rfl rfl rfl rfl rfl rfl rfl rfl rfl rfl rfl rfl rfl ?_ | refine DW_append_own tabOK rfl rfl rfl rfl rfl rfl rfl rfl rfl rfl rfl rfl rfl rfl rfl (by simp; omega) (by simp; omega) ?_) | (show W _ _ _ _ _ _; first | refine W_seq ?_ | refine W_text rfl (fun _ _ _ h => h) ?_ | refine W_block ?_ | refine W_skip ?_ | refine W_exit ?_ | refine W_ret ?_ | refine W_true rfl ?_ | refine W_false rfl ?_ | refine W_cond rfl (fun _ => ?_) (fun _ => ?_)))
  exact ⟨rfl, _, rfl, rfl, rfl⟩

/-! ### Len, Put -/
set_option maxRecDepth 100000 in
theorem len_ok (t : Tr) : APure Tryd.prog 27 [t.av] (.int .i64 (t.all.length : Int)) := by
  intro M
  refine acalls_of tabOK Tryd.func27 rfl (by decide) (by simp [Tryd.f27]) ?_
  have kt := top_ok t
  have ka := all_ok t.h t.v
  have my := mAll t.h
  unfold Tr.av at kt ⊢
  unfold Tr.all
  repeat' (first | (show DW _ _ _ _ _ _ _ _; first | refine DW_A tabs rfl ?_ | refine DW_nil ?_ | refine DW_lits tabOK rfl rfl rfl rfl rfl rfl rfl rfl rfl rfl rfl rfl rfl ?_ | refine DW_pure rfl rfl rfl rfl rfl kt ?_ | refine DW_append_own tabOK rfl rfl rfl rfl rfl rfl rfl rfl rfl rfl rfl rfl rfl rfl rfl (by simp; omega) (by simp; omega) ?_) | (show W _ _ _ _ _ _; first | refine W_seq ?_ | refine W_text rfl (fun _ _ _ h => h) ?_ | refine W_block ?_ | refine W_skip ?_ | refine W_exit ?_ | refine W_ret ?_ | refine W_true rfl ?_ | refine W_false rfl ?_ | refine W_cond rfl (fun _ => ?_) (fun _ => ?_)))
  refine DW_invoke rfl rfl rfl rfl rfl my ka ?_
  repeat' (first | (show DW _ _ _ _ _ _ _ _; first | refine DW_A tabs rfl ?_ | refine DW_nil ?_ | refine DW_lits tabOK rfl rfl rfl rfl rfl rfl rfl rfl rfl rfl rfl rfl rfl ?_ | refine DW_append_own tabOK rfl rfl rfl rfl rfl rfl rfl rfl rfl rfl rfl rfl rfl rfl rfl (by simp; omega) (by simp; omega) ?_) | (show W _ _ _ _ _ _; first | refine W_seq ?_ | refine W_text rfl (fun _ _ _ h => h) ?_ | refine W_block ?_ | refine W_skip ?_ | refine W_exit ?_ | refine W_ret ?_ | refine W_true rfl ?_ | refine W_false rfl ?_ | refine W_cond rfl (fun _ => ?_) (fun _ => ?_)))
  exact ⟨rfl, _, rfl, rfl, rfl⟩

/-- The tree with a pair more. -/
def forkT {h : Nat} {x y : Vt h} (hx : okN h x) (hy : okN h y) (hr : Rise (allV h x ++ allV h y)) : Tr := ⟨h + 1, ([x, y] : List (Vt h)), ⟨by show 2 ≤ [x, y].length; simp, by show [x, y].length ≤ 4; simp, by intro k hk; have hk' : k ∈ [x, y] := hk; simp at hk'; rcases hk' with rfl | rfl <;> assumption⟩, by
  have e : allV (h + 1) ([x, y] : List (Vt h)) = allV h x ++ allV h y := by show allL h [x, y] = _; simp [allL]
  rw [e]; exact hr⟩

set_option maxRecDepth 100000 in
theorem tPut_ok (t : Tr) (p : Pr) (hs : t.all.length < 10000000) : ∃ u : Tr, u.all = putP t.all p ∧ APure Tryd.prog 25 [t.av, p.av] u.av := by
  obtain ⟨h, v, hv, hr⟩ := t
  have hs' : (allV h v).length < 10000000 := hs
  have kt := top_ok ⟨h, v, hv, hr⟩
  have kp := vPut_ok h v p hv hr (by omega)
  have my := mPut h
  have hpl := putP_len (allV h v) p
  have hpr := putP_rise (p := p) hr
  rcases put_root (p := p) hv hr with ⟨x, e, hx, hall⟩ | ⟨x, y, e, hx, hy, hall⟩
  · refine ⟨⟨h, x, hx, by rw [hall]; exact hpr⟩, hall, ?_⟩
    rw [e] at kp
    intro M
    refine acalls_of tabOK Tryd.func25 rfl (by decide) (by simp [Tryd.f25]) ?_
    repeat' (first | (show DW _ _ _ _ _ _ _ _; first | refine DW_A tabs rfl ?_ | refine DW_nil ?_ | refine DW_lits tabOK rfl rfl rfl rfl rfl rfl rfl rfl rfl rfl rfl rfl rfl ?_ | refine DW_pure rfl rfl rfl rfl rfl kt ?_ | refine DW_append_own tabOK rfl rfl rfl rfl rfl rfl rfl rfl rfl rfl rfl rfl rfl rfl rfl (by simp; omega) (by simp; omega) ?_) | (show W _ _ _ _ _ _; first | refine W_seq ?_ | refine W_text rfl (fun _ _ _ h => h) ?_ | refine W_block ?_ | refine W_skip ?_ | refine W_exit ?_ | refine W_ret ?_ | refine W_true rfl ?_ | refine W_false rfl ?_ | refine W_cond rfl (fun _ => ?_) (fun _ => ?_) | refine W_draw mixed [0, 1, 2, 3, 4] [.P, .P, .R, .P, .P] rfl rfl (by kernel_rfl) ?_))
    refine DW_invoke rfl rfl rfl rfl rfl my kp ?_
    repeat' (first | (show DW _ _ _ _ _ _ _ _; first | refine DW_A tabs rfl ?_ | refine DW_nil ?_ | refine DW_lits tabOK rfl rfl rfl rfl rfl rfl rfl rfl rfl rfl rfl rfl rfl ?_ | refine DW_append_own tabOK rfl rfl rfl rfl rfl rfl rfl rfl rfl rfl rfl rfl rfl rfl rfl (by simp; omega) (by simp; omega) ?_) | (show W _ _ _ _ _ _; first | refine W_seq ?_ | refine W_text rfl (fun _ _ _ h => h) ?_ | refine W_block ?_ | refine W_skip ?_ | refine W_exit ?_ | refine W_ret ?_ | refine W_true rfl ?_ | refine W_false rfl ?_ | refine W_cond rfl (fun _ => ?_) (fun _ => ?_) | refine W_draw mixed [0, 1, 2, 3, 4] [.P, .P, .R, .P, .P] rfl rfl (by kernel_rfl) ?_))
    refine DW_index tabOK rfl rfl rfl rfl rfl rfl rfl rfl rfl rfl (Int.le_refl 0) (vx_get (l := [x]) (i := 0) rfl) ?_
    repeat' (first | (show DW _ _ _ _ _ _ _ _; first | refine DW_A tabs rfl ?_ | refine DW_nil ?_ | refine DW_lits tabOK rfl rfl rfl rfl rfl rfl rfl rfl rfl rfl rfl rfl rfl ?_ | refine DW_append_own tabOK rfl rfl rfl rfl rfl rfl rfl rfl rfl rfl rfl rfl rfl rfl rfl (by simp; omega) (by simp; omega) ?_) | (show W _ _ _ _ _ _; first | refine W_seq ?_ | refine W_text rfl (fun _ _ _ h => h) ?_ | refine W_block ?_ | refine W_skip ?_ | refine W_exit ?_ | refine W_ret ?_ | refine W_true rfl ?_ | refine W_false rfl ?_ | refine W_cond rfl (fun _ => ?_) (fun _ => ?_) | refine W_draw mixed [0, 1, 2, 3, 4] [.P, .P, .R, .P, .P] rfl rfl (by kernel_rfl) ?_))
    exact ⟨rfl, _, rfl, rfl, rfl⟩
  · have hall2 : (allL h [x, y]).length < 1000000000 := by
      have : allL h [x, y] = allV h x ++ allV h y := by simp [allL]
      rw [this, hall]
      omega
    refine ⟨forkT hx hy (by rw [hall]; exact hpr), ?_, ?_⟩
    · show allL h [x, y] = putP (allV h v) p
      simpa [allL] using hall
    · have kf := forks_ok h [x, y] (by simp) hall2
      rw [e] at kp
      intro M
      refine acalls_of tabOK Tryd.func25 rfl (by decide) (by simp [Tryd.f25]) ?_
      repeat' (first | (show DW _ _ _ _ _ _ _ _; first | refine DW_A tabs rfl ?_ | refine DW_nil ?_ | refine DW_lits tabOK rfl rfl rfl rfl rfl rfl rfl rfl rfl rfl rfl rfl rfl ?_ | refine DW_pure rfl rfl rfl rfl rfl kt ?_ | refine DW_append_own tabOK rfl rfl rfl rfl rfl rfl rfl rfl rfl rfl rfl rfl rfl rfl rfl (by simp; omega) (by simp; omega) ?_) | (show W _ _ _ _ _ _; first | refine W_seq ?_ | refine W_text rfl (fun _ _ _ h => h) ?_ | refine W_block ?_ | refine W_skip ?_ | refine W_exit ?_ | refine W_ret ?_ | refine W_true rfl ?_ | refine W_false rfl ?_ | refine W_cond rfl (fun _ => ?_) (fun _ => ?_) | refine W_draw mixed [0, 1, 2, 3, 4] [.P, .P, .R, .P, .P] rfl rfl (by kernel_rfl) ?_))
      refine DW_invoke rfl rfl rfl rfl rfl my kp ?_
      repeat' (first | (show DW _ _ _ _ _ _ _ _; first | refine DW_A tabs rfl ?_ | refine DW_nil ?_ | refine DW_lits tabOK rfl rfl rfl rfl rfl rfl rfl rfl rfl rfl rfl rfl rfl ?_ | refine DW_pure rfl rfl rfl rfl rfl kf ?_ | refine DW_append_own tabOK rfl rfl rfl rfl rfl rfl rfl rfl rfl rfl rfl rfl rfl rfl rfl (by simp; omega) (by simp; omega) ?_) | (show W _ _ _ _ _ _; first | refine W_seq ?_ | refine W_text rfl (fun _ _ _ h => h) ?_ | refine W_block ?_ | refine W_skip ?_ | refine W_exit ?_ | refine W_ret ?_ | refine W_true rfl ?_ | refine W_false rfl ?_ | refine W_cond rfl (fun _ => ?_) (fun _ => ?_) | refine W_draw mixed [0, 1, 2, 3, 4] [.P, .P, .R, .P, .P] rfl rfl (by kernel_rfl) ?_))
      refine DW_index tabOK rfl rfl rfl rfl rfl rfl rfl rfl rfl rfl (Int.le_refl 0) (vx_get (h := h + 1) (l := [([x, y] : List (Vt h))]) (i := 0) rfl) ?_
      repeat' (first | (show DW _ _ _ _ _ _ _ _; first | refine DW_A tabs rfl ?_ | refine DW_nil ?_ | refine DW_lits tabOK rfl rfl rfl rfl rfl rfl rfl rfl rfl rfl rfl rfl rfl ?_ | refine DW_append_own tabOK rfl rfl rfl rfl rfl rfl rfl rfl rfl rfl rfl rfl rfl rfl rfl (by simp; omega) (by simp; omega) ?_) | (show W _ _ _ _ _ _; first | refine W_seq ?_ | refine W_text rfl (fun _ _ _ h => h) ?_ | refine W_block ?_ | refine W_skip ?_ | refine W_exit ?_ | refine W_ret ?_ | refine W_true rfl ?_ | refine W_false rfl ?_ | refine W_cond rfl (fun _ => ?_) (fun _ => ?_) | refine W_draw mixed [0, 1, 2, 3, 4] [.P, .P, .R, .P, .P] rfl rfl (by kernel_rfl) ?_))
      exact ⟨rfl, _, rfl, rfl, rfl⟩

/-! ### From, All -/
theorem max0I_is (n : Int) : (if true = true then (if n < 0 then 0 else n) else if 0 < n then 0 else n) = ((n.toNat : Nat) : Int) := by
  rw [if_pos rfl]
  split <;> omega
set_option maxRecDepth 100000 in
theorem tFrom_ok (t : Tr) (hs : t.all.length < 10000000) (k : Ky) (n : Int) : APure Tryd.prog 26 [t.av, k.av, .int .i64 n] (.sl 3 (((fromP t.all k).take (min n.toNat t.all.length)).map Pr.av) .none) := by
  refine pure_sub (closed3 (closed_tr t) (closed_ky k) closed_int) (closed_prs _) ?_
  refine acalls_of tabOK Tryd.func26 rfl (by decide) (by simp [Tryd.f26]) ?_
  have kt := top_ok t
  have kl := len_ok t
  have my := mFrom t.h
  have hm := max0I_is n
  have hmin := min2_is n.toNat t.all.length
  have kc := from0_ok t.h t.v t.ok t.rise k (min n.toNat t.all.length) (by omega)
  unfold Tr.av at kt kl ⊢
  repeat' (first | (show DW _ _ _ _ _ _ _ _; first | refine DW_V tabs rfl rfl rfl rfl (congrArg (AV.int _) hm) ?_ | refine DW_V tabs rfl rfl rfl rfl (congrArg (AV.int _) hmin) ?_ | refine DW_A tabs rfl ?_ | refine DW_nil ?_ | refine DW_lits tabOK rfl rfl rfl rfl rfl rfl rfl rfl rfl rfl rfl rfl rfl ?_ | refine DW_pure rfl rfl rfl rfl rfl kt ?_ | refine DW_pure rfl rfl rfl rfl rfl kl ?_ | refine DW_append_own tabOK rfl rfl rfl rfl rfl rfl rfl rfl rfl rfl rfl rfl rfl rfl rfl (by simp; omega) (by simp; omega) ?_) | (show W _ _ _ _ _ _; first | refine W_seq ?_ | refine W_text rfl (fun _ _ _ h => h) ?_ | refine W_block ?_ | refine W_skip ?_ | refine W_exit ?_ | refine W_ret ?_ | refine W_true rfl ?_ | refine W_false rfl ?_ | refine W_cond rfl (fun _ => ?_) (fun _ => ?_) | refine W_draw mixed [0, 1, 3, 4, 5, 6, 7, 8, 2, 9, 10, 11, 12] [.P, .P, .R, .P, .P, .P, .P, .P, .P, .R, .P, .E, .P] rfl rfl (by kernel_rfl) ?_))
  refine DW_nilfn rfl rfl rfl rfl rfl my ?_
  repeat' (first | (show DW _ _ _ _ _ _ _ _; first | refine DW_A tabs rfl ?_ | refine DW_nil ?_ | refine DW_lits tabOK rfl rfl rfl rfl rfl rfl rfl rfl rfl rfl rfl rfl rfl ?_ | refine DW_append_own tabOK rfl rfl rfl rfl rfl rfl rfl rfl rfl rfl rfl rfl rfl rfl rfl (by simp; omega) (by simp; omega) ?_) | (show W _ _ _ _ _ _; first | refine W_seq ?_ | refine W_text rfl (fun _ _ _ h => h) ?_ | refine W_block ?_ | refine W_skip ?_ | refine W_exit ?_ | refine W_ret ?_ | refine W_true rfl ?_ | refine W_false rfl ?_ | refine W_cond rfl (fun _ => ?_) (fun _ => ?_) | refine W_draw mixed [0, 1, 3, 4, 5, 6, 7, 8, 2, 9, 10, 11, 12] [.P, .P, .R, .P, .P, .P, .P, .P, .P, .R, .P, .E, .P] rfl rfl (by kernel_rfl) ?_))
  refine DW_invokeM rfl rfl rfl rfl rfl my rfl kc ?_ (fun u M' ⟨_, e, _⟩ => by cases e)
  rintro u M' ⟨g', e, hM⟩
  cases e
  repeat' (first | (show DW _ _ _ _ _ _ _ _; first | refine DW_A tabs rfl ?_ | refine DW_nil ?_ | refine DW_lits tabOK rfl rfl rfl rfl rfl rfl rfl rfl rfl rfl rfl rfl rfl ?_ | refine DW_append_own tabOK rfl rfl rfl rfl rfl rfl rfl rfl rfl rfl rfl rfl rfl rfl rfl (by simp; omega) (by simp; omega) ?_) | (show W _ _ _ _ _ _; first | refine W_seq ?_ | refine W_text rfl (fun _ _ _ h => h) ?_ | refine W_block ?_ | refine W_skip ?_ | refine W_exit ?_ | refine W_ret ?_ | refine W_true rfl ?_ | refine W_false rfl ?_ | refine W_cond rfl (fun _ => ?_) (fun _ => ?_) | refine W_draw mixed [0, 1, 3, 4, 5, 6, 7, 8, 2, 9, 10, 11, 12] [.P, .P, .R, .P, .P, .P, .P, .P, .P, .R, .P, .E, .P] rfl rfl (by kernel_rfl) ?_))
  exact ⟨rfl, _, rfl, _, rfl, SubC.untag (closed_prs _)⟩

theorem okR_pos {h : Nat} {v : Vt h} (hh : 0 < h) (ok : okR h v) : okN h v := by
  cases h with
  | zero => omega
  | succ h => exact ok
theorem fromP_first {h : Nat} {v : Vt h} : fromP (allV h v) (firstV h v) = allV h v := by
  unfold firstV fromP
  cases hv : allV h v with
  | nil => rfl
  | cons q r =>
    show List.dropWhile _ (q :: r) = _
    rw [List.dropWhile_cons, if_neg]
    show ¬ rless q.key q.key = true
    rw [rless_irrefl]
    simp
set_option maxRecDepth 100000 in
theorem tAll_ok (t : Tr) (hs : t.all.length < 10000000) : APure Tryd.prog 14 [t.av] (.sl 3 (t.all.map Pr.av) .none) := by
  refine pure_sub (closed1 (closed_tr t)) (closed_prs _) ?_
  refine acalls_of tabOK Tryd.func14 rfl (by decide) (by simp [Tryd.f14]) ?_
  have kt := top_ok t
  have kl := len_ok t
  have my := mFirst t.h
  have kc := tFrom_ok t hs (firstV t.h t.v) (t.all.length : Int)
  have e1 : fromP t.all (firstV t.h t.v) = t.all := fromP_first
  have e2 : min ((t.all.length : Int)).toNat t.all.length = t.all.length := by simp
  rw [e1, e2, List.take_length] at kc
  by_cases h0 : t.all = []
  · have d0 : decide ((t.all.length : Int) = 0) = true := by simp [h0]
    rw [h0] at kl ⊢
    unfold Tr.av at kl ⊢
    repeat' (first | (show DW _ _ _ _ _ _ _ _; first | refine DW_V tabs rfl rfl rfl rfl (congrArg AV.bool d0) ?_ | refine DW_A tabs rfl ?_ | refine DW_nil ?_ | refine DW_lits tabOK rfl rfl rfl rfl rfl rfl rfl rfl rfl rfl rfl rfl rfl ?_ | refine DW_pure rfl rfl rfl rfl rfl kl ?_ | refine DW_append_own tabOK rfl rfl rfl rfl rfl rfl rfl rfl rfl rfl rfl rfl rfl rfl rfl (by simp; omega) (by simp; omega) ?_) | (show W _ _ _ _ _ _; first | refine W_seq ?_ | refine W_text rfl (fun _ _ _ h => h) ?_ | refine W_block ?_ | refine W_skip ?_ | refine W_exit ?_ | refine W_ret ?_ | refine W_true rfl ?_ | refine W_false rfl ?_ | refine W_cond rfl (fun _ => ?_) (fun _ => ?_)))
    exact ⟨rfl, _, rfl, _, rfl, SubC.nil⟩
  · have d0 : decide ((t.all.length : Int) = 0) = false := by simp [h0]
    have kf := vFirst_ok t.h t.v (fun _ => h0) (fun hh => okR_pos hh t.ok)
    unfold Tr.av at kt kl kc ⊢
    repeat' (first | (show DW _ _ _ _ _ _ _ _; first | refine DW_V tabs rfl rfl rfl rfl (congrArg AV.bool d0) ?_ | refine DW_A tabs rfl ?_ | refine DW_nil ?_ | refine DW_lits tabOK rfl rfl rfl rfl rfl rfl rfl rfl rfl rfl rfl rfl rfl ?_ | refine DW_pure rfl rfl rfl rfl rfl kt ?_ | refine DW_pure rfl rfl rfl rfl rfl kl ?_ | refine DW_append_own tabOK rfl rfl rfl rfl rfl rfl rfl rfl rfl rfl rfl rfl rfl rfl rfl (by simp; omega) (by simp; omega) ?_) | (show W _ _ _ _ _ _; first | refine W_seq ?_ | refine W_text rfl (fun _ _ _ h => h) ?_ | refine W_block ?_ | refine W_skip ?_ | refine W_exit ?_ | refine W_ret ?_ | refine W_true rfl ?_ | refine W_false rfl ?_ | refine W_cond rfl (fun _ => ?_) (fun _ => ?_)))
    refine DW_invoke rfl rfl rfl rfl rfl my kf ?_
    repeat' (first | (show DW _ _ _ _ _ _ _ _; first | refine DW_V tabs rfl rfl rfl rfl (congrArg AV.bool d0) ?_ | refine DW_A tabs rfl ?_ | refine DW_nil ?_ | refine DW_lits tabOK rfl rfl rfl rfl rfl rfl rfl rfl rfl rfl rfl rfl rfl ?_ | refine DW_pure rfl rfl rfl rfl rfl kl ?_ | refine DW_pure rfl rfl rfl rfl rfl kc ?_ | refine DW_append_own tabOK rfl rfl rfl rfl rfl rfl rfl rfl rfl rfl rfl rfl rfl rfl rfl (by simp; omega) (by simp; omega) ?_) | (show W _ _ _ _ _ _; first | refine W_seq ?_ | refine W_text rfl (fun _ _ _ h => h) ?_ | refine W_block ?_ | refine W_skip ?_ | refine W_exit ?_ | refine W_ret ?_ | refine W_true rfl ?_ | refine W_false rfl ?_ | refine W_cond rfl (fun _ => ?_) (fun _ => ?_)))
    exact ⟨rfl, _, rfl, _, rfl, SubC.of_closed (closed_prs _)⟩
end Go.Proofs.YthdeopopodhimaaDoor
