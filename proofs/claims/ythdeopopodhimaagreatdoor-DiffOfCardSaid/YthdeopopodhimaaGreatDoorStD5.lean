/- List and History by the document. No further condition. -/
import Derived.Test.YthdeopopodhimaaGreatDoorStD4
set_option linter.unusedVariables false
set_option linter.unusedSimpArgs false
namespace Go.Proofs.YthdeopopodhimaaGreatDoor
open Go.Ab

theorem rpathsU_len : ∀ (n : Nat) (dir : Bytes) (m : List Pr), m.length ≤ n → (pathsU dir m).length ≤ m.length
  | n, dir, m, hn => by
    have hlen := (skipU_sub dir m).length_le
    cases hs : skipU dir m with
    | nil => rw [pathsU_nil hs]; exact Nat.zero_le _
    | cons x r =>
      rw [hs] at hlen
      have hlt := sameP_lt x r
      rw [pathsU_cons hs]
      match n, hn with
      | 0, hn => simp at hlen; omega
      | n + 1, hn =>
        simp at hlen
        have := rpathsU_len n dir (sameP x.key.path (x :: r)) (by omega)
        simp
        omega
def ltQ (l : List Pr) (dir : Bytes) (w : Int) (p : Bytes) : Option En := if underB dir p = true then atL l p w else none
theorem list_doc {l : List Pr} (hr : Rise l) (ht : okT l) (hst : isSt l = true) (dir : Bytes) (w : Int) : (pathsU [] l).filterMap (ltQ l dir w) = listL l dir w := by
  have hf : ∀ p e, ltQ l dir w p = some e → e.path = p := fun p e h => by
    unfold ltQ at h
    split at h
    · exact (at_is hr ht h).1
    · cases h
  refine riseE_eq (rise_fm hf (paths_ok _ [] l (Nat.le_refl _) hr).1) (list_rise hr ht dir w) fun e => ?_
  rw [list_mem hr ht, List.mem_filterMap]
  constructor
  · rintro ⟨p, hp, he⟩
    have := hf p e he
    subst this
    unfold ltQ at he
    split at he
    · rename_i hu
      exact ⟨hu, he⟩
    · cases he
  · rintro ⟨hu, he⟩
    obtain ⟨_, _, x, hx, hxp, _⟩ := at_is hr ht he
    refine ⟨e.path, ((paths_ok _ [] l (Nat.le_refl _) hr).2 _).2 ⟨?_, x, hx, hxp⟩, ?_⟩
    · rw [under_root, ← hxp]
      exact okP_path (isSt_mem hst hx)
    · unfold ltQ
      rw [if_pos hu]
      exact he
def lq (l : List Pr) (dir : Bytes) (w : Int) (i : Nat) : List En := ((pathsU [] l).take i).filterMap (ltQ l dir w)
theorem lq_step {l : List Pr} {dir : Bytes} {w : Int} {i : Nat} {p : Bytes} (h : (pathsU [] l).take (i + 1) = (pathsU [] l).take i ++ [p]) : lq l dir w (i + 1) = lq l dir w i ++ (ltQ l dir w p).toList := by
  unfold lq
  rw [h, List.filterMap_append]
  cases h2 : ltQ l dir w p <;> simp [h2]
def rlsF (l : List Pr) (dir : Bytes) (w : Int) (i g : Nat) : AF := ⟨[(0, prA l), (1, .str dir), (2, .int .i64 w), (8, stA (pathsU [] l)), (9, ensA (lq l dir w i) (.tok 0 g)), (10, .int .i64 (i : Int))], []⟩
set_option maxRecDepth 100000 in
set_option maxHeartbeats 8000000 in
theorem rList_ok (l : List Pr) (hl : l.length < 1000000) (hv : ∀ p, p ∈ l → p.key.path.length < 99999 ∧ p.val.length < 1000000) (hr : Rise l) (dir : Bytes) (hp : dir.length < 99999) (w : Int) : APure Tryz.prog 37 [prA l, .str dir, .int .i64 w] (lsA (listO l dir w)) := by
  refine pure_sub (closed3 (closed_prA l) closed_str closed_int) (closed_lsA _) ?_
  refine acalls_of tabOK Tryz.func37 rfl (by decide) (by simp [Tryz.f37]) ?_
  have hv' : valsB l := fun p hp => by have := hv p hp; exact ⟨by omega, by omega⟩
  have k1 := rStIs_ok l hl hv'
  have k2 := refIs_ok dir (by omega)
  cases h1 : isSt l
  · rw [h1] at k1
    rw [show listO l dir w = ([], 1) by unfold listO openE; rw [h1]; rfl]
    unfold prA at *
    repeat' (first | refine DW_A tabs rfl ?_ | refine DW_nil ?_ | refine W_A rfl ?_ | refine DW_C rfl k1 ?_ | refine DW_row tabOK rfl ?_ | refine DW_app tabOK rfl rfl (by simp; omega) (by simp; omega) ?_ | refine DW_app0 tabOK rfl (by simp; omega) (by simp; omega) ?_)
    exact ⟨rfl, _, rfl, _, rfl, SubC.tup2 SubC.nil (SubC.of_closed closed_int)⟩
  · rw [h1] at k1
    cases h2 : isPathB dir
    · rw [h2] at k2
      rw [show listO l dir w = ([], 20) by unfold listO openE; rw [h1, h2]; rfl]
      unfold prA at *
      repeat' (first | refine DW_A tabs rfl ?_ | refine DW_nil ?_ | refine W_A rfl ?_ | refine DW_C rfl k1 ?_ | refine DW_C rfl k2 ?_ | refine DW_row tabOK rfl ?_ | refine DW_app tabOK rfl rfl (by simp; omega) (by simp; omega) ?_ | refine DW_app0 tabOK rfl (by simp; omega) (by simp; omega) ?_)
      exact ⟨rfl, _, rfl, _, rfl, SubC.tup2 SubC.nil (SubC.of_closed closed_int)⟩
    · rw [h2] at k2
      by_cases h3 : w < 0
      · have d3 : decide (w < 0) = true := decide_eq_true h3
        rw [show listO l dir w = ([], 1) by unfold listO openE; rw [h1, h2, if_pos h3]; rfl]
        unfold prA at *
        repeat' (first | refine DW_VB tabs rfl d3 ?_ | refine DW_A tabs rfl ?_ | refine DW_nil ?_ | refine W_A rfl ?_ | refine DW_C rfl k1 ?_ | refine DW_C rfl k2 ?_ | refine DW_row tabOK rfl ?_ | refine DW_app tabOK rfl rfl (by simp; omega) (by simp; omega) ?_ | refine DW_app0 tabOK rfl (by simp; omega) (by simp; omega) ?_)
        exact ⟨rfl, _, rfl, _, rfl, SubC.tup2 SubC.nil (SubC.of_closed closed_int)⟩
      · have d3 : decide (w < 0) = false := decide_eq_false h3
        have ht := okT_st h1
        rw [show listO l dir w = (listL l dir w, 0) by unfold listO openE; rw [h1, h2, if_neg h3]; rfl]
        have kp := rPaths_ok l hl hr h1
        have hPm := (paths_ok _ [] l (Nat.le_refl _) hr).2
        have hfin := list_doc hr ht h1 dir w
        have hlen0 := (rpathsU_len l.length [] l (Nat.le_refl _))
        have lp := len_map AV.str (pathsU [] l)
        have hcl := closed_prA l
        have hcs : Closed (stA (pathsU [] l)) := closed_strs
        unfold stA at kp
        unfold prA at *
        repeat' (first | refine DW_VB tabs rfl d3 ?_ | refine DW_A tabs rfl ?_ | refine DW_nil ?_ | refine W_A rfl ?_ | refine DW_C rfl k1 ?_ | refine DW_C rfl k2 ?_ | refine DW_C rfl kp ?_ | refine DW_row tabOK rfl ?_ | refine DW_app tabOK rfl rfl (by simp; omega) (by simp; omega) ?_ | refine DW_app0 tabOK rfl (by simp; omega) (by simp; omega) ?_)
        refine W_count (pathsU [] l).length (fun i f N => ∃ g, N = tokM g ∧ f = rlsF l dir w i g) (Nat.zero_le _) ⟨0, rfl, rfl⟩ ((Joint.tok 9 rfl (sz' := 5) (.inr rfl)).trans (Joint.le ?_ (tokM_of rfl rfl))) ?_
        · unfold rlsF prA stA
          repeat (refine AF.le_cons rfl ?_)
          exact AF.le_nil rfl
        rintro i f N hi ⟨g, rfl, rfl⟩
        unfold rlsF prA stA
        by_cases g1 : i < (pathsU [] l).length
        · have d1 : decide ((i : Int) < ((pathsU [] l).length : Int)) = true := decide_eq_true (by omega)
          have hx : (pathsU [] l)[i]? = some (pathsU [] l)[i] := List.getElem?_eq_getElem g1
          have fi := wrap_succ (i := i) (by omega)
          have htk := take_succ hx
          have hm := List.getElem_mem g1
          generalize (pathsU [] l)[i] = p at hx htk hm
          have hst := lq_step (dir := dir) (w := w) htk
          have lo := len_map En.av (lq l dir w i)
          obtain ⟨hpu, y, hy, hyp⟩ := (hPm p).1 hm
          have hpl : p.length < 99999 := by rw [← hyp]; exact (hv y hy).1
          have hpp : isPathB p = true := by rw [← hyp]; exact okP_path (isSt_mem h1 hy)
          have ka := rAsOf_ok l hl hv' hr p (by omega) w
          rw [show asOf l p w = (atL l p w, 0) by unfold asOf openE; rw [h1, hpp, if_neg h3]; rfl] at ka
          have ku := rUnder_ok dir p hp hpl
          rw [under_is] at ku
          unfold asA at ka
          unfold prA at ka
          unfold ltQ at hst
          have hlo : (lq l dir w i).length ≤ i := by
            have := List.length_filterMap_le (ltQ l dir w) ((pathsU [] l).take i)
            unfold lq
            rw [List.length_take] at this
            omega
          cases ha : atL l p w with
          | none =>
            rw [ha] at ka hst
            have e : lq l dir w (i + 1) = lq l dir w i := by rw [hst]; split <;> simp
            repeat' (first | refine DW_VB tabs rfl d1 ?_ | refine DW_VI tabs rfl (by first | exact lp | exact lo | exact fi) ?_ | refine DW_A tabs rfl ?_ | refine DW_nil ?_ | refine W_A rfl ?_ | refine DW_C rfl ka ?_ | refine DW_C rfl ku ?_ | refine DW_ix tabOK rfl (ixN hx) ?_ | refine DW_row tabOK rfl ?_ | refine DW_app tabOK rfl rfl (by simp; omega) (by simp; omega) ?_ | refine DW_app0 tabOK rfl (by simp; omega) (by simp; omega) ?_)
            refine ⟨g1, rlsF l dir w (i + 1) g, tokM g, ⟨g, rfl, rfl⟩, Joint.cut (k := 1) (t := (rlsF l dir w (i + 1) g).t) (l := (tokM g).objs) (Nat.zero_le _) (by show 1 ≤ 2; omega) rfl ⟨SubC.of_closed hcl, SubC.of_closed closed_str, SubC.of_closed closed_int, SubC.of_closed hcs, ?_, SubC.of_closed closed_int, trivial⟩ ⟨by decide, rfl, trivial⟩⟩
            show SubC 1 _ (ensA (lq l dir w (i + 1)) (.tok 0 g))
            rw [e]
            exact SubC.tok rfl (ens_cells _)
          | some z =>
            rw [ha] at ka hst
            cases hu : underB dir p
            · rw [hu] at ku hst
              have e : lq l dir w (i + 1) = lq l dir w i := by rw [hst]; simp
              repeat' (first | refine DW_VB tabs rfl d1 ?_ | refine DW_VI tabs rfl (by first | exact lp | exact lo | exact fi) ?_ | refine DW_A tabs rfl ?_ | refine DW_nil ?_ | refine W_A rfl ?_ | refine DW_C rfl ka ?_ | refine DW_C rfl ku ?_ | refine DW_ix tabOK rfl (ixN hx) ?_ | refine DW_row tabOK rfl ?_ | refine DW_app tabOK rfl rfl (by simp; omega) (by simp; omega) ?_ | refine DW_app0 tabOK rfl (by simp; omega) (by simp; omega) ?_)
              refine ⟨g1, rlsF l dir w (i + 1) g, tokM g, ⟨g, rfl, rfl⟩, Joint.cut (k := 1) (t := (rlsF l dir w (i + 1) g).t) (l := (tokM g).objs) (Nat.zero_le _) (by show 1 ≤ 2; omega) rfl ⟨SubC.of_closed hcl, SubC.of_closed closed_str, SubC.of_closed closed_int, SubC.of_closed hcs, ?_, SubC.of_closed closed_int, trivial⟩ ⟨by decide, rfl, trivial⟩⟩
              show SubC 1 _ (ensA (lq l dir w (i + 1)) (.tok 0 g))
              rw [e]
              exact SubC.tok rfl (ens_cells _)
            · rw [hu] at ku hst
              have e : ensA (lq l dir w (i + 1)) (.tok 0 (g + 1)) = .sl 5 ((lq l dir w i).map En.av ++ [z.av]) (.tok 0 (g + 1)) := by rw [hst]; simp [ensA]
              repeat' (first | refine DW_VB tabs rfl d1 ?_ | refine DW_VI tabs rfl (by first | exact lp | exact lo | exact fi) ?_ | refine DW_A tabs rfl ?_ | refine DW_nil ?_ | refine W_A rfl ?_ | refine DW_C rfl ka ?_ | refine DW_C rfl ku ?_ | refine DW_ix tabOK rfl (ixN hx) ?_ | refine DW_row tabOK rfl ?_ | refine DW_app tabOK rfl rfl (by simp; omega) (by simp; omega) ?_ | refine DW_app0 tabOK rfl (by simp; omega) (by simp; omega) ?_)
              refine ⟨g1, rlsF l dir w (i + 1) (g + 1), tokM (g + 1), ⟨g + 1, rfl, rfl⟩, Joint.cut (k := 1) (t := (rlsF l dir w (i + 1) (g + 1)).t) (l := (tokM (g + 1)).objs) (Nat.zero_le _) (by show 1 ≤ 2; omega) rfl ⟨SubC.of_closed hcl, SubC.of_closed closed_str, SubC.of_closed closed_int, SubC.of_closed hcs, ?_, SubC.of_closed closed_int, trivial⟩ ⟨by decide, rfl, trivial⟩⟩
              show SubC 1 _ (ensA (lq l dir w (i + 1)) (.tok 0 (g + 1)))
              rw [e]
              exact SubC.tok rfl (fun x hx c hc => by have h := ens_cells (lq l dir w i ++ [z]); rw [List.map_append] at h; exact h x hx c hc)
        · have d1 : decide ((i : Int) < ((pathsU [] l).length : Int)) = false := decide_eq_false (by omega)
          obtain rfl : i = (pathsU [] l).length := by omega
          have e : lq l dir w (pathsU [] l).length = listL l dir w := by unfold lq; rw [List.take_length]; exact hfin
          have hk := closed_ens (listL l dir w)
          rw [e]
          unfold ensA at hk
          repeat' (first | refine DW_VB tabs rfl d1 ?_ | refine DW_VI tabs rfl lp ?_ | refine DW_A tabs rfl ?_ | refine DW_nil ?_ | refine W_A rfl ?_ | refine DW_row tabOK rfl ?_ | refine DW_app tabOK rfl rfl (by simp; omega) (by simp; omega) ?_ | refine DW_app0 tabOK rfl (by simp; omega) (by simp; omega) ?_)
          exact ⟨rfl, _, rfl, _, rfl, SubC.tup2 (SubC.untag hk) (SubC.of_closed closed_int)⟩
end Go.Proofs.YthdeopopodhimaaGreatDoor
