/- History by the document. No further condition. -/
import Derived.Test.YthdeopopodhimaaGreatDoorStD5
set_option linter.unusedVariables false
set_option linter.unusedSimpArgs false
namespace Go.Proofs.YthdeopopodhimaaGreatDoor
open Go.Ab

theorem rtake_filter {α : Type} {q : α → Bool} : ∀ {l : List α}, l.Pairwise (fun a b => q b = true → q a = true) → l.takeWhile q = l.filter q
  | [], _ => rfl
  | x :: r, h => by
    obtain ⟨h1, h2⟩ := List.pairwise_cons.1 h
    rw [List.takeWhile_cons, List.filter_cons]
    cases hx : q x
    · simp only [Bool.false_eq_true, if_false]
      refine (List.filter_eq_nil_iff.2 fun y hy hq => ?_).symm
      rw [h1 y hy hq] at hx
      cases hx
    · simp only [if_true]
      rw [rtake_filter h2]
theorem hist_doc {l : List Pr} (hr : Rise l) (ht : okT l) (p : Bytes) : histL l p = l.filter fun x => x.key.path == p := by
  unfold histL
  have hrf := fromP_rise (k := ⟨p, 1000000000⟩) hr
  rw [fromP_filter hr] at hrf ⊢
  have hge : ∀ x, x ∈ l.filter (fun q => !rless q.key ⟨p, 1000000000⟩) → bl x.key.path p = false := by
    intro x hx
    rw [List.mem_filter] at hx
    cases hb : bl x.key.path p
    · rfl
    · rw [(rless_def x.key ⟨p, 1000000000⟩).2 (.inl hb)] at hx
      cases hx.2
  rw [rtake_filter]
  · rw [List.filter_filter]
    refine List.filter_congr fun x hx => ?_
    cases hp : x.key.path == p
    · simp
    · have hp' : x.key.path = p := by simpa using hp
      rw [rless_yes hp' (ht x hx)]
      rfl
  · refine hrf.imp_of_mem fun {a b} ha hb hab hq => ?_
    have hq' : b.key.path = p := by simpa using hq
    have h1 := hge a ha
    rcases (rless_def _ _).1 hab with h | ⟨h, _⟩
    · rw [hq', h1] at h
      cases h
    · rw [h, hq']
      simp
def rhsF (l : List Pr) (p : Bytes) (i g : Nat) : AF := ⟨[(0, prA l), (1, .str p), (6, .sl 3 (((l.take i).filter fun x => x.key.path == p).map Pr.av) (.tok 0 g)), (7, .int .i64 (i : Int))], []⟩
set_option maxRecDepth 100000 in
set_option maxHeartbeats 8000000 in
theorem rHist_ok (l : List Pr) (hl : l.length < 1000000) (hv : valsB l) (hr : Rise l) (p : Bytes) (hp : p.length < 1000000) : APure Tryz.prog 39 [prA l, .str p] (hsA (histO l p)) := by
  refine pure_sub (closed2 (closed_prA l) closed_str) (closed_hsA _) ?_
  refine acalls_of tabOK Tryz.func39 rfl (by decide) (by simp [Tryz.f39]) ?_
  have k1 := rStIs_ok l hl hv
  have k2 := refIs_ok p (by omega)
  have la := len_map Pr.av l
  cases h1 : isSt l
  · rw [h1] at k1
    rw [show histO l p = ([], 1) by unfold histO openE; rw [h1]; rfl]
    unfold prA at *
    repeat' (first | refine DW_A tabs rfl ?_ | refine DW_nil ?_ | refine W_A rfl ?_ | refine DW_C rfl k1 ?_ | refine DW_row tabOK rfl ?_ | refine DW_app tabOK rfl rfl (by simp; omega) (by simp; omega) ?_ | refine DW_app0 tabOK rfl (by simp; omega) (by simp; omega) ?_)
    exact ⟨rfl, _, rfl, _, rfl, SubC.tup2 SubC.nil (SubC.of_closed closed_int)⟩
  · rw [h1] at k1
    cases h2 : isPathB p
    · rw [h2] at k2
      rw [show histO l p = ([], 20) by unfold histO openE; rw [h1, h2]; rfl]
      unfold prA at *
      repeat' (first | refine DW_A tabs rfl ?_ | refine DW_nil ?_ | refine W_A rfl ?_ | refine DW_C rfl k1 ?_ | refine DW_C rfl k2 ?_ | refine DW_row tabOK rfl ?_ | refine DW_app tabOK rfl rfl (by simp; omega) (by simp; omega) ?_ | refine DW_app0 tabOK rfl (by simp; omega) (by simp; omega) ?_)
      exact ⟨rfl, _, rfl, _, rfl, SubC.tup2 SubC.nil (SubC.of_closed closed_int)⟩
    · rw [h2] at k2
      have ht := okT_st h1
      rw [show histO l p = (l.filter (fun x => x.key.path == p), 0) by unfold histO openE; rw [h1, h2, hist_doc hr ht]; rfl]
      have hcl := closed_prA l
      unfold prA at *
      repeat' (first | refine DW_A tabs rfl ?_ | refine DW_nil ?_ | refine W_A rfl ?_ | refine DW_C rfl k1 ?_ | refine DW_C rfl k2 ?_ | refine DW_row tabOK rfl ?_ | refine DW_app tabOK rfl rfl (by simp; omega) (by simp; omega) ?_ | refine DW_app0 tabOK rfl (by simp; omega) (by simp; omega) ?_)
      refine W_count l.length (fun i f N => ∃ g, N = tokM g ∧ f = rhsF l p i g) (Nat.zero_le _) ⟨0, rfl, rfl⟩ ((Joint.tok 6 rfl (sz' := 3) (.inr rfl)).trans (Joint.le ?_ (tokM_of rfl rfl))) ?_
      · unfold rhsF prA
        repeat (refine AF.le_cons rfl ?_)
        exact AF.le_nil rfl
      rintro i f N hi ⟨g, rfl, rfl⟩
      unfold rhsF prA
      by_cases g1 : i < l.length
      · have d1 : decide ((i : Int) < (l.length : Int)) = true := decide_eq_true (by omega)
        have hx : l[i]? = some l[i] := List.getElem?_eq_getElem g1
        have fi := wrap_succ (i := i) (by omega)
        have htk := take_succ hx
        generalize l[i] = x at hx htk
        have hst := rfilt_step (fun x => x.key.path == p) htk
        have lo := len_map Pr.av ((l.take i).filter fun x => x.key.path == p)
        have hob := List.length_filter_le (fun x : Pr => x.key.path == p) (l.take i)
        rw [List.length_take] at hob
        cases g2 : x.key.path == p
        · have e : (l.take (i + 1)).filter (fun x => x.key.path == p) = (l.take i).filter (fun x => x.key.path == p) := by rw [hst]; simp [g2]
          repeat' (first | refine DW_VB tabs rfl (by first | exact d1 | exact g2) ?_ | refine DW_VI tabs rfl (by first | exact la | exact fi) ?_ | refine DW_A tabs rfl ?_ | refine DW_nil ?_ | refine W_A rfl ?_ | refine DW_ix tabOK rfl (ixN hx) ?_ | refine DW_row tabOK rfl ?_ | refine DW_app tabOK rfl rfl (by simp; omega) (by simp; omega) ?_ | refine DW_app0 tabOK rfl (by simp; omega) (by simp; omega) ?_)
          refine ⟨g1, rhsF l p (i + 1) g, tokM g, ⟨g, rfl, rfl⟩, ?_⟩
          refine Joint.le ?_ (tokM_of rfl rfl)
          unfold rhsF prA
          rw [e]
          repeat (refine AF.le_cons rfl ?_)
          exact AF.le_nil rfl
        · have e : ((l.take (i + 1)).filter fun x => x.key.path == p).map Pr.av = ((l.take i).filter fun x => x.key.path == p).map Pr.av ++ [x.av] := by rw [hst]; simp [g2]
          repeat' (first | refine DW_VB tabs rfl (by first | exact d1 | exact g2) ?_ | refine DW_VI tabs rfl (by first | exact la | exact lo | exact fi) ?_ | refine DW_A tabs rfl ?_ | refine DW_nil ?_ | refine W_A rfl ?_ | refine DW_ix tabOK rfl (ixN hx) ?_ | refine DW_row tabOK rfl ?_ | refine DW_app tabOK rfl rfl (by simp; omega) (by simp; omega) ?_ | refine DW_app0 tabOK rfl (by simp; omega) (by simp; omega) ?_)
          refine ⟨g1, rhsF l p (i + 1) (g + 1), tokM (g + 1), ⟨g + 1, rfl, rfl⟩, ?_⟩
          refine Joint.le ?_ (tokM_of rfl rfl)
          unfold rhsF prA
          rw [e]
          repeat (refine AF.le_cons rfl ?_)
          exact AF.le_nil rfl
      · have d1 : decide ((i : Int) < (l.length : Int)) = false := decide_eq_false (by omega)
        obtain rfl : i = l.length := by omega
        rw [List.take_length]
        have hk := closed_prs (l.filter fun x => x.key.path == p)
        repeat' (first | refine DW_VB tabs rfl d1 ?_ | refine DW_VI tabs rfl la ?_ | refine DW_A tabs rfl ?_ | refine DW_nil ?_ | refine W_A rfl ?_ | refine DW_row tabOK rfl ?_ | refine DW_app tabOK rfl rfl (by simp; omega) (by simp; omega) ?_ | refine DW_app0 tabOK rfl (by simp; omega) (by simp; omega) ?_)
        exact ⟨rfl, _, rfl, _, rfl, SubC.tup2 (SubC.untag hk) (SubC.of_closed closed_int)⟩
set_option maxRecDepth 100000 in
set_option maxHeartbeats 8000000 in
theorem smade_ok (l : List Pr) (tg : Tag) (hl : l.length < 1000) : APure Tryz.prog 31 [.sl 3 (l.map Pr.av) tg] (laidT l).av := by
  intro M
  refine acalls_of tabOK Tryz.func31 rfl (by decide) (by simp [Tryz.f31]) ?_
  have la := len_map Pr.av l
  have k0 := new_ok
  repeat' (first | refine DW_A tabs rfl ?_ | refine DW_nil ?_ | refine W_A rfl ?_ | refine DW_C rfl k0 ?_ | refine DW_nilc tabOK rfl ?_)
  refine W_count l.length (fun i f N => N = M ∧ (True) ∧ f = ⟨[(0, .sl 3 (l.map Pr.av) tg), (3, (laidT (l.take i)).av), (4, .int .i64 (i : Int))], []⟩) (Nat.zero_le _) ⟨rfl, trivial, rfl⟩ (Joint.le ?_ (Mem.le_refl _)) ?_
  · skip
    repeat (refine AF.le_cons rfl ?_)
    exact AF.le_nil rfl
  rintro i f N hi ⟨rfl, hinv, rfl⟩
  by_cases h1 : i < l.length
  · have d1 : decide ((i : Int) < (l.length : Int)) = true := by simp; omega
    have hx : l[i]? = some l[i] := List.getElem?_eq_getElem h1
    have fi := wrap_succ (i := i) (by omega)
    have ht := take_succ hx
    have hm := List.getElem_mem h1
    generalize l[i] = x at hx ht hm
    have hall := (laid_all (l := l.take i) (by simp; omega))
    have kp := putT_ok (t := laidT (l.take i)) (p := x) (by rw [hall.1]; have := hall.2; simp at this; omega)
    rw [← laidT_step ht] at kp
    unfold Tr.av at kp ⊢
    repeat' (first | refine DW_VB tabs rfl d1 ?_ | refine DW_VI tabs rfl (by first | exact fi | exact la) ?_ | refine DW_A tabs rfl ?_ | refine DW_nil ?_ | refine W_A rfl ?_ | refine DW_C rfl kp ?_ | refine DW_ix tabOK rfl (ixN hx) ?_ | refine DW_nilc tabOK rfl ?_)
    refine ⟨h1, _, _, ⟨rfl, trivial, rfl⟩, Joint.le ?_ (Mem.le_refl _)⟩
    repeat (refine AF.le_cons rfl ?_)
    exact AF.le_nil rfl
  · have d1 : decide ((i : Int) < (l.length : Int)) = false := by simp; omega
    obtain rfl : i = l.length := by omega
    rw [take_all]
    repeat' (first | refine DW_VB tabs rfl d1 ?_ | refine DW_VI tabs rfl la ?_ | refine DW_A tabs rfl ?_ | refine DW_nil ?_ | refine W_A rfl ?_ | refine DW_nilc tabOK rfl ?_)
    exact ⟨rfl, _, rfl, rfl, rfl⟩
end Go.Proofs.YthdeopopodhimaaGreatDoor
