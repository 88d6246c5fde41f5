/- Parts of the proof, one behind the other: StD0, StD1. No further condition. -/
import Derived.Test.YtmgkebghojhocaaGreatDoorQV19
import Derived.Test.YtmgkebghojhocaaGreatDoorQV24
import Derived.Test.YtmgkebghojhocaaGreatDoorQV26
set_option linter.unusedVariables false
set_option linter.unusedSimpArgs false
/- The document on stores of pairs: is it one. No further condition. -/
set_option linter.unusedVariables false
set_option linter.unusedSimpArgs false
namespace Go.Proofs.YtmgkebghojhocaaGreatDoor
open Go.Ab
def prA (l : List Pr) : AV := .sl 3 (l.map Pr.av) .none
theorem closed_prA (l : List Pr) : Closed (prA l) := closed_slmap (fun p => closed_pr p) (fun p c hc => by
 have : c ∈ [AV.str p.key.path, .int .i64 p.key.time, .str p.val] := hc
 exact closed3 closed_str closed_int closed_str c this)
def riF1 (l : List Pr) (i : Nat) : AF := ⟨[(0, prA l), (3, .int .i64 (i : Int))], []⟩
set_option maxRecDepth 100000 in
set_option maxHeartbeats 8000000 in
theorem rStIs_ok (l : List Pr) (hl : l.length < 1000000) (hv : valsB l) : APure Tryz.prog 64 [prA l] (.bool (isSt l)) := by
 refine pure_sub (closed1 (closed_prA l)) (closed_bool) ?_
 refine acalls_of tabOK Tryz.func64 rfl (by decide) (by simp [Tryz.f64]) ?_
 have la := len_map Pr.av l
 unfold prA
 repeat' (first | refine DW_VI tabs rfl la ?_ | refine DW_A tabs rfl ?_ | refine DW_nil ?_ | refine W_A rfl ?_)
 refine W_count l.length (fun i f N => N = ⟨0, []⟩ ∧ isSt (l.take i) = true ∧ f = riF1 l i) (Nat.zero_le _) ⟨rfl, rfl, rfl⟩ (Joint.le ?_ (Mem.le_nil rfl)) ?_
 ·unfold riF1 prA
  repeat (refine AF.le_cons rfl ?_)
  exact AF.le_nil rfl
 rintro i f N hi ⟨rfl, hinv, rfl⟩
 unfold riF1 prA
 by_cases h1 : i < l.length
 ·have d1 : decide ((i : Int) < (l.length : Int)) = true := by simp; omega
  have hx : l[i]? = some l[i] := List.getElem?_eq_getElem h1
  have fi := wrap_succ (i := i) (by omega)
  have ht := take_succ hx
  have hm := List.getElem_mem h1
  have hsx := hv _ hm
  have hno : okP l[i] = false → isSt l = false := fun h => by
   rw [Bool.eq_false_iff]
   intro h2
   rw [isSt_mem h2 hm] at h
   cases h
  have hyes : okP l[i] = true → isSt (l.take (i + 1)) = true := fun h => by
   unfold isSt at hinv ⊢
   rw [ht, List.all_append, hinv]
   simp [h]
  generalize l[i] = x at *
  have kr := rRead_ok x.val hsx.2
  have kk := rIsKey_ok x.key hsx.1
  have hcl := closed_prA l
  unfold okP at hno hyes
  unfold rmA at kr
  cases g1 : isKeyB x.key
  ·rw [g1] at kk
   rw [hno (by rw [g1]; simp)]
   repeat' (first | refine DW_VB tabs rfl d1 ?_ | refine DW_VI tabs rfl la ?_ | refine DW_A tabs rfl ?_ | refine DW_nil ?_ | refine W_A rfl ?_ | refine DW_C rfl kr ?_ | refine DW_C rfl kk ?_ | refine DW_ix tabOK rfl (ixN hx) ?_)
   exact ⟨rfl, _, rfl, _, rfl, SubC.of_closed closed_bool⟩
  ·rw [g1] at kk
   by_cases g2 : x.key.path = []
   ·have d2 : (x.key.path == ([] : Bytes)) = true := by simp [g2]
    rw [hno (by rw [d2]; simp)]
    repeat' (first | refine DW_VB tabs rfl (by first | exact d1 | exact d2) ?_ | refine DW_VI tabs rfl la ?_ | refine DW_A tabs rfl ?_ | refine DW_nil ?_ | refine W_A rfl ?_ | refine DW_C rfl kr ?_ | refine DW_C rfl kk ?_ | refine DW_ix tabOK rfl (ixN hx) ?_)
    exact ⟨rfl, _, rfl, _, rfl, SubC.of_closed closed_bool⟩
   ·have d2 : (x.key.path == ([] : Bytes)) = false := by simp [g2]
    by_cases g3 : (readM x.val).2.2 = 0
    ·have d3 : (!decide ((readM x.val).2.2 = 0)) = false := by simp [g3]
     repeat' (first | refine DW_VB tabs rfl (by first | exact d1 | exact d2 | exact d3) ?_ | refine DW_VI tabs rfl (by first | exact la | exact fi) ?_ | refine DW_A tabs rfl ?_ | refine DW_nil ?_ | refine W_A rfl ?_ | refine DW_C rfl kr ?_ | refine DW_C rfl kk ?_ | refine DW_ix tabOK rfl (ixN hx) ?_)
     refine ⟨h1, riF1 l (i + 1), ⟨0, []⟩, ⟨rfl, hyes (by rw [g1, d2, decide_eq_true g3]; rfl), rfl⟩, Joint.cut (k := 0) (t := (riF1 l (i + 1)).t) (l := []) (Nat.le_refl _) (Nat.zero_le _) rfl ⟨SubC.of_closed hcl, SubC.of_closed closed_int, trivial⟩ trivial⟩
    ·have d3 : (!decide ((readM x.val).2.2 = 0)) = true := by simp [g3]
     rw [hno (by rw [decide_eq_false g3]; rfl)]
     repeat' (first | refine DW_VB tabs rfl (by first | exact d1 | exact d2 | exact d3) ?_ | refine DW_VI tabs rfl la ?_ | refine DW_A tabs rfl ?_ | refine DW_nil ?_ | refine W_A rfl ?_ | refine DW_C rfl kr ?_ | refine DW_C rfl kk ?_ | refine DW_ix tabOK rfl (ixN hx) ?_)
     exact ⟨rfl, _, rfl, _, rfl, SubC.of_closed closed_bool⟩
 ·have d1 : decide ((i : Int) < (l.length : Int)) = false := by simp; omega
  obtain rfl : i = l.length := by omega
  rw [List.take_length] at hinv
  rw [hinv]
  repeat' (first | refine DW_VB tabs rfl d1 ?_ | refine DW_VI tabs rfl la ?_ | refine DW_A tabs rfl ?_ | refine DW_nil ?_ | refine W_A rfl ?_)
  exact ⟨rfl, _, rfl, _, rfl, SubC.of_closed closed_bool⟩
end Go.Proofs.YtmgkebghojhocaaGreatDoor
/- Batches by the document: may a change be, is it a batch. No further condition. -/
set_option linter.unusedVariables false
set_option linter.unusedSimpArgs false
namespace Go.Proofs.YtmgkebghojhocaaGreatDoor
open Go.Ab
set_option maxRecDepth 100000 in
set_option maxHeartbeats 8000000 in
theorem rLast_ok (l : List Pr) (hl : l.length < 1000000) (hv : valsB l) : APure Tryz.prog 65 [prA l] (.int .i64 (lastL l)) := by
 intro M
 refine acalls_of tabOK Tryz.func65 rfl (by decide) (by simp [Tryz.f65]) ?_
 have la := len_map Pr.av l
 have ki := rStIs_ok l hl hv
 unfold prA lastL at *
 cases h : isSt l
 ·rw [h] at ki
  rw [if_neg (by simp)]
  repeat' (first | refine DW_VI tabs rfl la ?_ | refine DW_A tabs rfl ?_ | refine DW_nil ?_ | refine W_A rfl ?_)
  refine W_count 0 (fun i f N => N = M ∧ f = ⟨[(0, .sl 3 (l.map Pr.av) .none), (3, .int .i64 0), (4, .int .i64 (i : Int))], []⟩) (Nat.zero_le _) ⟨rfl, rfl⟩ (Joint.le ?_ (Mem.le_refl _)) ?_
  ·skip
   repeat (refine AF.le_cons rfl ?_)
   exact AF.le_nil rfl
  rintro i f N hi ⟨rfl, rfl⟩
  obtain rfl : i = 0 := by omega
  by_cases h1 : 0 < l.length
  ·have d1 : decide ((((0 : Nat) : Int)) < (l.length : Int)) = true := decide_eq_true (by omega)
   have d2 : decide ((0 : Int) < (l.length : Int)) = true := decide_eq_true (by omega)
   repeat' (first | refine DW_VB tabs rfl (by first | exact d1 | exact d2) ?_ | refine DW_VI tabs rfl la ?_ | refine DW_A tabs rfl ?_ | refine DW_nil ?_ | refine W_A rfl ?_ | refine DW_C rfl ki ?_)
   exact ⟨rfl, _, rfl, rfl, rfl⟩
  ·have d1 : decide ((((0 : Nat) : Int)) < (l.length : Int)) = false := decide_eq_false (by omega)
   have d2 : decide ((0 : Int) < (l.length : Int)) = false := decide_eq_false (by omega)
   repeat' (first | refine DW_VB tabs rfl (by first | exact d1 | exact d2) ?_ | refine DW_VI tabs rfl la ?_ | refine DW_A tabs rfl ?_ | refine DW_nil ?_ | refine W_A rfl ?_ | refine DW_C rfl ki ?_)
   exact ⟨rfl, _, rfl, rfl, rfl⟩
 ·rw [h] at ki
  rw [if_pos rfl]
  repeat' (first | refine DW_VI tabs rfl la ?_ | refine DW_A tabs rfl ?_ | refine DW_nil ?_ | refine W_A rfl ?_)
  refine W_count l.length (fun i f N => N = M ∧ f = ⟨[(0, .sl 3 (l.map Pr.av) .none), (3, .int .i64 (maxAt (l.take i))), (4, .int .i64 (i : Int))], []⟩) (Nat.zero_le _) ⟨rfl, rfl⟩ (Joint.le ?_ (Mem.le_refl _)) ?_
  ·skip
   repeat (refine AF.le_cons rfl ?_)
   exact AF.le_nil rfl
  rintro i f N hi ⟨rfl, rfl⟩
  by_cases h1 : i < l.length
  ·have d1 : decide ((i : Int) < (l.length : Int)) = true := by simp; omega
   have hx : l[i]? = some l[i] := List.getElem?_eq_getElem h1
   have fi := wrap_succ (i := i) (by omega)
   have ht := take_succ hx
   generalize l[i] = x at hx ht
   have mx := max_is (maxAt (l.take i)) x.key.time
   have ms : maxAt (l.take (i + 1)) = max (maxAt (l.take i)) x.key.time := by unfold maxAt; rw [ht, List.foldl_append]; rfl
   repeat' (first | refine DW_VB tabs rfl d1 ?_ | refine DW_VI tabs rfl (by first | exact la | exact fi | exact mx) ?_ | refine DW_A tabs rfl ?_ | refine DW_nil ?_ | refine W_A rfl ?_ | refine DW_C rfl ki ?_ | refine DW_ix tabOK rfl (ixN hx) ?_)
   refine ⟨h1, _, _, ⟨rfl, rfl⟩, Joint.le ?_ (Mem.le_refl _)⟩
   rw [ms]
   repeat (refine AF.le_cons rfl ?_)
   exact AF.le_nil rfl
  ·have d1 : decide ((i : Int) < (l.length : Int)) = false := by simp; omega
   obtain rfl : i = l.length := by omega
   rw [List.take_length]
   repeat' (first | refine DW_VB tabs rfl d1 ?_ | refine DW_VI tabs rfl la ?_ | refine DW_A tabs rfl ?_ | refine DW_nil ?_ | refine W_A rfl ?_ | refine DW_C rfl ki ?_)
   exact ⟨rfl, _, rfl, rfl, rfl⟩
end Go.Proofs.YtmgkebghojhocaaGreatDoor
