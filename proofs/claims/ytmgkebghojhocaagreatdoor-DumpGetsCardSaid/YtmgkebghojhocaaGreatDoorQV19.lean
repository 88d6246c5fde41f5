/- Parts of the proof, one behind the other: TreeG, TreeH, TreeI, PrA, LaidA, AbG8, LibA. No further condition. -/
import Derived.Test.YtmgkebghojhocaaGreatDoorQV18
import Derived.Test.YtmgkebghojhocaaGreatDoorQV09
import Derived.Test.YtmgkebghojhocaaGreatDoorQV10
import Derived.Test.YtmgkebghojhocaaGreatDoorQV11
import Derived.Test.YtmgkebghojhocaaGreatDoorQV07
import Derived.Test.YtmgkebghojhocaaGreatDoorQV15
set_option linter.unusedVariables false
set_option linter.unusedSimpArgs false
/- What stands in a tree from a key on is told. No further condition. -/
set_option linter.unusedVariables false
set_option linter.unusedSimpArgs false
namespace Go.Proofs.YtmgkebghojhocaaGreatDoor
open Go.Ab
theorem max0_is (a b : Nat) : (if true = true then (if (a : Int) - (b : Int) < 0 then 0 else (a : Int) - (b : Int)) else if 0 < (a : Int) - (b : Int) then 0 else (a : Int) - (b : Int)) = ((a - b : Nat) : Int) := by
 rw [if_pos rfl]
 split <;> omega
theorem min2_is (a b : Nat) : (if false = true then (if (a : Int) < (b : Int) then (b : Int) else (a : Int)) else if (b : Int) < (a : Int) then (b : Int) else (a : Int)) = ((min a b : Nat) : Int) := by
 rw [if_neg (by simp)]
 split <;> omega
theorem cut_mid (l : List Pr) (i m : Nat) : (l.take (min l.length (i + m))).drop i = (l.drop i).take m := by
 rw [← List.take_take, List.take_of_length_le (l := l.take (i + m)) (by simp; omega), List.drop_take]
 congr 1
 omega
set_option maxRecDepth 100000 in
theorem leafFrom_ok (l : List Pr) (hl : l.length < 1000) (k : Ky) (out : List Pr) (ho : out.length < 100000000) (n : Nat) (hn : n < 100000000) (g : Nat) :
  ACalls Tryz.prog 233 [.sl 3 (l.map Pr.av) .none, k.av, .sl 3 (out.map Pr.av) (.tok 0 g), .int .i64 (n : Int)] (tokM g) (fun e M' => ∃ g', e = .ret (.sl 3 ((takeF out n (fromP l k)).map Pr.av) (.tok 0 g')) ∧ (tokM g').le M') := by
 refine acalls_of tabOK Tryz.func233 rfl (by decide) (by simp [Tryz.f233]) ?_
 have kf := nFind_ok l .none (by omega) k
 have hle := findP_le l k
 rw [fromP_cut]
 generalize findP l k = i at kf hle
 have la : ((l.map Pr.av).length : Int) = (l.length : Int) := by simp
 have lo : ((out.map Pr.av).length : Int) = (out.length : Int) := by simp
 have w1 : IntKind.wrap .i64 ((n : Int) - (out.length : Int)) = (n : Int) - (out.length : Int) := Go.Ab.wrap_small (by omega) (by omega)
 have hmax := max0_is n out.length
 have w2 : IntKind.wrap .i64 ((i : Int) + ((n - out.length : Nat) : Int)) = ((i + (n - out.length) : Nat) : Int) := (Go.Ab.wrap_small (by omega) (by omega)).trans (by omega)
 have hmin := min2_is l.length (i + (n - out.length))
 have hcut := cut_mid l i (n - out.length)
 repeat' (first | refine DW_VI tabs rfl (by first | exact la | exact lo | exact w1 | exact hmax | exact w2 | exact hmin) ?_ | refine DW_A tabs rfl ?_ | refine DW_nil ?_ | refine W_A rfl ?_ | refine DW_C rfl kf ?_ | refine DW_app tabOK rfl rfl (by simp; omega) (by simp; omega) ?_ | refine DW_app0 tabOK rfl (by simp; omega) (by simp; omega) ?_)
 refine DW_mid tabOK rfl rfl rfl rfl (lo := i) (n := min l.length (i + (n - out.length))) rfl rfl rfl rfl rfl rfl rfl (by omega) (by omega) ?_
 rw [hcut]
 repeat' (first | refine DW_A tabs rfl ?_ | refine DW_nil ?_ | refine W_A rfl ?_ | refine DW_app tabOK rfl rfl (by simp; omega) (by simp; omega) ?_ | refine DW_app0 tabOK rfl (by simp; omega) (by simp; omega) ?_)
 exact ⟨rfl, _, rfl, g + 1, by unfold takeF; rw [List.map_append]; rfl, tokM_of rfl rfl⟩
set_option maxRecDepth 100000 in
theorem leafFrom0_ok (l : List Pr) (hl : l.length < 1000) (k : Ky) (n : Nat) (hn : n < 100000000) :
  ACalls Tryz.prog 233 [.sl 3 (l.map Pr.av) .none, k.av, .sl 0 [] .full, .int .i64 (n : Int)] ⟨0, []⟩ (fun e M' => ∃ g', e = .ret (.sl 3 ((takeF [] n (fromP l k)).map Pr.av) (.tok 0 g')) ∧ (tokM g').le M') := by
 refine acalls_of tabOK Tryz.func233 rfl (by decide) (by simp [Tryz.f233]) ?_
 have kf := nFind_ok l .none (by omega) k
 have hle := findP_le l k
 rw [fromP_cut]
 generalize findP l k = i at kf hle
 have la : ((l.map Pr.av).length : Int) = (l.length : Int) := by simp
 have lo : ((([] : List AV)).length : Int) = (0 : Nat) := by simp
 have w1 : IntKind.wrap .i64 ((n : Int) - ((0 : Nat) : Int)) = (n : Int) - ((0 : Nat) : Int) := Go.Ab.wrap_small (by omega) (by omega)
 have hmax := max0_is n 0
 have w2 : IntKind.wrap .i64 ((i : Int) + ((n - 0 : Nat) : Int)) = ((i + (n - 0) : Nat) : Int) := (Go.Ab.wrap_small (by omega) (by omega)).trans (by omega)
 have hmin := min2_is l.length (i + (n - 0))
 have hcut := cut_mid l i (n - 0)
 refine W_ghost (Joint.tok 2 rfl (sz' := 3) (.inr rfl)) ?_
 repeat' (first | refine DW_VI tabs rfl (by first | exact la | exact lo | exact w1 | exact hmax | exact w2 | exact hmin) ?_ | refine DW_A tabs rfl ?_ | refine DW_nil ?_ | refine W_A rfl ?_ | refine DW_C rfl kf ?_ | refine DW_app tabOK rfl rfl (by simp; omega) (by simp; omega) ?_ | refine DW_app0 tabOK rfl (by simp; omega) (by simp; omega) ?_)
 refine DW_mid tabOK rfl rfl rfl rfl (lo := i) (n := min l.length (i + (n - 0))) rfl rfl rfl rfl rfl rfl rfl (by omega) (by omega) ?_
 rw [hcut]
 repeat' (first | refine DW_A tabs rfl ?_ | refine DW_nil ?_ | refine W_A rfl ?_ | refine DW_app tabOK rfl rfl (by simp; omega) (by simp; omega) ?_ | refine DW_app0 tabOK rfl (by simp; omega) (by simp; omega) ?_)
 exact ⟨rfl, _, rfl, 1, by unfold takeF; rw [List.map_append]; rfl, tokM_of rfl rfl⟩
def fFrom : Nat → FuncId
 | 0 => 233
 | _ + 1 => 247
theorem mFrom (h : Nat) : methF Tryz.prog (tyV h) "sexton/tree.from" = some (fFrom h) := by
 cases h
 ·show methF Tryz.prog 189 "sexton/tree.from" = some 233
  kernel_rfl
 ·show methF Tryz.prog 198 "sexton/tree.from" = some 247
  kernel_rfl
/-- What the loop over kids has told. -/
def fromF (out : List Pr) (n : Nat) (k : Ky) {h : Nat} (l : List (Vt h)) (i : Nat) : List Pr := takeF out n (fromP (allL h (l.take i)) k)
theorem takeF_len (out : List Pr) (n : Nat) (l : List Pr) : (takeF out n l).length ≤ max out.length n := by
 unfold takeF
 simp
 omega
def FromOK (h : Nat) : Prop := ∀ (v : Vt h) (k : Ky) (out : List Pr) (n g : Nat), okR h v → Rise (allV h v) → out.length < 100000000 → n < 100000000 →
  ACalls Tryz.prog (fFrom h) [inV h v, k.av, .sl 3 (out.map Pr.av) (.tok 0 g), .int .i64 (n : Int)] (tokM g) (fun e M' => ∃ g', e = .ret (.sl 3 ((takeF out n (fromP (allV h v) k)).map Pr.av) (.tok 0 g')) ∧ (tokM g').le M')
/-- From kid to kid. -/
theorem from_step {h : Nat} {l : List (Vt h)} {k : Ky} {out : List Pr} {n : Nat} {i : Nat} {x : Vt h} (hx : l[i]? = some x) (hi : 0 < i → ∀ p, p ∈ allV h x → rless p.key k = false) :
  takeF (fromF out n k l i) n (fromP (allV h x) k) = fromF out n k l (i + 1) := by
 unfold fromF
 rw [takeF_app, allL_take hx]
 congr 1
 by_cases h0 : i = 0
 ·subst h0
  have : allL h (l.take 0) = [] := rfl
  rw [this]
  rfl
 ·rw [fromP_behind (hi (by omega))]
  congr 1
  unfold fromP
  cases ha : allV h x with
  | nil => rfl
  | cons q r => rw [List.dropWhile_cons, if_neg (by rw [hi (by omega) q (by rw [ha]; simp)]; simp)]
theorem from_stop {h : Nat} {l : List (Vt h)} {k : Ky} {out : List Pr} {n : Nat} {i : Nat} (hr : Rise (allL h l)) (hf : n ≤ (fromF out n k l i).length) (hb : 0 < i ∨ n ≤ out.length) (hi : 0 < i → ∀ p, p ∈ allL h (l.drop i) → rless p.key k = false) : fromF out n k l i = fromF out n k l l.length := by
 by_cases h0 : i = 0
 ·have ho : n ≤ out.length := by omega
  unfold fromF
  rw [takeF_full ho, takeF_full ho]
 ·have e : allL h (l.take l.length) = allL h (l.take i) ++ allL h (l.drop i) := by rw [List.take_length, ← allL_app, List.take_append_drop]
  unfold fromF at hf ⊢
  rw [e, fromP_behind (hi (by omega)), ← takeF_app, takeF_full hf]
end Go.Proofs.YtmgkebghojhocaaGreatDoor
/- What stands in a fork from a key on is told. No further condition. -/
set_option linter.unusedVariables false
set_option linter.unusedSimpArgs false
namespace Go.Proofs.YtmgkebghojhocaaGreatDoor
open Go.Ab
theorem from_zero {out : List Pr} {n : Nat} {k : Ky} {h : Nat} {l : List (Vt h)} : fromF out n k l 0 = out := by
 unfold fromF takeF
 have : allL h (l.take 0) = [] := rfl
 rw [this]
 simp [fromP]
set_option maxHeartbeats 1000000 in
set_option maxRecDepth 100000 in
theorem forkFrom_ok (h : Nat) (IH : FromOK h) (l : Vt (h + 1)) (hv : okN (h + 1) l) (hr : Rise (allV (h + 1) l)) (k : Ky) (out : List Pr) (ho : out.length < 100000000) (n : Nat) (hn : n < 100000000) (g : Nat) :
  ACalls Tryz.prog 247 [inV (h + 1) l, k.av, .sl 3 (out.map Pr.av) (.tok 0 g), .int .i64 (n : Int)] (tokM g) (fun e M' => ∃ g', e = .ret (.sl 3 ((takeF out n (fromP (allV (h + 1) l) k)).map Pr.av) (.tok 0 g')) ∧ (tokM g').le M') := by
 obtain ⟨h1, h2, h3⟩ := hv
 have h0 : l.kids ≠ [] := by intro he; rw [he] at h1; simp at h1
 obtain ⟨a, v, b, e1, e2, e3, e4, e5⟩ := below_cut h0 h3 hr k
 have hall : allV (h + 1) l = allL h a ++ allL h (v :: b) := by
  show allL h l.kids = _
  rw [e1, allL_app]
 have hrb : Rise (allL h (v :: b)) := by rw [hall] at hr; exact (List.pairwise_append.1 hr).2.1
 have hdrop : l.kids.drop (belowV l.kids k) = v :: b := by rw [e2, e1, List.drop_left]
 have hble : belowV l.kids k ≤ l.kids.length := by rw [e2, e1]; simp
 have hkids : ∀ x, x ∈ v :: b → okN h x := fun x hx => h3 x (by rw [e1]; simp at hx ⊢; rcases hx with rfl | hx <;> simp [*])
 have hbl : (v :: b).length ≤ 4 := by rw [e1] at h2; simp at h2 ⊢; omega
 have hlater : ∀ x, x ∈ allL h b → rless x.key k = false := fun x hx => rless_asymm (e5 x hx)
 rw [hall, fromP_ahead e4]
 have hfin : takeF out n (fromP (allL h (v :: b)) k) = fromF out n k (v :: b) (v :: b).length := by unfold fromF; rw [List.take_length]
 rw [hfin]
 have kb := below_ok h l.kids ((allV (h + 1) l).length : Int) (by omega) h3 k
 have hlat2 : ∀ i, 0 < i → ∀ p, p ∈ allL h ((v :: b).drop i) → rless p.key k = false := by
  intro i hi p hp
  match i, hi with
  | i + 1, _ =>
   refine hlater p ?_
   have := allL_app (h := h) (b.take i) (b.drop i)
   rw [List.take_append_drop] at this
   rw [this]
   simp at hp ⊢
   exact .inr hp
 generalize belowV l.kids k = at_ at kb hdrop hble
 have hin : inV (h + 1) l = .agg [.sl 1 (l.kids.map (avV h)) .none, .int .i64 ((allV (h + 1) l).length : Int)] := rfl
 rw [hin]
 generalize ((allV (h + 1) l).length : Int) = cnt at kb
 refine acalls_of tabOK Tryz.func247 rfl (by decide) (by simp [Tryz.f247]) ?_
 repeat' (first | refine DW_A tabs rfl ?_ | refine DW_nil ?_ | refine W_A rfl ?_ | refine DW_C rfl kb ?_ | refine W_draw mixed [7, 0, 1, 2, 3, 4, 5, 6] [.R, .R, .R, .R, .P, .P, .P, .P] rfl rfl (by kernel_rfl) ?_)
 refine DW_from tabOK rfl rfl rfl rfl (lo := at_) rfl rfl rfl rfl rfl rfl hble ?_
 rw [hdrop]
 generalize hL : v :: b = L at hkids hbl hlat2 hrb
 have la : ((L.map (avV h)).length : Int) = (L.length : Int) := by simp
 repeat' (first | refine DW_VI tabs rfl la ?_ | refine DW_A tabs rfl ?_ | refine DW_nil ?_ | refine W_A rfl ?_ | refine W_draw mixed [7, 0, 1, 2, 3, 4, 5, 6] [.R, .R, .R, .R, .P, .P, .P, .P] rfl rfl (by kernel_rfl) ?_)
 refine W_count L.length (fun i f N => ∃ (g : Nat), N = tokM g ∧ f = ⟨[(2, .sl 3 ((fromF out n k L i).map Pr.av) (.tok 0 g)), (3, .int .i64 (n : Int)), (5, .ref [.str k.path, .int .i64 k.time]), (16, .sl 1 (L.map (avV h)) .none), (17, .int .i64 (L.length : Int)), (18, .int .i64 (i : Int))], []⟩) (Nat.zero_le _) ⟨g, rfl, rfl⟩
  (Joint.le (AF.le_cons (by rw [from_zero]; rfl) (AF.le_cons rfl (AF.le_cons rfl (AF.le_cons rfl (AF.le_cons rfl (AF.le_cons rfl (AF.le_nil rfl))))))) (tokM_of rfl rfl)) ?_
 rintro i f N hi ⟨g, rfl, rfl⟩
 by_cases hi1 : i < L.length
 ·have d1 : decide ((i : Int) < (L.length : Int)) = true := by simp; omega
  have hx : L[i]? = some L[i] := List.getElem?_eq_getElem hi1
  have fi := wrap_succ (i := i) (by omega)
  have hxm : L[i] ∈ L := List.getElem_mem hi1
  have hxl : ∀ p, p ∈ allV h L[i] → p ∈ allL h (L.drop i) := by
   intro p hp
   rw [List.drop_eq_getElem_cons hi1, allL_cons]
   simp [hp]
  have hxr : Rise (allV h L[i]) := by
   have e : allL h L = allL h (L.take i) ++ (allV h L[i] ++ allL h (L.drop (i + 1))) := by
    rw [← allL_cons, ← List.drop_eq_getElem_cons hi1, ← allL_app, List.take_append_drop]
   rw [e] at hrb
   exact rise_mid hrb
  generalize L[i] = x at hx hxm hxl hxr
  have hstep := from_step (k := k) (out := out) (n := n) hx (fun h0 p hp => hlat2 i h0 p (hxl p hp))
  have hlen : (fromF out n k L i).length < 100000000 := Nat.lt_of_le_of_lt (takeF_len _ _ _) (Nat.max_lt.2 ⟨by first | exact ho | simp, hn⟩)
  have lo : (((fromF out n k L i).map Pr.av).length : Int) = ((fromF out n k L i).length : Int) := by simp
  by_cases hf : n ≤ (fromF out n k L i).length
  ·have d2 : decide ((n : Int) ≤ ((fromF out n k L i).length : Int)) = true := by simp; omega
   have hst : fromF out n k L i = fromF out n k L L.length := by
    refine from_stop hrb hf ?_ (hlat2 i)
    by_cases h0 : i = 0
    ·subst h0
     rw [from_zero] at hf
     exact .inr hf
    ·exact .inl (by omega)
   repeat' (first | refine DW_VB tabs rfl d1 ?_ | refine DW_VI tabs rfl fi ?_ | refine DW_A tabs rfl ?_ | refine DW_nil ?_ | refine W_A rfl ?_ | refine W_draw mixed [7, 0, 1, 2, 3, 4, 5, 6] [.R, .R, .R, .R, .P, .P, .P, .P] rfl rfl (by kernel_rfl) ?_)
   refine DW_index tabOK rfl rfl rfl rfl rfl rfl rfl rfl rfl rfl (Int.natCast_nonneg _) (vx_get hx) ?_
   repeat' (first | refine DW_VB tabs rfl d2 ?_ | refine DW_VI tabs rfl (by first | exact fi | exact lo) ?_ | refine DW_A tabs rfl ?_ | refine DW_nil ?_ | refine W_A rfl ?_ | refine W_draw mixed [7, 0, 1, 2, 3, 4, 5, 6] [.R, .R, .R, .R, .P, .P, .P, .P] rfl rfl (by kernel_rfl) ?_)
   refine ⟨rfl, _, rfl, g, ?_, tokM_of rfl rfl⟩
   rw [← hst]
   rfl
  ·have d2 : decide ((n : Int) ≤ ((fromF out n k L i).length : Int)) = false := by simp; omega
   have my := mFrom h
   have kc := IH x k (fromF out n k L i) n g (okN_okR (hkids x hxm)) hxr hlen hn
   rw [hstep] at kc
   repeat' (first | refine DW_VB tabs rfl d1 ?_ | refine DW_VI tabs rfl fi ?_ | refine DW_A tabs rfl ?_ | refine DW_nil ?_ | refine W_A rfl ?_ | refine W_draw mixed [7, 0, 1, 2, 3, 4, 5, 6] [.R, .R, .R, .R, .P, .P, .P, .P] rfl rfl (by kernel_rfl) ?_)
   refine DW_index tabOK rfl rfl rfl rfl rfl rfl rfl rfl rfl rfl (Int.natCast_nonneg _) (vx_get hx) ?_
   repeat' (first | refine DW_VB tabs rfl d2 ?_ | refine DW_VI tabs rfl (by first | exact fi | exact lo) ?_ | refine DW_A tabs rfl ?_ | refine DW_nil ?_ | refine W_A rfl ?_ | refine W_draw mixed [7, 0, 1, 2, 3, 4, 5, 6] [.R, .R, .R, .R, .P, .P, .P, .P] rfl rfl (by kernel_rfl) ?_)
   refine DW_invokeM rfl rfl rfl rfl rfl my rfl kc ?_ (fun u M' ⟨_, e, _⟩ => by cases e)
   rintro u M' ⟨g', e, hM⟩
   cases e
   repeat' (first | refine DW_VI tabs rfl fi ?_ | refine DW_A tabs rfl ?_ | refine DW_nil ?_ | refine W_A rfl ?_ | refine W_draw mixed [7, 0, 1, 2, 3, 4, 5, 6] [.R, .R, .R, .R, .P, .P, .P, .P] rfl rfl (by kernel_rfl) ?_)
   refine ⟨hi1, _, _, ⟨g', rfl, rfl⟩, Joint.le ?_ hM⟩
   repeat (refine AF.le_cons rfl ?_)
   exact AF.le_nil rfl
 ·have d1 : decide ((i : Int) < (L.length : Int)) = false := by simp; omega
  obtain rfl : i = L.length := by omega
  repeat' (first | refine DW_VB tabs rfl d1 ?_ | refine DW_A tabs rfl ?_ | refine DW_nil ?_ | refine W_A rfl ?_ | refine W_draw mixed [7, 0, 1, 2, 3, 4, 5, 6] [.R, .R, .R, .R, .P, .P, .P, .P] rfl rfl (by kernel_rfl) ?_)
  exact ⟨rfl, _, rfl, g, rfl, tokM_of rfl rfl⟩
set_option maxHeartbeats 1000000 in
set_option maxRecDepth 100000 in
theorem forkFrom0_ok (h : Nat) (IH : FromOK h) (l : Vt (h + 1)) (hv : okN (h + 1) l) (hr : Rise (allV (h + 1) l)) (k : Ky) (n : Nat) (hn : n < 100000000) :
  ACalls Tryz.prog 247 [inV (h + 1) l, k.av, .sl 0 [] .full, .int .i64 (n : Int)] ⟨0, []⟩ (fun e M' => ∃ g', e = .ret (.sl 3 ((takeF [] n (fromP (allV (h + 1) l) k)).map Pr.av) (.tok 0 g')) ∧ (tokM g').le M') := by
 obtain ⟨h1, h2, h3⟩ := hv
 have h0 : l.kids ≠ [] := by intro he; rw [he] at h1; simp at h1
 obtain ⟨a, v, b, e1, e2, e3, e4, e5⟩ := below_cut h0 h3 hr k
 have hall : allV (h + 1) l = allL h a ++ allL h (v :: b) := by
  show allL h l.kids = _
  rw [e1, allL_app]
 have hrb : Rise (allL h (v :: b)) := by rw [hall] at hr; exact (List.pairwise_append.1 hr).2.1
 have hdrop : l.kids.drop (belowV l.kids k) = v :: b := by rw [e2, e1, List.drop_left]
 have hble : belowV l.kids k ≤ l.kids.length := by rw [e2, e1]; simp
 have hkids : ∀ x, x ∈ v :: b → okN h x := fun x hx => h3 x (by rw [e1]; simp at hx ⊢; rcases hx with rfl | hx <;> simp [*])
 have hbl : (v :: b).length ≤ 4 := by rw [e1] at h2; simp at h2 ⊢; omega
 have hlater : ∀ x, x ∈ allL h b → rless x.key k = false := fun x hx => rless_asymm (e5 x hx)
 rw [hall, fromP_ahead e4]
 have hfin : takeF [] n (fromP (allL h (v :: b)) k) = fromF [] n k (v :: b) (v :: b).length := by unfold fromF; rw [List.take_length]
 rw [hfin]
 have kb := below_ok h l.kids ((allV (h + 1) l).length : Int) (by omega) h3 k
 have hlat2 : ∀ i, 0 < i → ∀ p, p ∈ allL h ((v :: b).drop i) → rless p.key k = false := by
  intro i hi p hp
  match i, hi with
  | i + 1, _ =>
   refine hlater p ?_
   have := allL_app (h := h) (b.take i) (b.drop i)
   rw [List.take_append_drop] at this
   rw [this]
   simp at hp ⊢
   exact .inr hp
 generalize belowV l.kids k = at_ at kb hdrop hble
 have hin : inV (h + 1) l = .agg [.sl 1 (l.kids.map (avV h)) .none, .int .i64 ((allV (h + 1) l).length : Int)] := rfl
 rw [hin]
 generalize ((allV (h + 1) l).length : Int) = cnt at kb
 refine acalls_of tabOK Tryz.func247 rfl (by decide) (by simp [Tryz.f247]) ?_
 refine W_ghost (Joint.tok 2 rfl (sz' := 3) (.inr rfl)) ?_
 repeat' (first | refine DW_A tabs rfl ?_ | refine DW_nil ?_ | refine W_A rfl ?_ | refine DW_C rfl kb ?_ | refine W_draw mixed [7, 0, 1, 2, 3, 4, 5, 6] [.R, .R, .R, .R, .P, .P, .P, .P] rfl rfl (by kernel_rfl) ?_)
 refine DW_from tabOK rfl rfl rfl rfl (lo := at_) rfl rfl rfl rfl rfl rfl hble ?_
 rw [hdrop]
 generalize hL : v :: b = L at hkids hbl hlat2 hrb
 have la : ((L.map (avV h)).length : Int) = (L.length : Int) := by simp
 repeat' (first | refine DW_VI tabs rfl la ?_ | refine DW_A tabs rfl ?_ | refine DW_nil ?_ | refine W_A rfl ?_ | refine W_draw mixed [7, 0, 1, 2, 3, 4, 5, 6] [.R, .R, .R, .R, .P, .P, .P, .P] rfl rfl (by kernel_rfl) ?_)
 refine W_count L.length (fun i f N => ∃ (g : Nat), N = tokM g ∧ f = ⟨[(2, .sl 3 ((fromF [] n k L i).map Pr.av) (.tok 0 g)), (3, .int .i64 (n : Int)), (5, .ref [.str k.path, .int .i64 k.time]), (16, .sl 1 (L.map (avV h)) .none), (17, .int .i64 (L.length : Int)), (18, .int .i64 (i : Int))], []⟩) (Nat.zero_le _) ⟨0, rfl, rfl⟩
  (Joint.le (AF.le_cons (by rw [from_zero]; rfl) (AF.le_cons rfl (AF.le_cons rfl (AF.le_cons rfl (AF.le_cons rfl (AF.le_cons rfl (AF.le_nil rfl))))))) (tokM_of rfl rfl)) ?_
 rintro i f N hi ⟨g, rfl, rfl⟩
 by_cases hi1 : i < L.length
 ·have d1 : decide ((i : Int) < (L.length : Int)) = true := by simp; omega
  have hx : L[i]? = some L[i] := List.getElem?_eq_getElem hi1
  have fi := wrap_succ (i := i) (by omega)
  have hxm : L[i] ∈ L := List.getElem_mem hi1
  have hxl : ∀ p, p ∈ allV h L[i] → p ∈ allL h (L.drop i) := by
   intro p hp
   rw [List.drop_eq_getElem_cons hi1, allL_cons]
   simp [hp]
  have hxr : Rise (allV h L[i]) := by
   have e : allL h L = allL h (L.take i) ++ (allV h L[i] ++ allL h (L.drop (i + 1))) := by
    rw [← allL_cons, ← List.drop_eq_getElem_cons hi1, ← allL_app, List.take_append_drop]
   rw [e] at hrb
   exact rise_mid hrb
  generalize L[i] = x at hx hxm hxl hxr
  have hstep := from_step (k := k) (out := []) (n := n) hx (fun h0 p hp => hlat2 i h0 p (hxl p hp))
  have hlen : (fromF [] n k L i).length < 100000000 := Nat.lt_of_le_of_lt (takeF_len _ _ _) (Nat.max_lt.2 ⟨by first | exact ho | simp, hn⟩)
  have lo : (((fromF [] n k L i).map Pr.av).length : Int) = ((fromF [] n k L i).length : Int) := by simp
  by_cases hf : n ≤ (fromF [] n k L i).length
  ·have d2 : decide ((n : Int) ≤ ((fromF [] n k L i).length : Int)) = true := by simp; omega
   have hst : fromF [] n k L i = fromF [] n k L L.length := by
    refine from_stop hrb hf ?_ (hlat2 i)
    by_cases h0 : i = 0
    ·subst h0
     rw [from_zero] at hf
     exact .inr hf
    ·exact .inl (by omega)
   repeat' (first | refine DW_VB tabs rfl d1 ?_ | refine DW_VI tabs rfl fi ?_ | refine DW_A tabs rfl ?_ | refine DW_nil ?_ | refine W_A rfl ?_ | refine W_draw mixed [7, 0, 1, 2, 3, 4, 5, 6] [.R, .R, .R, .R, .P, .P, .P, .P] rfl rfl (by kernel_rfl) ?_)
   refine DW_index tabOK rfl rfl rfl rfl rfl rfl rfl rfl rfl rfl (Int.natCast_nonneg _) (vx_get hx) ?_
   repeat' (first | refine DW_VB tabs rfl d2 ?_ | refine DW_VI tabs rfl (by first | exact fi | exact lo) ?_ | refine DW_A tabs rfl ?_ | refine DW_nil ?_ | refine W_A rfl ?_ | refine W_draw mixed [7, 0, 1, 2, 3, 4, 5, 6] [.R, .R, .R, .R, .P, .P, .P, .P] rfl rfl (by kernel_rfl) ?_)
   refine ⟨rfl, _, rfl, g, ?_, tokM_of rfl rfl⟩
   rw [← hst]
   rfl
  ·have d2 : decide ((n : Int) ≤ ((fromF [] n k L i).length : Int)) = false := by simp; omega
   have my := mFrom h
   have kc := IH x k (fromF [] n k L i) n g (okN_okR (hkids x hxm)) hxr hlen hn
   rw [hstep] at kc
   repeat' (first | refine DW_VB tabs rfl d1 ?_ | refine DW_VI tabs rfl fi ?_ | refine DW_A tabs rfl ?_ | refine DW_nil ?_ | refine W_A rfl ?_ | refine W_draw mixed [7, 0, 1, 2, 3, 4, 5, 6] [.R, .R, .R, .R, .P, .P, .P, .P] rfl rfl (by kernel_rfl) ?_)
   refine DW_index tabOK rfl rfl rfl rfl rfl rfl rfl rfl rfl rfl (Int.natCast_nonneg _) (vx_get hx) ?_
   repeat' (first | refine DW_VB tabs rfl d2 ?_ | refine DW_VI tabs rfl (by first | exact fi | exact lo) ?_ | refine DW_A tabs rfl ?_ | refine DW_nil ?_ | refine W_A rfl ?_ | refine W_draw mixed [7, 0, 1, 2, 3, 4, 5, 6] [.R, .R, .R, .R, .P, .P, .P, .P] rfl rfl (by kernel_rfl) ?_)
   refine DW_invokeM rfl rfl rfl rfl rfl my rfl kc ?_ (fun u M' ⟨_, e, _⟩ => by cases e)
   rintro u M' ⟨g', e, hM⟩
   cases e
   repeat' (first | refine DW_VI tabs rfl fi ?_ | refine DW_A tabs rfl ?_ | refine DW_nil ?_ | refine W_A rfl ?_ | refine W_draw mixed [7, 0, 1, 2, 3, 4, 5, 6] [.R, .R, .R, .R, .P, .P, .P, .P] rfl rfl (by kernel_rfl) ?_)
   refine ⟨hi1, _, _, ⟨g', rfl, rfl⟩, Joint.le ?_ hM⟩
   repeat (refine AF.le_cons rfl ?_)
   exact AF.le_nil rfl
 ·have d1 : decide ((i : Int) < (L.length : Int)) = false := by simp; omega
  obtain rfl : i = L.length := by omega
  repeat' (first | refine DW_VB tabs rfl d1 ?_ | refine DW_A tabs rfl ?_ | refine DW_nil ?_ | refine W_A rfl ?_ | refine W_draw mixed [7, 0, 1, 2, 3, 4, 5, 6] [.R, .R, .R, .R, .P, .P, .P, .P] rfl rfl (by kernel_rfl) ?_)
  exact ⟨rfl, _, rfl, g, rfl, tokM_of rfl rfl⟩
theorem from_all : ∀ h : Nat, FromOK h
 | 0 => fun v k out n g hv _ ho hn => leafFrom_ok v.row (by have : v.row.length ≤ 4 := hv; omega) k out ho n hn g
 | h + 1 => fun v k out n g hv hr ho hn => forkFrom_ok h (from_all h) v hv hr k out ho n hn g
theorem from0_ok (h : Nat) (v : Vt h) (hv : okR h v) (hr : Rise (allV h v)) (k : Ky) (n : Nat) (hn : n < 100000000) :
  ACalls Tryz.prog (fFrom h) [inV h v, k.av, .sl 0 [] .full, .int .i64 (n : Int)] ⟨0, []⟩ (fun e M' => ∃ g', e = .ret (.sl 3 (((fromP (allV h v) k).take n).map Pr.av) (.tok 0 g')) ∧ (tokM g').le M') := by
 have e : takeF [] n (fromP (allV h v) k) = (fromP (allV h v) k).take n := by simp [takeF]
 rw [← e]
 cases h with
 | zero => exact leafFrom0_ok v.row (by have : v.row.length ≤ 4 := hv; omega) k n hn
 | succ h => exact forkFrom0_ok h (from_all h) v hv hr k n hn
end Go.Proofs.YtmgkebghojhocaaGreatDoor
/- Trees: New, Put, Len, From, All. No further condition. -/
set_option linter.unusedVariables false
set_option linter.unusedSimpArgs false
namespace Go.Proofs.YtmgkebghojhocaaGreatDoor
open Go.Ab
/-- A tree that is in order. -/
structure Tr where
 h : Nat
 v : Vt h
 ok : okR h v
 rise : Rise (allV h v)
def Tr.av (t : Tr) : AV := .ref [.iface (tyV t.h) (inV t.h t.v)]
def Tr.all (t : Tr) : List Pr := allV t.h t.v
theorem closed_tr (t : Tr) : Closed t.av := closed_ref (closed1 (by rw [← avV_eq]; exact closed_avV _ _))
def nilT : Tr := ⟨0, ([] : List Pr), Nat.zero_le _, List.Pairwise.nil⟩
set_option maxRecDepth 100000 in
theorem new_ok : APure Tryz.prog 79 [] nilT.av := by
 refine pure_sub (by simp) (closed_tr _) ?_
 refine acalls_of tabOK Tryz.func79 rfl (by decide) (by simp [Tryz.f79]) ?_
 repeat' (first | refine DW_A tabs rfl ?_ | refine DW_nil ?_ | refine W_A rfl ?_)
 exact ⟨rfl, _, rfl, _, rfl, SubC.pre (Sub.ref1 (Sub.iface Sub.nil)) (SubC.of_closed (closed_tr nilT))⟩
theorem ifaceV : Tryz.prog.underlying 136 = some (.interface (Tryz.prog.methodsAt 136)) := by kernel_rfl
set_option maxRecDepth 100000 in
theorem top_ok (t : Tr) : APure Tryz.prog 88 [t.av] (.iface (tyV t.h) (inV t.h t.v)) := by
 intro M
 refine acalls_of tabOK Tryz.func88 rfl (by decide) (by simp [Tryz.f88]) ?_
 unfold Tr.av
 repeat' (first | refine DW_A tabs rfl ?_ | refine DW_nil ?_ | refine W_A rfl ?_ | refine DW_nilc tabOK rfl ?_)
 refine DW_inil rfl rfl rfl rfl ifaceV rfl rfl ?_
 repeat' (first | refine DW_A tabs rfl ?_ | refine DW_nil ?_ | refine W_A rfl ?_ | refine DW_nilc tabOK rfl ?_)
 exact ⟨rfl, _, rfl, rfl, rfl⟩
set_option maxRecDepth 100000 in
theorem len_ok (t : Tr) : APure Tryz.prog 38 [t.av] (.int .i64 (t.all.length : Int)) := by
 intro M
 refine acalls_of tabOK Tryz.func38 rfl (by decide) (by simp [Tryz.f38]) ?_
 have kt := top_ok t
 have ka := all_ok t.h t.v
 have my := mAll t.h
 unfold Tr.av at kt ⊢
 unfold Tr.all
 repeat' (first | refine DW_A tabs rfl ?_ | refine DW_nil ?_ | refine W_A rfl ?_ | refine DW_C rfl kt ?_)
 refine DW_invoke rfl rfl rfl rfl rfl my ka ?_
 repeat' (first | refine DW_A tabs rfl ?_ | refine DW_nil ?_ | refine W_A rfl ?_)
 exact ⟨rfl, _, rfl, rfl, rfl⟩
/-- The tree with a pair more. -/
def forkT {h : Nat} {x y : Vt h} (hx : okN h x) (hy : okN h y) (hr : Rise (allV h x ++ allV h y)) : Tr := ⟨h + 1, ([x, y] : List (Vt h)), ⟨by show 2 ≤ [x, y].length; simp, by show [x, y].length ≤ 4; simp, by intro k hk; have hk' : k ∈ [x, y] := hk; simp at hk'; rcases hk' with rfl | rfl <;> assumption⟩, by
 have e : allV (h + 1) ([x, y] : List (Vt h)) = allV h x ++ allV h y := by show allL h [x, y] = _; simp [allL]
 rw [e]; exact hr⟩
set_option maxRecDepth 100000 in
theorem tPut_ok (t : Tr) (p : Pr) (hs : t.all.length < 10000000) : ∃ u : Tr, u.all = putP t.all p ∧ APure Tryz.prog 92 [t.av, p.av] u.av := by
 obtain ⟨h, v, hv, hr⟩ := t
 have hs' : (allV h v).length < 10000000 := hs
 have kt := top_ok ⟨h, v, hv, hr⟩
 have kp := vPut_ok h v p hv hr (by omega)
 have my := mPut h
 have hpl := putP_len (allV h v) p
 have hpr := putP_rise (p := p) hr
 rcases put_root (p := p) hv hr with ⟨x, e, hx, hall⟩ | ⟨x, y, e, hx, hy, hall⟩
 ·refine ⟨⟨h, x, hx, by rw [hall]; exact hpr⟩, hall, ?_⟩
  rw [e] at kp
  intro M
  refine acalls_of tabOK Tryz.func92 rfl (by decide) (by simp [Tryz.f92]) ?_
  repeat' (first | refine DW_A tabs rfl ?_ | refine DW_nil ?_ | refine W_A rfl ?_ | refine DW_C rfl kt ?_ | refine DW_nilc tabOK rfl ?_ | refine W_draw mixed [0, 1, 2, 3, 4] [.P, .P, .R, .P, .P] rfl rfl (by kernel_rfl) ?_)
  refine DW_invoke rfl rfl rfl rfl rfl my kp ?_
  repeat' (first | refine DW_A tabs rfl ?_ | refine DW_nil ?_ | refine W_A rfl ?_ | refine DW_nilc tabOK rfl ?_ | refine W_draw mixed [0, 1, 2, 3, 4] [.P, .P, .R, .P, .P] rfl rfl (by kernel_rfl) ?_)
  refine DW_index tabOK rfl rfl rfl rfl rfl rfl rfl rfl rfl rfl (Int.le_refl 0) (vx_get (l := [x]) (i := 0) rfl) ?_
  repeat' (first | refine DW_A tabs rfl ?_ | refine DW_nil ?_ | refine W_A rfl ?_ | refine DW_nilc tabOK rfl ?_ | refine W_draw mixed [0, 1, 2, 3, 4] [.P, .P, .R, .P, .P] rfl rfl (by kernel_rfl) ?_)
  exact ⟨rfl, _, rfl, rfl, rfl⟩
 ·have hall2 : (allL h [x, y]).length < 1000000000 := by
   have : allL h [x, y] = allV h x ++ allV h y := by simp [allL]
   rw [this, hall]
   omega
  refine ⟨forkT hx hy (by rw [hall]; exact hpr), ?_, ?_⟩
  ·show allL h [x, y] = putP (allV h v) p
   simpa [allL] using hall
  ·have kf := forks_ok h [x, y] (by simp) hall2
   rw [e] at kp
   intro M
   refine acalls_of tabOK Tryz.func92 rfl (by decide) (by simp [Tryz.f92]) ?_
   repeat' (first | refine DW_A tabs rfl ?_ | refine DW_nil ?_ | refine W_A rfl ?_ | refine DW_C rfl kt ?_ | refine DW_nilc tabOK rfl ?_ | refine W_draw mixed [0, 1, 2, 3, 4] [.P, .P, .R, .P, .P] rfl rfl (by kernel_rfl) ?_)
   refine DW_invoke rfl rfl rfl rfl rfl my kp ?_
   repeat' (first | refine DW_A tabs rfl ?_ | refine DW_nil ?_ | refine W_A rfl ?_ | refine DW_C rfl kf ?_ | refine DW_nilc tabOK rfl ?_ | refine W_draw mixed [0, 1, 2, 3, 4] [.P, .P, .R, .P, .P] rfl rfl (by kernel_rfl) ?_)
   refine DW_index tabOK rfl rfl rfl rfl rfl rfl rfl rfl rfl rfl (Int.le_refl 0) (vx_get (h := h + 1) (l := [([x, y] : List (Vt h))]) (i := 0) rfl) ?_
   repeat' (first | refine DW_A tabs rfl ?_ | refine DW_nil ?_ | refine W_A rfl ?_ | refine DW_nilc tabOK rfl ?_ | refine W_draw mixed [0, 1, 2, 3, 4] [.P, .P, .R, .P, .P] rfl rfl (by kernel_rfl) ?_)
   exact ⟨rfl, _, rfl, rfl, rfl⟩
theorem max0I_is (n : Int) : (if true = true then (if n < 0 then 0 else n) else if 0 < n then 0 else n) = ((n.toNat : Nat) : Int) := by
 rw [if_pos rfl]
 split <;> omega
set_option maxRecDepth 100000 in
theorem tFrom_ok (t : Tr) (hs : t.all.length < 10000000) (k : Ky) (n : Int) : APure Tryz.prog 89 [t.av, k.av, .int .i64 n] (.sl 3 (((fromP t.all k).take (min n.toNat t.all.length)).map Pr.av) .none) := by
 refine pure_sub (closed3 (closed_tr t) (closed_ky k) closed_int) (closed_prs _) ?_
 refine acalls_of tabOK Tryz.func89 rfl (by decide) (by simp [Tryz.f89]) ?_
 have kt := top_ok t
 have kl := len_ok t
 have my := mFrom t.h
 have hm := max0I_is n
 have hmin := min2_is n.toNat t.all.length
 have kc := from0_ok t.h t.v t.ok t.rise k (min n.toNat t.all.length) (by omega)
 unfold Tr.av at kt kl ⊢
 repeat' (first | refine DW_VI tabs rfl (by first | exact hm | exact hmin) ?_ | refine DW_A tabs rfl ?_ | refine DW_nil ?_ | refine W_A rfl ?_ | refine DW_C rfl kt ?_ | refine DW_C rfl kl ?_ | refine W_draw mixed [0, 1, 3, 4, 5, 6, 7, 8, 2, 9, 10, 11, 12] [.P, .P, .R, .P, .P, .P, .P, .P, .P, .R, .P, .E, .P] rfl rfl (by kernel_rfl) ?_)
 refine DW_nilfn rfl rfl rfl rfl rfl my ?_
 repeat' (first | refine DW_A tabs rfl ?_ | refine DW_nil ?_ | refine W_A rfl ?_ | refine W_draw mixed [0, 1, 3, 4, 5, 6, 7, 8, 2, 9, 10, 11, 12] [.P, .P, .R, .P, .P, .P, .P, .P, .P, .R, .P, .E, .P] rfl rfl (by kernel_rfl) ?_)
 refine DW_invokeM rfl rfl rfl rfl rfl my rfl kc ?_ (fun u M' ⟨_, e, _⟩ => by cases e)
 rintro u M' ⟨g', e, hM⟩
 cases e
 repeat' (first | refine DW_A tabs rfl ?_ | refine DW_nil ?_ | refine W_A rfl ?_ | refine W_draw mixed [0, 1, 3, 4, 5, 6, 7, 8, 2, 9, 10, 11, 12] [.P, .P, .R, .P, .P, .P, .P, .P, .P, .R, .P, .E, .P] rfl rfl (by kernel_rfl) ?_)
 exact ⟨rfl, _, rfl, _, rfl, SubC.untag (closed_prs _)⟩
theorem okR_pos {h : Nat} {v : Vt h} (hh : 0 < h) (ok : okR h v) : okN h v := by
 cases h with
 | zero => omega
 | succ h => exact ok
theorem fromP_first {h : Nat} {v : Vt h} : fromP (allV h v) (firstV h v) = allV h v := by
 unfold firstV fromP
 cases hv : allV h v with
 | nil => rfl
 | cons q r =>
  show List.dropWhile _ (q :: r) = _
  rw [List.dropWhile_cons, if_neg]
  show ¬ rless q.key q.key = true
  rw [rless_irrefl]
  simp
set_option maxRecDepth 100000 in
theorem tAll_ok (t : Tr) (hs : t.all.length < 10000000) : APure Tryz.prog 30 [t.av] (.sl 3 (t.all.map Pr.av) .none) := by
 refine pure_sub (closed1 (closed_tr t)) (closed_prs _) ?_
 refine acalls_of tabOK Tryz.func30 rfl (by decide) (by simp [Tryz.f30]) ?_
 have kt := top_ok t
 have kl := len_ok t
 have my := mFirst t.h
 have kc := tFrom_ok t hs (firstV t.h t.v) (t.all.length : Int)
 have e1 : fromP t.all (firstV t.h t.v) = t.all := fromP_first
 have e2 : min ((t.all.length : Int)).toNat t.all.length = t.all.length := by simp
 rw [e1, e2, List.take_length] at kc
 by_cases h0 : t.all = []
 ·have d0 : decide ((t.all.length : Int) = 0) = true := by simp [h0]
  rw [h0] at kl ⊢
  unfold Tr.av at kl ⊢
  repeat' (first | refine DW_VB tabs rfl d0 ?_ | refine DW_A tabs rfl ?_ | refine DW_nil ?_ | refine W_A rfl ?_ | refine DW_C rfl kl ?_)
  exact ⟨rfl, _, rfl, _, rfl, SubC.nil⟩
 ·have d0 : decide ((t.all.length : Int) = 0) = false := by simp [h0]
  have kf := vFirst_ok t.h t.v (fun _ => h0) (fun hh => okR_pos hh t.ok)
  unfold Tr.av at kt kl kc ⊢
  repeat' (first | refine DW_VB tabs rfl d0 ?_ | refine DW_A tabs rfl ?_ | refine DW_nil ?_ | refine W_A rfl ?_ | refine DW_C rfl kt ?_ | refine DW_C rfl kl ?_)
  refine DW_invoke rfl rfl rfl rfl rfl my kf ?_
  repeat' (first | refine DW_VB tabs rfl d0 ?_ | refine DW_A tabs rfl ?_ | refine DW_nil ?_ | refine W_A rfl ?_ | refine DW_C rfl kl ?_ | refine DW_C rfl kc ?_)
  exact ⟨rfl, _, rfl, _, rfl, SubC.of_closed (closed_prs _)⟩
end Go.Proofs.YtmgkebghojhocaaGreatDoor
/- Rows of pairs: the same, too many, rising, found in. No further condition. -/
set_option linter.unusedVariables false
set_option linter.unusedSimpArgs false
namespace Go.Proofs.YtmgkebghojhocaaGreatDoor
open Go.Ab
theorem pr_eqB (p q : Pr) : (((p.key.path == q.key.path) && ((decide (p.key.time = q.key.time)) && true)) && ((p.val == q.val) && true)) = decide (p = q) := by
 obtain ⟨⟨a, b⟩, c⟩ := p
 obtain ⟨⟨d, e⟩, f⟩ := q
 rw [Bool.eq_iff_iff]
 simp [and_assoc]
theorem pr_neB (p q : Pr) : (!(((p.key.path == q.key.path) && ((decide (p.key.time = q.key.time)) && true)) && ((p.val == q.val) && true))) = !decide (p = q) := by rw [pr_eqB]
set_option maxRecDepth 100000 in
set_option maxHeartbeats 8000000 in
theorem same_ok (a b : List Pr) (ta tb : Tag) (ha : a.length < 1000000) (hb : b.length < 1000000) : APure Tryz.prog 68 [.sl 3 (a.map Pr.av) ta, .sl 3 (b.map Pr.av) tb] (.bool (decide (a = b))) := by
 intro M
 refine acalls_of tabOK Tryz.func68 rfl (by decide) (by simp [Tryz.f68]) ?_
 have la := len_map Pr.av a
 have lb := len_map Pr.av b
 by_cases hl : a.length = b.length
 ·have d0 : (!decide ((a.length : Int) = (b.length : Int))) = false := by simp; omega
  repeat' (first | refine DW_VB tabs rfl d0 ?_ | refine DW_VI tabs rfl (by first | exact la | exact lb) ?_ | refine DW_A tabs rfl ?_ | refine DW_nil ?_ | refine W_A rfl ?_ | refine W_draw mixed [0, 1, 4, 5, 2, 3, 6, 7, 8] [.P, .P, .R, .R, .P, .P, .R, .R, .P] rfl rfl (by kernel_rfl) ?_)
  refine W_count a.length (fun i f N => N = M ∧ (a.take i = b.take i) ∧ f = ⟨[(0, .sl 3 (a.map Pr.av) ta), (1, .sl 3 (b.map Pr.av) tb), (5, .int .i64 (i : Int))], []⟩) (Nat.zero_le _) ⟨rfl, by simp, rfl⟩ (Joint.le ?_ (Mem.le_refl _)) ?_
  ·skip
   repeat (refine AF.le_cons rfl ?_)
   exact AF.le_nil rfl
  rintro i f N hi ⟨rfl, hinv, rfl⟩
  by_cases h1 : i < a.length
  ·have d1 : decide ((i : Int) < (a.length : Int)) = true := by simp; omega
   have hx : a[i]? = some a[i] := List.getElem?_eq_getElem h1
   have fi := wrap_succ (i := i) (by omega)
   have ht := take_succ hx
   have hm := List.getElem_mem h1
   generalize a[i] = x at hx ht hm
   have hy : b[i]? = some b[i] := List.getElem?_eq_getElem (by omega)
   have hu := take_succ hy
   generalize b[i] = y at hy hu
   by_cases h3 : x = y
   ·have d3 := (pr_neB x y).trans (show (!decide (x = y)) = false by simp [h3])
    repeat' (first | refine DW_VB tabs rfl (by first | exact d1 | exact d3) ?_ | refine DW_VI tabs rfl (by first | exact fi | exact la | exact lb) ?_ | refine DW_A tabs rfl ?_ | refine DW_nil ?_ | refine W_A rfl ?_ | refine DW_ix tabOK rfl (ixN hx) ?_ | refine DW_ix tabOK rfl (ixN hy) ?_ | refine W_draw mixed [0, 1, 4, 5, 2, 3, 6, 7, 8] [.P, .P, .R, .R, .P, .P, .R, .R, .P] rfl rfl (by kernel_rfl) ?_)
    refine ⟨h1, _, _, ⟨rfl, by rw [ht, hu, hinv, h3], rfl⟩, Joint.le ?_ (Mem.le_refl _)⟩
    repeat (refine AF.le_cons rfl ?_)
    exact AF.le_nil rfl
   ·have d3 := (pr_neB x y).trans (show (!decide (x = y)) = true by simp [h3])
    have e : decide (a = b) = false := by
     refine decide_eq_false fun e => h3 ?_
     subst e
     rw [hx] at hy
     cases hy
     rfl
    rw [e]
    repeat' (first | refine DW_VB tabs rfl (by first | exact d1 | exact d3) ?_ | refine DW_VI tabs rfl (by first | exact fi | exact la | exact lb) ?_ | refine DW_A tabs rfl ?_ | refine DW_nil ?_ | refine W_A rfl ?_ | refine DW_ix tabOK rfl (ixN hx) ?_ | refine DW_ix tabOK rfl (ixN hy) ?_ | refine W_draw mixed [0, 1, 4, 5, 2, 3, 6, 7, 8] [.P, .P, .R, .R, .P, .P, .R, .R, .P] rfl rfl (by kernel_rfl) ?_)
    exact ⟨rfl, _, rfl, rfl, rfl⟩
  ·have d1 : decide ((i : Int) < (a.length : Int)) = false := by simp; omega
   obtain rfl : i = a.length := by omega
   rw [take_all, hl, take_all] at hinv
   have e : decide (a = b) = true := by simp [hinv]
   rw [e]
   repeat' (first | refine DW_VB tabs rfl d1 ?_ | refine DW_VI tabs rfl la ?_ | refine DW_A tabs rfl ?_ | refine DW_nil ?_ | refine W_A rfl ?_ | refine W_draw mixed [0, 1, 4, 5, 2, 3, 6, 7, 8] [.P, .P, .R, .R, .P, .P, .R, .R, .P] rfl rfl (by kernel_rfl) ?_)
   exact ⟨rfl, _, rfl, rfl, rfl⟩
 ·have d0 : (!decide ((a.length : Int) = (b.length : Int))) = true := by simp; omega
  have e : decide (a = b) = false := decide_eq_false fun e => hl (by rw [e])
  rw [e]
  repeat' (first | refine DW_VB tabs rfl d0 ?_ | refine DW_VI tabs rfl (by first | exact la | exact lb) ?_ | refine DW_A tabs rfl ?_ | refine DW_nil ?_ | refine W_A rfl ?_ | refine W_draw mixed [0, 1, 4, 5, 2, 3, 6, 7, 8] [.P, .P, .R, .R, .P, .P, .R, .R, .P] rfl rfl (by kernel_rfl) ?_)
  exact ⟨rfl, _, rfl, rfl, rfl⟩
def bigP (p : Pr) : Bool := decide (200 < p.key.path.length) || decide (300 < p.val.length)
def bigB (l : List Pr) : Bool := decide (80 < l.length) || l.any bigP
theorem bigB_no {l : List Pr} (h : bigB l = false) : l.length ≤ 80 ∧ ∀ p, p ∈ l → p.key.path.length ≤ 200 ∧ p.val.length ≤ 300 := by
 unfold bigB bigP at h
 simp only [Bool.or_eq_false_iff, decide_eq_false_iff_not, List.any_eq_false, Bool.or_eq_true, decide_eq_true_eq, not_or] at h
 exact ⟨by omega, fun p hp => by have := h.2 p hp; omega⟩
set_option maxRecDepth 100000 in
set_option maxHeartbeats 8000000 in
theorem big_ok (l : List Pr) (tg : Tag) (hl : l.length < 4611686018427387904) : APure Tryz.prog 51 [.sl 3 (l.map Pr.av) tg] (.bool (bigB l)) := by
 intro M
 refine acalls_of tabOK Tryz.func51 rfl (by decide) (by simp [Tryz.f51]) ?_
 have la := len_map Pr.av l
 unfold bigB
 by_cases h80 : 80 < l.length
 ·have d1 : decide ((0 : Int) < (l.length : Int)) = true := by simp; omega
  have d2 : decide ((l.length : Int) ≤ 80) = false := by simp; omega
  have d3 : decide ((80 : Int) < (l.length : Int)) = true := by simp; omega
  have e : decide (80 < l.length) = true := by simp [h80]
  rw [e]
  repeat' (first | refine DW_VB tabs rfl (by first | exact d1 | exact d2) ?_ | refine DW_VI tabs rfl la ?_ | refine DW_A tabs rfl ?_ | refine DW_nil ?_ | refine W_A rfl ?_)
  refine W_count 0 (fun i f N => N = M ∧ f = ⟨[(0, .sl 3 (l.map Pr.av) tg), (3, .int .i64 (i : Int))], []⟩) (Nat.zero_le _) ⟨rfl, rfl⟩ (Joint.le ?_ (Mem.le_refl _)) ?_
  ·skip
   repeat (refine AF.le_cons rfl ?_)
   exact AF.le_nil rfl
  rintro i f N hi ⟨rfl, rfl⟩
  obtain rfl : i = 0 := by omega
  repeat' (first | refine DW_VB tabs rfl (by first | exact d1 | exact d2 | exact d3) ?_ | refine DW_VI tabs rfl la ?_ | refine DW_A tabs rfl ?_ | refine DW_nil ?_ | refine W_A rfl ?_)
  exact ⟨rfl, _, rfl, rfl, rfl⟩
 ·have d2 : decide ((l.length : Int) ≤ 80) = true := by simp; omega
  have d3 : decide ((80 : Int) < (l.length : Int)) = false := by simp; omega
  have e : decide (80 < l.length) = false := by simp; omega
  rw [e, Bool.false_or]
  repeat' (first | refine DW_VB tabs rfl d2 ?_ | refine DW_VI tabs rfl la ?_ | refine DW_A tabs rfl ?_ | refine DW_nil ?_ | refine W_A rfl ?_)
  refine W_count l.length (fun i f N => N = M ∧ ((l.take i).any bigP = false) ∧ f = ⟨[(0, .sl 3 (l.map Pr.av) tg), (3, .int .i64 (i : Int))], []⟩) (Nat.zero_le _) ⟨rfl, by simp, rfl⟩ (Joint.le ?_ (Mem.le_refl _)) ?_
  ·skip
   repeat (refine AF.le_cons rfl ?_)
   exact AF.le_nil rfl
  rintro i f N hi ⟨rfl, hinv, rfl⟩
  by_cases h1 : i < l.length
  ·have d1 : decide ((i : Int) < (l.length : Int)) = true := by simp; omega
   have hx : l[i]? = some l[i] := List.getElem?_eq_getElem h1
   have fi := wrap_succ (i := i) (by omega)
   have ht := take_succ hx
   have hm := List.getElem_mem h1
   generalize l[i] = x at hx ht hm
   have e2 : (l.take (i + 1)).any bigP = bigP x := by rw [ht, List.any_append, hinv]; simp
   have hs : bigP x = true → l.any bigP = true := fun h => List.any_eq_true.2 ⟨x, List.mem_of_getElem? hx, h⟩
   unfold bigP at hs e2
   by_cases h5 : 200 < x.key.path.length
   ·have d5 : decide ((200 : Int) < (x.key.path.length : Int)) = true := by simp; omega
    rw [show l.any bigP = true from hs (by simp [h5])]
    repeat' (first | refine DW_VB tabs rfl (by first | exact d1 | exact d2 | exact d5) ?_ | refine DW_VI tabs rfl (by first | exact la | exact fi) ?_ | refine DW_A tabs rfl ?_ | refine DW_nil ?_ | refine W_A rfl ?_ | refine DW_ix tabOK rfl (ixN hx) ?_)
    exact ⟨rfl, _, rfl, rfl, rfl⟩
   ·have d5 : decide ((200 : Int) < (x.key.path.length : Int)) = false := by simp; omega
    by_cases h6 : 300 < x.val.length
    ·have d6 : decide ((300 : Int) < (x.val.length : Int)) = true := by simp; omega
     rw [show l.any bigP = true from hs (by simp [h6])]
     repeat' (first | refine DW_VB tabs rfl (by first | exact d1 | exact d2 | exact d5 | exact d6) ?_ | refine DW_VI tabs rfl (by first | exact la | exact fi) ?_ | refine DW_A tabs rfl ?_ | refine DW_nil ?_ | refine W_A rfl ?_ | refine DW_ix tabOK rfl (ixN hx) ?_)
     exact ⟨rfl, _, rfl, rfl, rfl⟩
    ·have d6 : decide ((300 : Int) < (x.val.length : Int)) = false := by simp; omega
     repeat' (first | refine DW_VB tabs rfl (by first | exact d1 | exact d2 | exact d5 | exact d6) ?_ | refine DW_VI tabs rfl (by first | exact la | exact fi) ?_ | refine DW_A tabs rfl ?_ | refine DW_nil ?_ | refine W_A rfl ?_ | refine DW_ix tabOK rfl (ixN hx) ?_)
     refine ⟨h1, _, _, ⟨rfl, by rw [show bigP = (fun p => decide (200 < p.key.path.length) || decide (300 < p.val.length)) from rfl, e2]; simp [h5, h6], rfl⟩, Joint.le ?_ (Mem.le_refl _)⟩
     repeat (refine AF.le_cons rfl ?_)
     exact AF.le_nil rfl
  ·have d1 : decide ((i : Int) < (l.length : Int)) = false := by simp; omega
   obtain rfl : i = l.length := by omega
   rw [take_all] at hinv
   rw [hinv]
   repeat' (first | refine DW_VB tabs rfl (by first | exact d1 | exact d2 | exact d3) ?_ | refine DW_VI tabs rfl la ?_ | refine DW_A tabs rfl ?_ | refine DW_nil ?_ | refine W_A rfl ?_)
   exact ⟨rfl, _, rfl, rfl, rfl⟩
theorem rise_adj : ∀ l : List Pr, (∀ (j : Nat) a b, l[j]? = some a → l[j + 1]? = some b → rless a.key b.key = true) → Rise l
 | [], _ => List.Pairwise.nil
 | [a], _ => List.pairwise_cons.2 ⟨by simp, List.Pairwise.nil⟩
 | a :: b :: r, h => by
  have ih := rise_adj (b :: r) (fun j x y hx hy => h (j + 1) x y hx hy)
  have h0 := h 0 a b rfl rfl
  refine List.pairwise_cons.2 ⟨fun x hx => ?_, ih⟩
  rcases List.mem_cons.1 hx with rfl | hx
  ·exact h0
  ·exact rless_trans h0 ((List.pairwise_cons.1 ih).1 x hx)
theorem rise_at {l : List Pr} (h : Rise l) {i j : Nat} {a b : Pr} (hij : i < j) (ha : l[i]? = some a) (hb : l[j]? = some b) : rless a.key b.key = true := by
 obtain ⟨h1, rfl⟩ := List.getElem?_eq_some_iff.1 ha
 obtain ⟨h2, rfl⟩ := List.getElem?_eq_some_iff.1 hb
 exact List.pairwise_iff_getElem.1 h i j h1 h2 hij
set_option maxRecDepth 100000 in
set_option maxHeartbeats 8000000 in
theorem isRise_ok (l : List Pr) (tg : Tag) (hl : l.length < 1000000) : APure Tryz.prog 37 [.sl 3 (l.map Pr.av) tg] (.bool (decide (Rise l))) := by
 intro M
 refine acalls_of tabOK Tryz.func37 rfl (by decide) (by simp [Tryz.f37]) ?_
 have la := len_map Pr.av l
 by_cases h0 : l = []
 ·subst h0
  repeat' (first | refine DW_A tabs rfl ?_ | refine DW_nil ?_ | refine W_A rfl ?_ | refine W_draw mixed [0, 1, 2, 6, 7, 3, 4, 5, 8, 9, 10, 11, 12] [.P, .P, .P, .R, .R, .R, .P, .P, .R, .R, .R, .P, .P] rfl rfl (by kernel_rfl) ?_)
  refine W_count 0 (fun i f N => N = M ∧ f = ⟨[(0, .sl 3 ([].map Pr.av) tg), (3, .int .i64 ((i + 1 : Nat) : Int))], []⟩) (Nat.zero_le _) ⟨rfl, rfl⟩ (Joint.le ?_ (Mem.le_refl _)) ?_
  ·skip
   repeat (refine AF.le_cons rfl ?_)
   exact AF.le_nil rfl
  rintro i f N hi ⟨rfl, rfl⟩
  obtain rfl : i = 0 := by omega
  repeat' (first | refine DW_A tabs rfl ?_ | refine DW_nil ?_ | refine W_A rfl ?_ | refine W_draw mixed [0, 1, 2, 6, 7, 3, 4, 5, 8, 9, 10, 11, 12] [.P, .P, .P, .R, .R, .R, .P, .P, .R, .R, .R, .P, .P] rfl rfl (by kernel_rfl) ?_)
  exact ⟨rfl, _, rfl, by rw [decide_eq_true (List.Pairwise.nil : Rise [])]; rfl, rfl⟩
 ·have hpos : 0 < l.length := List.length_pos_iff.2 h0
  repeat' (first | refine DW_A tabs rfl ?_ | refine DW_nil ?_ | refine W_A rfl ?_ | refine W_draw mixed [0, 1, 2, 6, 7, 3, 4, 5, 8, 9, 10, 11, 12] [.P, .P, .P, .R, .R, .R, .P, .P, .R, .R, .R, .P, .P] rfl rfl (by kernel_rfl) ?_)
  refine W_count (l.length - 1) (fun i f N => N = M ∧ (∀ (j : Nat) a b, j < i → l[j]? = some a → l[j + 1]? = some b → rless a.key b.key = true) ∧ f = ⟨[(0, .sl 3 (l.map Pr.av) tg), (3, .int .i64 ((i + 1 : Nat) : Int))], []⟩) (Nat.zero_le _) ⟨rfl, fun j a b hj => absurd hj (Nat.not_lt_zero _), rfl⟩ (Joint.le ?_ (Mem.le_refl _)) ?_
  ·skip
   repeat (refine AF.le_cons rfl ?_)
   exact AF.le_nil rfl
  rintro i f N hi ⟨rfl, hinv, rfl⟩
  by_cases h1 : i < l.length - 1
  ·have d1 : decide (((i + 1 : Nat) : Int) < (l.length : Int)) = true := by simp; omega
   have hx : l[i]? = some l[i] := List.getElem?_eq_getElem (by omega)
   have hy : l[i + 1]? = some l[i + 1] := List.getElem?_eq_getElem (by omega)
   have fi := wrap_succ (i := i + 1) (by omega)
   have w1 : IntKind.wrap .i64 (((i + 1 : Nat) : Int) - 1) = (i : Int) := (Go.Ab.wrap_small (by omega) (by omega)).trans (by omega)
   generalize l[i] = x at hx
   generalize l[i + 1] = y at hy
   have kl := rless_ok x.key y.key
   cases h3 : rless x.key y.key
   ·rw [h3] at kl
    have e : decide (Rise l) = false := decide_eq_false fun hr => by rw [rise_at hr (Nat.lt_succ_self i) hx hy] at h3; cases h3
    rw [e]
    repeat' (first | refine DW_VB tabs rfl d1 ?_ | refine DW_VI tabs rfl (by first | exact fi | exact la | exact w1) ?_ | refine DW_A tabs rfl ?_ | refine DW_nil ?_ | refine W_A rfl ?_ | refine DW_C rfl kl ?_ | refine DW_ix tabOK rfl (ixN hx) ?_ | refine DW_ix tabOK rfl (ixN hy) ?_ | refine W_draw mixed [0, 1, 2, 6, 7, 3, 4, 5, 8, 9, 10, 11, 12] [.P, .P, .P, .R, .R, .R, .P, .P, .R, .R, .R, .P, .P] rfl rfl (by kernel_rfl) ?_)
    exact ⟨rfl, _, rfl, rfl, rfl⟩
   ·rw [h3] at kl
    repeat' (first | refine DW_VB tabs rfl d1 ?_ | refine DW_VI tabs rfl (by first | exact fi | exact la | exact w1) ?_ | refine DW_A tabs rfl ?_ | refine DW_nil ?_ | refine W_A rfl ?_ | refine DW_C rfl kl ?_ | refine DW_ix tabOK rfl (ixN hx) ?_ | refine DW_ix tabOK rfl (ixN hy) ?_ | refine W_draw mixed [0, 1, 2, 6, 7, 3, 4, 5, 8, 9, 10, 11, 12] [.P, .P, .P, .R, .R, .R, .P, .P, .R, .R, .R, .P, .P] rfl rfl (by kernel_rfl) ?_)
    refine ⟨h1, _, _, ⟨rfl, ?_, rfl⟩, Joint.le ?_ (Mem.le_refl _)⟩
    ·intro j a b hj ha hb
     by_cases hji : j = i
     ·subst hji
      rw [hx] at ha; rw [hy] at hb
      cases ha; cases hb
      exact h3
     ·exact hinv j a b (by omega) ha hb
    ·skip
     repeat (refine AF.le_cons rfl ?_)
     exact AF.le_nil rfl
  ·have d1 : decide (((i + 1 : Nat) : Int) < (l.length : Int)) = false := by simp; omega
   have e : decide (Rise l) = true := decide_eq_true (rise_adj l fun j a b ha hb => hinv j a b (by have := (List.getElem?_eq_some_iff.1 hb).1; omega) ha hb)
   rw [e]
   repeat' (first | refine DW_VB tabs rfl d1 ?_ | refine DW_VI tabs rfl la ?_ | refine DW_A tabs rfl ?_ | refine DW_nil ?_ | refine W_A rfl ?_ | refine W_draw mixed [0, 1, 2, 6, 7, 3, 4, 5, 8, 9, 10, 11, 12] [.P, .P, .P, .R, .R, .R, .P, .P, .R, .R, .R, .P, .P] rfl rfl (by kernel_rfl) ?_)
   exact ⟨rfl, _, rfl, rfl, rfl⟩
end Go.Proofs.YtmgkebghojhocaaGreatDoor
/- Trees of rows of pairs. No further condition. -/
set_option linter.unusedVariables false
set_option linter.unusedSimpArgs false
namespace Go.Proofs.YtmgkebghojhocaaGreatDoor
open Go.Ab
noncomputable def putT (t : Tr) (p : Pr) : Tr := if h : t.all.length < 10000000 then Classical.choose (tPut_ok t p h) else t
theorem putT_all {t : Tr} {p : Pr} (h : t.all.length < 10000000) : (putT t p).all = putP t.all p := by
 unfold putT
 rw [dif_pos h]
 exact (Classical.choose_spec (tPut_ok t p h)).1
theorem putT_ok {t : Tr} {p : Pr} (h : t.all.length < 10000000) : APure Tryz.prog 92 [t.av, p.av] (putT t p).av := by
 unfold putT
 rw [dif_pos h]
 exact (Classical.choose_spec (tPut_ok t p h)).2
noncomputable def laidT (l : List Pr) : Tr := l.foldl putT nilT
def laidL (l : List Pr) : List Pr := l.foldl putP []
theorem fold_all : ∀ (l : List Pr) (t : Tr), t.all.length + l.length < 10000000 → (l.foldl putT t).all = l.foldl putP t.all ∧ (l.foldl putT t).all.length ≤ t.all.length + l.length
 | [], t, _ => ⟨rfl, Nat.le_refl _⟩
 | p :: r, t, h => by
  simp only [List.length_cons] at h
  have h1 : (putT t p).all = putP t.all p := putT_all (by omega)
  have h2 := (putP_len t.all p).2.1
  obtain ⟨h3, h4⟩ := fold_all r (putT t p) (by rw [h1]; omega)
  refine ⟨?_, ?_⟩
  ·show (r.foldl putT (putT t p)).all = r.foldl putP (putP t.all p)
   rw [h3, h1]
  ·show (r.foldl putT (putT t p)).all.length ≤ _
   rw [h1] at h4
   simp only [List.length_cons]
   omega
theorem laid_all {l : List Pr} (h : l.length < 1000000) : (laidT l).all = laidL l ∧ (laidL l).length ≤ l.length := by
 obtain ⟨h1, h2⟩ := fold_all l nilT (by show 0 + l.length < _; omega)
 have h1 : (laidT l).all = laidL l := h1
 refine ⟨h1, ?_⟩
 rw [← h1]
 have h2 : (laidT l).all.length ≤ 0 + l.length := h2
 omega
theorem fold_mem : ∀ (l m : List Pr) (p : Pr), p ∈ l.foldl putP m → p ∈ m ∨ p ∈ l
 | [], m, p, h => .inl h
 | q :: r, m, p, h => by
  rcases fold_mem r (putP m q) p h with h | h
  ·rcases putP_mem h with rfl | h
   ·exact .inr (by simp)
   ·exact .inl h
  ·exact .inr (by simp [h])
theorem laid_mem {l : List Pr} {p : Pr} (h : p ∈ laidL l) : p ∈ l := (fold_mem l [] p h).resolve_left (by simp)
theorem laidT_step {l : List Pr} {i : Nat} {x : Pr} (ht : l.take (i + 1) = l.take i ++ [x]) : laidT (l.take (i + 1)) = putT (laidT (l.take i)) x := by
 unfold laidT
 rw [ht, List.foldl_append]
 rfl
end Go.Proofs.YtmgkebghojhocaaGreatDoor
/- Contracts of functions that hand back, or throw, just this. -/
set_option linter.unusedVariables false
set_option linter.unusedSimpArgs false
namespace Go.Ab
def ClosedE : AEnd → Prop
 | .ret x => Closed x
 | .pan x => Closed x
def SubE (k : Nat) : AEnd → AEnd → Prop
 | .ret x, .ret y => SubC k x y
 | .pan x, .pan y => SubC k x y
 | _, _ => False
def AThr (P : Program) (g : FuncId) (args : List AV) (r : AEnd) : Prop := ∀ M, ACalls P g args M fun e N => e = r ∧ N = M
theorem thr_sub {P : Program} {g : FuncId} {args : List AV} {r : AEnd} (ha : ∀ x, x ∈ args → Closed x) (hr : ClosedE r) (h : ACalls P g args ⟨0, []⟩ fun e _ => SubE 0 e r) : AThr P g args r := by
 intro M
 refine acalls_frame (R := fun e => e = r) ha ?_ (fun e he => by subst he; cases e <;> exact hr) M
 refine ACalls.mono (h.joint (R' := fun e _ => e = r) ?_ ?_) (fun e M he => he)
 ·intro x M' hs
  cases r with
  | pan y => exact hs.elim
  | ret y => exact ⟨y, ⟨0, []⟩, rfl, Joint.cut (Nat.le_refl _) (Nat.zero_le _) rfl ⟨hs, trivial⟩ trivial⟩
 ·intro x M' hs
  cases r with
  | ret y => exact hs.elim
  | pan y => exact ⟨y, ⟨0, []⟩, rfl, Joint.cut (Nat.le_refl _) (Nat.zero_le _) rfl ⟨hs, trivial⟩ trivial⟩
section
variable {P : Program} {τ : Tab} {ops : Array Oper} {cls : Nat → Cls} {Q : AX → AF → Mem → Prop} {ds : List ADef} {ls : List Nat} {i : Nat} {t : List (Nat × AV)} {M : Mem}
/-- A call that throws. -/
theorem DW_T {dst : Option Nat} {g : FuncId} {args : List AV} {x : AV} (hs : stepC ops ds i t = some (dst, g, args)) (hc : isE (cls i) = true) (hk : AThr P g args (.pan x)) (h : Q (.panic x) ⟨keepT ds, ds⟩ M) : DW P ops cls Q ds (i :: ls) t M := by
 cases dst with
 | some d => exact DW_CM hs hc (hk M) (fun u M' he => by cases he.1) (fun u M' he => by obtain ⟨e, rfl⟩ := he; cases e; exact h)
 | none => exact DW_CM0 hs hc (hk M) (fun u M' he => by cases he.1) (fun u M' he => by obtain ⟨e, rfl⟩ := he; cases e; exact h)
end
/-- A function that neither defers nor recovers, called when a frame is left. -/
theorem acallsD_plain {P : Program} {τ : Tab} (hτ : TabOK P τ) {g : FuncId} {fn : Func} {c : Code} (hf : P.funcs[g]? = some fn) (hb : fn.body = some c) (hn : fn.name ≠ "runtime.NumGoroutine") {args : List AV} {m : AMode} {M : Mem} {R : Mem → Prop}
  (hlen : args.length ≤ fn.ntmps) (h : W none P fn.ntmps c (QD τ fn R) (initF args) M) : ACallsD P g args m M (fun m' M' => m' = m ∧ R M') := by
 refine ⟨⟨fn, c, hf, hb, hn⟩, fun μ F w vs u hg hv hm => ?_⟩
 have hr := initF_rep (μ := μ) (F := F) (w := w) hlen hv
 refine (callsD_of_wp (R := fun e w' => (∃ v, e = .returned v) ∧ ∃ μ' M', Evo w μ w' μ' ∧ Gam μ' F M' w' ∧ R M') hf hb ?_).mono ?_
 ·refine wp_mono (wp_of0 (h.run μ F w _ hg hr)) ?_
  rintro e a' w' ⟨μ', f', M', x, h1, h2, h3, h4, h5⟩
  cases e with
  | normal =>
   cases x <;> first | exact h4.elim | skip
   obtain ⟨k1, ⟨r, k2⟩, k3⟩ := h5
   obtain ⟨v', hv', _⟩ := run_resA (P := P) hτ h2 h3 k2
   have hdd := h3.defs
   rw [k1] at hdd
   exact ⟨defrep_nil hdd, v', hv', ⟨v', rfl⟩, μ', M', h1, h2, k3⟩
  | ret =>
   cases x <;> first | exact h4.elim | skip
   obtain ⟨k1, ⟨r, k2⟩, k3⟩ := h5
   obtain ⟨v', hv', _⟩ := run_resA (P := P) hτ h2 h3 k2
   have hdd := h3.defs
   rw [k1] at hdd
   exact ⟨defrep_nil hdd, v', hv', ⟨v', rfl⟩, μ', M', h1, h2, k3⟩
  | exit id => cases x <;> first | exact h4.elim | exact h5.elim
  | goto l => cases x <;> exact h4.elim
  | panic ch => cases x <;> first | exact h4.elim | exact h5.elim
  | outgrown => cases x <;> exact h4.elim
 ·rintro e u' w' ⟨rfl, hv, μ', M', h1, h2, h3⟩
  refine ⟨hv, μ', M', m, h1, h2, ?_, rfl, h3⟩
  cases m with
  | ret => rw [show u' = .returning from hm]; rfl
  | pan x =>
   obtain ⟨v, rfl, hx⟩ := hm
   exact ⟨v, rfl, hx.evo h1⟩
def DefsC (k : Nat) : List ADef → Prop
 | [] => True
 | d :: r => d.mark = none ∧ (∀ x, x ∈ d.cap → SubC k x x) ∧ (∀ x, x ∈ d.args → SubC k x x) ∧ (∀ p, p ∈ d.keep → SubC k p.2 p.2) ∧ DefsC k r
theorem repL_cut {μ : Mu} {F : Frm} {w : World} {k : Nat} {l : List AV} {c : Array Value} (h : RepL μ F w l c) (hl : ∀ x, x ∈ l → SubC k x x) : RepL (cut μ k) F w l c :=
 ⟨h.1, fun i x v hx hv => hl x (List.mem_of_getElem? hx) μ F w v (h.2 i x v hx hv)⟩
theorem defRep_cut {μ : Mu} {F : Frm} {w : World} {k : Nat} : ∀ {l : List ADef} {r : List Deferred}, DefsC k l → DefRep μ F w l r → DefRep (cut μ k) F w l r
 | [], [], _, _ => trivial
 | [], _ :: _, _, h => h.elim
 | _ :: _, [], _, h => h.elim
 | d :: l, _ :: r, ⟨h0, h1, h2, _, h4⟩, ⟨⟨g1, g2, g3⟩, g4⟩ =>
  ⟨⟨fun h => (g1 h).imp fun _ h => ⟨h.1, repL_cut h.2 h1⟩, repL_cut g2 h2, fun y hy => by rw [h0] at hy; cases hy⟩, defRep_cut h4 g4⟩
theorem keptC {k : Nat} : ∀ {l : List ADef}, DefsC k l → ∀ p, p ∈ keepT l → SubC k p.2 p.2
 | [], _, _, h => by cases h
 | d :: l, ⟨_, _, _, h3, h4⟩, p, h => by
  rcases List.mem_append.1 h with h | h
  ·exact h3 p h
  ·exact keptC h4 p h
/-- The objects from k on are forgotten; calls are deferred. -/
theorem Joint.cutD {n0 : Nat} {f : AF} {M : Mem} {k : Nat} (hk : n0 ≤ k) (hk2 : k ≤ M.next) {t : List (Nat × AV)} {l : List (Nat × AObj)} (hd : DefsC k f.d) (ht : SubsC k f t) (ho : ObjsC k M l) : Joint n0 f M ⟨t, f.d⟩ ⟨k, l⟩ := by
 intro μ0 μ F w0 w n a hn he hg hr
 exact ⟨Go.Ab.cut μ k, evo_cut he (fun id h => Nat.lt_of_lt_of_le (hn id h) hk), gam_cut hg hk2 ho, hr.size, fun i => subsC_get ht i μ F w _ (hr.tmps i), defRep_cut hd hr.defs, fun p hp => keptC hd p hp μ F w _ (hr.kept p hp)⟩
end Go.Ab
/- Functions of Go's library that tell what their texts say: strings.Split, Join, LastIndex, ContainsAny. No further condition. -/
set_option linter.unusedVariables false
set_option linter.unusedSimpArgs false
namespace Go.Proofs.YtmgkebghojhocaaGreatDoor
open Go.Ab
theorem split47_ok (s : Bytes) (hs : s.length < 4294967281) : APure Tryz.prog 165 [.str s, .str [47]] (.sl 1 ((splitOn 47 s).map .str) .none) :=
 split_ok lays146 (by kernel_rfl) ⟨_, _, Tryz.func165, rfl, by decide⟩ s 47 hs
theorem any470_ok (s : Bytes) (hs : s.length < 4294967281) : APure Tryz.prog 180 [.str s, .str [47, 0]] (.bool (s.any fun b => b == 47 || b == 0)) :=
 containsAny_ok lays150 (by kernel_rfl) ⟨_, _, Tryz.func180, rfl, by decide⟩ s hs
end Go.Proofs.YtmgkebghojhocaaGreatDoor
