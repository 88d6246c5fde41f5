/- States' texts read by the document: Get. No further condition. -/
import Derived.Test.YtmgkebghojhocaaGreatDoorQDmpH
import Derived.Test.YtmgkebghojhocaaGreatDoorQDmpC
set_option linter.unusedVariables false
set_option linter.unusedSimpArgs false
namespace Go.Proofs.YtmgkebghojhocaaGreatDoor
open Go.Ab
def HM (a b : Int) (p : List Pr) (g : Nat) (q : List Pn) (g2 : Nat) (u : List Sn) (g3 : Nat) : Mem := ⟨5, [(0, .cells zeroS), (1, .cells [.int .i64 a, .int .i64 b, .sl 3 (p.map Pr.av) (.tok 2 g), .sl 2 (q.map Pn.av) (.tok 3 g2), .sl 4 (u.map Sn.av) (.tok 4 g3)]), (2, .spare g), (3, .spare g2), (4, .spare g3)]⟩
def HF (l : List Bytes) (h : List Int) (i : Int) : AF := ⟨[(0, txA l .none), (2, .ptr 0 0), (4, iA h .none), (6, .ptr 1 0), (7, .int .i64 i)], []⟩
theorem closed_zeroS : ∀ c, c ∈ zeroS → Closed c := closedL_cons closed_int (closedL_cons closed_int (closed3 (closed_sl (.inr rfl) (by simp) (by simp)) (closed_sl (.inr rfl) (by simp) (by simp)) (closed_sl (.inr rfl) (by simp) (by simp))))
theorem pr_cells (l : List Pr) : ∀ x, x ∈ l.map Pr.av → ∀ c, c ∈ x.cells → Closed c := by
 intro x hx
 obtain ⟨p, _, rfl⟩ := List.mem_map.1 hx
 exact closed3 closed_str closed_int closed_str
theorem pn_cells (l : List Pn) : ∀ x, x ∈ l.map Pn.av → ∀ c, c ∈ x.cells → Closed c := by
 intro x hx
 obtain ⟨p, _, rfl⟩ := List.mem_map.1 hx
 exact closed_pnc p
theorem sn_cells (l : List Sn) : ∀ x, x ∈ l.map Sn.av → ∀ c, c ∈ x.cells → Closed c := by
 intro x hx
 obtain ⟨p, _, rfl⟩ := List.mem_map.1 hx
 exact closed_snc p
theorem hm_objs {M : Mem} {a b : Int} {p : List Pr} {g : Nat} {q : List Pn} {g2 : Nat} {u : List Sn} {g3 : Nat} {ps qs us : List AV} (e1 : ps = p.map Pr.av) (e2 : qs = q.map Pn.av) (e3 : us = u.map Sn.av)
  (h0 : M.get 0 = some (.cells zeroS)) (h1 : M.get 1 = some (.cells [.int .i64 a, .int .i64 b, .sl 3 ps (.tok 2 g), .sl 2 qs (.tok 3 g2), .sl 4 us (.tok 4 g3)])) (h2 : M.get 2 = some (.spare g)) (h3 : M.get 3 = some (.spare g2)) (h4 : M.get 4 = some (.spare g3)) : ObjsC 5 M (HM a b p g q g2 u g3).objs := by
 subst e1
 subst e2
 subst e3
 refine objsC_closed (by decide) h0 closed_zeroS ⟨by decide, ?_, by decide, by rw [h2]; rfl, by decide, by rw [h3]; rfl, by decide, by rw [h4]; rfl, trivial⟩
 rw [h1]
 refine ⟨rfl, fun j x y hx hy => ?_⟩
 rw [hx] at hy
 cases hy
 match j, hx with
 | 0, hx => cases hx; exact SubC.of_closed closed_int
 | 1, hx => cases hx; exact SubC.of_closed closed_int
 | 2, hx => cases hx; exact SubC.tok rfl (pr_cells p)
 | 3, hx => cases hx; exact SubC.tok rfl (pn_cells q)
 | 4, hx => cases hx; exact SubC.tok rfl (sn_cells u)
 | j + 5, hx => simp at hx
theorem hf_subs {f : AF} {l : List Bytes} {h : List Int} {i : Int} (h0 : f.get 0 = txA l .none) (h2 : f.get 2 = .ptr 0 0) (h4 : f.get 4 = iA h .none) (h6 : f.get 6 = .ptr 1 0) (h7 : f.get 7 = .int .i64 i) : SubsC 5 f (HF l h i).t := by
 refine ⟨?_, ?_, ?_, ?_, ?_, trivial⟩
 ·rw [h0]; exact SubC.of_closed (closed_tx l (.inl rfl))
 ·rw [h2]; exact SubC.ptr rfl
 ·rw [h4]; exact SubC.of_closed (closed_iA h (.inl rfl))
 ·rw [h6]; exact SubC.ptr rfl
 ·rw [h7]; exact SubC.of_closed closed_int
theorem take_cut1 {r : List Bytes} {C j : Nat} {t : Bytes} (h : r[j]? = some t) (hj : j < C) : (r.take C)[j]? = some t := by
 rw [List.getElem?_take_of_lt hj]
 exact h
theorem take_cut2 {r : List Bytes} {C D j : Nat} {t : Bytes} (h : r[j]? = some t) (hj : C ≤ j) (hj2 : j < C + D) : ((r.drop C).take D)[j - C]? = some t := by
 rw [List.getElem?_take_of_lt (by omega), List.getElem?_drop, show C + (j - C) = j by omega]
 exact h
theorem take_cut3 {r : List Bytes} {C D j : Nat} {t : Bytes} (h : r[j]? = some t) (hj : C + D ≤ j) : ((r.drop C).drop D)[j - C - D]? = some t := by
 rw [List.getElem?_drop, List.getElem?_drop, show C + (D + (j - C - D)) = j by omega]
 exact h
theorem take_ge {α : Type} {l : List α} {i k : Nat} (hi : l.length ≤ i) (hk : l.length ≤ k) : l.take i = l.take k := by
 rw [List.take_of_length_le hi, List.take_of_length_le hk]
set_option maxRecDepth 100000 in
set_option maxHeartbeats 8000000 in
theorem rdGet_ok (l : List Bytes) (hl : l.length < 1000) (hs : ∀ t, t ∈ l → t.length < 100000) : APure Tryz.prog 24 [txA l .none] (gsA (getSg l)) := by
 refine pure_sub (closed1 (closed_tx l (.inl rfl))) (closed_gsA _) ?_
 refine acalls_of tabOK Tryz.func24 rfl (by decide) (by simp [Tryz.f24]) ?_
 have la := len_map AV.str l
 have hcl := closed_tx l (t := .none) (.inl rfl)
 unfold txA
 cases l with
 | nil =>
  repeat' (first | refine DW_VI tabs rfl la ?_ | refine DW_box 11 tabOK rfl ?_ | refine DW_orow 11 tabOK rfl ?_ | refine DW_oix tabOK rfl ?_ | refine DW_olenA tabOK rfl ?_ | refine DW_A tabs rfl ?_ | refine DW_nil ?_ | refine W_A rfl ?_ | refine DW_row tabOK rfl ?_ | refine DW_app tabOK rfl rfl (by simp; omega) (by simp; omega) ?_ | refine DW_app0 tabOK rfl (by simp; omega) (by simp; omega) ?_ | refine W_draw mixed [0, 1, 2, 3, 4, 5, 9, 13, 6, 7, 8, 10, 11, 12, 14, 15, 16, 17, 18] [.P, .P, .P, .P, .P, .P, .R, .R, .P, .P, .R, .R, .P, .P, .R, .R, .P, .P, .P] rfl rfl (by kernel_rfl) ?_ | refine W_draw (id := 6) mixed [0, 1, 2, 3, 4, 5, 6, 7, 8] [.P, .P, .P, .P, .P, .P, .P, .E, .E] rfl rfl (by kernel_rfl) ?_ | refine W_draw (id := 16) mixed [0, 1, 4, 2, 3, 5, 6, 7, 8] [.P, .P, .R, .R, .P, .R, .R, .P, .P] rfl rfl (by kernel_rfl) ?_ | refine W_draw mixed [2, 5, 0, 1, 3, 4, 6, 7, 8, 9, 10, 11, 12] [.R, .R, .P, .R, .R, .P, .R, .R, .P, .P, .E, .R, .E] rfl rfl (by kernel_rfl) ?_ | refine W_draw mixed [2, 5, 8, 11, 0, 1, 3, 4, 6, 7, 9, 10, 12, 13, 14, 15, 16, 17, 18, 19] [.R, .R, .P, .R, .R, .P, .R, .R, .P, .R, .R, .P, .R, .R, .P, .P, .P, .E, .R, .E] rfl rfl (by kernel_rfl) ?_)
  exact ⟨rfl, _, rfl, _, rfl, SubC.tup2 sub_zeroS (SubC.of_closed closed_int)⟩
 | cons t0 r =>
  have d0 : decide (((t0 :: r).length : Int) = 0) = false := decide_eq_false (by rw [List.length_cons]; omega)
  have kr : APure Tryz.prog 75 [.str t0, .int .i64 5] (rrA (readO t0 5)) := rread_ok t0 (by have := hs t0 (by simp); omega) 5 (by decide)
  cases hr : rowN t0 5 with
  | none =>
   have e := readO_no hr
   rw [getSg_no hr]
   unfold rrA iA at kr
   rw [e] at kr
   repeat' (first | refine DW_VB tabs rfl d0 ?_ | refine DW_VI tabs rfl la ?_ | refine DW_box 11 tabOK rfl ?_ | refine DW_orow 11 tabOK rfl ?_ | refine DW_oix tabOK rfl ?_ | refine DW_olenA tabOK rfl ?_ | refine DW_A tabs rfl ?_ | refine DW_nil ?_ | refine W_A rfl ?_ | refine DW_C rfl kr ?_ | refine DW_ix tabOK rfl (⟨by decide, rfl⟩) ?_ | refine DW_row tabOK rfl ?_ | refine DW_app tabOK rfl rfl (by simp; omega) (by simp; omega) ?_ | refine DW_app0 tabOK rfl (by simp; omega) (by simp; omega) ?_ | refine W_draw mixed [0, 1, 2, 3, 4, 5, 9, 13, 6, 7, 8, 10, 11, 12, 14, 15, 16, 17, 18] [.P, .P, .P, .P, .P, .P, .R, .R, .P, .P, .R, .R, .P, .P, .R, .R, .P, .P, .P] rfl rfl (by kernel_rfl) ?_ | refine W_draw (id := 6) mixed [0, 1, 2, 3, 4, 5, 6, 7, 8] [.P, .P, .P, .P, .P, .P, .P, .E, .E] rfl rfl (by kernel_rfl) ?_ | refine W_draw (id := 16) mixed [0, 1, 4, 2, 3, 5, 6, 7, 8] [.P, .P, .R, .R, .P, .R, .R, .P, .P] rfl rfl (by kernel_rfl) ?_ | refine W_draw mixed [2, 5, 0, 1, 3, 4, 6, 7, 8, 9, 10, 11, 12] [.R, .R, .P, .R, .R, .P, .R, .R, .P, .P, .E, .R, .E] rfl rfl (by kernel_rfl) ?_ | refine W_draw mixed [2, 5, 8, 11, 0, 1, 3, 4, 6, 7, 9, 10, 12, 13, 14, 15, 16, 17, 18, 19] [.R, .R, .P, .R, .R, .P, .R, .R, .P, .R, .R, .P, .R, .R, .P, .P, .P, .E, .R, .E] rfl rfl (by kernel_rfl) ?_)
   exact ⟨rfl, _, rfl, _, rfl, SubC.tup2 sub_zeroS (SubC.of_closed closed_int)⟩
  | some h =>
   obtain ⟨hcat, hlen, hin⟩ := rowN_inv hr
   match h, hlen with
   | [a, b, c, d, e], _ =>
    rw [readO_yes hr] at kr
    have hc := hin c (by simp)
    have hd := hin d (by simp)
    have he := hin e (by simp)
    obtain ⟨C, rfl⟩ : ∃ C : Nat, c = (C : Int) := ⟨c.toNat, by omega⟩
    obtain ⟨D, rfl⟩ : ∃ D : Nat, d = (D : Int) := ⟨d.toNat, by omega⟩
    obtain ⟨E, rfl⟩ : ∃ E : Nat, e = (E : Int) := ⟨e.toNat, by omega⟩
    have f1 : IntKind.wrap .i64 (1 + (C : Int)) = 1 + (C : Int) := Go.Ab.wrap_small (by omega) (by omega)
    have f2 : IntKind.wrap .i64 (1 + (C : Int) + (D : Int)) = 1 + (C : Int) + (D : Int) := Go.Ab.wrap_small (by omega) (by omega)
    have f3 : IntKind.wrap .i64 (1 + (C : Int) + (D : Int) + (E : Int)) = 1 + (C : Int) + (D : Int) + (E : Int) := Go.Ab.wrap_small (by omega) (by omega)
    have f4 : IntKind.wrap .i64 ((C : Int) + (D : Int)) = (C : Int) + (D : Int) := Go.Ab.wrap_small (by omega) (by omega)
    rw [getSg_at hr]
    unfold rrA iA at kr
    by_cases hL : ((r.length : Int) = (C : Int) + (D : Int) + (E : Int))
    ·have d1 : (!decide (((t0 :: r).length : Int) = 1 + (C : Int) + (D : Int) + (E : Int))) = false := by rw [decide_eq_true (by rw [List.length_cons]; omega)]; rfl
     have hrl : r.length = C + D + E := by omega
     have hst : ∀ t, t ∈ r → t.length < 100000 := fun t ht => hs t (by simp [ht])
     have b2 : ∀ h, bodyO a b (C : Int) (D : Int) (E : Int) r = none := fun h => body_n2 (l := r) (c := (C : Int)) (by rw [Int.toNat_natCast]; exact h)
     have b3 : ∀ h, bodyO a b (C : Int) (D : Int) (E : Int) r = none := fun h => body_n3 (l := r) (c := (C : Int)) (d := (D : Int)) (by rw [Int.toNat_natCast, Int.toNat_natCast]; exact h)
     have b4 : ∀ h, bodyO a b (C : Int) (D : Int) (E : Int) r = none := fun h => body_n4 (l := r) (c := (C : Int)) (d := (D : Int)) (by rw [Int.toNat_natCast, Int.toNat_natCast]; exact h)
     have bi : ∀ {p q u} h1 h2 h3, bodyO a b (C : Int) (D : Int) (E : Int) r = if stateB ⟨a, b, p, q, u⟩ = true then some ⟨a, b, p, q, u⟩ else none := fun {p q u} h1 h2 h3 => body_is (l := r) (c := (C : Int)) (d := (D : Int)) (p := p) (q := q) (u := u) hL (by rw [Int.toNat_natCast]; exact h1) (by rw [Int.toNat_natCast, Int.toNat_natCast]; exact h2) (by rw [Int.toNat_natCast, Int.toNat_natCast]; exact h3)
     generalize bodyO a b (C : Int) (D : Int) (E : Int) r = O at *
     have hcI := closed_iA [a, b, (C : Int), (D : Int), (E : Int)] (t := .none) (.inl rfl)
     repeat' (first | refine DW_VB tabs rfl (by first | exact d0 | exact d1) ?_ | refine DW_VI tabs rfl (by first | exact la | exact f1 | exact f2 | exact f3) ?_ | refine DW_box 11 tabOK rfl ?_ | refine DW_orow 11 tabOK rfl ?_ | refine DW_oix tabOK rfl ?_ | refine DW_olenA tabOK rfl ?_ | refine DW_A tabs rfl ?_ | refine DW_nil ?_ | refine W_A rfl ?_ | refine DW_C rfl kr ?_ | refine DW_ix tabOK rfl (⟨by decide, rfl⟩) ?_ | refine DW_row tabOK rfl ?_ | refine DW_app tabOK rfl rfl (by simp; omega) (by simp; omega) ?_ | refine DW_app0 tabOK rfl (by simp; omega) (by simp; omega) ?_ | refine W_draw mixed [0, 1, 2, 3, 4, 5, 9, 13, 6, 7, 8, 10, 11, 12, 14, 15, 16, 17, 18] [.P, .P, .P, .P, .P, .P, .R, .R, .P, .P, .R, .R, .P, .P, .R, .R, .P, .P, .P] rfl rfl (by kernel_rfl) ?_ | refine W_draw (id := 6) mixed [0, 1, 2, 3, 4, 5, 6, 7, 8] [.P, .P, .P, .P, .P, .P, .P, .E, .E] rfl rfl (by kernel_rfl) ?_ | refine W_draw (id := 16) mixed [0, 1, 4, 2, 3, 5, 6, 7, 8] [.P, .P, .R, .R, .P, .R, .R, .P, .P] rfl rfl (by kernel_rfl) ?_ | refine W_draw mixed [2, 5, 0, 1, 3, 4, 6, 7, 8, 9, 10, 11, 12] [.R, .R, .P, .R, .R, .P, .R, .R, .P, .P, .E, .R, .E] rfl rfl (by kernel_rfl) ?_ | refine W_draw mixed [2, 5, 8, 11, 0, 1, 3, 4, 6, 7, 9, 10, 12, 13, 14, 15, 16, 17, 18, 19] [.R, .R, .P, .R, .R, .P, .R, .R, .P, .R, .R, .P, .R, .R, .P, .P, .P, .E, .R, .E] rfl rfl (by kernel_rfl) ?_)
     refine W_count r.length (fun j f N => ∃ p g q g2 u g3, allO pairO ((r.take C).take j) = some p ∧ allO pinO (((r.drop C).take D).take (j - C)) = some q ∧ allO seenO (((r.drop C).drop D).take (j - C - D)) = some u ∧ N = HM a b p g q g2 u g3 ∧ f = HF (t0 :: r) [a, b, (C : Int), (D : Int), (E : Int)] ((j + 1 : Nat) : Int)) (Nat.zero_le _) ⟨[], 0, [], 0, [], 0, rfl, by rw [Nat.zero_sub]; rfl, by rw [Nat.zero_sub, Nat.zero_sub]; rfl, rfl, rfl⟩
      ((Joint.tokM 1 2 rfl rfl (sz' := 3) (.inr rfl)).trans ((Joint.tokM 1 3 rfl rfl (sz' := 2) (.inr rfl)).trans ((Joint.tokM 1 4 rfl rfl (sz' := 4) (.inr rfl)).trans (Joint.le ?_ (Mem.le_cons rfl (Mem.le_cons rfl (Mem.le_cons rfl (Mem.le_cons rfl (Mem.le_cons rfl (Mem.le_nil rfl)))))))))) ?_
     ·unfold HF txA iA
      repeat (refine AF.le_cons rfl ?_)
      exact AF.le_nil rfl
     rintro j f N hj ⟨p, g, q, g2, u, g3, hp, hq, hu, rfl, rfl⟩
     unfold HF txA iA HM zeroS
     have lp := len_map Pr.av p
     have lq := len_map Pn.av q
     have lu := len_map Sn.av u
     have np := allO_len hp
     have nq := allO_len hq
     have nu := allO_len hu
     rw [List.length_take, List.length_take] at np
     rw [List.length_take, List.length_take, List.length_drop] at nq
     rw [List.length_take, List.length_drop, List.length_drop] at nu
     by_cases h1 : j < r.length
     ·have d2 : decide (((j + 1 : Nat) : Int) < ((t0 :: r).length : Int)) = true := decide_eq_true (by rw [List.length_cons]; omega)
      have hx0 : r[j]? = some r[j] := List.getElem?_eq_getElem h1
      have fi := wrap_succ (i := j + 1) (by omega)
      have hm := List.getElem_mem h1
      generalize r[j] = t at hx0 hm
      have hx : (t0 :: r)[j + 1]? = some t := by rw [List.getElem?_cons_succ]; exact hx0
      have htl := hst t hm
      by_cases c1 : j < C
      ·have d3 : decide (((j + 1 : Nat) : Int) ≤ (C : Int)) = true := decide_eq_true (by omega)
       have hin1 := take_cut1 hx0 c1
       have kt := rgetText_ok t (by omega)
       cases ht : textO t with
       | none =>
        rw [ht] at kt
        have kg := rkGet_ok [] (by decide)
        rw [show rgetB [] = (zeroK, 30) from rfl] at kg
        unfold getA at kg
        rw [b2 (allO_none (List.mem_of_getElem? hin1) (pairO_none ht))]
        repeat' (first | refine DW_VB tabs rfl (by first | exact d2 | exact d3) ?_ | refine DW_VI tabs rfl (by first | exact la | exact fi) ?_ | refine DW_box 11 tabOK rfl ?_ | refine DW_orow 11 tabOK rfl ?_ | refine DW_oix tabOK rfl ?_ | refine DW_olenA tabOK rfl ?_ | refine DW_A tabs rfl ?_ | refine DW_nil ?_ | refine W_A rfl ?_ | refine DW_C rfl kt ?_ | refine DW_C rfl kg ?_ | refine DW_ix tabOK rfl (ixN hx) ?_ | refine DW_ix tabOK rfl (⟨by decide, rfl⟩) ?_ | refine DW_row tabOK rfl ?_ | refine DW_app tabOK rfl rfl (by simp; omega) (by simp; omega) ?_ | refine DW_app0 tabOK rfl (by simp; omega) (by simp; omega) ?_ | refine W_draw mixed [0, 1, 2, 3, 4, 5, 9, 13, 6, 7, 8, 10, 11, 12, 14, 15, 16, 17, 18] [.P, .P, .P, .P, .P, .P, .R, .R, .P, .P, .R, .R, .P, .P, .R, .R, .P, .P, .P] rfl rfl (by kernel_rfl) ?_ | refine W_draw (id := 6) mixed [0, 1, 2, 3, 4, 5, 6, 7, 8] [.P, .P, .P, .P, .P, .P, .P, .E, .E] rfl rfl (by kernel_rfl) ?_ | refine W_draw (id := 16) mixed [0, 1, 4, 2, 3, 5, 6, 7, 8] [.P, .P, .R, .R, .P, .R, .R, .P, .P] rfl rfl (by kernel_rfl) ?_ | refine W_draw mixed [2, 5, 0, 1, 3, 4, 6, 7, 8, 9, 10, 11, 12] [.R, .R, .P, .R, .R, .P, .R, .R, .P, .P, .E, .R, .E] rfl rfl (by kernel_rfl) ?_ | refine W_draw mixed [2, 5, 8, 11, 0, 1, 3, 4, 6, 7, 9, 10, 12, 13, 14, 15, 16, 17, 18, 19] [.R, .R, .P, .R, .R, .P, .R, .R, .P, .R, .R, .P, .R, .R, .P, .P, .P, .E, .R, .E] rfl rfl (by kernel_rfl) ?_)
        exact ⟨rfl, _, rfl, _, rfl, SubC.tup2 sub_zeroS (SubC.of_closed closed_int)⟩
       | some w =>
        obtain ⟨k, rest⟩ := w
        rw [ht] at kt
        have hkl := (textO_inv ht).1
        have kg := rkGet_ok k (by omega)
        rw [rgetB_eq] at kg
        unfold getA at kg
        have hpo := pairO_some ht
        generalize getB k = yy at *
        obtain ⟨y, e⟩ := yy
        by_cases h0 : e = 0
        ·subst h0
         rw [if_pos rfl] at hpo
         have hp2 := allO_snoc hp hpo
         rw [← take_succ hin1] at hp2
         unfold Ky.av at kg
         repeat' (first | refine DW_VB tabs rfl (by first | exact d2 | exact d3) ?_ | refine DW_VI tabs rfl (by first | exact la | exact fi | exact lp) ?_ | refine DW_box 11 tabOK rfl ?_ | refine DW_orow 11 tabOK rfl ?_ | refine DW_oix tabOK rfl ?_ | refine DW_olenA tabOK rfl ?_ | refine DW_A tabs rfl ?_ | refine DW_nil ?_ | refine W_A rfl ?_ | refine DW_C rfl kt ?_ | refine DW_C rfl kg ?_ | refine DW_ix tabOK rfl (ixN hx) ?_ | refine DW_ix tabOK rfl (⟨by decide, rfl⟩) ?_ | refine DW_row tabOK rfl ?_ | refine DW_app tabOK rfl rfl (by simp; omega) (by simp; omega) ?_ | refine DW_app0 tabOK rfl (by simp; omega) (by simp; omega) ?_ | refine W_draw mixed [0, 1, 2, 3, 4, 5, 9, 13, 6, 7, 8, 10, 11, 12, 14, 15, 16, 17, 18] [.P, .P, .P, .P, .P, .P, .R, .R, .P, .P, .R, .R, .P, .P, .R, .R, .P, .P, .P] rfl rfl (by kernel_rfl) ?_ | refine W_draw (id := 6) mixed [0, 1, 2, 3, 4, 5, 6, 7, 8] [.P, .P, .P, .P, .P, .P, .P, .E, .E] rfl rfl (by kernel_rfl) ?_ | refine W_draw (id := 16) mixed [0, 1, 4, 2, 3, 5, 6, 7, 8] [.P, .P, .R, .R, .P, .R, .R, .P, .P] rfl rfl (by kernel_rfl) ?_ | refine W_draw mixed [2, 5, 0, 1, 3, 4, 6, 7, 8, 9, 10, 11, 12] [.R, .R, .P, .R, .R, .P, .R, .R, .P, .P, .E, .R, .E] rfl rfl (by kernel_rfl) ?_ | refine W_draw mixed [2, 5, 8, 11, 0, 1, 3, 4, 6, 7, 9, 10, 12, 13, 14, 15, 16, 17, 18, 19] [.R, .R, .P, .R, .R, .P, .R, .R, .P, .R, .R, .P, .R, .R, .P, .P, .P, .E, .R, .E] rfl rfl (by kernel_rfl) ?_)
         refine ⟨h1, HF (t0 :: r) [a, b, (C : Int), (D : Int), (E : Int)] ((j + 1 + 1 : Nat) : Int), HM a b (p ++ [⟨y, rest⟩]) (g + 1) q g2 u g3, ⟨p ++ [⟨y, rest⟩], g + 1, q, g2, u, g3, hp2, by rw [show j + 1 - C = j - C by omega]; exact hq, by rw [show j + 1 - C - D = j - C - D by omega]; exact hu, rfl, rfl⟩, Joint.cut (k := 5) (t := (HF (t0 :: r) [a, b, (C : Int), (D : Int), (E : Int)] ((j + 1 + 1 : Nat) : Int)).t) (l := (HM a b (p ++ [⟨y, rest⟩]) (g + 1) q g2 u g3).objs) (by show 2 ≤ 5; decide) (by show 5 ≤ 6; decide) rfl (hf_subs rfl rfl rfl rfl rfl) (hm_objs (by simp; rfl) rfl rfl rfl rfl rfl rfl rfl)⟩
        ·have d4 : (!decide (e = 0)) = true := by simp [h0]
         rw [if_neg h0] at hpo
         rw [b2 (allO_none (List.mem_of_getElem? hin1) hpo)]
         unfold Ky.av at kg
         repeat' (first | refine DW_VB tabs rfl (by first | exact d2 | exact d3 | exact d4) ?_ | refine DW_VI tabs rfl (by first | exact la | exact fi) ?_ | refine DW_box 11 tabOK rfl ?_ | refine DW_orow 11 tabOK rfl ?_ | refine DW_oix tabOK rfl ?_ | refine DW_olenA tabOK rfl ?_ | refine DW_A tabs rfl ?_ | refine DW_nil ?_ | refine W_A rfl ?_ | refine DW_C rfl kt ?_ | refine DW_C rfl kg ?_ | refine DW_ix tabOK rfl (ixN hx) ?_ | refine DW_ix tabOK rfl (⟨by decide, rfl⟩) ?_ | refine DW_row tabOK rfl ?_ | refine DW_app tabOK rfl rfl (by simp; omega) (by simp; omega) ?_ | refine DW_app0 tabOK rfl (by simp; omega) (by simp; omega) ?_ | refine W_draw mixed [0, 1, 2, 3, 4, 5, 9, 13, 6, 7, 8, 10, 11, 12, 14, 15, 16, 17, 18] [.P, .P, .P, .P, .P, .P, .R, .R, .P, .P, .R, .R, .P, .P, .R, .R, .P, .P, .P] rfl rfl (by kernel_rfl) ?_ | refine W_draw (id := 6) mixed [0, 1, 2, 3, 4, 5, 6, 7, 8] [.P, .P, .P, .P, .P, .P, .P, .E, .E] rfl rfl (by kernel_rfl) ?_ | refine W_draw (id := 16) mixed [0, 1, 4, 2, 3, 5, 6, 7, 8] [.P, .P, .R, .R, .P, .R, .R, .P, .P] rfl rfl (by kernel_rfl) ?_ | refine W_draw mixed [2, 5, 0, 1, 3, 4, 6, 7, 8, 9, 10, 11, 12] [.R, .R, .P, .R, .R, .P, .R, .R, .P, .P, .E, .R, .E] rfl rfl (by kernel_rfl) ?_ | refine W_draw mixed [2, 5, 8, 11, 0, 1, 3, 4, 6, 7, 9, 10, 12, 13, 14, 15, 16, 17, 18, 19] [.R, .R, .P, .R, .R, .P, .R, .R, .P, .R, .R, .P, .R, .R, .P, .P, .P, .E, .R, .E] rfl rfl (by kernel_rfl) ?_)
         exact ⟨rfl, _, rfl, _, rfl, SubC.tup2 sub_zeroS (SubC.of_closed closed_int)⟩
      ·have d3 : decide (((j + 1 : Nat) : Int) ≤ (C : Int)) = false := decide_eq_false (by omega)
       by_cases c2 : j < C + D
       ·have d4 : decide (((j + 1 : Nat) : Int) ≤ (C : Int) + (D : Int)) = true := decide_eq_true (by omega)
        have hin2 := take_cut2 hx0 (by omega) c2
        have kp : APure Tryz.prog 75 [.str t, .int .i64 2] (rrA (readO t 2)) := rread_ok t (by omega) 2 (by decide)
        cases ho : rowN t 2 with
        | none =>
         rw [b3 (allO_none (List.mem_of_getElem? hin2) (pinO_no ho))]
         unfold rrA iA at kp
         rw [readO_no ho] at kp
         repeat' (first | refine DW_VB tabs rfl (by first | exact d2 | exact d3 | exact d4) ?_ | refine DW_VI tabs rfl (by first | exact la | exact fi | exact f4) ?_ | refine DW_box 11 tabOK rfl ?_ | refine DW_orow 11 tabOK rfl ?_ | refine DW_oix tabOK rfl ?_ | refine DW_olenA tabOK rfl ?_ | refine DW_A tabs rfl ?_ | refine DW_nil ?_ | refine W_A rfl ?_ | refine DW_C rfl kp ?_ | refine DW_ix tabOK rfl (ixN hx) ?_ | refine DW_ix tabOK rfl (⟨by decide, rfl⟩) ?_ | refine DW_row tabOK rfl ?_ | refine DW_app tabOK rfl rfl (by simp; omega) (by simp; omega) ?_ | refine DW_app0 tabOK rfl (by simp; omega) (by simp; omega) ?_ | refine W_draw mixed [0, 1, 2, 3, 4, 5, 9, 13, 6, 7, 8, 10, 11, 12, 14, 15, 16, 17, 18] [.P, .P, .P, .P, .P, .P, .R, .R, .P, .P, .R, .R, .P, .P, .R, .R, .P, .P, .P] rfl rfl (by kernel_rfl) ?_ | refine W_draw (id := 6) mixed [0, 1, 2, 3, 4, 5, 6, 7, 8] [.P, .P, .P, .P, .P, .P, .P, .E, .E] rfl rfl (by kernel_rfl) ?_ | refine W_draw (id := 16) mixed [0, 1, 4, 2, 3, 5, 6, 7, 8] [.P, .P, .R, .R, .P, .R, .R, .P, .P] rfl rfl (by kernel_rfl) ?_ | refine W_draw mixed [2, 5, 0, 1, 3, 4, 6, 7, 8, 9, 10, 11, 12] [.R, .R, .P, .R, .R, .P, .R, .R, .P, .P, .E, .R, .E] rfl rfl (by kernel_rfl) ?_ | refine W_draw mixed [2, 5, 8, 11, 0, 1, 3, 4, 6, 7, 9, 10, 12, 13, 14, 15, 16, 17, 18, 19] [.R, .R, .P, .R, .R, .P, .R, .R, .P, .R, .R, .P, .R, .R, .P, .P, .P, .E, .R, .E] rfl rfl (by kernel_rfl) ?_)
         exact ⟨rfl, _, rfl, _, rfl, SubC.tup2 sub_zeroS (SubC.of_closed closed_int)⟩
        | some m =>
         obtain ⟨x, y, rfl, hpo⟩ := rowN_two ho
         rw [readO_yes ho] at kp
         unfold rrA iA at kp
         have hq2 := allO_snoc hq hpo
         rw [← take_succ hin2] at hq2
         repeat' (first | refine DW_VB tabs rfl (by first | exact d2 | exact d3 | exact d4) ?_ | refine DW_VI tabs rfl (by first | exact la | exact fi | exact f4 | exact lq) ?_ | refine DW_box 11 tabOK rfl ?_ | refine DW_orow 11 tabOK rfl ?_ | refine DW_oix tabOK rfl ?_ | refine DW_olenA tabOK rfl ?_ | refine DW_A tabs rfl ?_ | refine DW_nil ?_ | refine W_A rfl ?_ | refine DW_C rfl kp ?_ | refine DW_ix tabOK rfl (ixN hx) ?_ | refine DW_ix tabOK rfl (⟨by decide, rfl⟩) ?_ | refine DW_row tabOK rfl ?_ | refine DW_app tabOK rfl rfl (by simp; omega) (by simp; omega) ?_ | refine DW_app0 tabOK rfl (by simp; omega) (by simp; omega) ?_ | refine W_draw mixed [0, 1, 2, 3, 4, 5, 9, 13, 6, 7, 8, 10, 11, 12, 14, 15, 16, 17, 18] [.P, .P, .P, .P, .P, .P, .R, .R, .P, .P, .R, .R, .P, .P, .R, .R, .P, .P, .P] rfl rfl (by kernel_rfl) ?_ | refine W_draw (id := 6) mixed [0, 1, 2, 3, 4, 5, 6, 7, 8] [.P, .P, .P, .P, .P, .P, .P, .E, .E] rfl rfl (by kernel_rfl) ?_ | refine W_draw (id := 16) mixed [0, 1, 4, 2, 3, 5, 6, 7, 8] [.P, .P, .R, .R, .P, .R, .R, .P, .P] rfl rfl (by kernel_rfl) ?_ | refine W_draw mixed [2, 5, 0, 1, 3, 4, 6, 7, 8, 9, 10, 11, 12] [.R, .R, .P, .R, .R, .P, .R, .R, .P, .P, .E, .R, .E] rfl rfl (by kernel_rfl) ?_ | refine W_draw mixed [2, 5, 8, 11, 0, 1, 3, 4, 6, 7, 9, 10, 12, 13, 14, 15, 16, 17, 18, 19] [.R, .R, .P, .R, .R, .P, .R, .R, .P, .R, .R, .P, .R, .R, .P, .P, .P, .E, .R, .E] rfl rfl (by kernel_rfl) ?_)
         refine ⟨h1, HF (t0 :: r) [a, b, (C : Int), (D : Int), (E : Int)] ((j + 1 + 1 : Nat) : Int), HM a b p g (q ++ [⟨x, y⟩]) (g2 + 1) u g3, ⟨p, g, q ++ [⟨x, y⟩], g2 + 1, u, g3, by rw [take_ge (l := r.take C) (i := j + 1) (k := j) (by rw [List.length_take]; omega) (by rw [List.length_take]; omega)]; exact hp, by rw [show j + 1 - C = j - C + 1 by omega]; exact hq2, by rw [show j + 1 - C - D = j - C - D by omega]; exact hu, rfl, rfl⟩, Joint.cut (k := 5) (t := (HF (t0 :: r) [a, b, (C : Int), (D : Int), (E : Int)] ((j + 1 + 1 : Nat) : Int)).t) (l := (HM a b p g (q ++ [⟨x, y⟩]) (g2 + 1) u g3).objs) (by show 2 ≤ 5; decide) (by show 5 ≤ 5; decide) rfl (hf_subs rfl rfl rfl rfl rfl) (hm_objs rfl (by simp; rfl) rfl rfl rfl rfl rfl rfl)⟩
       ·have d4 : decide (((j + 1 : Nat) : Int) ≤ (C : Int) + (D : Int)) = false := decide_eq_false (by omega)
        have hin3 := take_cut3 hx0 (C := C) (D := D) (by omega)
        have kp : APure Tryz.prog 75 [.str t, .int .i64 4] (rrA (readO t 4)) := rread_ok t (by omega) 4 (by decide)
        cases ho : rowN t 4 with
        | none =>
         rw [b4 (allO_none (List.mem_of_getElem? hin3) (seenO_no ho))]
         unfold rrA iA at kp
         rw [readO_no ho] at kp
         repeat' (first | refine DW_VB tabs rfl (by first | exact d2 | exact d3 | exact d4) ?_ | refine DW_VI tabs rfl (by first | exact la | exact fi | exact f4) ?_ | refine DW_box 11 tabOK rfl ?_ | refine DW_orow 11 tabOK rfl ?_ | refine DW_oix tabOK rfl ?_ | refine DW_olenA tabOK rfl ?_ | refine DW_A tabs rfl ?_ | refine DW_nil ?_ | refine W_A rfl ?_ | refine DW_C rfl kp ?_ | refine DW_ix tabOK rfl (ixN hx) ?_ | refine DW_ix tabOK rfl (⟨by decide, rfl⟩) ?_ | refine DW_row tabOK rfl ?_ | refine DW_app tabOK rfl rfl (by simp; omega) (by simp; omega) ?_ | refine DW_app0 tabOK rfl (by simp; omega) (by simp; omega) ?_ | refine W_draw mixed [0, 1, 2, 3, 4, 5, 9, 13, 6, 7, 8, 10, 11, 12, 14, 15, 16, 17, 18] [.P, .P, .P, .P, .P, .P, .R, .R, .P, .P, .R, .R, .P, .P, .R, .R, .P, .P, .P] rfl rfl (by kernel_rfl) ?_ | refine W_draw (id := 6) mixed [0, 1, 2, 3, 4, 5, 6, 7, 8] [.P, .P, .P, .P, .P, .P, .P, .E, .E] rfl rfl (by kernel_rfl) ?_ | refine W_draw (id := 16) mixed [0, 1, 4, 2, 3, 5, 6, 7, 8] [.P, .P, .R, .R, .P, .R, .R, .P, .P] rfl rfl (by kernel_rfl) ?_ | refine W_draw mixed [2, 5, 0, 1, 3, 4, 6, 7, 8, 9, 10, 11, 12] [.R, .R, .P, .R, .R, .P, .R, .R, .P, .P, .E, .R, .E] rfl rfl (by kernel_rfl) ?_ | refine W_draw mixed [2, 5, 8, 11, 0, 1, 3, 4, 6, 7, 9, 10, 12, 13, 14, 15, 16, 17, 18, 19] [.R, .R, .P, .R, .R, .P, .R, .R, .P, .R, .R, .P, .R, .R, .P, .P, .P, .E, .R, .E] rfl rfl (by kernel_rfl) ?_)
         exact ⟨rfl, _, rfl, _, rfl, SubC.tup2 sub_zeroS (SubC.of_closed closed_int)⟩
        | some m =>
         obtain ⟨x, y, z, v, rfl, hpo⟩ := rowN_four ho
         rw [readO_yes ho] at kp
         unfold rrA iA at kp
         have hu2 := allO_snoc hu hpo
         rw [← take_succ hin3] at hu2
         repeat' (first | refine DW_VB tabs rfl (by first | exact d2 | exact d3 | exact d4) ?_ | refine DW_VI tabs rfl (by first | exact la | exact fi | exact f4 | exact lu) ?_ | refine DW_box 11 tabOK rfl ?_ | refine DW_orow 11 tabOK rfl ?_ | refine DW_oix tabOK rfl ?_ | refine DW_olenA tabOK rfl ?_ | refine DW_A tabs rfl ?_ | refine DW_nil ?_ | refine W_A rfl ?_ | refine DW_C rfl kp ?_ | refine DW_ix tabOK rfl (ixN hx) ?_ | refine DW_ix tabOK rfl (⟨by decide, rfl⟩) ?_ | refine DW_row tabOK rfl ?_ | refine DW_app tabOK rfl rfl (by simp; omega) (by simp; omega) ?_ | refine DW_app0 tabOK rfl (by simp; omega) (by simp; omega) ?_ | refine W_draw mixed [0, 1, 2, 3, 4, 5, 9, 13, 6, 7, 8, 10, 11, 12, 14, 15, 16, 17, 18] [.P, .P, .P, .P, .P, .P, .R, .R, .P, .P, .R, .R, .P, .P, .R, .R, .P, .P, .P] rfl rfl (by kernel_rfl) ?_ | refine W_draw (id := 6) mixed [0, 1, 2, 3, 4, 5, 6, 7, 8] [.P, .P, .P, .P, .P, .P, .P, .E, .E] rfl rfl (by kernel_rfl) ?_ | refine W_draw (id := 16) mixed [0, 1, 4, 2, 3, 5, 6, 7, 8] [.P, .P, .R, .R, .P, .R, .R, .P, .P] rfl rfl (by kernel_rfl) ?_ | refine W_draw mixed [2, 5, 0, 1, 3, 4, 6, 7, 8, 9, 10, 11, 12] [.R, .R, .P, .R, .R, .P, .R, .R, .P, .P, .E, .R, .E] rfl rfl (by kernel_rfl) ?_ | refine W_draw mixed [2, 5, 8, 11, 0, 1, 3, 4, 6, 7, 9, 10, 12, 13, 14, 15, 16, 17, 18, 19] [.R, .R, .P, .R, .R, .P, .R, .R, .P, .R, .R, .P, .R, .R, .P, .P, .P, .E, .R, .E] rfl rfl (by kernel_rfl) ?_)
         refine ⟨h1, HF (t0 :: r) [a, b, (C : Int), (D : Int), (E : Int)] ((j + 1 + 1 : Nat) : Int), HM a b p g q g2 (u ++ [⟨x, y, z, v⟩]) (g3 + 1), ⟨p, g, q, g2, u ++ [⟨x, y, z, v⟩], g3 + 1, by rw [take_ge (l := r.take C) (i := j + 1) (k := j) (by rw [List.length_take]; omega) (by rw [List.length_take]; omega)]; exact hp, by rw [take_ge (l := (r.drop C).take D) (i := j + 1 - C) (k := j - C) (by rw [List.length_take]; omega) (by rw [List.length_take]; omega)]; exact hq, by rw [show j + 1 - C - D = j - C - D + 1 by omega]; exact hu2, rfl, rfl⟩, Joint.cut (k := 5) (t := (HF (t0 :: r) [a, b, (C : Int), (D : Int), (E : Int)] ((j + 1 + 1 : Nat) : Int)).t) (l := (HM a b p g q g2 (u ++ [⟨x, y, z, v⟩]) (g3 + 1)).objs) (by show 2 ≤ 5; decide) (by show 5 ≤ 5; decide) rfl (hf_subs rfl rfl rfl rfl rfl) (hm_objs rfl rfl (by simp; rfl) rfl rfl rfl rfl rfl)⟩
     ·have d2 : decide (((j + 1 : Nat) : Int) < ((t0 :: r).length : Int)) = false := decide_eq_false (by rw [List.length_cons]; omega)
      obtain rfl : j = r.length := by omega
      rw [List.take_of_length_le (by rw [List.length_take]; omega)] at hp
      rw [List.take_of_length_le (by rw [List.length_take, List.length_drop]; omega)] at hq
      rw [List.take_of_length_le (by rw [List.length_drop, List.length_drop]; omega)] at hu
      have hO := bi hp hq hu
      have hl2 : r.length < 1000 := by simp at hl; omega
      have ki := (rdIs_ok ⟨a, b, p, q, u⟩ ⟨by show p.length < 1000; omega, fun x hx => by
       obtain ⟨t, ht, e⟩ := allO_mem hp x hx
       exact pair_small e (hst t (List.mem_of_mem_take ht)), by show q.length < 1000; omega, by show u.length < 1000; omega⟩).sub (args := [.agg [.int .i64 a, .int .i64 b, .sl 3 (p.map Pr.av) (.tok 2 g), .sl 2 (q.map Pn.av) (.tok 3 g2), .sl 4 (u.map Sn.av) (.tok 4 g3)]]) ⟨sub_sgT (s := ⟨a, b, p, q, u⟩) (ta := .tok 2 g) (tb := .tok 3 g2) (tc := .tok 4 g3), trivial⟩
      cases hb : stateB ⟨a, b, p, q, u⟩
      ·rw [hb] at ki hO
       rw [if_neg (by simp)] at hO
       rw [hO]
       repeat' (first | refine DW_VB tabs rfl d2 ?_ | refine DW_VI tabs rfl la ?_ | refine DW_box 11 tabOK rfl ?_ | refine DW_orow 11 tabOK rfl ?_ | refine DW_oix tabOK rfl ?_ | refine DW_olenA tabOK rfl ?_ | refine DW_A tabs rfl ?_ | refine DW_nil ?_ | refine W_A rfl ?_ | refine DW_C rfl ki ?_ | refine DW_row tabOK rfl ?_ | refine DW_app tabOK rfl rfl (by simp; omega) (by simp; omega) ?_ | refine DW_app0 tabOK rfl (by simp; omega) (by simp; omega) ?_ | refine W_draw mixed [0, 1, 2, 3, 4, 5, 9, 13, 6, 7, 8, 10, 11, 12, 14, 15, 16, 17, 18] [.P, .P, .P, .P, .P, .P, .R, .R, .P, .P, .R, .R, .P, .P, .R, .R, .P, .P, .P] rfl rfl (by kernel_rfl) ?_ | refine W_draw (id := 6) mixed [0, 1, 2, 3, 4, 5, 6, 7, 8] [.P, .P, .P, .P, .P, .P, .P, .E, .E] rfl rfl (by kernel_rfl) ?_ | refine W_draw (id := 16) mixed [0, 1, 4, 2, 3, 5, 6, 7, 8] [.P, .P, .R, .R, .P, .R, .R, .P, .P] rfl rfl (by kernel_rfl) ?_ | refine W_draw mixed [2, 5, 0, 1, 3, 4, 6, 7, 8, 9, 10, 11, 12] [.R, .R, .P, .R, .R, .P, .R, .R, .P, .P, .E, .R, .E] rfl rfl (by kernel_rfl) ?_ | refine W_draw mixed [2, 5, 8, 11, 0, 1, 3, 4, 6, 7, 9, 10, 12, 13, 14, 15, 16, 17, 18, 19] [.R, .R, .P, .R, .R, .P, .R, .R, .P, .R, .R, .P, .R, .R, .P, .P, .P, .E, .R, .E] rfl rfl (by kernel_rfl) ?_)
       exact ⟨rfl, _, rfl, _, rfl, SubC.tup2 sub_zeroS (SubC.of_closed closed_int)⟩
      ·rw [hb] at ki hO
       rw [if_pos rfl] at hO
       rw [hO]
       repeat' (first | refine DW_VB tabs rfl d2 ?_ | refine DW_VI tabs rfl la ?_ | refine DW_box 11 tabOK rfl ?_ | refine DW_orow 11 tabOK rfl ?_ | refine DW_oix tabOK rfl ?_ | refine DW_olenA tabOK rfl ?_ | refine DW_A tabs rfl ?_ | refine DW_nil ?_ | refine W_A rfl ?_ | refine DW_C rfl ki ?_ | refine DW_row tabOK rfl ?_ | refine DW_app tabOK rfl rfl (by simp; omega) (by simp; omega) ?_ | refine DW_app0 tabOK rfl (by simp; omega) (by simp; omega) ?_ | refine W_draw mixed [0, 1, 2, 3, 4, 5, 9, 13, 6, 7, 8, 10, 11, 12, 14, 15, 16, 17, 18] [.P, .P, .P, .P, .P, .P, .R, .R, .P, .P, .R, .R, .P, .P, .R, .R, .P, .P, .P] rfl rfl (by kernel_rfl) ?_ | refine W_draw (id := 6) mixed [0, 1, 2, 3, 4, 5, 6, 7, 8] [.P, .P, .P, .P, .P, .P, .P, .E, .E] rfl rfl (by kernel_rfl) ?_ | refine W_draw (id := 16) mixed [0, 1, 4, 2, 3, 5, 6, 7, 8] [.P, .P, .R, .R, .P, .R, .R, .P, .P] rfl rfl (by kernel_rfl) ?_ | refine W_draw mixed [2, 5, 0, 1, 3, 4, 6, 7, 8, 9, 10, 11, 12] [.R, .R, .P, .R, .R, .P, .R, .R, .P, .P, .E, .R, .E] rfl rfl (by kernel_rfl) ?_ | refine W_draw mixed [2, 5, 8, 11, 0, 1, 3, 4, 6, 7, 9, 10, 12, 13, 14, 15, 16, 17, 18, 19] [.R, .R, .P, .R, .R, .P, .R, .R, .P, .R, .R, .P, .R, .R, .P, .P, .P, .E, .R, .E] rfl rfl (by kernel_rfl) ?_)
       exact ⟨rfl, _, rfl, _, rfl, SubC.tup2 (SubC.pre (sub_sgT (s := ⟨a, b, p, q, u⟩) (ta := .tok 2 g) (tb := .tok 3 g2) (tc := .tok 4 g3)) (SubC.of_closed (closed_sg _))) (SubC.of_closed closed_int)⟩
    ·have d1 : (!decide (((t0 :: r).length : Int) = 1 + (C : Int) + (D : Int) + (E : Int))) = true := by rw [decide_eq_false (by rw [List.length_cons]; omega)]; rfl
     rw [body_n1 hL]
     repeat' (first | refine DW_VB tabs rfl (by first | exact d0 | exact d1) ?_ | refine DW_VI tabs rfl (by first | exact la | exact f1 | exact f2 | exact f3) ?_ | refine DW_box 11 tabOK rfl ?_ | refine DW_orow 11 tabOK rfl ?_ | refine DW_oix tabOK rfl ?_ | refine DW_olenA tabOK rfl ?_ | refine DW_A tabs rfl ?_ | refine DW_nil ?_ | refine W_A rfl ?_ | refine DW_C rfl kr ?_ | refine DW_ix tabOK rfl (⟨by decide, rfl⟩) ?_ | refine DW_row tabOK rfl ?_ | refine DW_app tabOK rfl rfl (by simp; omega) (by simp; omega) ?_ | refine DW_app0 tabOK rfl (by simp; omega) (by simp; omega) ?_ | refine W_draw mixed [0, 1, 2, 3, 4, 5, 9, 13, 6, 7, 8, 10, 11, 12, 14, 15, 16, 17, 18] [.P, .P, .P, .P, .P, .P, .R, .R, .P, .P, .R, .R, .P, .P, .R, .R, .P, .P, .P] rfl rfl (by kernel_rfl) ?_ | refine W_draw (id := 6) mixed [0, 1, 2, 3, 4, 5, 6, 7, 8] [.P, .P, .P, .P, .P, .P, .P, .E, .E] rfl rfl (by kernel_rfl) ?_ | refine W_draw (id := 16) mixed [0, 1, 4, 2, 3, 5, 6, 7, 8] [.P, .P, .R, .R, .P, .R, .R, .P, .P] rfl rfl (by kernel_rfl) ?_ | refine W_draw mixed [2, 5, 0, 1, 3, 4, 6, 7, 8, 9, 10, 11, 12] [.R, .R, .P, .R, .R, .P, .R, .R, .P, .P, .E, .R, .E] rfl rfl (by kernel_rfl) ?_ | refine W_draw mixed [2, 5, 8, 11, 0, 1, 3, 4, 6, 7, 9, 10, 12, 13, 14, 15, 16, 17, 18, 19] [.R, .R, .P, .R, .R, .P, .R, .R, .P, .R, .R, .P, .R, .R, .P, .P, .P, .E, .R, .E] rfl rfl (by kernel_rfl) ?_)
     exact ⟨rfl, _, rfl, _, rfl, SubC.tup2 sub_zeroS (SubC.of_closed closed_int)⟩
end Go.Proofs.YtmgkebghojhocaaGreatDoor
