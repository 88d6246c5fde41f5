/- States' texts read by the code: Get. No further condition. -/
import Derived.Test.YtmgkebghojhocaaGreatDoorQDmpF
import Derived.Test.YtmgkebghojhocaaGreatDoorQDmpD
set_option linter.unusedVariables false
set_option linter.unusedSimpArgs false
namespace Go.Proofs.YtmgkebghojhocaaGreatDoor
open Go.Ab
def zeroSg : Sg := ⟨0, 0, [], [], []⟩
def zeroS : List AV := [.int .i64 0, .int .i64 0, .sl 0 [] .full, .sl 0 [] .full, .sl 0 [] .full]
theorem sub_zeroS {k : Nat} : SubC k (.agg zeroS) zeroSg.av := SubC.aggL ⟨SubC.of_closed closed_int, SubC.of_closed closed_int, SubC.nil, SubC.nil, SubC.nil, trivial⟩
def gsA : Option Sg → AV
 | some s => .tup [s.av, .int .i64 0]
 | none => .tup [zeroSg.av, .int .i64 30]
theorem closed_gsA (x : Option Sg) : Closed (gsA x) := by
 cases x with
 | none => exact closed_tup (closed2 (closed_sg _) closed_int)
 | some s => exact closed_tup (closed2 (closed_sg _) closed_int)
def gsM (nx : Nat) (c : List AV) (n : Int) : Mem := ⟨nx, [(0, .cells c), (1, .cells [.int .i64 n])]⟩
set_option maxRecDepth 100000 in
theorem catchS (nx : Nat) (a b x y z : AV) (n e : Int) : ACallsD Tryz.prog 71 [.ptr 0 0, .ptr 1 0] (.pan (errA e)) (gsM nx [a, b, x, y, z] n) (fun m' M' => m' = .ret ∧ M'.get 0 = some (.cells zeroS) ∧ M'.get 1 = some (.cells [.int .i64 e])) := by
 refine acallsD_recover tabOK Tryz.func71 rfl (by decide) rfl rfl rfl rfl rfl (by simp [Tryz.f71]) ?_
 refine DW_assert tabOK rfl rfl rfl rfl rfl ?_
 repeat' (first | refine DW_A tabs rfl ?_ | refine DW_nil ?_ | refine W_A rfl ?_)
 exact ⟨rfl, ⟨_, rfl⟩, rfl, rfl⟩
set_option maxRecDepth 100000 in
theorem passS (nx : Nat) (a b x y z : AV) (n : Int) : ACallsD Tryz.prog 71 [.ptr 0 0, .ptr 1 0] .ret (gsM nx [a, b, x, y, z] n) (fun m' M' => m' = .ret ∧ M'.get 0 = some (.cells [a, b, x, y, z]) ∧ M'.get 1 = some (.cells [.int .i64 n])) := by
 refine acallsD_recover tabOK Tryz.func71 rfl (by decide) rfl rfl rfl rfl rfl (by simp [Tryz.f71]) ?_
 refine DW_assert tabOK rfl rfl rfl rfl rfl ?_
 repeat' (first | refine DW_A tabs rfl ?_ | refine DW_nil ?_ | refine W_A rfl ?_)
 exact ⟨rfl, ⟨_, rfl⟩, rfl, rfl⟩
def gsD : ADef := { f := .func 71, cap := [.ptr 0 0, .ptr 1 0], args := [], keep := [(2, .ptr 0 0), (3, .ptr 1 0)] }
abbrev gsR (z : Option Sg) : AEnd → Mem → Prop := fun e _ => ∃ x, e = .ret x ∧ SubC 0 x (gsA z)
theorem gs_res {M : Mem} {a b x y z : AV} {n : Int} {t : List (Nat × AV)} (h2 : AF.get ⟨t, []⟩ 2 = .ptr 0 0) (h3 : AF.get ⟨t, []⟩ 3 = .ptr 1 0) (g0 : M.get 0 = some (.cells [a, b, x, y, z])) (g1 : M.get 1 = some (.cells [.int .i64 n])) :
  resA tab M ⟨t, []⟩ Tryz.f23.results = some (.tup [.agg [a, b, x, y, z], .int .i64 n]) := by
 have a1 : aloadM M tab 26 (.ptr 0 0) = some (.agg [a, b, x, y, z]) := by
  simp only [aloadM, g0]
  rfl
 have a2 : aloadM M tab 30 (.ptr 1 0) = some (.int .i64 n) := by
  simp only [aloadM, g1]
  rfl
 show resA tab M ⟨t, []⟩ #[.cell 2 26, .cell 3 30] = _
 simp only [resA, ress, resOf, h2, h3, a1, a2]
theorem gs_pan {M : Mem} {a b x y z : AV} {n : Int} {t : List (Nat × AV)} {o : Option Sg} (hs : o = none) (h : (gsM M.next [a, b, x, y, z] n).le M) (h2 : AF.get ⟨t, []⟩ 2 = .ptr 0 0) (h3 : AF.get ⟨t, []⟩ 3 = .ptr 1 0) : ALeaves Tryz.prog tab Tryz.f23 ⟨t, []⟩ (gsR o) [gsD] (.pan (errA 30)) M := by
 rw [hs]
 refine ⟨rfl, 71, rfl, ACallsD.le h (ACallsD.mono (catchS M.next a b x y z n 30) ?_)⟩
 rintro m' M' ⟨rfl, g0, g1⟩
 exact ⟨_, gs_res h2 h3 g0 g1, _, rfl, SubC.tup2 sub_zeroS (SubC.of_closed closed_int)⟩
theorem sub_sgT {s : Sg} {ta tb tc : Tag} : Ab.Sub (.agg [.int .i64 s.last, .int .i64 s.mark, .sl 3 (s.pairs.map Pr.av) ta, .sl 2 (s.pins.map Pn.av) tb, .sl 4 (s.seen.map Sn.av) tc]) s.av := Sub.aggL ⟨Sub.refl, Sub.refl, Sub.untag, Sub.untag, Sub.untag, trivial⟩
theorem gs_ret {M : Mem} {s : Sg} {ta tb tc : Tag} {t : List (Nat × AV)} {o : Option Sg} (hs : o = some s) (h : (gsM M.next [.int .i64 s.last, .int .i64 s.mark, .sl 3 (s.pairs.map Pr.av) ta, .sl 2 (s.pins.map Pn.av) tb, .sl 4 (s.seen.map Sn.av) tc] 0).le M) (h2 : AF.get ⟨t, []⟩ 2 = .ptr 0 0) (h3 : AF.get ⟨t, []⟩ 3 = .ptr 1 0) : ALeaves Tryz.prog tab Tryz.f23 ⟨t, []⟩ (gsR o) [gsD] .ret M := by
 rw [hs]
 refine ⟨rfl, 71, rfl, ACallsD.le h (ACallsD.mono (passS M.next _ _ _ _ _ 0) ?_)⟩
 rintro m' M' ⟨rfl, g0, g1⟩
 exact ⟨_, gs_res h2 h3 g0 g1, _, rfl, SubC.tup2 (SubC.pre sub_sgT (SubC.of_closed (closed_sg s))) (SubC.of_closed closed_int)⟩
theorem allO_snoc {α β : Type} {f : α → Option β} {a : List α} {m : List β} {x : α} {y : β} (h : allO f a = some m) (hx : f x = some y) : allO f (a ++ [x]) = some (m ++ [y]) := by
 rw [allO_app, h]
 show (allO f [x]).map _ = _
 rw [allO_eq, hx]
 rfl
theorem allO_none {α β : Type} {f : α → Option β} : ∀ {l : List α} {x : α}, x ∈ l → f x = none → allO f l = none
 | y :: r, x, hx, h => by
  rw [allO_eq]
  rcases List.mem_cons.1 hx with rfl | hx
  ·rw [h]
  ·rw [allO_none hx h]
   cases f y <;> rfl
theorem rowN_two {t : Bytes} {m : List Int} (h : rowN t 2 = some m) : ∃ x y, m = [x, y] ∧ pinO t = some ⟨x, y⟩ := by
 have hl := (rowN_inv h).2.1
 match m, hl with
 | [x, y], _ => exact ⟨x, y, rfl, by unfold pinO; rw [h]⟩
theorem rowN_four {t : Bytes} {m : List Int} (h : rowN t 4 = some m) : ∃ x y z u, m = [x, y, z, u] ∧ seenO t = some ⟨x, y, z, u⟩ := by
 have hl := (rowN_inv h).2.1
 match m, hl with
 | [x, y, z, u], _ => exact ⟨x, y, z, u, rfl, by unfold seenO; rw [h]⟩
theorem pinO_no {t : Bytes} (h : rowN t 2 = none) : pinO t = none := by
 unfold pinO
 rw [h]
theorem seenO_no {t : Bytes} (h : rowN t 4 = none) : seenO t = none := by
 unfold seenO
 rw [h]
theorem getSg_cons {t : Bytes} {r : List Bytes} : getSg (t :: r) = match rowN t 5 with
  | some [a, b, c, d, e] => bodyO a b c d e r
  | _ => none := rfl
theorem getSg_no {t : Bytes} {r : List Bytes} (h : rowN t 5 = none) : getSg (t :: r) = none := by
 rw [getSg_cons, h]
theorem getSg_at {t : Bytes} {r : List Bytes} {a b c d e : Int} (h : rowN t 5 = some [a, b, c, d, e]) : getSg (t :: r) = bodyO a b c d e r := by
 rw [getSg_cons, h]
theorem body_n1 {a b c d e : Int} {l : List Bytes} (h : ¬ (l.length : Int) = c + d + e) : bodyO a b c d e l = none := by
 unfold bodyO
 rw [if_neg h]
theorem body_n2 {a b c d e : Int} {l : List Bytes} (h : allO pairO (l.take c.toNat) = none) : bodyO a b c d e l = none := by
 unfold bodyO
 rw [h]
 split <;> rfl
theorem body_n3 {a b c d e : Int} {l : List Bytes} (h : allO pinO ((l.drop c.toNat).take d.toNat) = none) : bodyO a b c d e l = none := by
 unfold bodyO
 rw [h]
 split
 ·cases allO pairO (l.take c.toNat) <;> rfl
 ·rfl
theorem body_n4 {a b c d e : Int} {l : List Bytes} (h : allO seenO ((l.drop c.toNat).drop d.toNat) = none) : bodyO a b c d e l = none := by
 unfold bodyO
 rw [h]
 split
 ·cases allO pairO (l.take c.toNat) <;> cases allO pinO ((l.drop c.toNat).take d.toNat) <;> rfl
 ·rfl
theorem body_is {a b c d e : Int} {l : List Bytes} {p : List Pr} {q : List Pn} {u : List Sn} (h : (l.length : Int) = c + d + e) (h1 : allO pairO (l.take c.toNat) = some p) (h2 : allO pinO ((l.drop c.toNat).take d.toNat) = some q) (h3 : allO seenO ((l.drop c.toNat).drop d.toNat) = some u) :
  bodyO a b c d e l = if stateB ⟨a, b, p, q, u⟩ = true then some ⟨a, b, p, q, u⟩ else none := by
 unfold bodyO
 rw [if_pos h, h1, h2, h3]
def GM1 (a b : Int) (p : List Pr) (g : Nat) : Mem := ⟨3, [(0, .cells [.int .i64 a, .int .i64 b, .sl 3 (p.map Pr.av) (.tok 2 g), .sl 0 [] .full, .sl 0 [] .full]), (1, .cells [.int .i64 0]), (2, .spare g)]⟩
def GM2 (a b : Int) (p : List Pr) (g : Nat) (q : List Pn) (g2 : Nat) : Mem := ⟨4, [(0, .cells [.int .i64 a, .int .i64 b, .sl 3 (p.map Pr.av) (.tok 2 g), .sl 2 (q.map Pn.av) (.tok 3 g2), .sl 0 [] .full]), (1, .cells [.int .i64 0]), (2, .spare g), (3, .spare g2)]⟩
def GM3 (a b : Int) (p : List Pr) (g : Nat) (q : List Pn) (g2 : Nat) (u : List Sn) (g3 : Nat) : Mem := ⟨5, [(0, .cells [.int .i64 a, .int .i64 b, .sl 3 (p.map Pr.av) (.tok 2 g), .sl 2 (q.map Pn.av) (.tok 3 g2), .sl 4 (u.map Sn.av) (.tok 4 g3)]), (1, .cells [.int .i64 0]), (2, .spare g), (3, .spare g2), (4, .spare g3)]⟩
def GF1 (l p : List Bytes) (x y : Int) (i : Nat) : AF := ⟨[(0, txA l .none), (2, .ptr 0 0), (3, .ptr 1 0), (5, .int .i64 x), (6, .int .i64 y), (54, txA p .none), (55, .int .i64 (p.length : Int)), (56, .int .i64 (i : Int))], [gsD]⟩
def GF2 (l p : List Bytes) (y : Int) (i : Nat) : AF := ⟨[(0, txA l .none), (2, .ptr 0 0), (3, .ptr 1 0), (6, .int .i64 y), (71, txA p .none), (72, .int .i64 (p.length : Int)), (73, .int .i64 (i : Int))], [gsD]⟩
def GF3 (p : List Bytes) (i : Nat) : AF := ⟨[(2, .ptr 0 0), (3, .ptr 1 0), (94, txA p .none), (95, .int .i64 (p.length : Int)), (96, .int .i64 (i : Int))], [gsD]⟩
theorem cut_tx (l : List Bytes) (lo hi : Int) (m : List Bytes) (h0 : 0 ≤ lo) (h1 : lo ≤ hi) (h2 : hi ≤ (l.length : Int)) (hm : (l.take hi.toNat).drop lo.toNat = m) : 0 ≤ lo ∧ lo ≤ hi ∧ hi ≤ ((l.map AV.str).length : Int) ∧ ((l.map AV.str).take hi.toNat).drop lo.toNat = m.map AV.str :=
 ⟨h0, h1, by simpa using h2, by rw [← List.map_take, ← List.map_drop, hm]⟩
theorem pair_small {t : Bytes} {p : Pr} (h : pairO t = some p) (hl : t.length < 100000) : p.key.path.length < 1000000 ∧ p.val.length < 1000000 := by
 unfold pairO at h
 split at h
 ·rename_i k r e
  split at h
  ·rename_i h2
   cases h
   obtain ⟨h3, h4⟩ := textO_inv e
   have hlen := congrArg List.length h4
   rw [List.length_append] at hlen
   rcases getB_cases k with h5 | ⟨y, h5, _, _, h6⟩
   ·rw [h5] at h2
    cases h2
   ·rw [h5]
    exact ⟨by show y.path.length < _; omega, by show r.length < _; omega⟩
  ·cases h
 ·cases h
set_option maxRecDepth 100000 in
set_option maxHeartbeats 8000000 in
theorem dGet_ok (l : List Bytes) (hl : l.length < 1000) (hs : ∀ t, t ∈ l → t.length < 100000) : APure Tryz.prog 23 [txA l .none] (gsA (getSg l)) := by
 have hcl := closed_tx l (t := .none) (.inl rfl)
 refine pure_sub (closed1 hcl) (closed_gsA _) ?_
 refine acalls_of_d tabOK Tryz.func23 rfl (by decide) (by simp [Tryz.f23]) ?_
 unfold txA
 have kT := mustT
 repeat' (first | refine DW_A tabs rfl ?_ | refine DW_nil ?_ | refine W_A rfl ?_ | refine DW_row tabOK rfl ?_ | refine DW_app tabOK rfl rfl (by simp; omega) (by simp; omega) ?_ | refine DW_app0 tabOK rfl (by simp; omega) (by simp; omega) ?_ | refine W_draw mixed [0, 4, 8, 1, 2, 3, 12, 5, 6, 7, 9, 10, 11, 13] [.P, .R, .R, .P, .P, .R, .R, .P, .P, .R, .R, .P, .P, .P] rfl rfl (by kernel_rfl) ?_ | refine W_draw (id := 6) mixed [0, 3, 1, 2, 4, 5, 6, 7] [.P, .R, .R, .P, .R, .R, .P, .E] rfl rfl (by kernel_rfl) ?_ | refine W_drawT (id := 10) mixed (.two [2] 0 3 (.two [] 1 3 (.fin [3, 4, 5, 6, 7]) (.fin [4, 1, 5, 6, 7])) (.fin [4, 0, 1, 5, 6, 7])) [.R, .R, .P, .E, .P, .E, .R, .E] rfl rfl (by kernel_rfl) ?_ | refine W_draw mixed [2, 5, 0, 1, 3, 4, 6, 7, 8, 9, 10, 11, 12] [.R, .R, .P, .R, .R, .P, .R, .R, .P, .P, .E, .R, .E] rfl rfl (by kernel_rfl) ?_ | refine W_draw mixed [2, 5, 8, 11, 0, 1, 3, 4, 6, 7, 9, 10, 12, 13, 14, 15, 16, 17, 18, 19] [.R, .R, .P, .R, .R, .P, .R, .R, .P, .R, .R, .P, .R, .R, .P, .P, .P, .E, .R, .E] rfl rfl (by kernel_rfl) ?_ | refine Both.mk ?_ ?_)
 refine W_region ?_
 refine WL_P rfl rfl opP_func ?_
 refine WL_defer rfl rfl rfl rfl [(2, .ptr 0 0), (3, .ptr 1 0)] ?_ ?_
 ·intro p hp
  simp only [List.mem_cons, List.not_mem_nil, or_false] at hp
  rcases hp with rfl | rfl <;> rfl
 refine WL_nil ?_
 refine W.le (g := ⟨[(0, .sl 1 (l.map AV.str) .none), (2, .ptr 0 0), (3, .ptr 1 0)], [gsD]⟩) (N := ⟨2, [(0, .cells zeroS), (1, .cells [.int .i64 0])]⟩) ?_ ?_ ?_
 ·repeat (refine AF.le_cons rfl ?_)
  exact AF.le_nil rfl
 ·exact Mem.le_cons rfl (Mem.le_cons rfl (Mem.le_nil rfl))
 have la := len_map AV.str l
 cases l with
 | nil =>
  repeat' (first | refine DW_A tabs rfl ?_ | refine DW_nil ?_ | refine W_A rfl ?_ | refine DW_T rfl rfl (mustF) ?_ | refine DW_row tabOK rfl ?_ | refine DW_app tabOK rfl rfl (by simp; omega) (by simp; omega) ?_ | refine DW_app0 tabOK rfl (by simp; omega) (by simp; omega) ?_ | refine W_draw mixed [0, 4, 8, 1, 2, 3, 12, 5, 6, 7, 9, 10, 11, 13] [.P, .R, .R, .P, .P, .R, .R, .P, .P, .R, .R, .P, .P, .P] rfl rfl (by kernel_rfl) ?_ | refine W_draw (id := 6) mixed [0, 3, 1, 2, 4, 5, 6, 7] [.P, .R, .R, .P, .R, .R, .P, .E] rfl rfl (by kernel_rfl) ?_ | refine W_drawT (id := 10) mixed (.two [2] 0 3 (.two [] 1 3 (.fin [3, 4, 5, 6, 7]) (.fin [4, 1, 5, 6, 7])) (.fin [4, 0, 1, 5, 6, 7])) [.R, .R, .P, .E, .P, .E, .R, .E] rfl rfl (by kernel_rfl) ?_ | refine W_draw mixed [2, 5, 0, 1, 3, 4, 6, 7, 8, 9, 10, 11, 12] [.R, .R, .P, .R, .R, .P, .R, .R, .P, .P, .E, .R, .E] rfl rfl (by kernel_rfl) ?_ | refine W_draw mixed [2, 5, 8, 11, 0, 1, 3, 4, 6, 7, 9, 10, 12, 13, 14, 15, 16, 17, 18, 19] [.R, .R, .P, .R, .R, .P, .R, .R, .P, .R, .R, .P, .R, .R, .P, .P, .P, .E, .R, .E] rfl rfl (by kernel_rfl) ?_ | refine Both.mk ?_ ?_)
  exact gs_pan rfl (Mem.le_cons rfl (Mem.le_cons rfl (Mem.le_nil rfl))) rfl rfl
 | cons t0 r =>
  have d0 : decide ((0 : Int) < ((t0 :: r).length : Int)) = true := decide_eq_true (by rw [List.length_cons]; omega)
  have kr : AThr Tryz.prog 73 [.str t0, .int .i64 5] (rowE (rowN t0 5)) := drow_ok t0 (by have := hs t0 (by simp); omega) 5 (by decide)
  cases hr : rowN t0 5 with
  | none =>
   rw [hr] at kr
   repeat' (first | refine DW_VB tabs rfl d0 ?_ | refine DW_VI tabs rfl la ?_ | refine DW_A tabs rfl ?_ | refine DW_nil ?_ | refine W_A rfl ?_ | refine DW_C rfl kT ?_ | refine DW_T rfl rfl (kr) ?_ | refine DW_ix tabOK rfl (⟨by decide, rfl⟩) ?_ | refine DW_row tabOK rfl ?_ | refine DW_app tabOK rfl rfl (by simp; omega) (by simp; omega) ?_ | refine DW_app0 tabOK rfl (by simp; omega) (by simp; omega) ?_ | refine W_draw mixed [0, 4, 8, 1, 2, 3, 12, 5, 6, 7, 9, 10, 11, 13] [.P, .R, .R, .P, .P, .R, .R, .P, .P, .R, .R, .P, .P, .P] rfl rfl (by kernel_rfl) ?_ | refine W_draw (id := 6) mixed [0, 3, 1, 2, 4, 5, 6, 7] [.P, .R, .R, .P, .R, .R, .P, .E] rfl rfl (by kernel_rfl) ?_ | refine W_drawT (id := 10) mixed (.two [2] 0 3 (.two [] 1 3 (.fin [3, 4, 5, 6, 7]) (.fin [4, 1, 5, 6, 7])) (.fin [4, 0, 1, 5, 6, 7])) [.R, .R, .P, .E, .P, .E, .R, .E] rfl rfl (by kernel_rfl) ?_ | refine W_draw mixed [2, 5, 0, 1, 3, 4, 6, 7, 8, 9, 10, 11, 12] [.R, .R, .P, .R, .R, .P, .R, .R, .P, .P, .E, .R, .E] rfl rfl (by kernel_rfl) ?_ | refine W_draw mixed [2, 5, 8, 11, 0, 1, 3, 4, 6, 7, 9, 10, 12, 13, 14, 15, 16, 17, 18, 19] [.R, .R, .P, .R, .R, .P, .R, .R, .P, .R, .R, .P, .R, .R, .P, .P, .P, .E, .R, .E] rfl rfl (by kernel_rfl) ?_ | refine Both.mk ?_ ?_)
   exact gs_pan (getSg_no hr) (Mem.le_cons rfl (Mem.le_cons rfl (Mem.le_nil rfl))) rfl rfl
  | some h =>
   obtain ⟨hcat, hlen, hin⟩ := rowN_inv hr
   match h, hlen with
   | [a, b, c, d, e], _ =>
    rw [hr] at kr
    have kr : APure Tryz.prog 73 [.str t0, .int .i64 5] (iA [a, b, c, d, e] .none) := kr
    have hc := hin c (by simp)
    have hd := hin d (by simp)
    have he := hin e (by simp)
    obtain ⟨C, rfl⟩ : ∃ C : Nat, c = (C : Int) := ⟨c.toNat, by omega⟩
    obtain ⟨D, rfl⟩ : ∃ D : Nat, d = (D : Int) := ⟨d.toNat, by omega⟩
    obtain ⟨E, rfl⟩ : ∃ E : Nat, e = (E : Int) := ⟨e.toNat, by omega⟩
    have f1 : IntKind.wrap .i64 (1 + (C : Int)) = 1 + (C : Int) := Go.Ab.wrap_small (by omega) (by omega)
    have f2 : IntKind.wrap .i64 (1 + (C : Int) + (D : Int)) = 1 + (C : Int) + (D : Int) := Go.Ab.wrap_small (by omega) (by omega)
    have f3 : IntKind.wrap .i64 (1 + (C : Int) + (D : Int) + (E : Int)) = 1 + (C : Int) + (D : Int) + (E : Int) := Go.Ab.wrap_small (by omega) (by omega)
    rw [getSg_at hr]
    unfold iA at kr
    by_cases hL : ((r.length : Int) = (C : Int) + (D : Int) + (E : Int))
    ·have d1 : decide (((t0 :: r).length : Int) = 1 + (C : Int) + (D : Int) + (E : Int)) = true := decide_eq_true (by simp; omega)
     have hrl : r.length = C + D + E := by omega
     have s1 := cut_tx (t0 :: r) 1 (1 + (C : Int)) (r.take C) (by omega) (by omega) (by simp; omega) (by rw [show (1 + (C : Int)).toNat = C + 1 by omega]; simp)
     have s2 := cut_tx (t0 :: r) (1 + (C : Int)) (1 + (C : Int) + (D : Int)) ((r.drop C).take D) (by omega) (by omega) (by simp; omega) (by rw [show (1 + (C : Int)).toNat = C + 1 by omega, show (1 + (C : Int) + (D : Int)).toNat = (C + D) + 1 by omega]; rw [List.take_succ_cons, List.drop_succ_cons, List.drop_take, Nat.add_sub_cancel_left])
     have s3 := cut_tx (t0 :: r) (1 + (C : Int) + (D : Int)) ((t0 :: r).length : Int) ((r.drop C).drop D) (by omega) (by simp; omega) (by omega) (by rw [show (1 + (C : Int) + (D : Int)).toNat = (C + D) + 1 by omega, Int.toNat_natCast, List.take_length]; simp [List.drop_drop])
     rw [← la] at s3
     have hst : ∀ t, t ∈ r → t.length < 100000 := fun t ht => hs t (by simp [ht])
     have hp1 : ∀ t, t ∈ r.take C → t.length < 100000 := fun t ht => hst t (List.mem_of_mem_take ht)
     have hp2 : ∀ t, t ∈ (r.drop C).take D → t.length < 100000 := fun t ht => hst t (List.mem_of_mem_drop (List.mem_of_mem_take ht))
     have hp3 : ∀ t, t ∈ (r.drop C).drop D → t.length < 100000 := fun t ht => hst t (List.mem_of_mem_drop (List.mem_of_mem_drop ht))
     have q1 : (r.take C).length < 1000 := by rw [List.length_take]; simp at hl; omega
     have q2 : ((r.drop C).take D).length < 1000 := by rw [List.length_take, List.length_drop]; simp at hl; omega
     have q3 : ((r.drop C).drop D).length < 1000 := by rw [List.length_drop, List.length_drop]; simp at hl; omega
     have b2 : ∀ h, bodyO a b (C : Int) (D : Int) (E : Int) r = none := fun h => body_n2 (l := r) (c := (C : Int)) (by rw [Int.toNat_natCast]; exact h)
     have b3 : ∀ h, bodyO a b (C : Int) (D : Int) (E : Int) r = none := fun h => body_n3 (l := r) (c := (C : Int)) (d := (D : Int)) (by rw [Int.toNat_natCast, Int.toNat_natCast]; exact h)
     have b4 : ∀ h, bodyO a b (C : Int) (D : Int) (E : Int) r = none := fun h => body_n4 (l := r) (c := (C : Int)) (d := (D : Int)) (by rw [Int.toNat_natCast, Int.toNat_natCast]; exact h)
     have bi : ∀ {p q u} h1 h2 h3, bodyO a b (C : Int) (D : Int) (E : Int) r = if stateB ⟨a, b, p, q, u⟩ = true then some ⟨a, b, p, q, u⟩ else none := fun {p q u} h1 h2 h3 => body_is (l := r) (c := (C : Int)) (d := (D : Int)) (p := p) (q := q) (u := u) hL (by rw [Int.toNat_natCast]; exact h1) (by rw [Int.toNat_natCast, Int.toNat_natCast]; exact h2) (by rw [Int.toNat_natCast, Int.toNat_natCast]; exact h3)
     generalize bodyO a b (C : Int) (D : Int) (E : Int) r = O at *
     generalize r.take C = P1 at *
     generalize (r.drop C).take D = P2 at *
     generalize (r.drop C).drop D = P3 at *
     have l1 := len_map AV.str P1
     have l2 := len_map AV.str P2
     have l3 := len_map AV.str P3
     repeat' (first | refine DW_VB tabs rfl (by first | exact d0 | exact d1) ?_ | refine DW_VI tabs rfl (by first | exact la | exact f1 | exact f2 | exact f3 | exact l1) ?_ | refine DW_A tabs rfl ?_ | refine DW_nil ?_ | refine W_A rfl ?_ | refine DW_C rfl kT ?_ | refine DW_C rfl kr ?_ | refine DW_ix tabOK rfl (⟨by decide, rfl⟩) ?_ | refine DW_slc tabOK rfl (s1) ?_ | refine DW_row tabOK rfl ?_ | refine DW_app tabOK rfl rfl (by simp; omega) (by simp; omega) ?_ | refine DW_app0 tabOK rfl (by simp; omega) (by simp; omega) ?_ | refine W_draw mixed [0, 4, 8, 1, 2, 3, 12, 5, 6, 7, 9, 10, 11, 13] [.P, .R, .R, .P, .P, .R, .R, .P, .P, .R, .R, .P, .P, .P] rfl rfl (by kernel_rfl) ?_ | refine W_draw (id := 6) mixed [0, 3, 1, 2, 4, 5, 6, 7] [.P, .R, .R, .P, .R, .R, .P, .E] rfl rfl (by kernel_rfl) ?_ | refine W_drawT (id := 10) mixed (.two [2] 0 3 (.two [] 1 3 (.fin [3, 4, 5, 6, 7]) (.fin [4, 1, 5, 6, 7])) (.fin [4, 0, 1, 5, 6, 7])) [.R, .R, .P, .E, .P, .E, .R, .E] rfl rfl (by kernel_rfl) ?_ | refine W_draw mixed [2, 5, 0, 1, 3, 4, 6, 7, 8, 9, 10, 11, 12] [.R, .R, .P, .R, .R, .P, .R, .R, .P, .P, .E, .R, .E] rfl rfl (by kernel_rfl) ?_ | refine W_draw mixed [2, 5, 8, 11, 0, 1, 3, 4, 6, 7, 9, 10, 12, 13, 14, 15, 16, 17, 18, 19] [.R, .R, .P, .R, .R, .P, .R, .R, .P, .R, .R, .P, .R, .R, .P, .P, .P, .E, .R, .E] rfl rfl (by kernel_rfl) ?_ | refine Both.mk ?_ ?_)
     refine W_count P1.length (fun i f N => ∃ acc g, allO pairO (P1.take i) = some acc ∧ N = GM1 a b acc g ∧ f = GF1 (t0 :: r) P1 (1 + (C : Int)) (1 + (C : Int) + (D : Int)) i) (Nat.zero_le _) ⟨[], 0, rfl, rfl, rfl⟩ ((Joint.tokM 0 2 rfl rfl (sz' := 3) (.inr rfl)).trans (Joint.le ?_ (Mem.le_cons rfl (Mem.le_cons rfl (Mem.le_cons rfl (Mem.le_nil rfl)))))) ?_
     ·unfold GF1 txA
      repeat (refine AF.le_cons rfl ?_)
      exact AF.le_nil rfl
     rintro i f N hi ⟨acc, g, ha, rfl, rfl⟩
     unfold GF1 txA
     have lacc := allO_len ha
     rw [List.length_take] at lacc
     have lo := len_map Pr.av acc
     by_cases h1 : i < P1.length
     ·have d2 : decide ((i : Int) < (P1.length : Int)) = true := decide_eq_true (by omega)
      have hx : P1[i]? = some P1[i] := List.getElem?_eq_getElem h1
      have fi := wrap_succ (i := i) (by omega)
      have ht := take_succ hx
      have hm := List.getElem_mem h1
      generalize P1[i] = t at hx ht hm
      have kp := dpair_ok t (by have := hp1 t hm; omega)
      cases ho : pairO t with
      | none =>
       rw [ho] at kp
       have hO := b2 (allO_none hm ho)
       unfold GM1
       repeat' (first | refine DW_VB tabs rfl d2 ?_ | refine DW_VI tabs rfl (by first | exact l1 | exact fi) ?_ | refine DW_A tabs rfl ?_ | refine DW_nil ?_ | refine W_A rfl ?_ | refine DW_T rfl rfl (kp) ?_ | refine DW_ix tabOK rfl (ixN hx) ?_ | refine DW_row tabOK rfl ?_ | refine DW_app tabOK rfl rfl (by simp; omega) (by simp; omega) ?_ | refine DW_app0 tabOK rfl (by simp; omega) (by simp; omega) ?_ | refine W_draw mixed [0, 4, 8, 1, 2, 3, 12, 5, 6, 7, 9, 10, 11, 13] [.P, .R, .R, .P, .P, .R, .R, .P, .P, .R, .R, .P, .P, .P] rfl rfl (by kernel_rfl) ?_ | refine W_draw (id := 6) mixed [0, 3, 1, 2, 4, 5, 6, 7] [.P, .R, .R, .P, .R, .R, .P, .E] rfl rfl (by kernel_rfl) ?_ | refine W_drawT (id := 10) mixed (.two [2] 0 3 (.two [] 1 3 (.fin [3, 4, 5, 6, 7]) (.fin [4, 1, 5, 6, 7])) (.fin [4, 0, 1, 5, 6, 7])) [.R, .R, .P, .E, .P, .E, .R, .E] rfl rfl (by kernel_rfl) ?_ | refine W_draw mixed [2, 5, 0, 1, 3, 4, 6, 7, 8, 9, 10, 11, 12] [.R, .R, .P, .R, .R, .P, .R, .R, .P, .P, .E, .R, .E] rfl rfl (by kernel_rfl) ?_ | refine W_draw mixed [2, 5, 8, 11, 0, 1, 3, 4, 6, 7, 9, 10, 12, 13, 14, 15, 16, 17, 18, 19] [.R, .R, .P, .R, .R, .P, .R, .R, .P, .R, .R, .P, .R, .R, .P, .P, .P, .E, .R, .E] rfl rfl (by kernel_rfl) ?_ | refine Both.mk ?_ ?_)
       all_goals exact gs_pan hO (Mem.le_cons rfl (Mem.le_cons rfl (Mem.le_nil rfl))) rfl rfl
      | some p =>
       rw [ho] at kp
       have kp : APure Tryz.prog 74 [.str t] p.av := kp
       have eT : AV.sl 3 ((acc ++ [p]).map Pr.av) (.tok 2 (g + 1)) = .sl 3 (acc.map Pr.av ++ [p.av]) (.tok 2 (g + 1)) := by simp
       have ha2 := allO_snoc ha ho
       rw [← ht] at ha2
       unfold GM1
       repeat' (first | refine DW_VB tabs rfl d2 ?_ | refine DW_VI tabs rfl (by first | exact l1 | exact fi | exact lo) ?_ | refine DW_A tabs rfl ?_ | refine DW_nil ?_ | refine W_A rfl ?_ | refine DW_C rfl kp ?_ | refine DW_ix tabOK rfl (ixN hx) ?_ | refine DW_row tabOK rfl ?_ | refine DW_app tabOK rfl rfl (by simp; omega) (by simp; omega) ?_ | refine DW_app0 tabOK rfl (by simp; omega) (by simp; omega) ?_ | refine W_draw mixed [0, 4, 8, 1, 2, 3, 12, 5, 6, 7, 9, 10, 11, 13] [.P, .R, .R, .P, .P, .R, .R, .P, .P, .R, .R, .P, .P, .P] rfl rfl (by kernel_rfl) ?_ | refine W_draw (id := 6) mixed [0, 3, 1, 2, 4, 5, 6, 7] [.P, .R, .R, .P, .R, .R, .P, .E] rfl rfl (by kernel_rfl) ?_ | refine W_draw (id := 10) mixed [2, 3, 4, 0, 1, 5, 6, 7] [.R, .R, .P, .P, .P, .E, .R, .E] rfl rfl (by kernel_rfl) ?_ | refine W_draw mixed [2, 5, 0, 1, 3, 4, 6, 7, 8, 9, 10, 11, 12] [.R, .R, .P, .R, .R, .P, .R, .R, .P, .P, .E, .R, .E] rfl rfl (by kernel_rfl) ?_ | refine W_draw mixed [2, 5, 8, 11, 0, 1, 3, 4, 6, 7, 9, 10, 12, 13, 14, 15, 16, 17, 18, 19] [.R, .R, .P, .R, .R, .P, .R, .R, .P, .R, .R, .P, .R, .R, .P, .P, .P, .E, .R, .E] rfl rfl (by kernel_rfl) ?_)
       all_goals
        refine ⟨h1, GF1 (t0 :: r) P1 (1 + (C : Int)) (1 + (C : Int) + (D : Int)) (i + 1), GM1 a b (acc ++ [p]) (g + 1), ⟨acc ++ [p], g + 1, ha2, rfl, rfl⟩, Joint.le ?_ ?_⟩
        ·unfold GF1 txA
         repeat (refine AF.le_cons rfl ?_)
         exact AF.le_nil rfl
        ·unfold GM1
         rw [eT]
         exact Mem.le_cons rfl (Mem.le_cons rfl (Mem.le_cons rfl (Mem.le_nil rfl)))
     ·have d2 : decide ((i : Int) < (P1.length : Int)) = false := decide_eq_false (by omega)
      obtain rfl : i = P1.length := by omega
      rw [List.take_length] at ha
      unfold GM1
      repeat' (first | refine DW_VB tabs rfl d2 ?_ | refine DW_VI tabs rfl (by first | exact l1 | exact l2) ?_ | refine DW_A tabs rfl ?_ | refine DW_nil ?_ | refine W_A rfl ?_ | refine DW_slc tabOK rfl (s2) ?_ | refine DW_row tabOK rfl ?_ | refine DW_app tabOK rfl rfl (by simp; omega) (by simp; omega) ?_ | refine DW_app0 tabOK rfl (by simp; omega) (by simp; omega) ?_ | refine W_draw mixed [0, 4, 8, 1, 2, 3, 12, 5, 6, 7, 9, 10, 11, 13] [.P, .R, .R, .P, .P, .R, .R, .P, .P, .R, .R, .P, .P, .P] rfl rfl (by kernel_rfl) ?_ | refine W_draw (id := 6) mixed [0, 3, 1, 2, 4, 5, 6, 7] [.P, .R, .R, .P, .R, .R, .P, .E] rfl rfl (by kernel_rfl) ?_ | refine W_draw (id := 10) mixed [2, 3, 4, 0, 1, 5, 6, 7] [.R, .R, .P, .P, .P, .E, .R, .E] rfl rfl (by kernel_rfl) ?_ | refine W_draw mixed [2, 5, 0, 1, 3, 4, 6, 7, 8, 9, 10, 11, 12] [.R, .R, .P, .R, .R, .P, .R, .R, .P, .P, .E, .R, .E] rfl rfl (by kernel_rfl) ?_ | refine W_draw mixed [2, 5, 8, 11, 0, 1, 3, 4, 6, 7, 9, 10, 12, 13, 14, 15, 16, 17, 18, 19] [.R, .R, .P, .R, .R, .P, .R, .R, .P, .R, .R, .P, .R, .R, .P, .P, .P, .E, .R, .E] rfl rfl (by kernel_rfl) ?_)
      refine W_count P2.length (fun i f N => ∃ q g2, allO pinO (P2.take i) = some q ∧ N = GM2 a b acc g q g2 ∧ f = GF2 (t0 :: r) P2 (1 + (C : Int) + (D : Int)) i) (Nat.zero_le _) ⟨[], 0, rfl, rfl, rfl⟩ ((Joint.tokM 0 3 rfl rfl (sz' := 2) (.inr rfl)).trans (Joint.le ?_ (Mem.le_cons rfl (Mem.le_cons rfl (Mem.le_cons rfl (Mem.le_cons rfl (Mem.le_nil rfl))))))) ?_
      ·unfold GF2 txA
       repeat (refine AF.le_cons rfl ?_)
       exact AF.le_nil rfl
      rintro i f N hi ⟨q, g2, hq, rfl, rfl⟩
      unfold GF2 txA
      have lacc := allO_len hq
      rw [List.length_take] at lacc
      have lo := len_map Pn.av q
      by_cases h1 : i < P2.length
      ·have d2 : decide ((i : Int) < (P2.length : Int)) = true := decide_eq_true (by omega)
       have hx : P2[i]? = some P2[i] := List.getElem?_eq_getElem h1
       have fi := wrap_succ (i := i) (by omega)
       have ht := take_succ hx
       have hm := List.getElem_mem h1
       generalize P2[i] = t at hx ht hm
       have kp : AThr Tryz.prog 73 [.str t, .int .i64 2] (rowE (rowN t 2)) := drow_ok t (by have := hp2 t hm; omega) 2 (by decide)
       cases ho : rowN t 2 with
       | none =>
        rw [ho] at kp
        have hO := b3 (allO_none hm (pinO_no ho))
        unfold GM2
        repeat' (first | refine DW_VB tabs rfl d2 ?_ | refine DW_VI tabs rfl (by first | exact l2 | exact fi) ?_ | refine DW_A tabs rfl ?_ | refine DW_nil ?_ | refine W_A rfl ?_ | refine DW_T rfl rfl (kp) ?_ | refine DW_ix tabOK rfl (ixN hx) ?_ | refine DW_row tabOK rfl ?_ | refine DW_app tabOK rfl rfl (by simp; omega) (by simp; omega) ?_ | refine DW_app0 tabOK rfl (by simp; omega) (by simp; omega) ?_ | refine W_draw mixed [0, 4, 8, 1, 2, 3, 12, 5, 6, 7, 9, 10, 11, 13] [.P, .R, .R, .P, .P, .R, .R, .P, .P, .R, .R, .P, .P, .P] rfl rfl (by kernel_rfl) ?_ | refine W_draw (id := 6) mixed [0, 3, 1, 2, 4, 5, 6, 7] [.P, .R, .R, .P, .R, .R, .P, .E] rfl rfl (by kernel_rfl) ?_ | refine W_draw (id := 10) mixed [2, 3, 4, 0, 1, 5, 6, 7] [.R, .R, .P, .P, .P, .E, .R, .E] rfl rfl (by kernel_rfl) ?_ | refine W_draw mixed [2, 5, 0, 1, 3, 4, 6, 7, 8, 9, 10, 11, 12] [.R, .R, .P, .R, .R, .P, .R, .R, .P, .P, .E, .R, .E] rfl rfl (by kernel_rfl) ?_ | refine W_draw mixed [2, 5, 8, 11, 0, 1, 3, 4, 6, 7, 9, 10, 12, 13, 14, 15, 16, 17, 18, 19] [.R, .R, .P, .R, .R, .P, .R, .R, .P, .R, .R, .P, .R, .R, .P, .P, .P, .E, .R, .E] rfl rfl (by kernel_rfl) ?_)
        exact gs_pan hO (Mem.le_cons rfl (Mem.le_cons rfl (Mem.le_nil rfl))) rfl rfl
       | some m =>
        obtain ⟨x, y, rfl, hpo⟩ := rowN_two ho
        rw [ho] at kp
        have kp : APure Tryz.prog 73 [.str t, .int .i64 2] (iA [x, y] .none) := kp
        have eT : AV.sl 2 ((q ++ [(⟨x, y⟩ : Pn)]).map Pn.av) (.tok 3 (g2 + 1)) = .sl 2 (q.map Pn.av ++ [Pn.av ⟨x, y⟩]) (.tok 3 (g2 + 1)) := by simp
        have ha2 := allO_snoc hq hpo
        rw [← ht] at ha2
        unfold iA at kp
        unfold GM2
        repeat' (first | refine DW_VB tabs rfl d2 ?_ | refine DW_VI tabs rfl (by first | exact l2 | exact fi | exact lo) ?_ | refine DW_A tabs rfl ?_ | refine DW_nil ?_ | refine W_A rfl ?_ | refine DW_C rfl kp ?_ | refine DW_ix tabOK rfl (ixN hx) ?_ | refine DW_ix tabOK rfl (⟨by decide, rfl⟩) ?_ | refine DW_row tabOK rfl ?_ | refine DW_app tabOK rfl rfl (by simp; omega) (by simp; omega) ?_ | refine DW_app0 tabOK rfl (by simp; omega) (by simp; omega) ?_ | refine W_draw mixed [0, 4, 8, 1, 2, 3, 12, 5, 6, 7, 9, 10, 11, 13] [.P, .R, .R, .P, .P, .R, .R, .P, .P, .R, .R, .P, .P, .P] rfl rfl (by kernel_rfl) ?_ | refine W_draw (id := 6) mixed [0, 3, 1, 2, 4, 5, 6, 7] [.P, .R, .R, .P, .R, .R, .P, .E] rfl rfl (by kernel_rfl) ?_ | refine W_draw (id := 10) mixed [2, 3, 4, 0, 1, 5, 6, 7] [.R, .R, .P, .P, .P, .E, .R, .E] rfl rfl (by kernel_rfl) ?_ | refine W_draw mixed [2, 5, 0, 1, 3, 4, 6, 7, 8, 9, 10, 11, 12] [.R, .R, .P, .R, .R, .P, .R, .R, .P, .P, .E, .R, .E] rfl rfl (by kernel_rfl) ?_ | refine W_draw mixed [2, 5, 8, 11, 0, 1, 3, 4, 6, 7, 9, 10, 12, 13, 14, 15, 16, 17, 18, 19] [.R, .R, .P, .R, .R, .P, .R, .R, .P, .R, .R, .P, .R, .R, .P, .P, .P, .E, .R, .E] rfl rfl (by kernel_rfl) ?_)
        refine ⟨h1, GF2 (t0 :: r) P2 (1 + (C : Int) + (D : Int)) (i + 1), GM2 a b acc g (q ++ [⟨x, y⟩]) (g2 + 1), ⟨q ++ [⟨x, y⟩], g2 + 1, ha2, rfl, rfl⟩, Joint.le ?_ ?_⟩
        ·unfold GF2 txA
         repeat (refine AF.le_cons rfl ?_)
         exact AF.le_nil rfl
        ·unfold GM2
         rw [eT]
         exact Mem.le_cons rfl (Mem.le_cons rfl (Mem.le_cons rfl (Mem.le_cons rfl (Mem.le_nil rfl))))
      ·have d2 : decide ((i : Int) < (P2.length : Int)) = false := decide_eq_false (by omega)
       obtain rfl : i = P2.length := by omega
       rw [List.take_length] at hq
       unfold GM2
       repeat' (first | refine DW_VB tabs rfl d2 ?_ | refine DW_VI tabs rfl (by first | exact la | exact l2 | exact l3) ?_ | refine DW_A tabs rfl ?_ | refine DW_nil ?_ | refine W_A rfl ?_ | refine DW_slc tabOK rfl (s3) ?_ | refine DW_row tabOK rfl ?_ | refine DW_app tabOK rfl rfl (by simp; omega) (by simp; omega) ?_ | refine DW_app0 tabOK rfl (by simp; omega) (by simp; omega) ?_ | refine W_draw mixed [0, 4, 8, 1, 2, 3, 12, 5, 6, 7, 9, 10, 11, 13] [.P, .R, .R, .P, .P, .R, .R, .P, .P, .R, .R, .P, .P, .P] rfl rfl (by kernel_rfl) ?_ | refine W_draw (id := 6) mixed [0, 3, 1, 2, 4, 5, 6, 7] [.P, .R, .R, .P, .R, .R, .P, .E] rfl rfl (by kernel_rfl) ?_ | refine W_draw (id := 10) mixed [2, 3, 4, 0, 1, 5, 6, 7] [.R, .R, .P, .P, .P, .E, .R, .E] rfl rfl (by kernel_rfl) ?_ | refine W_draw mixed [2, 5, 0, 1, 3, 4, 6, 7, 8, 9, 10, 11, 12] [.R, .R, .P, .R, .R, .P, .R, .R, .P, .P, .E, .R, .E] rfl rfl (by kernel_rfl) ?_ | refine W_draw mixed [2, 5, 8, 11, 0, 1, 3, 4, 6, 7, 9, 10, 12, 13, 14, 15, 16, 17, 18, 19] [.R, .R, .P, .R, .R, .P, .R, .R, .P, .R, .R, .P, .R, .R, .P, .P, .P, .E, .R, .E] rfl rfl (by kernel_rfl) ?_)
       refine W_count P3.length (fun i f N => ∃ u g3, allO seenO (P3.take i) = some u ∧ N = GM3 a b acc g q g2 u g3 ∧ f = GF3 P3 i) (Nat.zero_le _) ⟨[], 0, rfl, rfl, rfl⟩ ((Joint.tokM 0 4 rfl rfl (sz' := 4) (.inr rfl)).trans (Joint.le ?_ (Mem.le_cons rfl (Mem.le_cons rfl (Mem.le_cons rfl (Mem.le_cons rfl (Mem.le_cons rfl (Mem.le_nil rfl)))))))) ?_
       ·unfold GF3 txA
        repeat (refine AF.le_cons rfl ?_)
        exact AF.le_nil rfl
       rintro i f N hi ⟨u, g3, hu, rfl, rfl⟩
       unfold GF3 txA
       have lacc := allO_len hu
       rw [List.length_take] at lacc
       have lo := len_map Sn.av u
       by_cases h1 : i < P3.length
       ·have d2 : decide ((i : Int) < (P3.length : Int)) = true := decide_eq_true (by omega)
        have hx : P3[i]? = some P3[i] := List.getElem?_eq_getElem h1
        have fi := wrap_succ (i := i) (by omega)
        have ht := take_succ hx
        have hm := List.getElem_mem h1
        generalize P3[i] = t at hx ht hm
        have kp : AThr Tryz.prog 73 [.str t, .int .i64 4] (rowE (rowN t 4)) := drow_ok t (by have := hp3 t hm; omega) 4 (by decide)
        cases ho : rowN t 4 with
        | none =>
         rw [ho] at kp
         have hO := b4 (allO_none hm (seenO_no ho))
         unfold GM3
         repeat' (first | refine DW_VB tabs rfl d2 ?_ | refine DW_VI tabs rfl (by first | exact l3 | exact fi) ?_ | refine DW_A tabs rfl ?_ | refine DW_nil ?_ | refine W_A rfl ?_ | refine DW_T rfl rfl (kp) ?_ | refine DW_ix tabOK rfl (ixN hx) ?_ | refine DW_row tabOK rfl ?_ | refine DW_app tabOK rfl rfl (by simp; omega) (by simp; omega) ?_ | refine DW_app0 tabOK rfl (by simp; omega) (by simp; omega) ?_ | refine W_draw mixed [0, 4, 8, 1, 2, 3, 12, 5, 6, 7, 9, 10, 11, 13] [.P, .R, .R, .P, .P, .R, .R, .P, .P, .R, .R, .P, .P, .P] rfl rfl (by kernel_rfl) ?_ | refine W_draw (id := 6) mixed [0, 3, 1, 2, 4, 5, 6, 7] [.P, .R, .R, .P, .R, .R, .P, .E] rfl rfl (by kernel_rfl) ?_ | refine W_draw (id := 10) mixed [2, 3, 4, 0, 1, 5, 6, 7] [.R, .R, .P, .P, .P, .E, .R, .E] rfl rfl (by kernel_rfl) ?_ | refine W_draw mixed [2, 5, 0, 1, 3, 4, 6, 7, 8, 9, 10, 11, 12] [.R, .R, .P, .R, .R, .P, .R, .R, .P, .P, .E, .R, .E] rfl rfl (by kernel_rfl) ?_ | refine W_draw mixed [2, 5, 8, 11, 0, 1, 3, 4, 6, 7, 9, 10, 12, 13, 14, 15, 16, 17, 18, 19] [.R, .R, .P, .R, .R, .P, .R, .R, .P, .R, .R, .P, .R, .R, .P, .P, .P, .E, .R, .E] rfl rfl (by kernel_rfl) ?_)
         exact gs_pan hO (Mem.le_cons rfl (Mem.le_cons rfl (Mem.le_nil rfl))) rfl rfl
        | some m =>
         obtain ⟨x, y, z, v, rfl, hpo⟩ := rowN_four ho
         rw [ho] at kp
         have kp : APure Tryz.prog 73 [.str t, .int .i64 4] (iA [x, y, z, v] .none) := kp
         have eT : AV.sl 4 ((u ++ [(⟨x, y, z, v⟩ : Sn)]).map Sn.av) (.tok 4 (g3 + 1)) = .sl 4 (u.map Sn.av ++ [Sn.av ⟨x, y, z, v⟩]) (.tok 4 (g3 + 1)) := by simp
         have ha2 := allO_snoc hu hpo
         rw [← ht] at ha2
         unfold iA at kp
         unfold GM3
         repeat' (first | refine DW_VB tabs rfl d2 ?_ | refine DW_VI tabs rfl (by first | exact l3 | exact fi | exact lo) ?_ | refine DW_A tabs rfl ?_ | refine DW_nil ?_ | refine W_A rfl ?_ | refine DW_C rfl kp ?_ | refine DW_ix tabOK rfl (ixN hx) ?_ | refine DW_ix tabOK rfl (⟨by decide, rfl⟩) ?_ | refine DW_row tabOK rfl ?_ | refine DW_app tabOK rfl rfl (by simp; omega) (by simp; omega) ?_ | refine DW_app0 tabOK rfl (by simp; omega) (by simp; omega) ?_ | refine W_draw mixed [0, 4, 8, 1, 2, 3, 12, 5, 6, 7, 9, 10, 11, 13] [.P, .R, .R, .P, .P, .R, .R, .P, .P, .R, .R, .P, .P, .P] rfl rfl (by kernel_rfl) ?_ | refine W_draw (id := 6) mixed [0, 3, 1, 2, 4, 5, 6, 7] [.P, .R, .R, .P, .R, .R, .P, .E] rfl rfl (by kernel_rfl) ?_ | refine W_draw (id := 10) mixed [2, 3, 4, 0, 1, 5, 6, 7] [.R, .R, .P, .P, .P, .E, .R, .E] rfl rfl (by kernel_rfl) ?_ | refine W_draw mixed [2, 5, 0, 1, 3, 4, 6, 7, 8, 9, 10, 11, 12] [.R, .R, .P, .R, .R, .P, .R, .R, .P, .P, .E, .R, .E] rfl rfl (by kernel_rfl) ?_ | refine W_draw mixed [2, 5, 8, 11, 0, 1, 3, 4, 6, 7, 9, 10, 12, 13, 14, 15, 16, 17, 18, 19] [.R, .R, .P, .R, .R, .P, .R, .R, .P, .R, .R, .P, .R, .R, .P, .P, .P, .E, .R, .E] rfl rfl (by kernel_rfl) ?_)
         refine ⟨h1, GF3 P3 (i + 1), GM3 a b acc g q g2 (u ++ [⟨x, y, z, v⟩]) (g3 + 1), ⟨u ++ [⟨x, y, z, v⟩], g3 + 1, ha2, rfl, rfl⟩, Joint.le ?_ ?_⟩
         ·unfold GF3 txA
          repeat (refine AF.le_cons rfl ?_)
          exact AF.le_nil rfl
         ·unfold GM3
          rw [eT]
          exact Mem.le_cons rfl (Mem.le_cons rfl (Mem.le_cons rfl (Mem.le_cons rfl (Mem.le_cons rfl (Mem.le_nil rfl)))))
       ·have d2 : decide ((i : Int) < (P3.length : Int)) = false := decide_eq_false (by omega)
        obtain rfl : i = P3.length := by omega
        rw [List.take_length] at hu
        have hO := bi ha hq hu
        have n1 := allO_len ha
        have n2 := allO_len hq
        have n3 := allO_len hu
        have ki := (dIs_ok ⟨a, b, acc, q, u⟩ ⟨by show acc.length < 1000; omega, fun p hp => by
         obtain ⟨t, ht, e⟩ := allO_mem ha p hp
         have h2 := pairO_inv e
         have h3 := hp1 t ht
         exact pair_small e h3, by show q.length < 1000; omega, by show u.length < 1000; omega⟩).sub (args := [.agg [.int .i64 a, .int .i64 b, .sl 3 (acc.map Pr.av) (.tok 2 g), .sl 2 (q.map Pn.av) (.tok 3 g2), .sl 4 (u.map Sn.av) (.tok 4 g3)]]) ⟨sub_sgT (s := ⟨a, b, acc, q, u⟩) (ta := .tok 2 g) (tb := .tok 3 g2) (tc := .tok 4 g3), trivial⟩
        cases hb : stateB ⟨a, b, acc, q, u⟩
        ·rw [hb] at ki hO
         rw [if_neg (by simp)] at hO
         unfold GM3
         repeat' (first | refine DW_VB tabs rfl d2 ?_ | refine DW_VI tabs rfl l3 ?_ | refine DW_A tabs rfl ?_ | refine DW_nil ?_ | refine W_A rfl ?_ | refine DW_C rfl ki ?_ | refine DW_T rfl rfl (mustF) ?_ | refine DW_row tabOK rfl ?_ | refine DW_app tabOK rfl rfl (by simp; omega) (by simp; omega) ?_ | refine DW_app0 tabOK rfl (by simp; omega) (by simp; omega) ?_ | refine W_draw mixed [0, 4, 8, 1, 2, 3, 12, 5, 6, 7, 9, 10, 11, 13] [.P, .R, .R, .P, .P, .R, .R, .P, .P, .R, .R, .P, .P, .P] rfl rfl (by kernel_rfl) ?_ | refine W_draw (id := 6) mixed [0, 3, 1, 2, 4, 5, 6, 7] [.P, .R, .R, .P, .R, .R, .P, .E] rfl rfl (by kernel_rfl) ?_ | refine W_draw (id := 10) mixed [2, 3, 4, 0, 1, 5, 6, 7] [.R, .R, .P, .P, .P, .E, .R, .E] rfl rfl (by kernel_rfl) ?_ | refine W_draw mixed [2, 5, 0, 1, 3, 4, 6, 7, 8, 9, 10, 11, 12] [.R, .R, .P, .R, .R, .P, .R, .R, .P, .P, .E, .R, .E] rfl rfl (by kernel_rfl) ?_ | refine W_draw mixed [2, 5, 8, 11, 0, 1, 3, 4, 6, 7, 9, 10, 12, 13, 14, 15, 16, 17, 18, 19] [.R, .R, .P, .R, .R, .P, .R, .R, .P, .R, .R, .P, .R, .R, .P, .P, .P, .E, .R, .E] rfl rfl (by kernel_rfl) ?_)
         exact gs_pan hO (Mem.le_cons rfl (Mem.le_cons rfl (Mem.le_nil rfl))) rfl rfl
        ·rw [hb] at ki hO
         rw [if_pos rfl] at hO
         unfold GM3
         repeat' (first | refine DW_VB tabs rfl d2 ?_ | refine DW_VI tabs rfl l3 ?_ | refine DW_A tabs rfl ?_ | refine DW_nil ?_ | refine W_A rfl ?_ | refine DW_C rfl ki ?_ | refine DW_C rfl kT ?_ | refine DW_row tabOK rfl ?_ | refine DW_app tabOK rfl rfl (by simp; omega) (by simp; omega) ?_ | refine DW_app0 tabOK rfl (by simp; omega) (by simp; omega) ?_ | refine W_draw mixed [0, 4, 8, 1, 2, 3, 12, 5, 6, 7, 9, 10, 11, 13] [.P, .R, .R, .P, .P, .R, .R, .P, .P, .R, .R, .P, .P, .P] rfl rfl (by kernel_rfl) ?_ | refine W_draw (id := 6) mixed [0, 3, 1, 2, 4, 5, 6, 7] [.P, .R, .R, .P, .R, .R, .P, .E] rfl rfl (by kernel_rfl) ?_ | refine W_draw (id := 10) mixed [2, 3, 4, 0, 1, 5, 6, 7] [.R, .R, .P, .P, .P, .E, .R, .E] rfl rfl (by kernel_rfl) ?_ | refine W_draw mixed [2, 5, 0, 1, 3, 4, 6, 7, 8, 9, 10, 11, 12] [.R, .R, .P, .R, .R, .P, .R, .R, .P, .P, .E, .R, .E] rfl rfl (by kernel_rfl) ?_ | refine W_draw mixed [2, 5, 8, 11, 0, 1, 3, 4, 6, 7, 9, 10, 12, 13, 14, 15, 16, 17, 18, 19] [.R, .R, .P, .R, .R, .P, .R, .R, .P, .R, .R, .P, .R, .R, .P, .P, .P, .E, .R, .E] rfl rfl (by kernel_rfl) ?_)
         exact gs_ret (s := ⟨a, b, acc, q, u⟩) hO (Mem.le_cons rfl (Mem.le_cons rfl (Mem.le_nil rfl))) rfl rfl
    ·have d1 : decide (((t0 :: r).length : Int) = 1 + (C : Int) + (D : Int) + (E : Int)) = false := decide_eq_false (by simp; omega)
     repeat' (first | refine DW_VB tabs rfl (by first | exact d0 | exact d1) ?_ | refine DW_VI tabs rfl (by first | exact la | exact f1 | exact f2 | exact f3) ?_ | refine DW_A tabs rfl ?_ | refine DW_nil ?_ | refine W_A rfl ?_ | refine DW_C rfl kT ?_ | refine DW_C rfl kr ?_ | refine DW_T rfl rfl (mustF) ?_ | refine DW_ix tabOK rfl (⟨by decide, rfl⟩) ?_ | refine DW_row tabOK rfl ?_ | refine DW_app tabOK rfl rfl (by simp; omega) (by simp; omega) ?_ | refine DW_app0 tabOK rfl (by simp; omega) (by simp; omega) ?_ | refine W_draw mixed [0, 4, 8, 1, 2, 3, 12, 5, 6, 7, 9, 10, 11, 13] [.P, .R, .R, .P, .P, .R, .R, .P, .P, .R, .R, .P, .P, .P] rfl rfl (by kernel_rfl) ?_ | refine W_draw (id := 6) mixed [0, 3, 1, 2, 4, 5, 6, 7] [.P, .R, .R, .P, .R, .R, .P, .E] rfl rfl (by kernel_rfl) ?_ | refine W_draw (id := 10) mixed [2, 3, 4, 0, 1, 5, 6, 7] [.R, .R, .P, .P, .P, .E, .R, .E] rfl rfl (by kernel_rfl) ?_ | refine W_draw mixed [2, 5, 0, 1, 3, 4, 6, 7, 8, 9, 10, 11, 12] [.R, .R, .P, .R, .R, .P, .R, .R, .P, .P, .E, .R, .E] rfl rfl (by kernel_rfl) ?_ | refine W_draw mixed [2, 5, 8, 11, 0, 1, 3, 4, 6, 7, 9, 10, 12, 13, 14, 15, 16, 17, 18, 19] [.R, .R, .P, .R, .R, .P, .R, .R, .P, .R, .R, .P, .R, .R, .P, .P, .P, .E, .R, .E] rfl rfl (by kernel_rfl) ?_)
     exact gs_pan (body_n1 hL) (Mem.le_cons rfl (Mem.le_cons rfl (Mem.le_nil rfl))) rfl rfl
end Go.Proofs.YtmgkebghojhocaaGreatDoor
