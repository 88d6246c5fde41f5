/- Parts of the proof, one behind the other: MetaD, StrA, MetaE, AbK1. No further condition. -/
import Derived.Test.YtmgkebghojhocaaGreatDoorQV13
import Derived.Test.YtmgkebghojhocaaGreatDoorQV09
import Derived.Shelf.Strings.IndexAnyAll
import Derived.Shelf.Small.Utf8
import Derived.Shelf.RegionOpenPlain
import Derived.Laws.RangeAny
import Derived.WalkMore
import Derived.Lib.OthersKept
set_option linter.unusedVariables false
set_option linter.unusedSimpArgs false
/- Metadata's bytes read by the code: Get. No further condition. -/
set_option linter.unusedVariables false
set_option linter.unusedSimpArgs false
namespace Go.Proofs.YtmgkebghojhocaaGreatDoor
open Go.Ab
def zeroC : List AV := [.int .i64 0, .int .i64 0, .sl 0 [] .full]
def resG (nx : Nat) (x y z : AV) (n : Int) : Mem := ⟨nx, [(0, .cells [x, y, z]), (1, .cells [.int .i64 n])]⟩
set_option maxRecDepth 100000 in
theorem catchG (nx : Nat) (x y z : AV) (n e : Int) : ACallsD Tryz.prog 131 [.ptr 0 0, .ptr 1 0] (.pan (errA e)) (resG nx x y z n) (fun m' M' => m' = .ret ∧ M'.get 0 = some (.cells zeroC) ∧ M'.get 1 = some (.cells [.int .i64 e])) := by
 refine acallsD_recover tabOK Tryz.func131 rfl (by decide) rfl rfl rfl rfl rfl (by simp [Tryz.f131]) ?_
 refine DW_assert tabOK rfl rfl rfl rfl rfl ?_
 repeat' (first | refine DW_A tabs rfl ?_ | refine DW_nil ?_ | refine W_A rfl ?_)
 exact ⟨rfl, ⟨_, rfl⟩, rfl, rfl⟩
set_option maxRecDepth 100000 in
theorem passG (nx : Nat) (x y z : AV) (n : Int) : ACallsD Tryz.prog 131 [.ptr 0 0, .ptr 1 0] .ret (resG nx x y z n) (fun m' M' => m' = .ret ∧ M'.get 0 = some (.cells [x, y, z]) ∧ M'.get 1 = some (.cells [.int .i64 n])) := by
 refine acallsD_recover tabOK Tryz.func131 rfl (by decide) rfl rfl rfl rfl rfl (by simp [Tryz.f131]) ?_
 refine DW_assert tabOK rfl rfl rfl rfl rfl ?_
 repeat' (first | refine DW_A tabs rfl ?_ | refine DW_nil ?_ | refine W_A rfl ?_)
 exact ⟨rfl, ⟨_, rfl⟩, rfl, rfl⟩
def getD : ADef := { f := .func 131, cap := [.ptr 0 0, .ptr 1 0], args := [], keep := [(2, .ptr 0 0), (3, .ptr 1 0)] }
abbrev getR (z : Mt × Int) : AEnd → Mem → Prop := fun e _ => ∃ x, e = .ret x ∧ SubC 0 x (gmA z)
theorem get_res {M : Mem} {x y z : AV} {n : Int} {t : List (Nat × AV)} (h2 : AF.get ⟨t, []⟩ 2 = .ptr 0 0) (h3 : AF.get ⟨t, []⟩ 3 = .ptr 1 0) (g0 : M.get 0 = some (.cells [x, y, z])) (g1 : M.get 1 = some (.cells [.int .i64 n])) :
  resA tab M ⟨t, []⟩ Tryz.f91.results = some (.tup [.agg [x, y, z], .int .i64 n]) := by
 have a1 : aloadM M tab 51 (.ptr 0 0) = some (.agg [x, y, z]) := by
  simp only [aloadM, g0]
  rfl
 have a2 : aloadM M tab 30 (.ptr 1 0) = some (.int .i64 n) := by
  simp only [aloadM, g1]
  rfl
 show resA tab M ⟨t, []⟩ #[.cell 2 51, .cell 3 30] = _
 simp only [resA, ress, resOf, h2, h3, a1, a2]
theorem get_pan {M : Mem} {x y z : AV} {n : Int} {t : List (Nat × AV)} {s : Bytes} (hs : getM s = (zeroMt, 30)) (h : (resG M.next x y z n).le M) (h2 : AF.get ⟨t, []⟩ 2 = .ptr 0 0) (h3 : AF.get ⟨t, []⟩ 3 = .ptr 1 0) : ALeaves Tryz.prog tab Tryz.f91 ⟨t, []⟩ (getR (getM s)) [getD] (.pan (errA 30)) M := by
 rw [hs]
 refine ⟨rfl, 131, rfl, ACallsD.le h (ACallsD.mono (catchG M.next x y z n 30) ?_)⟩
 rintro m' M' ⟨rfl, g0, g1⟩
 exact ⟨_, get_res h2 h3 g0 g1, _, rfl, SubC.tup2 sub_zero (SubC.of_closed closed_int)⟩
theorem get_ret {M : Mem} {m : Mt} {tg : Tag} {t : List (Nat × AV)} {s : Bytes} (hs : getM s = (m, 0)) (h : (resG M.next (.int .i64 m.size) (.int .i64 m.mode) (iA m.ch tg) 0).le M) (h2 : AF.get ⟨t, []⟩ 2 = .ptr 0 0) (h3 : AF.get ⟨t, []⟩ 3 = .ptr 1 0) : ALeaves Tryz.prog tab Tryz.f91 ⟨t, []⟩ (getR (getM s)) [getD] .ret M := by
 rw [hs]
 refine ⟨rfl, 131, rfl, ACallsD.le h (ACallsD.mono (passG M.next _ _ _ 0) ?_)⟩
 rintro m' M' ⟨rfl, g0, g1⟩
 exact ⟨_, get_res h2 h3 g0 g1, _, rfl, SubC.tup2 (SubC.pre (sub_mt (m := m) (t := tg)) (SubC.of_closed (closed_mt _))) (SubC.of_closed closed_int)⟩
def GN (a b : Nat) (m : List Nat) (q : Bytes) (g : Nat) : Mem := ⟨4, [(0, .cells [.int .i64 (a : Int), .int .i64 (b : Int), iA (nI m) (.tok 3 g)]), (1, .cells [.int .i64 0]), (2, .cells [.str q]), (3, .spare g)]⟩
def GF (c i : Nat) : AF := ⟨[(2, .ptr 0 0), (3, .ptr 1 0), (4, .ptr 2 0), (5, .fn (.func 132) [.ptr 2 0] []), (6, .int .i64 (c : Int)), (24, .int .i64 (c : Int)), (25, .int .i64 (i : Int))], [getD]⟩
set_option maxRecDepth 100000 in
set_option maxHeartbeats 8000000 in
theorem getM_ok (s : Bytes) (hs : s.length < 1000000) : APure Tryz.prog 91 [.str s] (gmA (getM s)) := by
 refine pure_sub (closed1 closed_str) (closed_gm _) ?_
 refine acalls_of_d tabOK Tryz.func91 rfl (by decide) (by simp [Tryz.f91]) ?_
 repeat' (first | refine DW_A tabs rfl ?_ | refine DW_nil ?_ | refine W_A rfl ?_ | refine DW_row tabOK rfl ?_ | refine DW_app tabOK rfl rfl (by simp; omega) (by simp; omega) ?_ | refine DW_app0 tabOK rfl (by simp; omega) (by simp; omega) ?_ | refine W_draw mixed [2, 3, 4, 0, 1, 5, 6, 7] [.R, .R, .P, .P, .P, .E, .R, .E] rfl rfl (by kernel_rfl) ?_)
 refine W_region ?_
 refine WL_P rfl rfl opP_func ?_
 refine WL_defer rfl rfl rfl rfl [(2, .ptr 0 0), (3, .ptr 1 0)] ?_ ?_
 ·intro p hp
  simp only [List.mem_cons, List.not_mem_nil, or_false] at hp
  rcases hp with rfl | rfl <;> rfl
 refine WL_nil ?_
 refine W.le (g := ⟨[(0, .str s), (2, .ptr 0 0), (3, .ptr 1 0)], [getD]⟩) (N := ⟨2, [(0, .cells zeroC), (1, .cells [.int .i64 0])]⟩) ?_ ?_ ?_
 ·repeat (refine AF.le_cons rfl ?_)
  exact AF.le_nil rfl
 ·exact Mem.le_cons rfl (Mem.le_cons rfl (Mem.le_nil rfl))
 have stop : ∀ {q : Bytes} {l : List Nat} {M : Mem} {x y z : AV} {n : Int} {t : List (Nat × AV)}, At s l q → getNum q = none → (∀ a b c m, l = a :: b :: c :: m → c ≠ m.length) → (resG M.next x y z n).le M → AF.get ⟨t, []⟩ 2 = .ptr 0 0 → AF.get ⟨t, []⟩ 3 = .ptr 1 0 → ALeaves Tryz.prog tab Tryz.f91 ⟨t, []⟩ (getR (getM s)) [getD] (.pan (errA 30)) M :=
  fun h hg hl => get_pan (getM_stop h hg hl)
 have a0 := at_nil s
 cases g0 : getNum s with
 | none =>
  repeat' (first | refine DW_box 10 tabOK rfl ?_ | refine DW_orow 10 tabOK rfl ?_ | refine DW_A tabs rfl ?_ | refine DW_nil ?_ | refine W_A rfl ?_ | refine DW_row tabOK rfl ?_ | refine DW_app tabOK rfl rfl (by simp; omega) (by simp; omega) ?_ | refine DW_app0 tabOK rfl (by simp; omega) (by simp; omega) ?_ | refine W_drawT mixed (.two [2] 0 3 (.two [] 1 3 (.fin [3, 4, 5, 6, 7]) (.fin [4, 1, 5, 6, 7])) (.fin [4, 0, 1, 5, 6, 7])) [.R, .R, .P, .E, .P, .E, .R, .E] rfl rfl (by kernel_rfl) ?_ | refine Both.mk ?_ ?_)
  refine DW_CM rfl rfl (reader_none g0 rfl (Nat.le_refl _) hs) ?_ ?_
  ·rintro u N ⟨h, _⟩
   cases h
  ·rintro u N ⟨h, rfl⟩
   cases h
   exact stop a0 g0 (by rintro a b c m h; cases h) (Mem.le_cons rfl (Mem.le_cons rfl (Mem.le_nil rfl))) rfl rfl
 | some p =>
  obtain ⟨a, r0⟩ := p
  have a1 := at_next a0 g0
  have l0 := (getNum_lt g0).1
  repeat' (first | refine DW_box 10 tabOK rfl ?_ | refine DW_orow 10 tabOK rfl ?_ | refine DW_A tabs rfl ?_ | refine DW_nil ?_ | refine W_A rfl ?_ | refine DW_row tabOK rfl ?_ | refine DW_app tabOK rfl rfl (by simp; omega) (by simp; omega) ?_ | refine DW_app0 tabOK rfl (by simp; omega) (by simp; omega) ?_ | refine W_drawT mixed (.two [2] 0 3 (.two [] 1 3 (.fin [3, 4, 5, 6, 7]) (.fin [4, 1, 5, 6, 7])) (.fin [4, 0, 1, 5, 6, 7])) [.R, .R, .P, .E, .P, .E, .R, .E] rfl rfl (by kernel_rfl) ?_ | refine Both.mk ?_ ?_)
  refine DW_CM rfl rfl (reader_some g0 rfl (Nat.le_refl _) hs) ?_ ?_
  rotate_left
  ·rintro u N ⟨h, _⟩
   cases h
  rintro u N ⟨h, rfl⟩
  cases h
  cases g1 : getNum r0 with
  | none =>
   repeat' (first | refine DW_box 10 tabOK rfl ?_ | refine DW_orow 10 tabOK rfl ?_ | refine DW_A tabs rfl ?_ | refine DW_nil ?_ | refine W_A rfl ?_ | refine DW_row tabOK rfl ?_ | refine DW_app tabOK rfl rfl (by simp; omega) (by simp; omega) ?_ | refine DW_app0 tabOK rfl (by simp; omega) (by simp; omega) ?_ | refine W_drawT mixed (.two [2] 0 3 (.two [] 1 3 (.fin [3, 4, 5, 6, 7]) (.fin [4, 1, 5, 6, 7])) (.fin [4, 0, 1, 5, 6, 7])) [.R, .R, .P, .E, .P, .E, .R, .E] rfl rfl (by kernel_rfl) ?_ | refine Both.mk ?_ ?_)
   refine DW_CM rfl rfl (reader_none g1 rfl (Nat.le_refl _) (by omega)) ?_ ?_
   ·rintro u N ⟨h, _⟩
    cases h
   ·rintro u N ⟨h, rfl⟩
    cases h
    exact stop a1 g1 (by rintro a b c m h; cases h) (Mem.le_cons rfl (Mem.le_cons rfl (Mem.le_nil rfl))) rfl rfl
  | some p =>
   obtain ⟨b, r1⟩ := p
   have a2 := at_next a1 g1
   have l1 := (getNum_lt g1).1
   repeat' (first | refine DW_box 10 tabOK rfl ?_ | refine DW_orow 10 tabOK rfl ?_ | refine DW_A tabs rfl ?_ | refine DW_nil ?_ | refine W_A rfl ?_ | refine DW_row tabOK rfl ?_ | refine DW_app tabOK rfl rfl (by simp; omega) (by simp; omega) ?_ | refine DW_app0 tabOK rfl (by simp; omega) (by simp; omega) ?_ | refine W_drawT mixed (.two [2] 0 3 (.two [] 1 3 (.fin [3, 4, 5, 6, 7]) (.fin [4, 1, 5, 6, 7])) (.fin [4, 0, 1, 5, 6, 7])) [.R, .R, .P, .E, .P, .E, .R, .E] rfl rfl (by kernel_rfl) ?_ | refine Both.mk ?_ ?_)
   refine DW_CM rfl rfl (reader_some g1 rfl (Nat.le_refl _) (by omega)) ?_ ?_
   rotate_left
   ·rintro u N ⟨h, _⟩
    cases h
   rintro u N ⟨h, rfl⟩
   cases h
   cases g2 : getNum r1 with
   | none =>
    repeat' (first | refine DW_box 10 tabOK rfl ?_ | refine DW_orow 10 tabOK rfl ?_ | refine DW_A tabs rfl ?_ | refine DW_nil ?_ | refine W_A rfl ?_ | refine DW_row tabOK rfl ?_ | refine DW_app tabOK rfl rfl (by simp; omega) (by simp; omega) ?_ | refine DW_app0 tabOK rfl (by simp; omega) (by simp; omega) ?_ | refine W_drawT mixed (.two [2] 0 3 (.two [] 1 3 (.fin [3, 4, 5, 6, 7]) (.fin [4, 1, 5, 6, 7])) (.fin [4, 0, 1, 5, 6, 7])) [.R, .R, .P, .E, .P, .E, .R, .E] rfl rfl (by kernel_rfl) ?_ | refine Both.mk ?_ ?_)
    refine DW_CM rfl rfl (reader_none g2 rfl (Nat.le_refl _) (by omega)) ?_ ?_
    ·rintro u N ⟨h, _⟩
     cases h
    ·rintro u N ⟨h, rfl⟩
     cases h
     exact stop a2 g2 (by rintro a b c m h; cases h) (Mem.le_cons rfl (Mem.le_cons rfl (Mem.le_nil rfl))) rfl rfl
   | some p =>
    obtain ⟨c, r2⟩ := p
    have a3 := at_next a2 g2
    have l2 := (getNum_lt g2).1
    repeat' (first | refine DW_box 10 tabOK rfl ?_ | refine DW_orow 10 tabOK rfl ?_ | refine DW_A tabs rfl ?_ | refine DW_nil ?_ | refine W_A rfl ?_ | refine DW_row tabOK rfl ?_ | refine DW_app tabOK rfl rfl (by simp; omega) (by simp; omega) ?_ | refine DW_app0 tabOK rfl (by simp; omega) (by simp; omega) ?_ | refine W_drawT mixed (.two [2] 0 3 (.two [] 1 3 (.fin [3, 4, 5, 6, 7]) (.fin [4, 1, 5, 6, 7])) (.fin [4, 0, 1, 5, 6, 7])) [.R, .R, .P, .E, .P, .E, .R, .E] rfl rfl (by kernel_rfl) ?_ | refine Both.mk ?_ ?_)
    refine DW_CM rfl rfl (reader_some g2 rfl (Nat.le_refl _) (by omega)) ?_ ?_
    rotate_left
    ·rintro u N ⟨h, _⟩
     cases h
    rintro u N ⟨h, rfl⟩
    cases h
    by_cases hc : 16 < c
    ·have d1 : decide ((16 : Int) < (c : Int)) = true := by simp; omega
     repeat' (first | refine DW_VB tabs rfl d1 ?_ | refine DW_box 10 tabOK rfl ?_ | refine DW_orow 10 tabOK rfl ?_ | refine DW_A tabs rfl ?_ | refine DW_nil ?_ | refine W_A rfl ?_ | refine DW_row tabOK rfl ?_ | refine DW_app tabOK rfl rfl (by simp; omega) (by simp; omega) ?_ | refine DW_app0 tabOK rfl (by simp; omega) (by simp; omega) ?_ | refine W_drawT mixed (.two [2] 0 3 (.two [] 1 3 (.fin [3, 4, 5, 6, 7]) (.fin [4, 1, 5, 6, 7])) (.fin [4, 0, 1, 5, 6, 7])) [.R, .R, .P, .E, .P, .E, .R, .E] rfl rfl (by kernel_rfl) ?_ | refine Both.mk ?_ ?_)
     refine DW_panic rfl rfl rfl rfl rfl ?_
     exact get_pan (getM_many a3 hc) (Mem.le_cons rfl (Mem.le_cons rfl (Mem.le_nil rfl))) rfl rfl
    ·have d1 : decide ((16 : Int) < (c : Int)) = false := by simp; omega
     repeat' (first | refine DW_VB tabs rfl d1 ?_ | refine DW_box 10 tabOK rfl ?_ | refine DW_orow 10 tabOK rfl ?_ | refine DW_A tabs rfl ?_ | refine DW_nil ?_ | refine W_A rfl ?_ | refine DW_row tabOK rfl ?_ | refine DW_app tabOK rfl rfl (by simp; omega) (by simp; omega) ?_ | refine DW_app0 tabOK rfl (by simp; omega) (by simp; omega) ?_ | refine W_drawT mixed (.two [2] 0 3 (.two [] 1 3 (.fin [3, 4, 5, 6, 7]) (.fin [4, 1, 5, 6, 7])) (.fin [4, 0, 1, 5, 6, 7])) [.R, .R, .P, .E, .P, .E, .R, .E] rfl rfl (by kernel_rfl) ?_ | refine Both.mk ?_ ?_)
     refine W_count c (fun i f N => ∃ m q g, m.length = i ∧ At s ([a, b, c] ++ m) q ∧ q.length ≤ s.length ∧ N = GN a b m q g ∧ f = GF c i) (Nat.zero_le _) ⟨[], r2, 0, rfl, a3, by omega, rfl, rfl⟩ ((Joint.tokM 0 2 rfl rfl (sz' := 1) (.inr rfl)).trans (Joint.le ?_ (Mem.le_cons rfl (Mem.le_cons rfl (Mem.le_cons rfl (Mem.le_cons rfl (Mem.le_nil rfl))))))) ?_
     ·unfold GF
      repeat (refine AF.le_cons rfl ?_)
      exact AF.le_nil rfl
     rintro i f N hi ⟨m, q, g, rfl, am, lq, rfl, rfl⟩
     unfold GF
     by_cases h1 : m.length < c
     ·have d2 : decide ((m.length : Int) < (c : Int)) = true := by simp; omega
      have fi := wrap_succ (i := m.length) (by omega)
      have lq2 : q.length < 1000000 := by omega
      have hml : m.length < 1000000 := by omega
      cases hg : getNum q with
      | none =>
       repeat' (first | refine DW_VB tabs rfl d2 ?_ | refine DW_VI tabs rfl fi ?_ | refine DW_box 10 tabOK rfl ?_ | refine DW_orow 10 tabOK rfl ?_ | refine DW_A tabs rfl ?_ | refine DW_nil ?_ | refine W_A rfl ?_ | refine DW_row tabOK rfl ?_ | refine DW_app tabOK rfl rfl (by simp; omega) (by simp; omega) ?_ | refine DW_app0 tabOK rfl (by simp; omega) (by simp; omega) ?_ | refine W_drawT mixed (.two [2] 0 3 (.two [] 1 3 (.fin [3, 4, 5, 6, 7]) (.fin [4, 1, 5, 6, 7])) (.fin [4, 0, 1, 5, 6, 7])) [.R, .R, .P, .E, .P, .E, .R, .E] rfl rfl (by kernel_rfl) ?_ | refine Both.mk ?_ ?_)
       all_goals
        refine DW_CM rfl rfl (reader_none hg rfl (Nat.le_succ _) lq2) ?_ ?_
        ·rintro u N ⟨h, _⟩
         cases h
        ·rintro u N ⟨h, rfl⟩
         cases h
         exact stop am hg (by rintro a' b' c' m' h; simp at h; obtain ⟨_, _, rfl, rfl⟩ := h; omega) (Mem.le_cons rfl (Mem.le_cons rfl (Mem.le_nil rfl))) rfl rfl
      | some p =>
       obtain ⟨n, r⟩ := p
       have am2 := at_next am hg
       have lr := (getNum_lt hg).1
       have eT : AV.sl 1 ((nI (m ++ [n])).map fun n => AV.int .i64 n) (.tok 3 (g + 1)) = .sl 1 (((nI m).map fun n => AV.int .i64 n) ++ [.int .i64 (n : Int)]) (.tok 3 (g + 1)) := by simp [nI]
       repeat' (first | refine DW_VB tabs rfl d2 ?_ | refine DW_VI tabs rfl fi ?_ | refine DW_box 10 tabOK rfl ?_ | refine DW_orow 10 tabOK rfl ?_ | refine DW_A tabs rfl ?_ | refine DW_nil ?_ | refine W_A rfl ?_ | refine DW_row tabOK rfl ?_ | refine DW_app tabOK rfl rfl (by simp; omega) (by simp; omega) ?_ | refine DW_app0 tabOK rfl (by simp; omega) (by simp; omega) ?_ | refine W_drawT mixed (.two [2] 0 3 (.two [] 1 3 (.fin [3, 4, 5, 6, 7]) (.fin [4, 1, 5, 6, 7])) (.fin [4, 0, 1, 5, 6, 7])) [.R, .R, .P, .E, .P, .E, .R, .E] rfl rfl (by kernel_rfl) ?_ | refine Both.mk ?_ ?_)
       all_goals
        refine DW_CM rfl rfl (reader_some hg rfl (Nat.le_succ _) lq2) ?_ ?_
        rotate_left
        ·rintro u N ⟨h, _⟩
         cases h
        rintro u N ⟨h, rfl⟩
        cases h
        repeat' (first | refine DW_VB tabs rfl d2 ?_ | refine DW_VI tabs rfl fi ?_ | refine DW_box 10 tabOK rfl ?_ | refine DW_orow 10 tabOK rfl ?_ | refine DW_A tabs rfl ?_ | refine DW_nil ?_ | refine W_A rfl ?_ | refine DW_row tabOK rfl ?_ | refine DW_app tabOK rfl rfl (by simp; omega) (by simp; omega) ?_ | refine DW_app0 tabOK rfl (by simp; omega) (by simp; omega) ?_ | refine W_drawT mixed (.two [2] 0 3 (.two [] 1 3 (.fin [3, 4, 5, 6, 7]) (.fin [4, 1, 5, 6, 7])) (.fin [4, 0, 1, 5, 6, 7])) [.R, .R, .P, .E, .P, .E, .R, .E] rfl rfl (by kernel_rfl) ?_ | refine Both.mk ?_ ?_)
        refine ⟨h1, _, _, ⟨m ++ [n], r, g + 1, by simp, (by simpa using am2), by omega, rfl, rfl⟩, Joint.le ?_ ?_⟩
        ·skip
         repeat (refine AF.le_cons rfl ?_)
         exact AF.le_nil rfl
        ·unfold GN iA
         rw [eT]
         exact Mem.le_cons rfl (Mem.le_cons rfl (Mem.le_cons rfl (Mem.le_cons rfl (Mem.le_nil rfl))))
     ·have d2 : decide ((m.length : Int) < (c : Int)) = false := by simp; omega
      have hml : m.length = c := by omega
      by_cases hq : q = []
      ·subst hq
       have d3 : (!(([] : Bytes) == [])) = false := rfl
       have km := (mIs_ok ⟨a, b, nI m⟩ (by simp; omega)).sub (args := [Mt.avT ⟨a, b, nI m⟩ (.tok 3 g)]) ⟨sub_mt, trivial⟩
       have he := getM_end am
       cases hm : isM ⟨a, b, nI m⟩
       ·rw [hm] at km
        repeat' (first | refine DW_VB tabs rfl (by first | exact d2 | exact d3) ?_ | refine DW_box 10 tabOK rfl ?_ | refine DW_orow 10 tabOK rfl ?_ | refine DW_A tabs rfl ?_ | refine DW_nil ?_ | refine W_A rfl ?_ | refine DW_C rfl km ?_ | refine DW_row tabOK rfl ?_ | refine DW_app tabOK rfl rfl (by simp; omega) (by simp; omega) ?_ | refine DW_app0 tabOK rfl (by simp; omega) (by simp; omega) ?_ | refine W_drawT mixed (.two [2] 0 3 (.two [] 1 3 (.fin [3, 4, 5, 6, 7]) (.fin [4, 1, 5, 6, 7])) (.fin [4, 0, 1, 5, 6, 7])) [.R, .R, .P, .E, .P, .E, .R, .E] rfl rfl (by kernel_rfl) ?_ | refine Both.mk ?_ ?_)
        refine DW_panic rfl rfl rfl rfl rfl ?_
        exact get_pan (he.trans (getMo_no (fun _ => hm))) (Mem.le_cons rfl (Mem.le_cons rfl (Mem.le_nil rfl))) rfl rfl
       ·rw [hm] at km
        repeat' (first | refine DW_VB tabs rfl (by first | exact d2 | exact d3) ?_ | refine DW_box 10 tabOK rfl ?_ | refine DW_orow 10 tabOK rfl ?_ | refine DW_A tabs rfl ?_ | refine DW_nil ?_ | refine W_A rfl ?_ | refine DW_C rfl km ?_ | refine DW_row tabOK rfl ?_ | refine DW_app tabOK rfl rfl (by simp; omega) (by simp; omega) ?_ | refine DW_app0 tabOK rfl (by simp; omega) (by simp; omega) ?_ | refine W_drawT mixed (.two [2] 0 3 (.two [] 1 3 (.fin [3, 4, 5, 6, 7]) (.fin [4, 1, 5, 6, 7])) (.fin [4, 0, 1, 5, 6, 7])) [.R, .R, .P, .E, .P, .E, .R, .E] rfl rfl (by kernel_rfl) ?_ | refine Both.mk ?_ ?_)
        exact get_ret (tg := .tok 3 g) (he.trans (getMo_yes hml.symm hm)) (Mem.le_cons rfl (Mem.le_cons rfl (Mem.le_nil rfl))) rfl rfl
      ·have d3 : (!(q == [])) = true := by simp [hq]
       repeat' (first | refine DW_VB tabs rfl (by first | exact d2 | exact d3) ?_ | refine DW_box 10 tabOK rfl ?_ | refine DW_orow 10 tabOK rfl ?_ | refine DW_A tabs rfl ?_ | refine DW_nil ?_ | refine W_A rfl ?_ | refine DW_row tabOK rfl ?_ | refine DW_app tabOK rfl rfl (by simp; omega) (by simp; omega) ?_ | refine DW_app0 tabOK rfl (by simp; omega) (by simp; omega) ?_ | refine W_drawT mixed (.two [2] 0 3 (.two [] 1 3 (.fin [3, 4, 5, 6, 7]) (.fin [4, 1, 5, 6, 7])) (.fin [4, 0, 1, 5, 6, 7])) [.R, .R, .P, .E, .P, .E, .R, .E] rfl rfl (by kernel_rfl) ?_ | refine Both.mk ?_ ?_)
       refine DW_panic rfl rfl rfl rfl rfl ?_
       exact get_pan (getM_more am hml.symm hq) (Mem.le_cons rfl (Mem.le_cons rfl (Mem.le_nil rfl))) rfl rfl
end Go.Proofs.YtmgkebghojhocaaGreatDoor
/- strings.HasPrefix tells what its text says. No further condition. -/
set_option linter.unusedVariables false
set_option linter.unusedSimpArgs false
namespace Go.Proofs.YtmgkebghojhocaaGreatDoor
open Go.Ab
def hasPre (s p : Bytes) : Bool := decide (p.length ≤ s.length) && (s.take p.length == p)
set_option maxRecDepth 100000 in
theorem litePrefix_ok (s p : Bytes) : APure Tryz.prog 161 [.str s, .str p] (.bool (hasPre s p)) := by
 intro M
 refine acalls_of tabOK Tryz.func161 rfl (by decide) (by simp [Tryz.f161]) ?_
 unfold hasPre
 by_cases h : p.length ≤ s.length
 ·have d1 : decide ((p.length : Int) ≤ (s.length : Int)) = true := by simp; omega
  have e1 : decide (p.length ≤ s.length) = true := by simp [h]
  rw [e1]
  repeat' (first | refine DW_VB tabs rfl d1 ?_ | refine DW_A tabs rfl ?_ | refine DW_nil ?_ | refine W_A rfl ?_)
  refine DW_substr tabOK rfl rfl rfl rfl rfl rfl rfl rfl rfl (Int.le_refl 0) (Int.natCast_nonneg _) (by omega) ?_
  repeat' (first | refine DW_A tabs rfl ?_ | refine DW_nil ?_ | refine W_A rfl ?_)
  exact ⟨rfl, _, rfl, ret_bool (by simp), rfl⟩
 ·have d1 : decide ((p.length : Int) ≤ (s.length : Int)) = false := by simp; omega
  have e1 : decide (p.length ≤ s.length) = false := by simp [h]
  rw [e1]
  repeat' (first | refine DW_VB tabs rfl d1 ?_ | refine DW_A tabs rfl ?_ | refine DW_nil ?_ | refine W_A rfl ?_)
  exact ⟨rfl, _, rfl, rfl, rfl⟩
set_option maxRecDepth 100000 in
theorem hasPrefix_ok (s p : Bytes) : APure Tryz.prog 181 [.str s, .str p] (.bool (hasPre s p)) := by
 intro M
 refine acalls_of tabOK Tryz.func181 rfl (by decide) (by simp [Tryz.f181]) ?_
 repeat' (first | refine DW_A tabs rfl ?_ | refine DW_nil ?_ | refine W_A rfl ?_)
 refine DW_pure rfl rfl rfl rfl rfl (litePrefix_ok s p) ?_
 repeat' (first | refine DW_A tabs rfl ?_ | refine DW_nil ?_ | refine W_A rfl ?_)
 exact ⟨rfl, _, rfl, rfl, rfl⟩
end Go.Proofs.YtmgkebghojhocaaGreatDoor
/- Metadata's values read by the code. No further condition. -/
set_option linter.unusedVariables false
set_option linter.unusedSimpArgs false
namespace Go.Proofs.YtmgkebghojhocaaGreatDoor
open Go.Ab
def cutA (s p : Bytes) : AV := .tup [.str (if hasPre s p = true then s.drop p.length else s), .bool (hasPre s p)]
set_option maxRecDepth 100000 in
set_option maxHeartbeats 8000000 in
theorem liteCut_ok (s p : Bytes) : APure Tryz.prog 130 [.str s, .str p] (cutA s p) := by
 intro M
 refine acalls_of tabOK Tryz.func130 rfl (by decide) (by simp [Tryz.f130]) ?_
 have kp := litePrefix_ok s p
 unfold cutA
 cases h : hasPre s p
 ·rw [h] at kp
  rw [if_neg (by simp)]
  repeat' (first | refine DW_A tabs rfl ?_ | refine DW_nil ?_ | refine W_A rfl ?_ | refine DW_C rfl kp ?_)
  exact ⟨rfl, _, rfl, rfl, rfl⟩
 ·rw [h] at kp
  rw [if_pos rfl]
  have hl : p.length ≤ s.length := by
   simp [hasPre] at h
   exact h.1
  have s1 : (0 : Int) ≤ (p.length : Int) ∧ (p.length : Int) ≤ (s.length : Int) ∧ (s.length : Int) ≤ (s.length : Int) ∧ (s.take (s.length : Int).toNat).drop (p.length : Int).toNat = s.drop p.length := by
   refine ⟨by omega, by omega, Int.le_refl _, ?_⟩
   rw [Int.toNat_natCast, Int.toNat_natCast, List.take_length]
  repeat' (first | refine DW_A tabs rfl ?_ | refine DW_nil ?_ | refine W_A rfl ?_ | refine DW_C rfl kp ?_ | refine DW_sub tabOK rfl (s1) ?_)
  exact ⟨rfl, _, rfl, rfl, rfl⟩
set_option maxRecDepth 100000 in
set_option maxHeartbeats 8000000 in
theorem cut_ok (s p : Bytes) : APure Tryz.prog 90 [.str s, .str p] (cutA s p) := by
 intro M
 refine acalls_of tabOK Tryz.func90 rfl (by decide) (by simp [Tryz.f90]) ?_
 have kp := liteCut_ok s p
 unfold cutA at kp ⊢
 repeat' (first | refine DW_A tabs rfl ?_ | refine DW_nil ?_ | refine W_A rfl ?_ | refine DW_C rfl kp ?_)
 exact ⟨rfl, _, rfl, rfl, rfl⟩
set_option maxRecDepth 100000 in
set_option maxHeartbeats 8000000 in
theorem read_ok (v : Bytes) (hv : v.length < 1000000) : APure Tryz.prog 31 [.str v] (rmA (readM v)) := by
 refine pure_sub (closed1 closed_str) (closed_rm _) ?_
 refine acalls_of tabOK Tryz.func31 rfl (by decide) (by simp [Tryz.f31]) ?_
 have kc := cut_ok v [1]
 cases v with
 | nil =>
  have d1 : (([] : Bytes) == [0]) = false := rfl
  unfold cutA at kc
  repeat' (first | refine DW_VB tabs rfl d1 ?_ | refine DW_A tabs rfl ?_ | refine DW_nil ?_ | refine W_A rfl ?_ | refine DW_C rfl kc ?_)
  exact ⟨rfl, _, rfl, _, rfl, SubC.tup3 sub_zero (SubC.of_closed closed_bool) (SubC.of_closed closed_int)⟩
 | cons c r =>
  by_cases h0 : c = 0 ∧ r = []
  ·obtain ⟨rfl, rfl⟩ := h0
   have d1 : (([0] : Bytes) == [0]) = true := rfl
   repeat' (first | refine DW_VB tabs rfl d1 ?_ | refine DW_A tabs rfl ?_ | refine DW_nil ?_ | refine W_A rfl ?_)
   exact ⟨rfl, _, rfl, _, rfl, SubC.tup3 sub_zero (SubC.of_closed closed_bool) (SubC.of_closed closed_int)⟩
  ·have d1 : ((c :: r : Bytes) == [0]) = false := by
    rw [beq_eq_false_iff_ne]
    intro h
    cases h
    exact h0 ⟨rfl, rfl⟩
   by_cases h1 : c = 1
   ·subst h1
    have e : readM (1 :: r) = ((getM r).1, false, (getM r).2) := by
     show (if (1 : UInt8) = 0 ∧ r = [] then (zeroMt, true, (0 : Int)) else if (1 : UInt8) = 1 then ((getM r).1, false, (getM r).2) else (zeroMt, false, 30)) = _
     rw [if_neg h0, if_pos rfl]
    have kr := getM_ok r (by simp at hv; omega)
    have hp : hasPre (1 :: r) [1] = true := by simp [hasPre]
    unfold cutA at kc
    rw [if_pos hp, hp] at kc
    rw [e]
    generalize getM r = x at kr
    obtain ⟨m, e⟩ := x
    repeat' (first | refine DW_VB tabs rfl d1 ?_ | refine DW_A tabs rfl ?_ | refine DW_nil ?_ | refine W_A rfl ?_ | refine DW_C rfl kc ?_ | refine DW_C rfl kr ?_)
    exact ⟨rfl, _, rfl, _, rfl, SubC.of_closed (closed_rm (m, false, e))⟩
   ·have hp : hasPre (c :: r) [1] = false := by simp [hasPre, h1]
    unfold cutA at kc
    rw [if_neg (by rw [hp]; simp), hp] at kc
    have e : readM (c :: r) = (zeroMt, false, 30) := (if_neg h0).trans (if_neg h1)
    rw [e]
    repeat' (first | refine DW_VB tabs rfl d1 ?_ | refine DW_A tabs rfl ?_ | refine DW_nil ?_ | refine W_A rfl ?_ | refine DW_C rfl kc ?_)
    exact ⟨rfl, _, rfl, _, rfl, SubC.tup3 sub_zero (SubC.of_closed closed_bool) (SubC.of_closed closed_int)⟩
end Go.Proofs.YtmgkebghojhocaaGreatDoor
/- strings.IndexRune and strings.IndexAny at the two bytes "/" and 0, of any text. No further condition. -/
set_option linter.unusedVariables false
set_option linter.unusedSimpArgs false
namespace Go.Ab
open Go.Shelf Go.RowKit Go.Lib Go.Proofs
variable {P : Program} {ρ : Ren}
theorem encode_two (r : Int) (h0 : 128 ≤ r) (h1 : r ≤ 2047) : Utf8.encode r = ⟨#[UInt8.ofNat (0xC0 + r.toNat / 64), UInt8.ofNat (0x80 + r.toNat % 64)]⟩ := by
 unfold Utf8.encode
 have hv : Utf8.valid r = true := by simp [Utf8.valid]; omega
 simp only [hv, if_true]
 rw [if_neg (by omega), if_pos (by omega)]
theorem encode_long (r : Int) (h0 : 2048 ≤ r) (hv : Utf8.valid r = true) : ∃ s : ByteArray, Utf8.encode r = s ∧ 3 ≤ s.size ∧ s.size ≤ 4 := by
 refine ⟨_, rfl, ?_⟩
 unfold Utf8.encode
 simp only [hv, if_true]
 rw [if_neg (by omega), if_neg (by omega)]
 split
 ·exact ⟨Nat.le_refl 3, by show 3 ≤ 4; omega⟩
 ·exact ⟨by show 3 ≤ 4; omega, Nat.le_refl 4⟩
theorem conv_rune {src dst : TypeId} (hs : P.underlying src = some (.int .i32)) (hd : P.underlying dst = some .string) (r : Int) (w : World) :
  (convert src dst (.int .i32 r)).run P w = .ok (.string (Utf8.encode r)) w := by
 simp [convert, run_underlying hs, run_underlying hd, Conv.intToString]
theorem below_dn (w : World) (n : Nat) : Below w.heap.size w (w.drewN n) := ⟨rfl, rfl, rfl, Nat.le_refl _, fun _ _ => rfl⟩
set_option maxHeartbeats 4000000 in
set_option maxRecDepth 1000000 in
theorem indexRune_two (L : Lays.n152 P ρ) (r : Int) (w : World) (h0 : 128 ≤ r) (h1 : r ≤ 2047) :
  Calls P (ρ.f 152) #[.string ⟨#[47, 0]⟩, .int .i32 r] w fun e w' => e = .returned (.int .i64 (-1)) ∧ Below w.heap.size w w' := by
 have mixed := L.mixed
 have t3 := L.t3; have a3 := L.a3; have z3 := L.z3; have v3 := L.v3
 have t4 := L.t4; have a4 := L.a4; have z4 := L.z4; have v4 := L.v4
 have t5 := L.t5; have a5 := L.a5; have z5 := L.z5; have v5 := L.v5
 have t9 := L.t9; have a9 := L.a9; have z9 := L.z9; have v9 := L.v9
 have t21 := L.t21; have a21 := L.a21; have z21 := L.z21; have v21 := L.v21
 have e119 : ∀ args w, (callFunc (ρ.f 119) args).run P w = .ok (.enter (ρ.f 119) args) w := enters_of L.f119 (by kernel_rfl) rfl
 have e137 : ∀ args w, (callFunc (ρ.f 137) args).run P w = .ok (.enter (ρ.f 137) args) w := enters_of L.f137 (by kernel_rfl) rfl
 have g1 : decide (r < 128) = false := by simp; omega
 have g2 : (r == 65533) = false := by simp; omega
 have g3 : Lib.validRune r = true := by simp [Lib.validRune]; omega
 have hc := fun w => conv_rune (P := P) t21 t9 r w
 obtain ⟨b, hb, hbn⟩ : ∃ b : UInt8, UInt8.ofNat (0x80 + r.toNat % 64) = b ∧ b ≠ 0 := by
  refine ⟨_, rfl, fun h => ?_⟩
  have := congrArg UInt8.toNat h
  simp at this
  omega
 obtain ⟨a, ha⟩ : ∃ a : UInt8, UInt8.ofNat (0xC0 + r.toNat / 64) = a := ⟨_, rfl⟩
 rw [encode_two r h0 h1, hb, ha] at hc
 clear hb ha
 have hne : ((((⟨#[47, 0]⟩ : ByteArray)[1]'(by decide)).toNat : Int) != (((⟨#[a, b]⟩ : ByteArray)[1]'(by show 1 < 2; decide)).toNat : Int)) = true := by
  simp only [bne_iff_ne, ne_eq]
  intro h
  apply hbn
  apply UInt8.toNat_inj.1
  have h' : ((0 : UInt8).toNat : Int) = (b.toNat : Int) := h
  omega
 go_enter L.f152, Body.n152_ntmps ρ
 go_wp2_with (first | (go_at_fn (ρ.f 119); refine (Any.utf8_ValidRune { L with } _ _).mono ?_; rintro e w' ⟨rfl, hw⟩; rw [hw, g3]; clear hw))
 go_step3
 go_wp2
 apply wp_loop_once
 go_wp2
 go_step3
 go_wp2
 go_region_o
 all_goals go_wp2
 all_goals go_region_with_o (go_at_fn (ρ.f 137); refine (Any.strings_IndexByte { L with } _ _ _).mono ?_; rintro e w' ⟨rfl, hw⟩; rw [hw])
 all_goals go_wp2
 all_goals (change bodyPost P (Body.n152 ρ) (fun e w' => e = .returned (.int .i64 (-1)) ∧ Below w.heap.size w w') Exit.ret _ _; go_ret)
 all_goals exact ⟨rfl, below_dn w 2⟩
set_option maxHeartbeats 4000000 in
set_option maxRecDepth 1000000 in
theorem indexRune_long (L : Lays.n152 P ρ) (r : Int) (w : World) (h0 : 2048 ≤ r) (hv : Utf8.valid r = true) (hne : r ≠ 65533) :
  Calls P (ρ.f 152) #[.string ⟨#[47, 0]⟩, .int .i32 r] w fun e w' => e = .returned (.int .i64 (-1)) ∧ Below w.heap.size w w' := by
 have mixed := L.mixed
 have t3 := L.t3; have a3 := L.a3; have z3 := L.z3; have v3 := L.v3
 have t4 := L.t4; have a4 := L.a4; have z4 := L.z4; have v4 := L.v4
 have t5 := L.t5; have a5 := L.a5; have z5 := L.z5; have v5 := L.v5
 have t9 := L.t9; have a9 := L.a9; have z9 := L.z9; have v9 := L.v9
 have t21 := L.t21; have a21 := L.a21; have z21 := L.z21; have v21 := L.v21
 have e119 : ∀ args w, (callFunc (ρ.f 119) args).run P w = .ok (.enter (ρ.f 119) args) w := enters_of L.f119 (by kernel_rfl) rfl
 have g1 : decide (r < 128) = false := by simp; omega
 have g2 : (r == 65533) = false := by simpa using hne
 have g3 : Lib.validRune r = true := by
  simp [Utf8.valid] at hv
  simp [Lib.validRune]
  omega
 have hc := fun w => conv_rune (P := P) t21 t9 r w
 obtain ⟨s, hs, hl, hl4⟩ := encode_long r h0 hv
 rw [hs] at hc
 have g5 : wrap64 ((s.size : Int) - 1) = (s.size : Int) - 1 := by
  rcases (by omega : s.size = 3 ∨ s.size = 4) with h | h <;> rw [h] <;> simp [wrap64]
 have g4 : decide ((s.size : Int) - 1 < 2) = false := by simp; omega
 go_enter L.f152, Body.n152_ntmps ρ
 go_wp2_with (first | (go_at_fn (ρ.f 119); refine (Any.utf8_ValidRune { L with } _ _).mono ?_; rintro e w' ⟨rfl, hw⟩; rw [hw, g3]; clear hw))
 go_step3
 go_wp2
 apply wp_loop_once
 go_wp2
 (change bodyPost P (Body.n152 ρ) (fun e w' => e = .returned (.int .i64 (-1)) ∧ Below w.heap.size w w') Exit.ret _ _; go_ret)
 exact ⟨rfl, Below.refl _ _⟩
set_option maxHeartbeats 4000000 in
set_option maxRecDepth 1000000 in
theorem indexRune_bad (L : Lays.n152 P ρ) (r : Int) (w : World) (h0 : 2048 ≤ r) (hv : Lib.validRune r = false) :
  Calls P (ρ.f 152) #[.string ⟨#[47, 0]⟩, .int .i32 r] w fun e w' => e = .returned (.int .i64 (-1)) ∧ Below w.heap.size w w' := by
 have mixed := L.mixed
 have t3 := L.t3; have a3 := L.a3; have z3 := L.z3; have v3 := L.v3
 have t4 := L.t4; have a4 := L.a4; have z4 := L.z4; have v4 := L.v4
 have t9 := L.t9; have a9 := L.a9; have z9 := L.z9; have v9 := L.v9
 have t21 := L.t21; have a21 := L.a21; have z21 := L.z21; have v21 := L.v21
 have e119 : ∀ args w, (callFunc (ρ.f 119) args).run P w = .ok (.enter (ρ.f 119) args) w := enters_of L.f119 (by kernel_rfl) rfl
 have g1 : decide (r < 128) = false := by simp; omega
 have g2 : (r == 65533) = false := by
  simp
  rintro rfl
  cases hv
 go_enter L.f152, Body.n152_ntmps ρ
 go_wp2_with (first | (go_at_fn (ρ.f 119); refine (Any.utf8_ValidRune { L with } _ _).mono ?_; rintro e w' ⟨rfl, hw⟩; rw [hw, hv]; clear hw))
 all_goals go_ret
 all_goals exact ⟨rfl, Below.refl _ _⟩
theorem iter_below (w : World) (s : ByteArray) (p : Nat) : Below w.heap.size w (w.iter s p) := (Below.refl _ _).alloc (Nat.le_refl _) _
set_option maxHeartbeats 4000000 in
set_option maxRecDepth 1000000 in
theorem indexRune_err (L : Lays.n152 P ρ) (w : World) :
  Calls P (ρ.f 152) #[.string ⟨#[47, 0]⟩, .int .i32 65533] w fun e w' => e = .returned (.int .i64 (-1)) ∧ Below w.heap.size w w' := by
 have mixed := L.mixed
 have t3 := L.t3; have a3 := L.a3; have z3 := L.z3; have v3 := L.v3
 have t4 := L.t4; have a4 := L.a4; have z4 := L.z4; have v4 := L.v4
 have t9 := L.t9; have a9 := L.a9; have z9 := L.z9; have v9 := L.v9
 have t21 := L.t21; have a21 := L.a21; have z21 := L.z21; have v21 := L.v21
 go_enter L.f152, Body.n152_ntmps ρ
 go_wp2
 go_loopg [5, 6] 2 (fun g _ _ wx => ∃ i : Nat, i + g = 2 ∧ wx = w.iter ⟨#[47, 0]⟩ i)
 case atStart => exact ⟨0, rfl, rfl⟩
 case round =>
  obtain ⟨i, hig, rfl⟩ := hrel
  cases gk with
  | zero =>
   obtain rfl : i = 2 := by omega
   have hnx := run_next_end (P := P) w ⟨#[47, 0]⟩ 2
   go_wp2
   go_ret
   exact ⟨rfl, iter_below _ _ _⟩
  | succ g =>
   have hi : i < (⟨#[47, 0]⟩ : ByteArray).size := by show i < 2; omega
   have hx : (((⟨#[47, 0]⟩ : ByteArray)[i]'hi).toNat : Nat) < 128 := by
    rcases (by omega : i = 0 ∨ i = 1) with rfl | rfl
    ·show (47 : UInt8).toNat < 128
     decide
    ·show (0 : UInt8).toNat < 128
     decide
   have hnx := fun ty => run_next_ascii (P := P) w ⟨#[47, 0]⟩ i ty hi hx
   obtain ⟨x, hxe⟩ : ∃ x : Nat, ((⟨#[47, 0]⟩ : ByteArray)[i]'hi).toNat = x := ⟨_, rfl⟩
   rw [hxe] at hnx hx
   have g2 : ((x : Int) == 65533) = false := by simp; omega
   go_wp2
   go_roundg g
   case measure => omega
   case rel => exact ⟨i + 1, by omega, rfl⟩
theorem indexRune_high (L : Lays.n152 P ρ) (r : Int) (w : World) (h0 : 128 ≤ r) :
  Calls P (ρ.f 152) #[.string ⟨#[47, 0]⟩, .int .i32 r] w fun e w' => e = .returned (.int .i64 (-1)) ∧ Below w.heap.size w w' := by
 by_cases h1 : r ≤ 2047
 ·exact indexRune_two L r w h0 h1
 by_cases h2 : r = 65533
 ·subst h2
  exact indexRune_err L w
 cases hv : Lib.validRune r with
 | false => exact indexRune_bad L r w (by omega) hv
 | true =>
  refine indexRune_long L r w (by omega) ?_ h2
  simp [Lib.validRune] at hv
  simp [Utf8.valid]
  omega
theorem get_data (s : ByteArray) (i : Nat) (h : i < s.size) {b : UInt8} (hb : s.data.toList[i]? = some b) : s.get! i = b := by
 have h1 := get_at s i h
 have h2 := Lib.data_getElem? s i h
 rw [hb] at h2
 cases h2
 simpa using h1
/-- A step over a character that is no ASCII: all its bytes are high ones. -/
theorem decode_skip (s : ByteArray) (pos : Nat) (h : pos < s.size) (ha : 128 ≤ (s[pos]'h).toNat) :
  pos + (Utf8.decode s pos).2 ≤ s.size ∧ ∀ (j : Nat) (b : UInt8), pos ≤ j → j < pos + (Utf8.decode s pos).2 → s.data.toList[j]? = some b → 128 ≤ b.toNat := by
 have h0 : (s.get! (pos + 0)).toNat = (s[pos]'h).toNat := congrArg UInt8.toNat (get_at s pos h)
 have hn : ¬ (s[pos]'h).toNat < 128 := by omega
 have base : ∀ b : UInt8, s.data.toList[pos]? = some b → 128 ≤ b.toNat := by
  intro b hb
  have := get_data s pos h hb
  rw [← this]
  show 128 ≤ (s.get! (pos + 0)).toNat
  omega
 have one : pos + 1 ≤ s.size ∧ ∀ (j : Nat) (b : UInt8), pos ≤ j → j < pos + 1 → s.data.toList[j]? = some b → 128 ≤ b.toNat := by
  refine ⟨h, fun j b h1 h2 hb => ?_⟩
  obtain rfl : j = pos := by omega
  exact base b hb
 have cont : ∀ k, (decide (pos + k < s.size) && (s.get! (pos + k)).toNat / 64 == 2) = true → pos + k < s.size ∧ ∀ b : UInt8, s.data.toList[pos + k]? = some b → 128 ≤ b.toNat := by
  intro k hk
  simp only [Bool.and_eq_true, decide_eq_true_eq, beq_iff_eq] at hk
  refine ⟨hk.1, fun b hb => ?_⟩
  have := get_data s (pos + k) hk.1 hb
  rw [this] at hk
  omega
 unfold Utf8.decode
 simp only [h0, hn, if_false]
 split
 ·rename_i h1
  simp only [Bool.and_eq_true] at h1
  obtain ⟨c1, d1⟩ := cont 1 (by simpa using h1.2)
  split
  ·refine ⟨by show pos + 2 ≤ _; omega, fun j b g1 g2 hb => ?_⟩
   have g2' : j < pos + 2 := g2
   rcases (by omega : j = pos ∨ j = pos + 1) with rfl | rfl
   ·exact base b hb
   ·exact d1 b hb
  ·exact one
 ·split
  ·rename_i h1
   simp only [Bool.and_eq_true] at h1
   obtain ⟨c1, d1⟩ := cont 1 (by simpa using h1.1.2)
   obtain ⟨c2, d2⟩ := cont 2 (by simpa using h1.2)
   split
   ·refine ⟨by show pos + 3 ≤ _; omega, fun j b g1 g2 hb => ?_⟩
    have g2' : j < pos + 3 := g2
    rcases (by omega : j = pos ∨ j = pos + 1 ∨ j = pos + 2) with rfl | rfl | rfl
    ·exact base b hb
    ·exact d1 b hb
    ·exact d2 b hb
   ·exact one
  ·split
   ·rename_i h1
    simp only [Bool.and_eq_true] at h1
    obtain ⟨c1, d1⟩ := cont 1 (by simpa using h1.1.1.2)
    obtain ⟨c2, d2⟩ := cont 2 (by simpa using h1.1.2)
    obtain ⟨c3, d3⟩ := cont 3 (by simpa using h1.2)
    split
    ·refine ⟨by show pos + 4 ≤ _; omega, fun j b g1 g2 hb => ?_⟩
     have g2' : j < pos + 4 := g2
     rcases (by omega : j = pos ∨ j = pos + 1 ∨ j = pos + 2 ∨ j = pos + 3) with rfl | rfl | rfl | rfl
     ·exact base b hb
     ·exact d1 b hb
     ·exact d2 b hb
     ·exact d3 b hb
    ·exact one
   ·exact one
theorem noany_skip {s : ByteArray} {i k : Nat} (h : NoAny s.data.toList [47, 0] i) (hk : ∀ (j : Nat) (b : UInt8), i ≤ j → j < i + k → s.data.toList[j]? = some b → 128 ≤ b.toNat) : NoAny s.data.toList [47, 0] (i + k) := by
 intro j b hj hb
 by_cases hji : j < i
 ·exact h j b hji hb
 ·have := hk j b (by omega) hj hb
  simp only [List.contains_eq_mem, List.mem_cons, List.not_mem_nil, or_false, decide_eq_false_iff_not, not_or]
  constructor
  ·rintro rfl
   simp at this
  ·rintro rfl
   simp at this
set_option maxHeartbeats 8000000 in
set_option maxRecDepth 1000000 in
theorem indexAny_short (L : Lays.n153 P ρ) (s : ByteArray) (w : World) (h8 : s.size ≤ 8) :
  Calls P (ρ.f 153) #[.string s, .string ⟨#[47, 0]⟩] w fun e w' => e = .returned (.int .i64 (Lib.indexAny s.data.toList [47, 0])) ∧ Below w.heap.size w w' := by
 have h8z : decide ((8 : Int) < (s.size : Int)) = false := decide_eq_false (by omega)
 have mixed := L.mixed
 have t3 := L.t3; have a3 := L.a3; have z3 := L.z3; have v3 := L.v3
 have t4 := L.t4; have a4 := L.a4; have z4 := L.z4; have v4 := L.v4
 have t5 := L.t5; have a5 := L.a5; have z5 := L.z5; have v5 := L.v5
 have t9 := L.t9; have a9 := L.a9; have z9 := L.z9; have v9 := L.v9
 have t21 := L.t21; have a21 := L.a21; have z21 := L.z21; have v21 := L.v21
 have e152 : ∀ args w, (callFunc (ρ.f 152) args).run P w = .ok (.enter (ρ.f 152) args) w := enters_of L.f152 (by kernel_rfl) rfl
 have e226 : ∀ args w, (callFunc (ρ.f 226) args).run P w = .ok (.enter (ρ.f 226) args) w := enters_of L.f226 (by kernel_rfl) rfl
 go_enter L.f153, Body.n153_ntmps ρ
 go_wp2_with (go_at_fn (ρ.f 226); refine (Any.strings_shouldUseASCIISet { L with } _ _).mono ?_; rintro e w' ⟨rfl, hw⟩; rw [hw, h8z])
 go_loopg [9, 10] s.size (fun g _ _ wx => ∃ i : Nat, i + g = s.size ∧ wx.heap[w.heap.size]? = some (.stringIter s i) ∧ Below w.heap.size w wx ∧ Lib.NoAny s.data.toList [47, 0] i)
 case atStart => exact ⟨0, by omega, World.iter_heap _ _ _, iter_below _ _ _, Lib.NoAny.zero _ _⟩
 case round =>
  obtain ⟨i, hig, hk, hbw, hno⟩ := hrel
  have HN : Aside (Lib.NoAny s.data.toList [47, 0] i) := hno
  have HB : Aside (Below w.heap.size w wr) := hbw
  clear hno hbw
  cases gk with
  | zero =>
   obtain rfl : i = s.size := by omega
   have hnx := fun ty => run_next_end_at (P := P) wr w.heap.size s s.size ty hk (by omega)
   go_wp2
   go_ret
   exact ⟨by rw [Lib.indexAny_none (by rw [← Lib.size_eq]; exact HN.out)]; rfl, HB.out⟩
  | succ g =>
   have hi : i < s.size := by omega
   obtain ⟨x, hx⟩ : ∃ x : UInt8, s[i]'hi = x := ⟨_, rfl⟩
   have hxl : s.data.toList[i]? = some x := by rw [← hx]; exact Lib.data_getElem? s i hi
   by_cases hlow : x.toNat < 128
   ·have hnx := fun ty => run_next_ascii_at (P := P) wr w.heap.size s i ty hk hi (by rw [hx]; exact hlow)
    rw [hx] at hnx
    have HK : Aside ((wr.iterAt w.heap.size s (i + 1)).heap[w.heap.size]? = some (.stringIter s (i + 1))) := iterAt_heap wr _ s i (i + 1) hk
    have HB' : Aside (Below w.heap.size w (wr.iterAt w.heap.size s (i + 1))) := below_iterAt HB.out (Nat.le_refl _) _ _
    have Hx : Aside (s.data.toList[i]? = some x) := hxl
    clear hxl hx
    have hcon := Lib.contains_iff_indexByte [47, 0] x
    have hback : ((x.toNat : Int)).toNat.toUInt8 = x := by simp
    cases hin : ([47, 0] : List UInt8).contains x
    ·rw [hin] at hcon
     have hlt : ¬ ((0 : Int) ≤ Lib.indexByte [47, 0] x) := of_decide_eq_false hcon.symm
     clear hcon
     go_wp2_with (go_at_fn (ρ.f 152); refine (Any.strings_IndexRune_ascii { L with } _ _ _ (by omega) (by omega)).mono ?_; rintro e w' ⟨rfl, hw⟩; rw [hw, hback])
     go_roundg g
     case measure => omega
     case rel => exact ⟨i + 1, by omega, HK.out, HB'.out, HN.out.succ Hx.out hin⟩
    ·rw [hin] at hcon
     have hge : (0 : Int) ≤ Lib.indexByte [47, 0] x := of_decide_eq_true hcon.symm
     clear hcon
     go_wp2_with (go_at_fn (ρ.f 152); refine (Any.strings_IndexRune_ascii { L with } _ _ _ (by omega) (by omega)).mono ?_; rintro e w' ⟨rfl, hw⟩; rw [hw, hback])
     go_ret
     exact ⟨by rw [Lib.indexAny_hit HN.out Hx.out hin]; rfl, HB'.out⟩
   ·have hhi : 128 ≤ (s[i]'hi).toNat := by rw [hx]; omega
    have hdh := decode_high s i hi hhi
    have hsk := decode_skip s i hi hhi
    have hnx := fun ty => run_next_any_at (P := P) wr w.heap.size s i ty hk hi
    obtain ⟨rk, hrk⟩ : ∃ rk, Utf8.decode s i = rk := ⟨_, rfl⟩
    obtain ⟨r, k⟩ := rk
    rw [hrk] at hnx hsk hdh
    simp only at hnx hsk hdh
    have HK : Aside ((wr.iterAt w.heap.size s (i + k)).heap[w.heap.size]? = some (.stringIter s (i + k))) := iterAt_heap wr _ s i (i + k) hk
    have HB' : Aside (Below w.heap.size w (wr.iterAt w.heap.size s (i + k))) := below_iterAt HB.out (Nat.le_refl _) _ _
    have HNk : Aside (Lib.NoAny s.data.toList [47, 0] (i + k)) := noany_skip HN.out hsk.2
    have hle := hsk.1
    have hlt : w.heap.size < (wr.iterAt w.heap.size s (i + k)).heap.size := (Array.getElem?_eq_some_iff.1 HK.out).1
    have HL : Aside (w.heap.size < (wr.iterAt w.heap.size s (i + k)).heap.size) := hlt
    clear hsk hx hxl hrk hlt
    go_wp2_with (go_at_fn (ρ.f 152); refine (indexRune_high { L with } _ _ (by omega)).mono ?_; rintro e w' ⟨rfl, hw⟩)
    go_roundg (s.size - (i + k))
    case measure => omega
    case rel => exact ⟨i + k, by omega, (hw.block _ HL.out).trans HK.out, HB'.out.trans (hw.mono HB'.out.size), HNk.out⟩
/-- strings.ContainsAny, of "/" and the byte 0. -/
theorem containsAny_two (L : Lays.n150 P ρ) (hv116 : ∀ w, (zeroValue (ρ.t 116)).run P w = .ok (.agg (Array.replicate 256 (.bool false))) w) (hi116 : (P.info? (ρ.t 116)).map (·.size) = some 256) (s : ByteArray) (w : World) (hs : s.size < 4294967281) :
  Calls P (ρ.f 150) #[.string s, .string ⟨#[47, 0]⟩] w fun e w' => e = .returned (.bool (decide (0 ≤ Lib.indexAny s.data.toList [47, 0]))) ∧ Below w.heap.size w w' := by
 have hac : ∀ (j : Nat) b, (⟨#[47, 0]⟩ : ByteArray).data.toList[j]? = some b → b.toNat < 128 := by
  intro j b h
  have hm : b ∈ ([47, 0] : List UInt8) := List.mem_of_getElem? h
  simp at hm
  rcases hm with rfl | rfl <;> decide
 have c : Calls P (ρ.f 153) #[.string s, .string ⟨#[47, 0]⟩] w fun e w' => e = .returned (.int .i64 (Lib.indexAny s.data.toList [47, 0])) ∧ Below w.heap.size w w' := by
  by_cases h8 : s.size ≤ 8
  ·exact indexAny_short { L with } s w h8
  ·refine (Any.strings_IndexAny_long { L with } hv116 hi116 s ⟨#[47, 0]⟩ w (by show 2 ≤ 2; omega) (by omega) hs (by show 2 < 4294967281; omega) hac).mono fun e w' ⟨h1, h2⟩ => ⟨h1, ?_⟩
   rw [h2]
   exact ((Below.refl _ _).alloc (Nat.le_refl _) _).alloc (by simp) _
 have t3 := L.t3; have a3 := L.a3; have z3 := L.z3; have v3 := L.v3
 have t4 := L.t4; have a4 := L.a4; have z4 := L.z4; have v4 := L.v4
 have t9 := L.t9; have a9 := L.a9; have z9 := L.z9; have v9 := L.v9
 have e153 : ∀ args w, (callFunc (ρ.f 153) args).run P w = .ok (.enter (ρ.f 153) args) w := enters_of L.f153 (by kernel_rfl) rfl
 go_enter L.f150, Body.n150_ntmps ρ
 go_wp2_with (go_at_fn (ρ.f 153); refine c.mono ?_; rintro e w' ⟨rfl, hw⟩)
 go_ret
 exact ⟨rfl, hw⟩
theorem indexAny_neg (s : List UInt8) : decide (0 ≤ Lib.indexAny s [47, 0]) = s.any fun b => b == 47 || b == 0 := by
 induction s with
 | nil => rfl
 | cons b l ih =>
  unfold Lib.indexAny
  have hc : ([47, 0] : List UInt8).contains b = (b == 47 || b == 0) := by
   simp only [List.contains_cons, List.contains_nil, Bool.or_false]
  rw [hc, List.any_cons, ← ih]
  cases hb : (b == 47 || b == 0)
  ·have hge := Lib.indexAny_ge [47, 0] l
   simp only [Bool.false_eq_true, if_false, Bool.false_or]
   split
   ·rename_i h
    have := beq_iff_eq.1 h
    simp [this]
   ·rename_i h
    have : ¬ Lib.indexAny l [47, 0] = -1 := fun e => h (beq_iff_eq.2 e)
    apply decide_eq_decide.2
    omega
  ·simp
end Go.Ab
