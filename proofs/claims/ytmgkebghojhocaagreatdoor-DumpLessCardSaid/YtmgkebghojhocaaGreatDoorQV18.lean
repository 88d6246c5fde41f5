/- Parts of the proof, one behind the other: TreeC, TreeD, TreeE, TreeF. No further condition. -/
import Derived.Test.YtmgkebghojhocaaGreatDoorQV17
import Derived.Test.YtmgkebghojhocaaGreatDoorQV09
set_option linter.unusedVariables false
set_option linter.unusedSimpArgs false
/- Vertices as values; rows of them are found in, halved, joined. No further condition. -/
set_option linter.unusedVariables false
set_option linter.unusedSimpArgs false
namespace Go.Proofs.YtmgkebghojhocaaGreatDoor
open Go.Ab
def avV : (h : Nat) → Vt h → AV
 | 0, l => .iface 189 (.sl 3 (l.row.map Pr.av) .none)
 | h + 1, l => .iface 198 (.agg [.sl 1 (l.kids.map (avV h)) .none, .int .i64 ((allV (h + 1) l).length : Int)])
theorem closed_avV : ∀ (h : Nat) (v : Vt h), Closed (avV h v)
 | 0, l => closed_iface (closed_prs _)
 | h + 1, l => closed_iface (closed_agg (closed2 (closed_slmap (closed_avV h) (fun a c hc => by
   have : c ∈ [avV h a] := by cases h <;> exact hc
   simp at this
   exact this ▸ closed_avV h a)) closed_int))
theorem avV_form (h : Nat) (v : Vt h) : ∃ ty z, avV h v = .iface ty z := by cases h <;> exact ⟨_, _, rfl⟩
theorem avV_cells (h : Nat) (v : Vt h) : (avV h v).cells = [avV h v] := by cases h <;> rfl
theorem closed_vxs (h : Nat) (l : List (Vt h)) : Closed (.sl 1 (l.map (avV h)) .none) := closed_slmap (closed_avV h) (fun a c hc => by
 rw [avV_cells] at hc
 simp at hc
 exact hc ▸ closed_avV h a)
theorem closed_vxsT (h : Nat) (l : List (Vt h)) (b : Bool) : Closed (.sl 1 (l.map (avV h)) (tgB b)) := by
 have h1 : ∀ x, x ∈ l.map (avV h) → Closed x := by
  intro x hx
  obtain ⟨a, _, rfl⟩ := List.mem_map.1 hx
  exact closed_avV h a
 have h2 : ∀ x, x ∈ l.map (avV h) → ∀ c, c ∈ x.cells → Closed c := by
  intro x hx c hc
  obtain ⟨a, _, rfl⟩ := List.mem_map.1 hx
  rw [avV_cells] at hc
  simp at hc
  exact hc ▸ closed_avV h a
 cases b
 ·exact closed_sl (.inl rfl) h1 h2
 ·exact closed_sl (.inr rfl) h1 h2
set_option maxRecDepth 100000 in
theorem indexV_ok (h : Nat) (l : List (Vt h)) (tg : Tag) (hl : l.length < 1000000) (g : FuncId) (fi ca : List AV) (p : Vt h → Bool) (hp : ∀ x, x ∈ l → APure Tryz.prog g (fi ++ [avV h x] ++ ca) (.bool (p x))) : APure Tryz.prog 254 [.sl 1 (l.map (avV h)) tg, .fn (.func g) fi ca] (.int .i64 (idxI l p)) := by
 intro M
 refine acalls_of tabOK Tryz.func254 rfl (by decide) (by simp [Tryz.f254]) ?_
 have la : ((l.map (avV h)).length : Int) = (l.length : Int) := by simp
 repeat' (first | refine DW_VI tabs rfl la ?_ | refine DW_A tabs rfl ?_ | refine DW_nil ?_ | refine W_A rfl ?_)
 refine W_count l.length (fun i f N => N = M ∧ (∀ (j : Nat) y, j < i → l[j]? = some y → p y = false) ∧ f = ⟨[(0, .sl 1 (l.map (avV h)) tg), (1, .fn (.func g) fi ca), (7, .int .i64 (l.length : Int)), (8, .int .i64 (i : Int))], []⟩) (Nat.zero_le _) ⟨rfl, fun j y hj => absurd hj (Nat.not_lt_zero _), rfl⟩ (Joint.le ?_ (Mem.le_refl _)) ?_
 ·skip
  repeat (refine AF.le_cons rfl ?_)
  exact AF.le_nil rfl
 ·rintro i f N hi ⟨rfl, hno, rfl⟩
  by_cases h1 : i < l.length
  ·have d1 : decide ((i : Int) < (l.length : Int)) = true := by simp; omega
   have hx : l[i]? = some l[i] := List.getElem?_eq_getElem h1
   have fi := wrap_succ (i := i) (by omega)
   have hk := hp l[i] (List.getElem_mem h1)
   generalize l[i] = x at hx hk
   have hmg := map_get (f := avV h) hx
   obtain ⟨ty, z, hax⟩ := avV_form h x
   rw [hax] at hk hmg
   cases hpx : p x
   ·rw [hpx] at hk
    repeat' (first | refine DW_VB tabs rfl d1 ?_ | refine DW_VI tabs rfl (by first | exact fi | exact la) ?_ | refine DW_A tabs rfl ?_ | refine DW_nil ?_ | refine W_A rfl ?_)
    refine DW_index tabOK rfl rfl rfl rfl rfl rfl rfl rfl rfl rfl (Int.natCast_nonneg _) hmg ?_
    repeat' (first | refine DW_VB tabs rfl d1 ?_ | refine DW_VI tabs rfl (by first | exact fi | exact la) ?_ | refine DW_A tabs rfl ?_ | refine DW_nil ?_ | refine W_A rfl ?_ | refine DW_C rfl hk ?_)
    refine ⟨h1, _, _, ⟨rfl, ?_, rfl⟩, Joint.le ?_ (Mem.le_refl _)⟩
    ·intro j y hj hy
     by_cases hji : j = i
     ·subst hji
      rw [hx] at hy
      cases hy
      exact hpx
     ·exact hno j y (by omega) hy
    ·skip
     repeat (refine AF.le_cons rfl ?_)
     exact AF.le_nil rfl
   ·rw [hpx] at hk
    repeat' (first | refine DW_VB tabs rfl d1 ?_ | refine DW_VI tabs rfl (by first | exact fi | exact la) ?_ | refine DW_A tabs rfl ?_ | refine DW_nil ?_ | refine W_A rfl ?_)
    refine DW_index tabOK rfl rfl rfl rfl rfl rfl rfl rfl rfl rfl (Int.natCast_nonneg _) hmg ?_
    repeat' (first | refine DW_VB tabs rfl d1 ?_ | refine DW_VI tabs rfl (by first | exact fi | exact la) ?_ | refine DW_A tabs rfl ?_ | refine DW_nil ?_ | refine W_A rfl ?_ | refine DW_C rfl hk ?_)
    exact ⟨rfl, _, rfl, by rw [idx_hit hno hx hpx]; rfl, rfl⟩
  ·have d1 : decide ((i : Int) < (l.length : Int)) = false := by simp; omega
   obtain rfl : i = l.length := by omega
   repeat' (first | refine DW_VB tabs rfl d1 ?_ | refine DW_A tabs rfl ?_ | refine DW_nil ?_ | refine W_A rfl ?_)
   exact ⟨rfl, _, rfl, by rw [idx_none (fun j y hy => hno j y (List.getElem?_eq_some_iff.1 hy).1 hy)]; rfl, rfl⟩
theorem half_is (n : Nat) (h : n < 1000000) : IntKind.wrap .i64 (Int.tdiv (n : Int) 2) = ((n / 2 : Nat) : Int) := by
 have e : Int.tdiv (n : Int) 2 = ((n / 2 : Nat) : Int) := rfl
 rw [e]
 exact Go.Ab.wrap_small (by omega) (by omega)
def rowsP (l : List (List Pr)) : AV := .sl 1 (l.map fun r => .sl 3 (r.map Pr.av) .none) .full
set_option maxRecDepth 100000 in
theorem halvesP_ok (l : List Pr) (hl : l.length < 100000) : APure Tryz.prog 243 [.sl 3 (l.map Pr.av) .none] (rowsP (halvesL l)) := by
 intro M
 refine acalls_of tabOK Tryz.func243 rfl (by decide) (by simp [Tryz.f243]) ?_
 have la : ((l.map Pr.av).length : Int) = (l.length : Int) := by simp
 unfold halvesL
 by_cases h4 : l.length ≤ 4
 ·have d4 : decide ((l.length : Int) ≤ 4) = true := by simp; omega
  rw [if_pos h4]
  repeat' (first | refine DW_VB tabs rfl d4 ?_ | refine DW_VI tabs rfl la ?_ | refine DW_A tabs rfl ?_ | refine DW_nil ?_ | refine W_A rfl ?_ | refine DW_row tabOK rfl ?_ | refine W_draw mixed [0, 1, 2, 3, 4, 5, 6, 7, 8, 9, 10, 11] [.P, .P, .P, .P, .P, .P, .P, .P, .P, .P, .P, .P] rfl rfl (by kernel_rfl) ?_)
  exact ⟨rfl, _, rfl, rfl, rfl⟩
 ·have d4 : decide ((l.length : Int) ≤ 4) = false := by simp; omega
  have w1 := half_is l.length (by omega)
  rw [if_neg h4]
  repeat' (first | refine DW_VB tabs rfl d4 ?_ | refine DW_VI tabs rfl (by first | exact la | exact w1) ?_ | refine DW_A tabs rfl ?_ | refine DW_nil ?_ | refine W_A rfl ?_ | refine DW_row tabOK rfl ?_ | refine W_draw mixed [0, 1, 2, 3, 4, 5, 6, 7, 8, 9, 10, 11] [.P, .P, .P, .P, .P, .P, .P, .P, .P, .P, .P, .P] rfl rfl (by kernel_rfl) ?_)
  refine DW_to tabOK rfl rfl rfl rfl (n := l.length / 2) rfl rfl rfl rfl rfl rfl (by omega) ?_
  repeat' (first | refine DW_VI tabs rfl (by first | exact la | exact w1) ?_ | refine DW_A tabs rfl ?_ | refine DW_nil ?_ | refine W_A rfl ?_ | refine DW_row tabOK rfl ?_ | refine W_draw mixed [0, 1, 2, 3, 4, 5, 6, 7, 8, 9, 10, 11] [.P, .P, .P, .P, .P, .P, .P, .P, .P, .P, .P, .P] rfl rfl (by kernel_rfl) ?_)
  refine DW_from tabOK rfl rfl rfl rfl (lo := l.length / 2) rfl rfl rfl rfl rfl rfl (by omega) ?_
  repeat' (first | refine DW_A tabs rfl ?_ | refine DW_nil ?_ | refine W_A rfl ?_ | refine DW_row tabOK rfl ?_ | refine W_draw mixed [0, 1, 2, 3, 4, 5, 6, 7, 8, 9, 10, 11] [.P, .P, .P, .P, .P, .P, .P, .P, .P, .P, .P, .P] rfl rfl (by kernel_rfl) ?_)
  exact ⟨rfl, _, rfl, rfl, rfl⟩
def rowsV (h : Nat) (l : List (List (Vt h))) : AV := .sl 1 (l.map fun r => .sl 1 (r.map (avV h)) .none) .full
set_option maxRecDepth 100000 in
theorem halvesV_ok (h : Nat) (l : List (Vt h)) (hl : l.length < 100000) : APure Tryz.prog 163 [.sl 1 (l.map (avV h)) .none] (rowsV h (halvesL l)) := by
 intro M
 refine acalls_of tabOK Tryz.func163 rfl (by decide) (by simp [Tryz.f163]) ?_
 have la : ((l.map (avV h)).length : Int) = (l.length : Int) := by simp
 unfold halvesL
 by_cases h4 : l.length ≤ 4
 ·have d4 : decide ((l.length : Int) ≤ 4) = true := by simp; omega
  rw [if_pos h4]
  repeat' (first | refine DW_VB tabs rfl d4 ?_ | refine DW_VI tabs rfl la ?_ | refine DW_A tabs rfl ?_ | refine DW_nil ?_ | refine W_A rfl ?_ | refine DW_row tabOK rfl ?_ | refine W_draw mixed [0, 1, 2, 3, 4, 5, 6, 7, 8, 9, 10, 11] [.P, .P, .P, .P, .P, .P, .P, .P, .P, .P, .P, .P] rfl rfl (by kernel_rfl) ?_)
  exact ⟨rfl, _, rfl, rfl, rfl⟩
 ·have d4 : decide ((l.length : Int) ≤ 4) = false := by simp; omega
  have w1 := half_is l.length (by omega)
  rw [if_neg h4]
  repeat' (first | refine DW_VB tabs rfl d4 ?_ | refine DW_VI tabs rfl (by first | exact la | exact w1) ?_ | refine DW_A tabs rfl ?_ | refine DW_nil ?_ | refine W_A rfl ?_ | refine DW_row tabOK rfl ?_ | refine W_draw mixed [0, 1, 2, 3, 4, 5, 6, 7, 8, 9, 10, 11] [.P, .P, .P, .P, .P, .P, .P, .P, .P, .P, .P, .P] rfl rfl (by kernel_rfl) ?_)
  refine DW_to tabOK rfl rfl rfl rfl (n := l.length / 2) rfl rfl rfl rfl rfl rfl (by omega) ?_
  repeat' (first | refine DW_VI tabs rfl (by first | exact la | exact w1) ?_ | refine DW_A tabs rfl ?_ | refine DW_nil ?_ | refine W_A rfl ?_ | refine DW_row tabOK rfl ?_ | refine W_draw mixed [0, 1, 2, 3, 4, 5, 6, 7, 8, 9, 10, 11] [.P, .P, .P, .P, .P, .P, .P, .P, .P, .P, .P, .P] rfl rfl (by kernel_rfl) ?_)
  refine DW_from tabOK rfl rfl rfl rfl (lo := l.length / 2) rfl rfl rfl rfl rfl rfl (by omega) ?_
  repeat' (first | refine DW_A tabs rfl ?_ | refine DW_nil ?_ | refine W_A rfl ?_ | refine DW_row tabOK rfl ?_ | refine W_draw mixed [0, 1, 2, 3, 4, 5, 6, 7, 8, 9, 10, 11] [.P, .P, .P, .P, .P, .P, .P, .P, .P, .P, .P, .P] rfl rfl (by kernel_rfl) ?_)
  exact ⟨rfl, _, rfl, rfl, rfl⟩
def rowsP0 (l : List (Vt 0)) : AV := .sl 1 (l.map fun r => .sl 3 (r.row.map Pr.av) .none) .full
theorem vx0_app {a : List (Vt 0)} {r : Vt 0} {t : Tag} : AV.sl 1 (a.map (avV 0) ++ [.iface 189 (.sl 3 (r.row.map Pr.av) .none)]) t = .sl 1 ((a ++ [r]).map (avV 0)) t := by
 rw [List.map_append]
 rfl
set_option maxRecDepth 100000 in
theorem leaves_ok (l : List Pr) (hl : l.length < 100000) : APure Tryz.prog 238 [.sl 3 (l.map Pr.av) .none] (.sl 1 ((halvesL l : List (Vt 0)).map (avV 0)) .none) := by
 refine pure_sub (closed1 (closed_prs _)) (closed_vxs 0 _) ?_
 refine acalls_of tabOK Tryz.func238 rfl (by decide) (by simp [Tryz.f238]) ?_
 have k0 := halvesP_ok l hl
 have hlen := halves_len l
 have h20 : (halvesL l).length ≤ 2 := by rw [hlen]; split <;> omega
 obtain ⟨rows, hrows⟩ : ∃ rows : List (Vt 0), rows = halvesL l := ⟨_, rfl⟩
 have h2 : rows.length ≤ 2 := by rw [hrows]; exact h20
 have k : APure Tryz.prog 243 [.sl 3 (l.map Pr.av) .none] (rowsP0 rows) := by rw [hrows]; exact k0
 have hg : ((halvesL l : List (Vt 0)).map (avV 0)) = rows.map (avV 0) := by rw [hrows]
 rw [hg]
 unfold rowsP0 at k
 have la : ((rows.map fun r => AV.sl 3 (r.row.map Pr.av) .none).length : Int) = (rows.length : Int) := by simp
 repeat' (first | refine DW_VI tabs rfl la ?_ | refine DW_A tabs rfl ?_ | refine DW_nil ?_ | refine W_A rfl ?_ | refine DW_C rfl k ?_ | refine DW_row tabOK rfl ?_ | refine DW_app tabOK rfl rfl (by simp; omega) (by simp; omega) ?_ | refine DW_app0 tabOK rfl (by simp; omega) (by simp; omega) ?_)
 refine W_count rows.length (fun i f N => ∃ (g : Nat), N = tokM g ∧ f = ⟨[(3, .sl 1 ((rows.take i).map (avV 0)) (.tok 0 g)), (7, .sl 1 (rows.map fun r => .sl 3 (r.row.map Pr.av) .none) .full), (8, .int .i64 (rows.length : Int)), (9, .int .i64 (i : Int))], []⟩) (Nat.zero_le _) ⟨0, rfl, rfl⟩
  ((Joint.tok 3 rfl (sz' := 1) (.inr rfl)).trans (Joint.le ?_ (tokM_of rfl rfl))) ?_
 ·skip
  repeat (refine AF.le_cons rfl ?_)
  exact AF.le_nil rfl
 ·rintro i f N hi ⟨g, rfl, rfl⟩
  by_cases h1 : i < rows.length
  ·have d1 : decide ((i : Int) < (rows.length : Int)) = true := by simp; omega
   have hx : rows[i]? = some rows[i] := List.getElem?_eq_getElem h1
   have fi := wrap_succ (i := i) (by omega)
   have hs := take_succ hx
   generalize rows[i] = r at hx hs
   repeat' (first | refine DW_VB tabs rfl d1 ?_ | refine DW_VI tabs rfl (by first | exact fi | exact la) ?_ | refine DW_A tabs rfl ?_ | refine DW_nil ?_ | refine W_A rfl ?_ | refine DW_row tabOK rfl ?_ | refine DW_app tabOK rfl rfl (by simp; omega) (by simp; omega) ?_ | refine DW_app0 tabOK rfl (by simp; omega) (by simp; omega) ?_)
   refine DW_ix tabOK rfl (ixN hx) ?_
   repeat' (first | refine DW_VI tabs rfl (by first | exact fi | exact la) ?_ | refine DW_A tabs rfl ?_ | refine DW_nil ?_ | refine W_A rfl ?_ | refine DW_row tabOK rfl ?_ | refine DW_app tabOK rfl rfl (by simp; omega) (by simp; omega) ?_ | refine DW_app0 tabOK rfl (by simp; omega) (by simp; omega) ?_)
   refine ⟨h1, _, _, ⟨g + 1, rfl, rfl⟩, Joint.le (AF.le_cons ?_ (AF.le_cons rfl (AF.le_cons rfl (AF.le_cons rfl (AF.le_nil rfl))))) (tokM_of rfl rfl)⟩
   rw [hs]
   exact vx0_app
  ·have d1 : decide ((i : Int) < (rows.length : Int)) = false := by simp; omega
   obtain rfl : i = rows.length := by omega
   repeat' (first | refine DW_VB tabs rfl d1 ?_ | refine DW_A tabs rfl ?_ | refine DW_nil ?_ | refine W_A rfl ?_ | refine DW_row tabOK rfl ?_ | refine DW_app tabOK rfl rfl (by simp; omega) (by simp; omega) ?_ | refine DW_app0 tabOK rfl (by simp; omega) (by simp; omega) ?_)
   rw [List.take_length]
   exact ⟨rfl, _, rfl, _, rfl, SubC.untag (closed_vxs 0 _)⟩
end Go.Proofs.YtmgkebghojhocaaGreatDoor
/- Rows of vertices grow, and are laid one behind the other. No further condition. -/
set_option linter.unusedVariables false
set_option linter.unusedSimpArgs false
namespace Go.Proofs.YtmgkebghojhocaaGreatDoor
open Go.Ab
set_option maxRecDepth 100000 in
theorem growV_ok (n : Nat) (h0 : 0 < n) (h1 : n < 1000000) (M : Mem) : ACalls Tryz.prog 257 [.sl 0 [] .full, .int .i64 (n : Int)] M (fun e M' => ∃ (cap : Nat) (l' : List AV), n ≤ cap ∧ l'.length = cap ∧ e = .ret (.osl M.next 0 0 cap 1) ∧ M' = M.push (.cells l')) := by
 refine acalls_of tabOK Tryz.func257 rfl (by decide) (by simp [Tryz.f257]) ?_
 have d1 : decide ((n : Int) < 0) = false := by simp
 have w0 : IntKind.wrap .i64 ((n : Int) - 0) = (n : Int) := (Go.Ab.wrap_small (by omega) (by omega)).trans (by omega)
 have d2 : decide ((0 : Int) < (n : Int)) = true := by simp; omega
 repeat' (first | refine DW_VB tabs rfl d1 ?_ | refine DW_A tabs rfl ?_ | refine DW_nil ?_ | refine W_A rfl ?_ | refine DW_app tabOK rfl rfl (by simp; omega) (by simp; omega) ?_ | refine DW_app0 tabOK rfl (by simp; omega) (by simp; omega) ?_)
 refine DW_cap tabOK rfl rfl rfl rfl rfl rfl rfl ?_
 repeat' (first | refine DW_VB tabs rfl d2 ?_ | refine DW_VI tabs rfl w0 ?_ | refine DW_A tabs rfl ?_ | refine DW_nil ?_ | refine W_A rfl ?_ | refine DW_app tabOK rfl rfl (by simp; omega) (by simp; omega) ?_ | refine DW_app0 tabOK rfl (by simp; omega) (by simp; omega) ?_)
 refine DW_cap tabOK rfl rfl rfl rfl rfl rfl rfl ?_
 repeat' (first | refine DW_A tabs rfl ?_ | refine DW_nil ?_ | refine W_A rfl ?_ | refine DW_app tabOK rfl rfl (by simp; omega) (by simp; omega) ?_ | refine DW_app0 tabOK rfl (by simp; omega) (by simp; omega) ?_)
 refine DW_slice00 tabOK rfl rfl rfl rfl rfl rfl rfl rfl rfl ?_
 repeat' (first | refine DW_A tabs rfl ?_ | refine DW_nil ?_ | refine W_A rfl ?_ | refine DW_app tabOK rfl rfl (by simp; omega) (by simp; omega) ?_ | refine DW_app0 tabOK rfl (by simp; omega) (by simp; omega) ?_)
 refine DW_zapp tabOK rfl rfl rfl rfl rfl (n := n) rfl rfl rfl rfl rfl rfl rfl rfl h0 (by simp; omega) (by omega) ?_
 intro cap' l' g1 g2
 repeat' (first | refine DW_A tabs rfl ?_ | refine DW_nil ?_ | refine W_A rfl ?_ | refine DW_app tabOK rfl rfl (by simp; omega) (by simp; omega) ?_ | refine DW_app0 tabOK rfl (by simp; omega) (by simp; omega) ?_)
 refine DW_oslice tabOK rfl rfl rfl rfl rfl (l := l') rfl (by rw [Mem.get_push, if_pos rfl]) rfl rfl rfl rfl (by omega) (by simp) g1 ?_
 repeat' (first | refine DW_A tabs rfl ?_ | refine DW_nil ?_ | refine W_A rfl ?_ | refine DW_app tabOK rfl rfl (by simp; omega) (by simp; omega) ?_ | refine DW_app0 tabOK rfl (by simp; omega) (by simp; omega) ?_)
 exact ⟨rfl, _, rfl, cap', l', g1, by simpa using g2, rfl, rfl⟩
def rowVA (h : Nat) (r : List (Vt h) × Bool) : AV := .sl 1 (r.1.map (avV h)) (tgB r.2)
theorem closed_rowsV (h : Nat) (rows : List (List (Vt h) × Bool)) (b : Bool) : Closed (.sl 1 (rows.map (rowVA h)) (tgB b)) := by
 have h1 : ∀ x, x ∈ rows.map (rowVA h) → Closed x := by
  intro x hx
  obtain ⟨a, _, rfl⟩ := List.mem_map.1 hx
  exact closed_vxsT h a.1 a.2
 have h2 : ∀ x, x ∈ rows.map (rowVA h) → ∀ c, c ∈ x.cells → Closed c := by
  intro x hx c hc
  obtain ⟨a, _, rfl⟩ := List.mem_map.1 hx
  have : c = rowVA h a := by simpa [rowVA, AV.cells] using hc
  exact this ▸ closed_vxsT h a.1 a.2
 cases b
 ·exact closed_sl (.inl rfl) h1 h2
 ·exact closed_sl (.inr rfl) h1 h2
def flatV {h : Nat} (rows : List (List (Vt h) × Bool)) : List (Vt h) := (rows.map (·.1)).flatten
theorem flatV_succ {h : Nat} {rows : List (List (Vt h) × Bool)} {i : Nat} {r : List (Vt h) × Bool} (hr : rows[i]? = some r) : flatV (rows.take (i + 1)) = flatV (rows.take i) ++ r.1 := by
 unfold flatV
 rw [take_succ hr]
 simp
theorem flatV_le {h : Nat} (rows : List (List (Vt h) × Bool)) (i : Nat) : (flatV (rows.take i)).length ≤ (flatV rows).length := by
 unfold flatV
 have : rows = rows.take i ++ rows.drop i := (List.take_append_drop i rows).symm
 conv => rhs; rw [this]
 rw [List.map_append, List.flatten_append, List.length_append]
 omega
def catF {h : Nat} (rows : List (List (Vt h) × Bool)) (b : Bool) (i : Nat) (x : AV) : List (Nat × AV) := [(6, x), (25, .sl 1 (rows.map (rowVA h)) (tgB b)), (26, .int .i64 (rows.length : Int)), (27, .int .i64 (i : Int))]
theorem cat_K {h k id : Nat} {rows : List (List (Vt h) × Bool)} {b : Bool} {i : Nat} {x : AV} {f : AF} (h6 : SubK k id (f.get 6) x) (h25 : f.get 25 = .sl 1 (rows.map (rowVA h)) (tgB b)) (h26 : f.get 26 = .int .i64 (rows.length : Int)) (h27 : f.get 27 = .int .i64 (i : Int)) : SubsK k id f (catF rows b i x) := by
 refine ⟨h6, ?_, ?_, ?_, trivial⟩
 ·rw [h25]; exact SubK.of_closed (closed_rowsV h rows b)
 ·rw [h26]; exact SubK.of_closed closed_int
 ·rw [h27]; exact SubK.of_closed closed_int
theorem avs_closed (h : Nat) (l : List (Vt h)) : ∀ x, x ∈ l.map (avV h) → Closed x := by
 intro x hx
 obtain ⟨a, _, rfl⟩ := List.mem_map.1 hx
 exact closed_avV h a
theorem avs_one (h : Nat) (l : List (Vt h)) : ∀ x, x ∈ l.map (avV h) → x.cells = [x] := by
 intro x hx
 obtain ⟨a, _, rfl⟩ := List.mem_map.1 hx
 exact avV_cells h a
theorem cat_next {h : Nat} {A B : List (Vt h)} {cap' : Nat} {cells l' : List AV} (hc : cells.take A.length = A.map (avV h)) (g1 : A.length + (B.map (avV h)).length ≤ cap') (g2 : l'.length = cap' * 1)
  (g3 : l'.take ((A.length + (B.map (avV h)).length) * 1) = cells.take (A.length * 1) ++ flat (B.map (avV h))) :
  l'.take ((A ++ B).map (avV h)).length = (A ++ B).map (avV h) ∧ l'.length = cap' ∧ ((A ++ B).map (avV h)).length ≤ cap' := by
 rw [flat_one (avs_one h B), Nat.mul_one, Nat.mul_one, hc] at g3
 have e : ((A ++ B).map (avV h)).length = A.length + (B.map (avV h)).length := by simp
 rw [e]
 refine ⟨by rw [List.map_append]; exact g3, by rw [g2, Nat.mul_one], g1⟩
set_option maxRecDepth 100000 in
theorem concatV_ok (h : Nat) (rows : List (List (Vt h) × Bool)) (b : Bool) (hr : rows.length < 1000) (h0 : 0 < (flatV rows).length) (h1 : (flatV rows).length < 100000) : APure Tryz.prog 255 [.sl 1 (rows.map (rowVA h)) (tgB b)] (.sl 1 ((flatV rows).map (avV h)) .none) := by
 refine pure_sub (closed1 (closed_rowsV h rows b)) (closed_vxs h _) ?_
 refine acalls_of tabOK Tryz.func255 rfl (by decide) (by simp [Tryz.f255]) ?_
 have la : ((rows.map (rowVA h)).length : Int) = (rows.length : Int) := by simp
 repeat' (first | refine DW_VI tabs rfl la ?_ | refine DW_A tabs rfl ?_ | refine DW_nil ?_ | refine W_A rfl ?_ | refine DW_app tabOK rfl rfl (by simp; omega) (by simp; omega) ?_ | refine DW_app0 tabOK rfl (by simp; omega) (by simp; omega) ?_)
 refine W_count rows.length (fun i f N => N = ⟨0, []⟩ ∧ f = ⟨[(0, .sl 1 (rows.map (rowVA h)) (tgB b)), (3, .int .i64 ((flatV (rows.take i)).length : Int)), (9, .sl 1 (rows.map (rowVA h)) (tgB b)), (10, .int .i64 (rows.length : Int)), (11, .int .i64 (i : Int))], []⟩) (Nat.zero_le _) ⟨rfl, rfl⟩ (Joint.le ?_ (Mem.le_refl _)) ?_
 ·skip
  repeat (refine AF.le_cons rfl ?_)
  exact AF.le_nil rfl
 ·rintro i f N hi ⟨rfl, rfl⟩
  by_cases hi1 : i < rows.length
  ·have d1 : decide ((i : Int) < (rows.length : Int)) = true := by simp; omega
   have hx : rows[i]? = some rows[i] := List.getElem?_eq_getElem hi1
   have fi := wrap_succ (i := i) (by omega)
   have hs := flatV_succ hx
   have hle := flatV_le rows (i + 1)
   generalize rows[i] = r at hx hs
   rw [hs, List.length_append] at hle
   have lr : ((r.1.map (avV h)).length : Int) = (r.1.length : Int) := by simp
   have w1 : IntKind.wrap .i64 (((flatV (rows.take i)).length : Int) + (r.1.length : Int)) = ((flatV (rows.take (i + 1))).length : Int) := by
    rw [hs, List.length_append]
    exact (Go.Ab.wrap_small (by omega) (by omega)).trans (by omega)
   have d2 : decide (((flatV (rows.take (i + 1))).length : Int) < 0) = false := by simp
   repeat' (first | refine DW_VB tabs rfl d1 ?_ | refine DW_VI tabs rfl (by first | exact fi | exact la) ?_ | refine DW_A tabs rfl ?_ | refine DW_nil ?_ | refine W_A rfl ?_ | refine DW_app tabOK rfl rfl (by simp; omega) (by simp; omega) ?_ | refine DW_app0 tabOK rfl (by simp; omega) (by simp; omega) ?_)
   refine DW_ix tabOK rfl (ixN hx) ?_
   repeat' (first | refine DW_VB tabs rfl d2 ?_ | refine DW_VI tabs rfl (by first | exact fi | exact la | exact lr | exact w1) ?_ | refine DW_A tabs rfl ?_ | refine DW_nil ?_ | refine W_A rfl ?_ | refine DW_app tabOK rfl rfl (by simp; omega) (by simp; omega) ?_ | refine DW_app0 tabOK rfl (by simp; omega) (by simp; omega) ?_)
   refine ⟨hi1, _, _, ⟨rfl, rfl⟩, Joint.le ?_ (Mem.le_refl _)⟩
   repeat (refine AF.le_cons rfl ?_)
   exact AF.le_nil rfl
  ·have d1 : decide ((i : Int) < (rows.length : Int)) = false := by simp; omega
   obtain rfl : i = rows.length := by omega
   rw [List.take_length]
   repeat' (first | refine DW_VB tabs rfl d1 ?_ | refine DW_A tabs rfl ?_ | refine DW_nil ?_ | refine W_A rfl ?_ | refine DW_app tabOK rfl rfl (by simp; omega) (by simp; omega) ?_ | refine DW_app0 tabOK rfl (by simp; omega) (by simp; omega) ?_)
   refine DW_call rfl rfl rfl rfl rfl rfl (growV_ok (flatV rows).length h0 (by omega) ⟨0, []⟩) ?_ (fun u M' ⟨_, _, _, _, e, _⟩ => by cases e)
   rintro u M' ⟨cap, l', g1, g2, g3, rfl⟩
   cases g3
   repeat' (first | refine DW_VI tabs rfl la ?_ | refine DW_A tabs rfl ?_ | refine DW_nil ?_ | refine W_A rfl ?_ | refine DW_app tabOK rfl rfl (by simp; omega) (by simp; omega) ?_ | refine DW_app0 tabOK rfl (by simp; omega) (by simp; omega) ?_)
   refine W_count rows.length (fun i f N => ∃ (cap : Nat) (cells : List AV) (id : Nat), id ≤ 1 ∧ (flatV (rows.take i)).length ≤ cap ∧ cells.take (flatV (rows.take i)).length = (flatV (rows.take i)).map (avV h) ∧ cells.length = cap ∧ N = ⟨id + 1, [(id, .cells cells)]⟩ ∧ f = ⟨catF rows b i (.osl id 0 (flatV (rows.take i)).length cap 1), []⟩) (Nat.zero_le _) ⟨cap, l', 0, Nat.zero_le 1, Nat.zero_le _, rfl, g2, rfl, rfl⟩ (Joint.le ?_ (Mem.le_refl _)) ?_
   ·unfold catF
    repeat (refine AF.le_cons rfl ?_)
    exact AF.le_nil rfl
   ·rintro i f N hi ⟨cap, cells, id, hid, hcap, hce, hcl, rfl, rfl⟩
    have hle0 := flatV_le rows i
    unfold catF
    by_cases hi1 : i < rows.length
    ·have d1 : decide ((i : Int) < (rows.length : Int)) = true := by simp; omega
     have hx : rows[i]? = some rows[i] := List.getElem?_eq_getElem hi1
     have fi := wrap_succ (i := i) (by omega)
     have hs := flatV_succ hx
     have hle := flatV_le rows (i + 1)
     generalize rows[i] = r at hx hs
     rw [hs, List.length_append] at hle
     generalize flatV (rows.take i) = A at hs hle hle0 hce hcap
     have hl : (A ++ r.1).length = A.length + (r.1.map (avV h)).length := by simp
     have hid2 : id = 0 ∨ id = 1 := by omega
     rcases hid2 with rfl | rfl
     ·repeat' (first | refine DW_VB tabs rfl d1 ?_ | refine DW_VI tabs rfl (by first | exact fi | exact la) ?_ | refine DW_A tabs rfl ?_ | refine DW_nil ?_ | refine W_A rfl ?_ | refine DW_app tabOK rfl rfl (by simp; omega) (by simp; omega) ?_ | refine DW_app0 tabOK rfl (by simp; omega) (by simp; omega) ?_)
      refine DW_ix tabOK rfl (ixN hx) ?_
      repeat' (first | refine DW_VI tabs rfl (by first | exact fi | exact la) ?_ | refine DW_A tabs rfl ?_ | refine DW_nil ?_ | refine W_A rfl ?_ | refine DW_app tabOK rfl rfl (by simp; omega) (by simp; omega) ?_ | refine DW_app0 tabOK rfl (by simp; omega) (by simp; omega) ?_)
      refine DW_oapp tabOK rfl rfl rfl rfl rfl (l := cells) rfl rfl rfl rfl rfl rfl rfl rfl rfl rfl (by omega) (by omega) (by simp; omega) (by simp; omega) ?_
      intro cap' l' g1 g2 g3
      repeat' (first | refine DW_VI tabs rfl (by first | exact la | exact fi) ?_ | refine DW_A tabs rfl ?_ | refine DW_nil ?_ | refine W_A rfl ?_ | refine DW_app tabOK rfl rfl (by simp; omega) (by simp; omega) ?_ | refine DW_app0 tabOK rfl (by simp; omega) (by simp; omega) ?_)
      obtain ⟨k1, k2, k3⟩ := cat_next hce g1 g2 g3
      have hg := rowG_all (k := 1) (id := 1) k1 k2 k3 (avs_closed h _)
      refine ⟨hi1, _, _, ⟨cap', rowG ((A ++ r.1).map (avV h)) cap', 1, Nat.le_refl 1, ?_, ?_, ?_, rfl, rfl⟩, Joint.move (k := 1) (id := 1) (Nat.le_refl 1) (Nat.le_refl 1) rfl hg.1 hg.2 trivial ?_ trivial⟩
      ·rw [hs]; rw [List.length_map] at k3; exact k3
      ·rw [hs]; have := rowG_take ((A ++ r.1).map (avV h)) cap'; rw [List.length_map] at this; exact this
      ·exact rowG_len k3
      ·rw [hs, hl]
       exact cat_K SubK.osl rfl rfl rfl
     ·repeat' (first | refine DW_VB tabs rfl d1 ?_ | refine DW_VI tabs rfl (by first | exact fi | exact la) ?_ | refine DW_A tabs rfl ?_ | refine DW_nil ?_ | refine W_A rfl ?_ | refine DW_app tabOK rfl rfl (by simp; omega) (by simp; omega) ?_ | refine DW_app0 tabOK rfl (by simp; omega) (by simp; omega) ?_)
      refine DW_ix tabOK rfl (ixN hx) ?_
      repeat' (first | refine DW_VI tabs rfl (by first | exact fi | exact la) ?_ | refine DW_A tabs rfl ?_ | refine DW_nil ?_ | refine W_A rfl ?_ | refine DW_app tabOK rfl rfl (by simp; omega) (by simp; omega) ?_ | refine DW_app0 tabOK rfl (by simp; omega) (by simp; omega) ?_)
      refine DW_oapp tabOK rfl rfl rfl rfl rfl (l := cells) rfl rfl rfl rfl rfl rfl rfl rfl rfl rfl (by omega) (by omega) (by simp; omega) (by simp; omega) ?_
      intro cap' l' g1 g2 g3
      repeat' (first | refine DW_VI tabs rfl (by first | exact la | exact fi) ?_ | refine DW_A tabs rfl ?_ | refine DW_nil ?_ | refine W_A rfl ?_ | refine DW_app tabOK rfl rfl (by simp; omega) (by simp; omega) ?_ | refine DW_app0 tabOK rfl (by simp; omega) (by simp; omega) ?_)
      obtain ⟨k1, k2, k3⟩ := cat_next hce g1 g2 g3
      have hg := rowG_all (k := 1) (id := 2) k1 k2 k3 (avs_closed h _)
      refine ⟨hi1, _, _, ⟨cap', rowG ((A ++ r.1).map (avV h)) cap', 1, Nat.le_refl 1, ?_, ?_, ?_, rfl, rfl⟩, Joint.move (k := 1) (id := 2) (Nat.le_refl 1) (by omega) rfl hg.1 hg.2 trivial ?_ trivial⟩
      ·rw [hs]; rw [List.length_map] at k3; exact k3
      ·rw [hs]; have := rowG_take ((A ++ r.1).map (avV h)) cap'; rw [List.length_map] at this; exact this
      ·exact rowG_len k3
      ·rw [hs, hl]
       exact cat_K SubK.osl rfl rfl rfl
    ·have d1 : decide ((i : Int) < (rows.length : Int)) = false := by simp; omega
     obtain rfl : i = rows.length := by omega
     rw [List.take_length] at hce hcap
     rw [List.take_length]
     have hid2 : id = 0 ∨ id = 1 := by omega
     rcases hid2 with rfl | rfl
     ·refine W_ghost (Joint.freeze 6 (xs := (flatV rows).map (avV h)) rfl rfl hce (by omega) hcap (avs_one h _)) ?_
      repeat' (first | refine DW_VB tabs rfl d1 ?_ | refine DW_A tabs rfl ?_ | refine DW_nil ?_ | refine W_A rfl ?_ | refine DW_app tabOK rfl rfl (by simp; omega) (by simp; omega) ?_ | refine DW_app0 tabOK rfl (by simp; omega) (by simp; omega) ?_)
      exact ⟨rfl, _, rfl, _, rfl, SubC.of_closed (closed_vxs h _)⟩
     ·refine W_ghost (Joint.freeze 6 (xs := (flatV rows).map (avV h)) rfl rfl hce (by omega) hcap (avs_one h _)) ?_
      repeat' (first | refine DW_VB tabs rfl d1 ?_ | refine DW_A tabs rfl ?_ | refine DW_nil ?_ | refine W_A rfl ?_ | refine DW_app tabOK rfl rfl (by simp; omega) (by simp; omega) ?_ | refine DW_app0 tabOK rfl (by simp; omega) (by simp; omega) ?_)
      exact ⟨rfl, _, rfl, _, rfl, SubC.of_closed (closed_vxs h _)⟩
end Go.Proofs.YtmgkebghojhocaaGreatDoor
/- Forks are made of vertices. No further condition. -/
set_option linter.unusedVariables false
set_option linter.unusedSimpArgs false
namespace Go.Proofs.YtmgkebghojhocaaGreatDoor
open Go.Ab
def tyV : Nat → TypeId
 | 0 => 189
 | _ + 1 => 198
def inV : (h : Nat) → Vt h → AV
 | 0, l => .sl 3 (l.row.map Pr.av) .none
 | h + 1, l => .agg [.sl 1 (l.kids.map (avV h)) .none, .int .i64 ((allV (h + 1) l).length : Int)]
theorem avV_eq (h : Nat) (v : Vt h) : avV h v = .iface (tyV h) (inV h v) := by cases h <;> rfl
theorem vx_get {h : Nat} {l : List (Vt h)} {i : Nat} {x : Vt h} (hx : l[i]? = some x) : (l.map (avV h))[i]? = some (.iface (tyV h) (inV h x)) := by
 rw [← avV_eq]
 exact map_get hx
set_option maxRecDepth 100000 in
theorem leafAll_ok (l : List Pr) : APure Tryz.prog 230 [.sl 3 (l.map Pr.av) .none] (.int .i64 (l.length : Int)) := by
 intro M
 refine acalls_of tabOK Tryz.func230 rfl (by decide) (by simp [Tryz.f230]) ?_
 have la : ((l.map Pr.av).length : Int) = (l.length : Int) := by simp
 repeat' (first | refine DW_VI tabs rfl la ?_ | refine DW_A tabs rfl ?_ | refine DW_nil ?_ | refine W_A rfl ?_)
 exact ⟨rfl, _, rfl, rfl, rfl⟩
set_option maxRecDepth 100000 in
theorem forkAll_ok (x : AV) (n : Int) : APure Tryz.prog 244 [.agg [x, .int .i64 n]] (.int .i64 n) := by
 intro M
 refine acalls_of tabOK Tryz.func244 rfl (by decide) (by simp [Tryz.f244]) ?_
 repeat' (first | refine DW_A tabs rfl ?_ | refine DW_nil ?_ | refine W_A rfl ?_)
 exact ⟨rfl, _, rfl, rfl, rfl⟩
def fAll : Nat → FuncId
 | 0 => 230
 | _ + 1 => 244
theorem mAll (h : Nat) : methF Tryz.prog (tyV h) "sexton/tree.all" = some (fAll h) := by
 cases h
 ·show methF Tryz.prog 189 "sexton/tree.all" = some 230
  kernel_rfl
 ·show methF Tryz.prog 198 "sexton/tree.all" = some 244
  kernel_rfl
theorem all_ok (h : Nat) (v : Vt h) : APure Tryz.prog (fAll h) [inV h v] (.int .i64 ((allV h v).length : Int)) := by
 cases h with
 | zero => exact leafAll_ok v.row
 | succ h => exact forkAll_ok _ _
theorem allL_take {h : Nat} {l : List (Vt h)} {i : Nat} {x : Vt h} (hx : l[i]? = some x) : allL h (l.take (i + 1)) = allL h (l.take i) ++ allV h x := by
 rw [take_succ hx, allL_app, allL_one]
theorem allL_takeLe {h : Nat} (l : List (Vt h)) (i : Nat) : (allL h (l.take i)).length ≤ (allL h l).length := by
 have : l = l.take i ++ l.drop i := (List.take_append_drop i l).symm
 conv => rhs; rw [this]
 rw [allL_app, List.length_append]
 omega
theorem halves_sub {h : Nat} {l : List (Vt h)} {r : List (Vt h)} (hr : r ∈ halvesL l) : (allL h r).length ≤ (allL h l).length := by
 unfold halvesL at hr
 split at hr
 ·simp at hr
  rw [hr]
  exact Nat.le_refl _
 ·simp only [List.mem_cons, List.not_mem_nil, or_false] at hr
  rcases hr with rfl | rfl
  ·exact allL_takeLe _ _
  ·have := allL_app (h := h) (l.take (l.length / 2)) (l.drop (l.length / 2))
   rw [List.take_append_drop] at this
   rw [this, List.length_append]
   omega
def tokN (g : Nat) (c : List AV) : Mem := ⟨2, [(1, .cells c), (0, .spare g)]⟩
theorem tokN_of {g : Nat} {c : List AV} {M : Mem} (hn : 2 = M.next) (h1 : M.get 1 = some (.cells c)) (h0 : M.get 0 = some (.spare g)) : (tokN g c).le M := Mem.le_cons h1 (Mem.le_cons h0 (Mem.le_nil hn))
theorem vx1_app {h : Nat} {a : List (Vt (h + 1))} {r : Vt (h + 1)} {t : Tag} {n : Int} (hn : n = ((allV (h + 1) r).length : Int)) : AV.sl 1 (a.map (avV (h + 1)) ++ [.iface 198 (.agg [.sl 1 (r.kids.map (avV h)) .none, .int .i64 n])]) t = .sl 1 ((a ++ [r]).map (avV (h + 1))) t := by
 rw [List.map_append, hn]
 rfl
def rowsV1 (h : Nat) (l : List (Vt (h + 1))) : AV := .sl 1 (l.map fun r => .sl 1 (r.kids.map (avV h)) .none) .full
theorem closed_rowsV1 (h : Nat) (rows : List (Vt (h + 1))) : Closed (rowsV1 h rows) := by
 have h1 : ∀ x, x ∈ (rows.map fun r => AV.sl 1 (r.kids.map (avV h)) .none) → Closed x := by
  intro x hx
  obtain ⟨a, _, rfl⟩ := List.mem_map.1 hx
  exact closed_vxs h a.kids
 refine closed_sl (.inr rfl) h1 ?_
 intro x hx c hc
 obtain ⟨a, _, rfl⟩ := List.mem_map.1 hx
 have : c = .sl 1 (a.kids.map (avV h)) .none := by simpa [AV.cells] using hc
 exact this ▸ closed_vxs h a.kids
set_option maxRecDepth 100000 in
theorem forks_ok (h : Nat) (l : List (Vt h)) (hl : l.length < 10000) (hs : (allL h l).length < 1000000000) : APure Tryz.prog 134 [.sl 1 (l.map (avV h)) .none] (.sl 1 ((halvesL l : List (Vt (h + 1))).map (avV (h + 1))) .none) := by
 refine pure_sub (closed1 (closed_vxs h l)) (closed_vxs (h + 1) _) ?_
 refine acalls_of tabOK Tryz.func134 rfl (by decide) (by simp [Tryz.f134]) ?_
 have k0 := halvesV_ok h l (by omega)
 have hlen := halves_len l
 have h20 : (halvesL l).length ≤ 2 := by rw [hlen]; split <;> omega
 have hsub0 : ∀ r, r ∈ halvesL l → (allL h r).length < 1000000000 ∧ r.length ≤ l.length := fun r hr => ⟨by have := halves_sub hr; omega, by
  unfold halvesL at hr
  split at hr
  ·simp at hr; rw [hr]; exact Nat.le_refl _
  ·simp at hr
   rcases hr with rfl | rfl <;> simp <;> omega⟩
 obtain ⟨rows, hrows⟩ : ∃ rows : List (Vt (h + 1)), rows = halvesL l := ⟨_, rfl⟩
 have h2 : rows.length ≤ 2 := by rw [hrows]; exact h20
 have hsub : ∀ r, r ∈ rows → (allL h r.kids).length < 1000000000 ∧ r.kids.length ≤ l.length := by rw [hrows]; exact hsub0
 have k : APure Tryz.prog 163 [.sl 1 (l.map (avV h)) .none] (rowsV1 h rows) := by rw [hrows]; exact k0
 have hg : ((halvesL l : List (Vt (h + 1))).map (avV (h + 1))) = rows.map (avV (h + 1)) := by rw [hrows]
 rw [hg]
 unfold rowsV1 at k
 have la : ((rows.map fun r => AV.sl 1 (r.kids.map (avV h)) .none).length : Int) = (rows.length : Int) := by simp
 repeat' (first | refine DW_VI tabs rfl la ?_ | refine DW_A tabs rfl ?_ | refine DW_nil ?_ | refine W_A rfl ?_ | refine DW_C rfl k ?_ | refine DW_row tabOK rfl ?_ | refine DW_app tabOK rfl rfl (by simp; omega) (by simp; omega) ?_ | refine DW_app0 tabOK rfl (by simp; omega) (by simp; omega) ?_ | refine W_draw mixed [2, 3, 0, 1, 4, 5, 6] [.R, .R, .P, .P, .P, .R, .E] rfl rfl (by kernel_rfl) ?_)
 refine W_count rows.length (fun i f N => ∃ (g : Nat), N = tokM g ∧ f = ⟨[(3, .sl 1 ((rows.take i).map (avV (h + 1))) (.tok 0 g)), (10, .sl 1 (rows.map fun r => .sl 1 (r.kids.map (avV h)) .none) .full), (11, .int .i64 (rows.length : Int)), (12, .int .i64 (i : Int))], []⟩) (Nat.zero_le _) ⟨0, rfl, rfl⟩
  ((Joint.tok 3 rfl (sz' := 1) (.inr rfl)).trans (Joint.le ?_ (tokM_of rfl rfl))) ?_
 ·skip
  repeat (refine AF.le_cons rfl ?_)
  exact AF.le_nil rfl
 ·rintro i f N hi ⟨g, rfl, rfl⟩
  by_cases h1 : i < rows.length
  ·have d1 : decide ((i : Int) < (rows.length : Int)) = true := by simp; omega
   have hx : rows[i]? = some rows[i] := List.getElem?_eq_getElem h1
   have fi := wrap_succ (i := i) (by omega)
   have hs := take_succ hx
   have hrs := hsub rows[i] (List.getElem_mem h1)
   generalize rows[i] = r at hx hs hrs
   have lr : ((r.kids.map (avV h)).length : Int) = (r.kids.length : Int) := by simp
   repeat' (first | refine DW_VB tabs rfl d1 ?_ | refine DW_VI tabs rfl (by first | exact fi | exact la) ?_ | refine DW_A tabs rfl ?_ | refine DW_nil ?_ | refine W_A rfl ?_ | refine DW_row tabOK rfl ?_ | refine DW_app tabOK rfl rfl (by simp; omega) (by simp; omega) ?_ | refine DW_app0 tabOK rfl (by simp; omega) (by simp; omega) ?_ | refine W_draw mixed [2, 3, 0, 1, 4, 5, 6] [.R, .R, .P, .P, .P, .R, .E] rfl rfl (by kernel_rfl) ?_)
   refine DW_ix tabOK rfl (ixN hx) ?_
   repeat' (first | refine DW_VI tabs rfl (by first | exact fi | exact la | exact lr) ?_ | refine DW_A tabs rfl ?_ | refine DW_nil ?_ | refine W_A rfl ?_ | refine DW_row tabOK rfl ?_ | refine DW_app tabOK rfl rfl (by simp; omega) (by simp; omega) ?_ | refine DW_app0 tabOK rfl (by simp; omega) (by simp; omega) ?_ | refine W_draw mixed [2, 3, 0, 1, 4, 5, 6] [.R, .R, .P, .P, .P, .R, .E] rfl rfl (by kernel_rfl) ?_)
   refine W_count r.kids.length (fun j f N => N = tokN g [.sl 1 (r.kids.map (avV h)) .none, .int .i64 ((allL h (r.kids.take j)).length : Int)] ∧ f = ⟨[(3, .sl 1 ((rows.take i).map (avV (h + 1))) (.tok 0 g)), (6, .ptr 1 0), (10, .sl 1 (rows.map fun r => .sl 1 (r.kids.map (avV h)) .none) .full), (11, .int .i64 (rows.length : Int)), (12, .int .i64 (i : Int)), (18, .sl 1 (r.kids.map (avV h)) .none), (19, .int .i64 (r.kids.length : Int)), (20, .int .i64 (j : Int))], []⟩) (Nat.zero_le _) ⟨rfl, rfl⟩ (Joint.le ?_ (tokN_of rfl rfl rfl)) ?_
   ·skip
    repeat (refine AF.le_cons rfl ?_)
    exact AF.le_nil rfl
   ·rintro j f N hj ⟨rfl, rfl⟩
    by_cases h3 : j < r.kids.length
    ·have d3 : decide ((j : Int) < (r.kids.length : Int)) = true := by simp; omega
     have hy : r.kids[j]? = some r.kids[j] := List.getElem?_eq_getElem h3
     have fj := wrap_succ (i := j) (by omega)
     have ht := allL_take hy
     have hle := allL_takeLe r.kids (j + 1)
     generalize r.kids[j] = y at hy ht
     rw [ht, List.length_append] at hle
     have w1 : IntKind.wrap .i64 (((allL h (r.kids.take j)).length : Int) + ((allV h y).length : Int)) = ((allL h (r.kids.take (j + 1))).length : Int) := by
      rw [ht, List.length_append]
      exact (Go.Ab.wrap_small (by omega) (by omega)).trans (by omega)
     have ky := all_ok h y
     have my := mAll h
     repeat' (first | refine DW_VB tabs rfl d3 ?_ | refine DW_VI tabs rfl fj ?_ | refine DW_A tabs rfl ?_ | refine DW_nil ?_ | refine W_A rfl ?_ | refine DW_row tabOK rfl ?_ | refine DW_app tabOK rfl rfl (by simp; omega) (by simp; omega) ?_ | refine DW_app0 tabOK rfl (by simp; omega) (by simp; omega) ?_ | refine W_draw mixed [2, 3, 0, 1, 4, 5, 6] [.R, .R, .P, .P, .P, .R, .E] rfl rfl (by kernel_rfl) ?_)
     refine DW_index tabOK rfl rfl rfl rfl rfl rfl rfl rfl rfl rfl (Int.natCast_nonneg _) (vx_get hy) ?_
     repeat' (first | refine DW_VI tabs rfl fj ?_ | refine DW_A tabs rfl ?_ | refine DW_nil ?_ | refine W_A rfl ?_ | refine DW_row tabOK rfl ?_ | refine DW_app tabOK rfl rfl (by simp; omega) (by simp; omega) ?_ | refine DW_app0 tabOK rfl (by simp; omega) (by simp; omega) ?_ | refine W_draw mixed [2, 3, 0, 1, 4, 5, 6] [.R, .R, .P, .P, .P, .R, .E] rfl rfl (by kernel_rfl) ?_)
     refine DW_invoke rfl rfl rfl rfl rfl my ky ?_
     repeat' (first | refine DW_VI tabs rfl (by first | exact fj | exact w1) ?_ | refine DW_A tabs rfl ?_ | refine DW_nil ?_ | refine W_A rfl ?_ | refine DW_row tabOK rfl ?_ | refine DW_app tabOK rfl rfl (by simp; omega) (by simp; omega) ?_ | refine DW_app0 tabOK rfl (by simp; omega) (by simp; omega) ?_ | refine W_draw mixed [2, 3, 0, 1, 4, 5, 6] [.R, .R, .P, .P, .P, .R, .E] rfl rfl (by kernel_rfl) ?_)
     refine ⟨h3, _, _, ⟨rfl, rfl⟩, Joint.le ?_ (tokN_of rfl rfl rfl)⟩
     repeat (refine AF.le_cons rfl ?_)
     exact AF.le_nil rfl
    ·have d3 : decide ((j : Int) < (r.kids.length : Int)) = false := by simp; omega
     obtain rfl : j = r.kids.length := by omega
     repeat' (first | refine DW_VB tabs rfl d3 ?_ | refine DW_VI tabs rfl fi ?_ | refine DW_A tabs rfl ?_ | refine DW_nil ?_ | refine W_A rfl ?_ | refine DW_row tabOK rfl ?_ | refine DW_app tabOK rfl rfl (by simp; omega) (by simp; omega) ?_ | refine DW_app0 tabOK rfl (by simp; omega) (by simp; omega) ?_ | refine W_draw mixed [2, 3, 0, 1, 4, 5, 6] [.R, .R, .P, .P, .P, .R, .E] rfl rfl (by kernel_rfl) ?_)
     refine ⟨h1, _, _, ⟨g + 1, rfl, rfl⟩, ?_⟩
     refine Joint.cut (k := 1) (Nat.zero_le _) (by show 1 ≤ 2; omega) rfl ⟨?_, ?_, ?_, ?_, trivial⟩ ⟨by decide, rfl, trivial⟩
     ·rw [hs, ← vx1_app (n := ((allL h (r.kids.take r.kids.length)).length : Int)) (by rw [List.take_length]; rfl)]
      refine SubC.tok (by decide) ?_
      intro x hx c hc
      have hx' : x ∈ (rows.take i).map (avV (h + 1)) ++ [r].map (avV (h + 1)) := by
       rw [List.take_length] at hx
       exact hx
      rw [← List.map_append] at hx'
      rw [avs_one (h + 1) _ x hx'] at hc
      simp at hc
      exact hc ▸ avs_closed (h + 1) _ x hx'
     ·exact SubC.of_closed (closed_rowsV1 h rows)
     ·exact SubC.of_closed closed_int
     ·exact SubC.of_closed closed_int
  ·have d1 : decide ((i : Int) < (rows.length : Int)) = false := by simp; omega
   obtain rfl : i = rows.length := by omega
   repeat' (first | refine DW_VB tabs rfl d1 ?_ | refine DW_A tabs rfl ?_ | refine DW_nil ?_ | refine W_A rfl ?_ | refine DW_row tabOK rfl ?_ | refine DW_app tabOK rfl rfl (by simp; omega) (by simp; omega) ?_ | refine DW_app0 tabOK rfl (by simp; omega) (by simp; omega) ?_ | refine W_draw mixed [2, 3, 0, 1, 4, 5, 6] [.R, .R, .P, .P, .P, .R, .E] rfl rfl (by kernel_rfl) ?_)
   rw [List.take_length]
   exact ⟨rfl, _, rfl, _, rfl, SubC.untag (closed_vxs (h + 1) _)⟩
set_option maxRecDepth 100000 in
theorem leafFirst_ok (p : Pr) (l : List Pr) : APure Tryz.prog 232 [.sl 3 ((p :: l).map Pr.av) .none] p.key.av := by
 refine pure_sub (closed1 (closed_prs _)) (closed_ky _) ?_
 refine acalls_of tabOK Tryz.func232 rfl (by decide) (by simp [Tryz.f232]) ?_
 repeat' (first | refine DW_A tabs rfl ?_ | refine DW_nil ?_ | refine W_A rfl ?_)
 refine DW_index tabOK rfl rfl rfl rfl rfl rfl rfl rfl rfl rfl (Int.le_refl 0) rfl ?_
 repeat' (first | refine DW_A tabs rfl ?_ | refine DW_nil ?_ | refine W_A rfl ?_)
 exact ⟨rfl, _, rfl, _, rfl, SubC.of_closed (closed_ky _)⟩
def fFirst : Nat → FuncId
 | 0 => 232
 | _ + 1 => 246
theorem mFirst (h : Nat) : methF Tryz.prog (tyV h) "sexton/tree.first" = some (fFirst h) := by
 cases h
 ·show methF Tryz.prog 189 "sexton/tree.first" = some 232
  kernel_rfl
 ·show methF Tryz.prog 198 "sexton/tree.first" = some 246
  kernel_rfl
theorem first_kid {h : Nat} {x : Vt h} {l : List (Vt h)} (hx : allV h x ≠ []) : firstV (h + 1) (x :: l) = firstV h x := by
 unfold firstV
 have e : allV (h + 1) (x :: l) = allV h x ++ allL h l := allL_cons x l
 rw [e]
 cases hv : allV h x with
 | nil => exact absurd hv hx
 | cons p r => rfl
set_option maxRecDepth 100000 in
theorem forkFirst_ok (h : Nat) (x : Vt h) (l : List (Vt h)) (n : Int) (k : Ky) (hk : APure Tryz.prog (fFirst h) [inV h x] k.av) : APure Tryz.prog 246 [.agg [.sl 1 ((x :: l).map (avV h)) .none, .int .i64 n]] k.av := by
 refine pure_sub (closed1 (closed_agg (closed2 (closed_vxs h _) closed_int))) (closed_ky _) ?_
 refine acalls_of tabOK Tryz.func246 rfl (by decide) (by simp [Tryz.f246]) ?_
 have my := mFirst h
 repeat' (first | refine DW_A tabs rfl ?_ | refine DW_nil ?_ | refine W_A rfl ?_)
 refine DW_index tabOK rfl rfl rfl rfl rfl rfl rfl rfl rfl rfl (Int.le_refl 0) (vx_get (l := x :: l) (i := 0) rfl) ?_
 repeat' (first | refine DW_A tabs rfl ?_ | refine DW_nil ?_ | refine W_A rfl ?_)
 refine DW_invoke rfl rfl rfl rfl rfl my hk ?_
 repeat' (first | refine DW_A tabs rfl ?_ | refine DW_nil ?_ | refine W_A rfl ?_)
 exact ⟨rfl, _, rfl, _, rfl, SubC.of_closed (closed_ky _)⟩
theorem vFirst_ok : ∀ (h : Nat) (v : Vt h), (h = 0 → allV h v ≠ []) → (0 < h → okN h v) → APure Tryz.prog (fFirst h) [inV h v] (firstV h v).av
 | 0, l, h0, _ => by
  have hne : l.row ≠ [] := h0 rfl
  obtain ⟨p, r, hl⟩ : ∃ p r, l.row = p :: r := by
   cases hl : l.row with
   | nil => exact absurd hl hne
   | cons p r => exact ⟨p, r, rfl⟩
  have e1 : inV 0 l = .sl 3 ((p :: r).map Pr.av) .none := by show AV.sl 3 (l.row.map Pr.av) .none = _; rw [hl]
  have e2 : firstV 0 l = p.key := by unfold firstV; show ((l.row).headD _).key = _; rw [hl]; rfl
  rw [e1, e2]
  exact leafFirst_ok p r
 | h + 1, l, _, h1 => by
  obtain ⟨k1, k2, k3⟩ := h1 (Nat.succ_pos h)
  obtain ⟨x, r, hl⟩ : ∃ x r, l.kids = x :: r := by
   cases hl : l.kids with
   | nil => rw [hl] at k1; simp at k1
   | cons p r => exact ⟨p, r, rfl⟩
  have hx : okN h x := k3 x (by rw [hl]; simp)
  have hne := okN_ne h x hx
  have e1 : inV (h + 1) l = .agg [.sl 1 ((x :: r).map (avV h)) .none, .int .i64 ((allV (h + 1) l).length : Int)] := by
   show AV.agg [.sl 1 (l.kids.map (avV h)) .none, .int .i64 ((allV (h + 1) l).length : Int)] = _
   rw [hl]
  have e2 : firstV (h + 1) l = firstV h x := (show firstV (h + 1) l.kids = _ by rw [hl]; exact first_kid hne)
  rw [e1, e2]
  exact forkFirst_ok h x r _ _ (vFirst_ok h x (fun _ => hne) (fun _ => hx))
end Go.Proofs.YtmgkebghojhocaaGreatDoor
/- A pair is put into a tree. No further condition. -/
set_option linter.unusedVariables false
set_option linter.unusedSimpArgs false
namespace Go.Proofs.YtmgkebghojhocaaGreatDoor
open Go.Ab
set_option maxRecDepth 100000 in
theorem belowF_ok (h : Nat) (x : Vt h) (hx : okN h x) (k : Ky) : APure Tryz.prog 253 [avV h x, .ref [.str k.path, .int .i64 k.time]] (.bool (rless k (firstV h x))) := by
 have hk := vFirst_ok h x (fun _ => okN_ne h x hx) (fun _ => hx)
 rw [avV_eq]
 intro M
 refine acalls_of tabOK Tryz.func253 rfl (by decide) (by simp [Tryz.f253]) ?_
 have my := mFirst h
 have kl := less_ok k (firstV h x)
 rw [toS_neg] at kl
 generalize firstV h x = q at hk kl
 repeat' (first | refine DW_A tabs rfl ?_ | refine DW_nil ?_ | refine W_A rfl ?_ | refine W_draw mixed [1, 2, 0, 3, 4] [.R, .P, .P, .P, .P] rfl rfl (by kernel_rfl) ?_)
 refine DW_invoke rfl rfl rfl rfl rfl my hk ?_
 repeat' (first | refine DW_A tabs rfl ?_ | refine DW_nil ?_ | refine W_A rfl ?_ | refine DW_C rfl kl ?_ | refine W_draw mixed [1, 2, 0, 3, 4] [.R, .P, .P, .P, .P] rfl rfl (by kernel_rfl) ?_)
 exact ⟨rfl, _, rfl, rfl, rfl⟩
set_option maxRecDepth 100000 in
theorem below_ok (h : Nat) (l : List (Vt h)) (n : Int) (hl : l.length < 100000) (hv : ∀ v, v ∈ l → okN h v) (k : Ky) : APure Tryz.prog 250 [.agg [.sl 1 (l.map (avV h)) .none, .int .i64 n], k.av] (.int .i64 (belowV l k : Int)) := by
 intro M
 refine acalls_of tabOK Tryz.func250 rfl (by decide) (by simp [Tryz.f250]) ?_
 have kf := indexV_ok h l .none (by omega) 253 [] [.ref [.str k.path, .int .i64 k.time]] (fun v => rless k (firstV h v)) (fun x hx => belowF_ok h x (hv x hx) k)
 have la : ((l.map (avV h)).length : Int) = (l.length : Int) := by simp
 unfold idxI at kf
 unfold belowV
 have hle : (l.findIdx fun v => rless k (firstV h v)) ≤ l.length := List.findIdx_le_length
 generalize (l.findIdx fun v => rless k (firstV h v)) = j at kf hle
 have hmax : (if true = true then (if (j : Int) - 1 < 0 then 0 else (j : Int) - 1) else if 0 < (j : Int) - 1 then 0 else (j : Int) - 1) = ((j - 1 : Nat) : Int) := by
  rw [if_pos rfl]
  split <;> omega
 have w1 : IntKind.wrap .i64 ((j : Int) - 1) = (j : Int) - 1 := Go.Ab.wrap_small (by omega) (by omega)
 by_cases h1 : j < l.length
 ·rw [if_pos h1] at kf
  have d1 : decide ((j : Int) < 0) = false := by simp
  repeat' (first | refine DW_VB tabs rfl d1 ?_ | refine DW_VI tabs rfl (by first | exact la | exact w1 | exact hmax) ?_ | refine DW_A tabs rfl ?_ | refine DW_nil ?_ | refine W_A rfl ?_ | refine DW_C rfl kf ?_)
  exact ⟨rfl, _, rfl, rfl, rfl⟩
 ·rw [if_neg h1] at kf
  obtain rfl : j = l.length := by omega
  repeat' (first | refine DW_VI tabs rfl (by first | exact la | exact w1 | exact hmax) ?_ | refine DW_A tabs rfl ?_ | refine DW_nil ?_ | refine W_A rfl ?_ | refine DW_C rfl kf ?_)
  exact ⟨rfl, _, rfl, rfl, rfl⟩
set_option maxRecDepth 100000 in
theorem with_ok (h : Nat) (l : List (Vt h)) (n : Int) (hl : l.length < 10000) (i many : Nat) (him : i + many ≤ l.length) (m : List (Vt h)) (hm : m.length < 10000) (h0 : 0 < (withL l i many m).length) : APure Tryz.prog 251 [.agg [.sl 1 (l.map (avV h)) .none, .int .i64 n], .int .i64 (i : Int), .int .i64 (many : Int), .sl 1 (m.map (avV h)) .none] (.sl 1 ((withL l i many m).map (avV h)) .none) := by
 intro M
 refine acalls_of tabOK Tryz.func251 rfl (by decide) (by simp [Tryz.f251]) ?_
 have e : flatV [(l.take i, false), (m, false), (l.drop (i + many), false)] = withL l i many m := by simp [flatV, withL]
 have hlen : (withL l i many m).length ≤ l.length + m.length := by unfold withL; simp; omega
 have kc := concatV_ok h [(l.take i, false), (m, false), (l.drop (i + many), false)] true (by simp) (by rw [e]; exact h0) (by rw [e]; omega)
 rw [e] at kc
 have w1 : IntKind.wrap .i64 ((i : Int) + (many : Int)) = ((i + many : Nat) : Int) := (Go.Ab.wrap_small (by omega) (by omega)).trans (by omega)
 repeat' (first | refine DW_VI tabs rfl w1 ?_ | refine DW_A tabs rfl ?_ | refine DW_nil ?_ | refine W_A rfl ?_ | refine DW_row tabOK rfl ?_ | refine W_draw mixed [2, 4, 7, 8, 9, 0, 1, 3, 5, 6, 10, 11, 12, 13] [.R, .R, .P, .P, .P, .R, .R, .P, .P, .P, .P, .P, .P, .P] rfl rfl (by kernel_rfl) ?_)
 refine DW_to tabOK rfl rfl rfl rfl (n := i) rfl rfl rfl rfl rfl rfl (by omega) ?_
 repeat' (first | refine DW_VI tabs rfl w1 ?_ | refine DW_A tabs rfl ?_ | refine DW_nil ?_ | refine W_A rfl ?_ | refine DW_row tabOK rfl ?_ | refine W_draw mixed [2, 4, 7, 8, 9, 0, 1, 3, 5, 6, 10, 11, 12, 13] [.R, .R, .P, .P, .P, .R, .R, .P, .P, .P, .P, .P, .P, .P] rfl rfl (by kernel_rfl) ?_)
 refine DW_from tabOK rfl rfl rfl rfl (lo := i + many) rfl rfl rfl rfl rfl rfl him ?_
 repeat' (first | refine DW_A tabs rfl ?_ | refine DW_nil ?_ | refine W_A rfl ?_ | refine DW_C rfl kc ?_ | refine DW_row tabOK rfl ?_ | refine W_draw mixed [2, 4, 7, 8, 9, 0, 1, 3, 5, 6, 10, 11, 12, 13] [.R, .R, .P, .P, .P, .R, .R, .P, .P, .P, .P, .P, .P, .P] rfl rfl (by kernel_rfl) ?_)
 exact ⟨rfl, _, rfl, rfl, rfl⟩
set_option maxRecDepth 100000 in
theorem leafPut_ok (l : List Pr) (hl : l.length < 1000) (p : Pr) : APure Tryz.prog 234 [.sl 3 (l.map Pr.av) .none, p.av] (.sl 1 ((putV 0 (l : Vt 0) p).map (avV 0)) .none) := by
 intro M
 refine acalls_of tabOK Tryz.func234 rfl (by decide) (by simp [Tryz.f234]) ?_
 have k1 := nPut_ok l (by omega) p
 have hp := putP_len l p
 have k2 := leaves_ok (putP l p) (by omega)
 repeat' (first | refine DW_A tabs rfl ?_ | refine DW_nil ?_ | refine W_A rfl ?_ | refine DW_C rfl k1 ?_ | refine DW_C rfl k2 ?_)
 exact ⟨rfl, _, rfl, rfl, rfl⟩
def fPut : Nat → FuncId
 | 0 => 234
 | _ + 1 => 248
theorem mPut (h : Nat) : methF Tryz.prog (tyV h) "sexton/tree.put" = some (fPut h) := by
 cases h
 ·show methF Tryz.prog 189 "sexton/tree.put" = some 234
  kernel_rfl
 ·show methF Tryz.prog 198 "sexton/tree.put" = some 248
  kernel_rfl
set_option maxRecDepth 100000 in
theorem forkPut_ok (h : Nat) (l : List (Vt h)) (n : Int) (p : Pr) (hl : l.length < 1000) (hv : ∀ v, v ∈ l → okN h v) (x : Vt h) (hx : l[belowV l p.key]? = some x) (r : List (Vt h)) (hr : r.length ≤ 10) (hr0 : 0 < r.length) (hs : (allL h (withL l (belowV l p.key) 1 r)).length < 1000000000)
  (hk : APure Tryz.prog (fPut h) [inV h x, p.av] (.sl 1 (r.map (avV h)) .none)) : APure Tryz.prog 248 [.agg [.sl 1 (l.map (avV h)) .none, .int .i64 n], p.av] (.sl 1 ((halvesL (withL l (belowV l p.key) 1 r) : List (Vt (h + 1))).map (avV (h + 1))) .none) := by
 intro M
 refine acalls_of tabOK Tryz.func248 rfl (by decide) (by simp [Tryz.f248]) ?_
 have kb := below_ok h l n (by omega) hv p.key
 have hlt := (List.getElem?_eq_some_iff.1 hx).1
 generalize belowV l p.key = i at kb hx hs hlt
 have hlen : (withL l i 1 r).length ≤ l.length + r.length ∧ 0 < (withL l i 1 r).length := by unfold withL; simp; omega
 have kw := with_ok h l n (by omega) i 1 (by omega) r (by omega) hlen.2
 have kf := forks_ok h (withL l i 1 r) (by omega) hs
 have my := mPut h
 repeat' (first | refine DW_A tabs rfl ?_ | refine DW_nil ?_ | refine W_A rfl ?_ | refine DW_C rfl kb ?_ | refine W_draw mixed [1, 4, 0, 2, 3, 5, 6, 7, 8, 9, 10, 11] [.R, .P, .R, .R, .P, .R, .R, .R, .P, .P, .P, .P] rfl rfl (by kernel_rfl) ?_)
 refine DW_index tabOK rfl rfl rfl rfl rfl rfl rfl rfl rfl rfl (Int.natCast_nonneg _) (vx_get hx) ?_
 repeat' (first | refine DW_A tabs rfl ?_ | refine DW_nil ?_ | refine W_A rfl ?_ | refine W_draw mixed [1, 4, 0, 2, 3, 5, 6, 7, 8, 9, 10, 11] [.R, .P, .R, .R, .P, .R, .R, .R, .P, .P, .P, .P] rfl rfl (by kernel_rfl) ?_)
 refine DW_invoke rfl rfl rfl rfl rfl my hk ?_
 repeat' (first | refine DW_A tabs rfl ?_ | refine DW_nil ?_ | refine W_A rfl ?_ | refine DW_C rfl kw ?_ | refine DW_C rfl kf ?_ | refine W_draw mixed [1, 4, 0, 2, 3, 5, 6, 7, 8, 9, 10, 11] [.R, .P, .R, .R, .P, .R, .R, .R, .P, .P, .P, .P] rfl rfl (by kernel_rfl) ?_)
 exact ⟨rfl, _, rfl, rfl, rfl⟩
theorem vPut_ok : ∀ (h : Nat) (v : Vt h) (p : Pr), okR h v → Rise (allV h v) → (allV h v).length < 100000000 → APure Tryz.prog (fPut h) [inV h v, p.av] (.sl 1 ((putV h v p).map (avV h)) .none)
 | 0, l, p, hv, _, _ => leafPut_ok l.row (by have : l.row.length ≤ 4 := hv; omega) p
 | h + 1, l, p, hv, hr, hn => by
  have hv' := hv
  obtain ⟨h1, h2, h3⟩ := hv
  have h0 : l.kids ≠ [] := by intro he; rw [he] at h1; simp at h1
  obtain ⟨a, v, b, e1, e2, e3, e4, e5⟩ := below_cut h0 h3 hr p.key
  have hvk : okN h v := h3 v (by rw [e1]; simp)
  have hall : allV (h + 1) l = allL h a ++ (allV h v ++ allL h b) := by
   show allL h l.kids = _
   rw [e1, allL_app, allL_cons]
  have hrv : Rise (allV h v) := by rw [hall] at hr; exact rise_mid hr
  have hnv : (allV h v).length < 100000000 := by rw [hall] at hn; simp at hn; omega
  obtain ⟨i1, i2, i3⟩ := put_all h v p (okN_okR hvk) hrv
  have ih := vPut_ok h v p (okN_okR hvk) hrv hnv
  have hw : withL l.kids (belowV l.kids p.key) 1 (putV h v p) = a ++ (putV h v p ++ b) := by rw [e2, e1]; exact with_at
  have hp := putP_len (allV h v) p
  have k := forkPut_ok h l.kids ((allV (h + 1) l).length : Int) p (by omega) h3 v e3 (putV h v p) (by omega) i3 (by
   rw [hw, allL_app, allL_app, i1]
   rw [hall] at hn
   simp at hn ⊢
   omega) ih
  have hp2 : putV (h + 1) l p = halvesL (withL l.kids (belowV l.kids p.key) 1 (putV h v p)) := by
   show halvesL (withL l.kids (belowV l.kids p.key) 1 (match l.kids[belowV l.kids p.key]? with
    | some kid => putV h kid p
    | none => [])) = _
   rw [e3]
  rw [hp2]
  exact k
end Go.Proofs.YtmgkebghojhocaaGreatDoor
