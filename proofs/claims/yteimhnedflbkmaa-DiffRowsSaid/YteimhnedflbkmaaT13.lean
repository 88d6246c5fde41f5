/- A step of the proof that the law holds: functions of the program, each shown to compute what its text says. No further condition. -/
import Derived.Test.YteimhnedflbkmaaT11
import Derived.Test.YteimhnedflbkmaaT2
namespace Go.Proofs.Yteimhnedflbkmaa
open Go.Ab

/-- Elements of which less is known. -/
def SubEl (x y : AV) : Prop := x.cells.length = y.cells.length ∧ ∀ (j : Nat) (c d : AV), x.cells[j]? = some c → y.cells[j]? = some d → Sub c d

theorem Sub.sl {sz : Nat} {xs ys : List AV} {t : Tag} (hl : xs.length = ys.length) (h : ∀ (i : Nat) (x y : AV), xs[i]? = some x → ys[i]? = some y → SubEl x y) : Sub (.sl sz xs t) (.sl sz ys .none) := by
  intro μ F w v hr
  obtain ⟨A, cap, ad, vals, rfl, h1, h2, h3, h4, h5, h6, h7⟩ := hr.sl_inv
  have key : ∀ (i : Nat) (y : AV) (j : Nat) (d : AV), ys[i]? = some y → y.cells[j]? = some d → ∃ x c, xs[i]? = some x ∧ x.cells[j]? = some c ∧ Sub c d := by
    intro i y j d hy hd
    have hi : i < xs.length := by rw [hl]; exact (List.getElem?_eq_some_iff.1 hy).1
    have he := h i _ y (List.getElem?_eq_getElem hi) hy
    have hj : j < xs[i].cells.length := by rw [he.1]; exact (List.getElem?_eq_some_iff.1 hd).1
    exact ⟨_, _, List.getElem?_eq_getElem hi, List.getElem?_eq_getElem hj, he.2 j _ d (List.getElem?_eq_getElem hj) hd⟩
  rw [hl]
  refine .sl _ _ _ _ _ ad vals ?_ (by omega) (by rw [← hl]; exact h3) ?_ ?_ ?_ trivial
  · intro y hy
    obtain ⟨i, hi⟩ := List.getElem?_of_mem hy
    have hi2 : i < xs.length := by rw [hl]; exact (List.getElem?_eq_some_iff.1 hi).1
    rw [← (h i _ y (List.getElem?_eq_getElem hi2) hi).1]
    exact h1 _ (List.getElem_mem hi2)
  · intro i y j d hy hd
    obtain ⟨x, c, hx, hc, _⟩ := key i y j d hy hd
    exact h4 i x j c hx hc
  · intro i y j d hy hd
    obtain ⟨x, c, hx, hc, _⟩ := key i y j d hy hd
    exact h5 i x j c hx hc
  · intro i y j d hy hd
    obtain ⟨x, c, hx, hc, hs⟩ := key i y j d hy hd
    exact hs _ _ _ _ (h6 i x j c hx hc)

theorem apure_sub1 {P : Program} {g : FuncId} {x y r : AV} (h : APure P g [y] r) (hs : Sub x y) : APure P g [x] r := fun M => (h M).sub rfl (by
  intro i a b ha hb
  match i, ha, hb with
  | 0, ha, hb => cases ha; cases hb; exact hs
  | i + 1, ha, hb => simp at ha)
theorem apure_sub2 {P : Program} {g : FuncId} {x y x' y' r : AV} (h : APure P g [x', y'] r) (hx : Sub x x') (hy : Sub y y') : APure P g [x, y] r := fun M => (h M).sub rfl (by
  intro i a b ha hb
  match i, ha, hb with
  | 0, ha, hb => cases ha; cases hb; exact hx
  | 1, ha, hb => cases ha; cases hb; exact hy
  | i + 2, ha, hb => simp at ha)

theorem subEl_en (p : Bytes) (a b c : Int) : SubEl (.agg [.str p, .int .i64 a, .int .i64 b, .int .i64 c, .sl 0 [] .full]) (En.av ⟨p, a, ⟨b, c, []⟩⟩) := by
  refine ⟨rfl, ?_⟩
  intro j x y hx hy
  match j, hx, hy with
  | 0, hx, hy => cases hx; cases hy; exact Sub.refl
  | 1, hx, hy => cases hx; cases hy; exact Sub.refl
  | 2, hx, hy => cases hx; cases hy; exact Sub.refl
  | 3, hx, hy => cases hx; cases hy; exact Sub.refl
  | 4, hx, hy =>
    cases hx; cases hy
    intro μ F w v hr
    exact rep_untag (Sub.empty (sz' := 1) (.inr rfl) μ F w v hr)
  | j + 5, hx, hy => simp [AV.cells] at hx

def exA : List En := [⟨[97], 0, ⟨1, 0, []⟩⟩, ⟨[98], 0, ⟨0, 0, []⟩⟩]
def exB : List En := [⟨[97], 0, ⟨2, 0, []⟩⟩, ⟨[99], 0, ⟨0, 0, []⟩⟩]
def exW : List Dl := [⟨[97], 2⟩, ⟨[98], 3⟩, ⟨[99], 1⟩]

theorem exE : (entriesS exA exB ([], 0)).1 = exW := by decide +kernel
theorem exBk : exW.map backD = [⟨[97], 2⟩, ⟨[98], 1⟩, ⟨[99], 3⟩] := by decide +kernel
theorem exT : (thenS [⟨[97], 1⟩] [⟨[97], 3⟩] ([], 0)).1 = [] := by decide +kernel

theorem entries_ex : APure Try.prog 10 [.sl 5 (exA.map En.av) .none, .sl 5 (exB.map En.av) .none] (.sl 2 (exW.map Dl.av) .none) := by
  have h := entries_ok exA exB (by constructor <;> decide) (by constructor <;> decide)
  rw [exE] at h
  exact h
theorem same_ex (l m : List Dl) (ta tb : Tag) (hl : l.length < 9223372036854775807) (h : l = m) : APure Try.prog 9 [.sl 2 (l.map Dl.av) ta, .sl 2 (m.map Dl.av) tb] (.bool true) := by
  have := same_ok l m ta tb hl
  rw [decide_eq_true h] at this
  exact this
theorem back_ex : APure Try.prog 12 [.sl 2 (exW.map Dl.av) .none] (.sl 2 (([⟨[97], 2⟩, ⟨[98], 1⟩, ⟨[99], 3⟩] : List Dl).map Dl.av) .none) := by
  have h := back12_ok exW (by decide)
  rw [exBk] at h
  exact h
theorem then_ex : APure Try.prog 14 [.sl 2 (([⟨[97], 1⟩] : List Dl).map Dl.av) .none, .sl 2 (([⟨[97], 3⟩] : List Dl).map Dl.av) .none] (.sl 2 [] .none) := by
  have h := then14_ok [⟨[97], 1⟩] [⟨[97], 3⟩] (by constructor <;> simp [goodK]) (by constructor <;> simp [goodK])
  rw [exT] at h
  exact h

set_option maxHeartbeats 1000000 in
theorem diffs_ok : APure Try.prog 7 [] (.bool true) := by
  intro M
  refine acalls_of tabOK Try.func7 rfl (by decide) (by simp [Try.f7]) ?_
  repeat' (first
        | (show DW _ _ _ _ _ _ _ _; first
          | refine DW_Q tabs rfl rfl rfl rfl ?_
          | refine DW_nil ?_
          | refine DW_R tabOK rfl rfl rfl rfl rfl ?_
          | refine DW_E tabOK rfl rfl rfl rfl rfl ?_
          | refine DW_E0 tabOK rfl rfl rfl rfl rfl ?_
          | refine DW_no rfl rfl rfl ?_
          | refine DW_no0 rfl rfl rfl ?_
          | refine DW_lits tabOK rfl rfl rfl rfl rfl rfl rfl rfl rfl rfl rfl rfl rfl ?_
          | refine DW_append_own tabOK rfl rfl rfl rfl rfl rfl rfl rfl rfl rfl rfl rfl rfl rfl rfl (by simp; omega) (by simp; omega) ?_)
        | (show W _ _ _ _ _ _; first
          | refine W_seq ?_
          | refine W_text rfl (fun _ _ _ h => h) ?_
          | refine W_block ?_
          | refine W_skip ?_
          | refine W_exit ?_
          | refine W_ret ?_
          | refine W_true rfl ?_
          | refine W_false rfl ?_
          | refine W_cond rfl (fun _ => ?_) (fun _ => ?_)))
  refine DW_pure rfl rfl rfl rfl rfl (apure_sub2 entries_ex ?_ ?_) ?_
  · refine Sub.sl rfl ?_
    intro i x y hx hy
    match i, hx, hy with
    | 0, hx, hy => cases hx; cases hy; exact subEl_en _ _ _ _
    | 1, hx, hy => cases hx; cases hy; exact subEl_en _ _ _ _
    | i + 2, hx, hy => simp at hx
  · refine Sub.sl rfl ?_
    intro i x y hx hy
    match i, hx, hy with
    | 0, hx, hy => cases hx; cases hy; exact subEl_en _ _ _ _
    | 1, hx, hy => cases hx; cases hy; exact subEl_en _ _ _ _
    | i + 2, hx, hy => simp at hx
  repeat' (first
        | (show DW _ _ _ _ _ _ _ _; first
          | refine DW_Q tabs rfl rfl rfl rfl ?_
          | refine DW_nil ?_
          | refine DW_R tabOK rfl rfl rfl rfl rfl ?_
          | refine DW_E tabOK rfl rfl rfl rfl rfl ?_
          | refine DW_E0 tabOK rfl rfl rfl rfl rfl ?_
          | refine DW_no rfl rfl rfl ?_
          | refine DW_no0 rfl rfl rfl ?_
          | refine DW_lits tabOK rfl rfl rfl rfl rfl rfl rfl rfl rfl rfl rfl rfl rfl ?_
          | refine DW_append_own tabOK rfl rfl rfl rfl rfl rfl rfl rfl rfl rfl rfl rfl rfl rfl rfl (by simp; omega) (by simp; omega) ?_)
        | (show W _ _ _ _ _ _; first
          | refine W_seq ?_
          | refine W_text rfl (fun _ _ _ h => h) ?_
          | refine W_block ?_
          | refine W_skip ?_
          | refine W_exit ?_
          | refine W_ret ?_
          | refine W_true rfl ?_
          | refine W_false rfl ?_
          | refine W_cond rfl (fun _ => ?_) (fun _ => ?_)))
  refine DW_pure rfl rfl rfl rfl rfl (same_ex exW exW _ .full (by decide) rfl) ?_
  repeat' (first
        | (show DW _ _ _ _ _ _ _ _; first
          | refine DW_Q tabs rfl rfl rfl rfl ?_
          | refine DW_nil ?_
          | refine DW_R tabOK rfl rfl rfl rfl rfl ?_
          | refine DW_E tabOK rfl rfl rfl rfl rfl ?_
          | refine DW_E0 tabOK rfl rfl rfl rfl rfl ?_
          | refine DW_no rfl rfl rfl ?_
          | refine DW_no0 rfl rfl rfl ?_
          | refine DW_lits tabOK rfl rfl rfl rfl rfl rfl rfl rfl rfl rfl rfl rfl rfl ?_
          | refine DW_append_own tabOK rfl rfl rfl rfl rfl rfl rfl rfl rfl rfl rfl rfl rfl rfl rfl (by simp; omega) (by simp; omega) ?_)
        | (show W _ _ _ _ _ _; first
          | refine W_seq ?_
          | refine W_text rfl (fun _ _ _ h => h) ?_
          | refine W_block ?_
          | refine W_skip ?_
          | refine W_exit ?_
          | refine W_ret ?_
          | refine W_true rfl ?_
          | refine W_false rfl ?_
          | refine W_cond rfl (fun _ => ?_) (fun _ => ?_)))
  refine DW_pure rfl rfl rfl rfl rfl back_ex ?_
  repeat' (first
        | (show DW _ _ _ _ _ _ _ _; first
          | refine DW_Q tabs rfl rfl rfl rfl ?_
          | refine DW_nil ?_
          | refine DW_R tabOK rfl rfl rfl rfl rfl ?_
          | refine DW_E tabOK rfl rfl rfl rfl rfl ?_
          | refine DW_E0 tabOK rfl rfl rfl rfl rfl ?_
          | refine DW_no rfl rfl rfl ?_
          | refine DW_no0 rfl rfl rfl ?_
          | refine DW_lits tabOK rfl rfl rfl rfl rfl rfl rfl rfl rfl rfl rfl rfl rfl ?_
          | refine DW_append_own tabOK rfl rfl rfl rfl rfl rfl rfl rfl rfl rfl rfl rfl rfl rfl rfl (by simp; omega) (by simp; omega) ?_)
        | (show W _ _ _ _ _ _; first
          | refine W_seq ?_
          | refine W_text rfl (fun _ _ _ h => h) ?_
          | refine W_block ?_
          | refine W_skip ?_
          | refine W_exit ?_
          | refine W_ret ?_
          | refine W_true rfl ?_
          | refine W_false rfl ?_
          | refine W_cond rfl (fun _ => ?_) (fun _ => ?_)))
  refine DW_pure rfl rfl rfl rfl rfl (same_ex [⟨[97], 2⟩, ⟨[98], 1⟩, ⟨[99], 3⟩] [⟨[97], 2⟩, ⟨[98], 1⟩, ⟨[99], 3⟩] _ .full (by decide) rfl) ?_
  repeat' (first
        | (show DW _ _ _ _ _ _ _ _; first
          | refine DW_Q tabs rfl rfl rfl rfl ?_
          | refine DW_nil ?_
          | refine DW_R tabOK rfl rfl rfl rfl rfl ?_
          | refine DW_E tabOK rfl rfl rfl rfl rfl ?_
          | refine DW_E0 tabOK rfl rfl rfl rfl rfl ?_
          | refine DW_no rfl rfl rfl ?_
          | refine DW_no0 rfl rfl rfl ?_
          | refine DW_lits tabOK rfl rfl rfl rfl rfl rfl rfl rfl rfl rfl rfl rfl rfl ?_
          | refine DW_append_own tabOK rfl rfl rfl rfl rfl rfl rfl rfl rfl rfl rfl rfl rfl rfl rfl (by simp; omega) (by simp; omega) ?_)
        | (show W _ _ _ _ _ _; first
          | refine W_seq ?_
          | refine W_text rfl (fun _ _ _ h => h) ?_
          | refine W_block ?_
          | refine W_skip ?_
          | refine W_exit ?_
          | refine W_ret ?_
          | refine W_true rfl ?_
          | refine W_false rfl ?_
          | refine W_cond rfl (fun _ => ?_) (fun _ => ?_)))
  refine DW_pure rfl rfl rfl rfl rfl (apure_sub2 then_ex Sub.untag Sub.untag) ?_
  repeat' (first
        | (show DW _ _ _ _ _ _ _ _; first
          | refine DW_Q tabs rfl rfl rfl rfl ?_
          | refine DW_nil ?_
          | refine DW_R tabOK rfl rfl rfl rfl rfl ?_
          | refine DW_E tabOK rfl rfl rfl rfl rfl ?_
          | refine DW_E0 tabOK rfl rfl rfl rfl rfl ?_
          | refine DW_no rfl rfl rfl ?_
          | refine DW_no0 rfl rfl rfl ?_
          | refine DW_lits tabOK rfl rfl rfl rfl rfl rfl rfl rfl rfl rfl rfl rfl rfl ?_
          | refine DW_append_own tabOK rfl rfl rfl rfl rfl rfl rfl rfl rfl rfl rfl rfl rfl rfl rfl (by simp; omega) (by simp; omega) ?_)
        | (show W _ _ _ _ _ _; first
          | refine W_seq ?_
          | refine W_text rfl (fun _ _ _ h => h) ?_
          | refine W_block ?_
          | refine W_skip ?_
          | refine W_exit ?_
          | refine W_ret ?_
          | refine W_true rfl ?_
          | refine W_false rfl ?_
          | refine W_cond rfl (fun _ => ?_) (fun _ => ?_)))
  exact ⟨rfl, _, rfl, rfl, rfl⟩
end Go.Proofs.Yteimhnedflbkmaa
