/- Rows of deltas: Then of the code; the document's rows. No further condition. -/
import Derived.Test.YthdeopopodhimaaGreatDoorDifG
set_option linter.unusedVariables false
set_option linter.unusedSimpArgs false
namespace Go.Proofs.YthdeopopodhimaaGreatDoor
open Go.Ab

theorem W_rowsT {r : Option Nat} {P : Program} {n : Nat} {c : Code} {Q : AX → AF → Mem → Prop} {f : AF} {M : Mem} (hn : M.next = 2) (h0 : M.get 0 = some (.cells tblA)) (hM : M.get 1 = some (.cells [.sl 0 [] .full])) (h : W r P n c Q f (rowsT ([], 0))) : W r P n c Q f M := by
  obtain ⟨k, l⟩ := M
  simp only at hn
  subst hn
  refine W_ghost ((Joint.tokM 1 0 hM rfl (sz' := 2) (.inr rfl)).trans (Joint.le ⟨rfl, fun _ => Sub.refl⟩ (Mem.le_cons ?_ (Mem.le_cons rfl (Mem.le_cons rfl (Mem.le_nil rfl)))))) h
  exact h0
set_option maxRecDepth 100000 in
set_option maxHeartbeats 8000000 in
theorem then_ok (a b : List Dl) (ha : good a) (hb : good b) : APure Tryz.prog 63 [dlA a .none, dlA b .none] (dlA (thens a b) .none) := by
  refine pure_sub (closed2 (closed_dls a) (closed_dls b)) (closed_dls _) ?_
  refine acalls_of tabOK Tryz.func63 rfl (by decide) (by simp [Tryz.f63]) ?_
  have la := len_map Dl.av a
  have lb := len_map Dl.av b
  have kb := dbehind_ok
  have kw := walkT_ok a b ha hb
  unfold thens
  have hc := closed_dls (thenS a b ([], 0)).1
  unfold dlA at *
  repeat' (first | refine W_rowsT rfl rfl rfl ?_ | refine DW_VI tabs rfl (by first | exact la | exact lb) ?_ | refine DW_box 5 tabOK rfl ?_ | refine DW_box 6 tabOK rfl ?_ | refine DW_olenA tabOK rfl ?_ | refine DW_A tabs rfl ?_ | refine DW_nil ?_ | refine W_A rfl ?_ | refine DW_C rfl kb ?_ | refine DW_CM rfl rfl (kw) ?_ ?_)
  rotate_left
  · intro u M' h
    cases h.1
  rintro u M' ⟨e, rfl⟩
  cases e
  unfold rowsT dlA at *
  repeat' (first | refine W_rowsT rfl rfl rfl ?_ | refine DW_box 5 tabOK rfl ?_ | refine DW_box 6 tabOK rfl ?_ | refine DW_olenA tabOK rfl ?_ | refine DW_A tabs rfl ?_ | refine DW_nil ?_ | refine W_A rfl ?_)
  exact ⟨rfl, _, rfl, _, rfl, SubC.untag hc⟩

/-! ### The document's rows -/
def litE (e : En) : AV := .agg [.str e.path, .int .i64 e.time, .int .i64 e.meta_.size, .int .i64 e.meta_.mode, .sl 0 [] .full]
theorem lit_ens {l : List En} (h : ∀ e, e ∈ l → e.meta_.ch = []) : Ab.Sub (.sl 5 (l.map litE) .full) (ensA l .none) := by
  refine Sub.trans (slL ?_ ?_ (by simp) ?_) (Sub.untag (xs := l.map En.av))
  · intro x hx
    obtain ⟨e, _, rfl⟩ := List.mem_map.1 hx
    rfl
  · intro x hx
    obtain ⟨e, _, rfl⟩ := List.mem_map.1 hx
    rfl
  intro i x y j a b h1 h2 h3 h4
  rw [List.getElem?_map] at h1 h2
  cases he : l[i]? with
  | none => rw [he] at h1; cases h1
  | some e =>
    rw [he] at h1 h2
    cases h1
    cases h2
    have hm := h e (List.mem_of_getElem? he)
    obtain ⟨p, t, s, m, c⟩ := e
    simp only at hm
    subst hm
    match j, h3, h4 with
    | 0, h3, h4 => cases h3; cases h4; exact Sub.refl
    | 1, h3, h4 => cases h3; cases h4; exact Sub.refl
    | 2, h3, h4 => cases h3; cases h4; exact Sub.refl
    | 3, h3, h4 => cases h3; cases h4; exact Sub.refl
    | 4, h3, h4 => cases h3; cases h4; exact Sub.nil
    | j + 5, h3, h4 => simp [litE, AV.cells] at h3
def exA : List En := [⟨[97], 0, ⟨1, 0, []⟩⟩, ⟨[98], 0, ⟨0, 0, []⟩⟩]
def exB : List En := [⟨[97], 0, ⟨2, 0, []⟩⟩, ⟨[99], 0, ⟨0, 0, []⟩⟩]
def exW : List Dl := [⟨[97], 2⟩, ⟨[98], 3⟩, ⟨[99], 1⟩]
def exV : List Dl := [⟨[97], 2⟩, ⟨[98], 1⟩, ⟨[99], 3⟩]
theorem exE : ents exA exB = exW := by decide +kernel
theorem exBk : exW.map backD = exV := by decide +kernel
theorem exT : thens [⟨[97], 1⟩] [⟨[97], 3⟩] = [] := by decide +kernel
set_option maxRecDepth 100000 in
set_option maxHeartbeats 8000000 in
theorem diffs_ok : APure Tryz.prog 28 [] (.bool true) := by
  refine pure_sub (closedL_nil) (closed_bool) ?_
  refine acalls_of tabOK Tryz.func28 rfl (by decide) (by simp [Tryz.f28]) ?_
  have ke := (entries_ok exA exB (by constructor <;> decide) (by constructor <;> decide)).sub (args := [.sl 5 (exA.map litE) .full, .sl 5 (exB.map litE) .full]) ⟨lit_ens (by decide), lit_ens (by decide), trivial⟩
  rw [exE] at ke
  have s1 := dlSame_ok exW exW .none .full (by decide) (by decide)
  have s2 := dlSame_ok exV exV .none .full (by decide) (by decide)
  rw [decide_eq_true rfl] at s1 s2
  have kb := dBack_ok exW (by decide)
  rw [exBk] at kb
  have kt := (then_ok [⟨[97], 1⟩] [⟨[97], 3⟩] (by constructor <;> simp [goodK]) (by constructor <;> simp [goodK])).sub (args := [dlA [⟨[97], 1⟩] .full, dlA [⟨[97], 3⟩] .full]) ⟨Sub.untag, Sub.untag, trivial⟩
  rw [exT] at kt
  unfold dlA exW exV at *
  unfold exA exB at *
  repeat' (first | refine DW_A tabs rfl ?_ | refine DW_nil ?_ | refine W_A rfl ?_ | refine DW_C rfl ke ?_ | refine DW_C rfl s1 ?_ | refine DW_C rfl s2 ?_ | refine DW_C rfl kb ?_ | refine DW_C rfl kt ?_ | refine DW_row tabOK rfl ?_)
  exact ⟨rfl, _, rfl, _, rfl, SubC.of_closed closed_bool⟩
end Go.Proofs.YthdeopopodhimaaGreatDoor
