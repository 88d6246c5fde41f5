/- Parts of the proof, one behind the other: SLawB. No further condition. -/
import Derived.Test.YtmgkebghojhocaaGreatDoorV24
set_option linter.unusedVariables false
set_option linter.unusedSimpArgs false
/- The document's rows on stores. No further condition. -/
set_option linter.unusedVariables false
set_option linter.unusedSimpArgs false
namespace Go.Proofs.YtmgkebghojhocaaGreatDoor
open Go.Ab

def m1 : Mt := ⟨1, 0, []⟩
def v1 : Bytes := (valueM m1 false).1
theorem read_v1 : readM v1 = (m1, false, 0) := readM_there (by decide)
def sA : Ch := sizedC [97] 1
def sB : Ch := sizedC [98] 1
def gA : Ch := ⟨[97], true, zeroMt⟩
def l1 : List Pr := [⟨⟨[97], 1⟩, v1⟩, ⟨⟨[98], 1⟩, v1⟩]
def l3 : List Pr := [⟨⟨[97], 3⟩, [0]⟩, ⟨⟨[97], 1⟩, v1⟩, ⟨⟨[98], 1⟩, v1⟩]
theorem okP_a1 : okP ⟨⟨[97], 1⟩, v1⟩ = true := by unfold okP; rw [read_v1]; decide
theorem okP_b1 : okP ⟨⟨[98], 1⟩, v1⟩ = true := by unfold okP; rw [read_v1]; decide
theorem okP_a3 : okP ⟨⟨[97], 3⟩, [0]⟩ = true := by decide
theorem st_l1 : isSt l1 = true := by simp [isSt, l1, okP_a1, okP_b1]
theorem st_l3 : isSt l3 = true := by simp [isSt, l3, okP_a1, okP_b1, okP_a3]
theorem last_l1 : lastL l1 = 1 := by unfold lastL; rw [if_pos st_l1]; rfl
theorem last_l3 : lastL l3 = 3 := by unfold lastL; rw [if_pos st_l3]; rfl
theorem lay_0 : layB [] 1 [sA, sB] = true := by decide
theorem lay_1 : layB l1 3 [gA] = true := by unfold layB; rw [st_l1, last_l1]; decide
theorem lay_3 : layB l3 3 [sA] = false := by unfold layB; rw [st_l3, last_l3]; decide
theorem layL_0 : layL [] 1 [sA, sB] = l1 := rfl
theorem layL_1 : layL l1 3 [gA] = l3 := rfl
theorem openE_3 {p : Bytes} {w : Int} (hp : isPathB p = true) (hw : ¬ w < 0) : openE l3 p w = 0 := by
 unfold openE
 rw [if_neg (by rw [st_l3]; simp), if_neg (by rw [hp]; simp), if_neg hw]
theorem at_a2 : atL l3 [97] 2 = some ⟨[97], 1, m1⟩ := by
 show atP [97] ⟨⟨[97], 1⟩, v1⟩ = _
 unfold atP
 rw [read_v1]
 rfl
theorem at_a3 : atL l3 [97] 3 = none := rfl
theorem at_a9 : atL l3 [97] 9 = none := rfl
theorem at_b2 : atL l3 [98] 2 = some ⟨[98], 1, m1⟩ := by
 show atP [98] ⟨⟨[98], 1⟩, v1⟩ = _
 unfold atP
 rw [read_v1]
 rfl
theorem at_b9 : atL l3 [98] 9 = some ⟨[98], 1, m1⟩ := at_b2
theorem paths_3 : pathsU [] l3 = [[97], [98]] := by decide
theorem as_a2 : asOf l3 [97] 2 = (some ⟨[97], 1, m1⟩, 0) := by unfold asOf; rw [if_pos (openE_3 (by decide) (by decide)), at_a2]
theorem as_a3 : asOf l3 [97] 3 = (none, 0) := by unfold asOf; rw [if_pos (openE_3 (by decide) (by decide)), at_a3]
theorem ls_2 : listO l3 [] 2 = ([⟨[97], 1, m1⟩, ⟨[98], 1, m1⟩], 0) := by unfold listO listL; rw [if_pos (openE_3 (by decide) (by decide)), paths_3]; simp [at_a2, at_b2]
theorem ls_9 : listO l3 [] 9 = ([⟨[98], 1, m1⟩], 0) := by unfold listO listL; rw [if_pos (openE_3 (by decide) (by decide)), paths_3]; simp only [List.filterMap_cons, List.filterMap_nil, at_a9, at_b9]
theorem hs_3 : histO l3 [97] = ([⟨⟨[97], 3⟩, [0]⟩, ⟨⟨[97], 1⟩, v1⟩], 0) := by unfold histO; rw [if_pos (openE_3 (by decide) (by decide))]; rfl
noncomputable def tS : Tr := layT nilT 1 [sA, sB]
noncomputable def uS : Tr := layT tS 3 [gA]
theorem tS_all : tS.all = l1 := (layT_all (t := nilT) (by decide)).trans layL_0
theorem uS_all : uS.all = l3 := (layT_all (t := tS) (by rw [tS_all]; decide)).trans (by rw [tS_all]; exact layL_1)
theorem v1_len : v1.length < 1000 := valueM_len _ _ (by decide)
theorem vals_1 : valsB l1 := by
 intro p hp
 have := v1_len
 simp [l1] at hp
 rcases hp with rfl | rfl <;> exact ⟨by show 1 < 1000000; decide, by show v1.length < _; omega⟩
theorem vals_3 : valsB l3 := by
 intro p hp
 have := v1_len
 simp [l3] at hp
 rcases hp with rfl | rfl | rfl
 ·exact ⟨by show 1 < 1000000; decide, by show 1 < 1000000; decide⟩
 ·exact ⟨by show 1 < 1000000; decide, by show v1.length < _; omega⟩
 ·exact ⟨by show 1 < 1000000; decide, by show v1.length < _; omega⟩
theorem slL {sz : Nat} {xs ys : List AV} {t : Tag} (hx : ∀ x, x ∈ xs → x.cells.length = sz) (hy : ∀ y, y ∈ ys → y.cells.length = sz) (hl : xs.length = ys.length) (h : ∀ (i : Nat) (x y : AV) (j : Nat) (a b : AV), xs[i]? = some x → ys[i]? = some y → x.cells[j]? = some a → y.cells[j]? = some b → Ab.Sub a b) : Ab.Sub (.sl sz xs t) (.sl sz ys t) := by
 intro μ F w v hr
 cases hr with
 | sl _ _ _ A cap ad vals hsz hcap hA hone hcell hrep htag =>
  have get : ∀ (i : Nat) (y : AV) (j : Nat) (b : AV), ys[i]? = some y → y.cells[j]? = some b → ∃ x a, xs[i]? = some x ∧ x.cells[j]? = some a := by
   intro i y j b h1 h2
   have hi : i < xs.length := by rw [hl]; exact (List.getElem?_eq_some_iff.1 h1).1
   have hj : j < sz := by rw [← hy y (List.mem_of_getElem? h1)]; exact (List.getElem?_eq_some_iff.1 h2).1
   have hm := hx xs[i] (List.getElem_mem hi)
   exact ⟨xs[i], _, List.getElem?_eq_getElem hi, List.getElem?_eq_getElem (by rw [hm]; exact hj)⟩
  rw [hl] at hcap hA htag ⊢
  refine .sl sz ys t A cap ad vals hy hcap hA ?_ ?_ ?_ htag
  ·intro i y j b h1 h2
   obtain ⟨x, a, h3, h4⟩ := get i y j b h1 h2
   exact hone i x j a h3 h4
  ·intro i y j b h1 h2
   obtain ⟨x, a, h3, h4⟩ := get i y j b h1 h2
   exact hcell i x j a h3 h4
  ·intro i y j b h1 h2
   obtain ⟨x, a, h3, h4⟩ := get i y j b h1 h2
   exact h i x y j a b h3 h1 h4 h2 μ F w _ (hrep i x j a h3 h4)
theorem sub_gA : Ab.Sub (.sl 5 [.agg [.str [97], .bool true, .int .i64 0, .int .i64 0, .sl 0 [] .full]] .full) (chA [gA] .full) := by
 refine slL (by simp [AV.cells]) (by intro y hy; simp [gA] at hy; subst hy; rfl) rfl ?_
 intro i x y j a b h1 h2 h3 h4
 match i, h1, h2 with
 | 0, h1, h2 =>
  simp at h1 h2
  subst h1; subst h2
  match j, h3, h4 with
  | 0, h3, h4 => cases h3; cases h4; exact Sub.refl
  | 1, h3, h4 => cases h3; cases h4; exact Sub.refl
  | 2, h3, h4 => cases h3; cases h4; exact Sub.refl
  | 3, h3, h4 => cases h3; cases h4; exact Sub.refl
  | 4, h3, h4 => cases h3; cases h4; exact Sub.nil
  | j + 5, h3, h4 => simp [AV.cells] at h3
 | i + 1, h1, _ => simp at h1
theorem sh_ch (c : Ch) (h1 : c.path.length < 1000000) (h2 : c.meta_.ch.length < 1000000) : shortCh c := ⟨h1, h2⟩

end Go.Proofs.YtmgkebghojhocaaGreatDoor
