/- Rows of deltas: Entries and Of of the code. No further condition. -/
import Derived.Test.YthdeopopodhimaaGreatDoorDifD
import Derived.Test.YthdeopopodhimaaGreatDoorDifP
import Derived.Test.YthdeopopodhimaaGreatDoorShoA
set_option linter.unusedVariables false
set_option linter.unusedSimpArgs false
namespace Go.Proofs.YthdeopopodhimaaGreatDoor
open Go.Ab

theorem W_rows {r : Option Nat} {P : Program} {n : Nat} {c : Code} {Q : AX → AF → Mem → Prop} {f : AF} {M : Mem} (hn : M.next = 1) (hM : M.get 0 = some (.cells [.sl 0 [] .full])) (h : W r P n c Q f (rows ([], 0))) : W r P n c Q f M := by
  obtain ⟨k, l⟩ := M
  simp only at hn
  subst hn
  exact W_ghost ((Joint.tokM 0 0 hM rfl (sz' := 2) (.inr rfl)).trans (Joint.le ⟨rfl, fun _ => Sub.refl⟩ (Mem.le_cons rfl (Mem.le_cons rfl (Mem.le_nil rfl))))) h
set_option maxRecDepth 100000 in
set_option maxHeartbeats 8000000 in
theorem entries_ok (a b : List En) (ha : smallE a) (hb : smallE b) : APure Tryz.prog 60 [ensA a .none, ensA b .none] (dlA (ents a b) .none) := by
  refine pure_sub (closed2 (closed_ens a) (closed_ens b)) (closed_dls _) ?_
  refine acalls_of tabOK Tryz.func60 rfl (by decide) (by simp [Tryz.f60]) ?_
  have la := len_map En.av a
  have lb := len_map En.av b
  have kw := walkE_ok a b ha hb
  unfold ents
  have hc := closed_dls (entriesS a b ([], 0)).1
  unfold ensA at *
  repeat' (first | refine W_rows rfl rfl ?_ | refine DW_VI tabs rfl (by first | exact la | exact lb) ?_ | refine DW_box 5 tabOK rfl ?_ | refine DW_olenA tabOK rfl ?_ | refine DW_A tabs rfl ?_ | refine DW_nil ?_ | refine W_A rfl ?_ | refine DW_CM rfl rfl (kw) ?_ ?_)
  rotate_left
  · intro u M' h
    cases h.1
  rintro u M' ⟨e, rfl⟩
  cases e
  unfold rows dlA at *
  repeat' (first | refine W_rows rfl rfl ?_ | refine DW_box 5 tabOK rfl ?_ | refine DW_olenA tabOK rfl ?_ | refine DW_A tabs rfl ?_ | refine DW_nil ?_ | refine W_A rfl ?_)
  exact ⟨rfl, _, rfl, _, rfl, SubC.untag hc⟩
theorem listO_small {l : List Pr} (hr : Rise l) (hn : l.length < 1000000) (p : Bytes) (w : Int) : smallE (listO l p w).1 := by
  by_cases h : openE l p w = 0
  · have := listO_short hr (openE_parts h).1 p w
    exact ⟨by omega, this.2⟩
  · rw [show listO l p w = ([], openE l p w) by unfold listO; rw [if_neg h]]
    exact ⟨by simp, by simp⟩
def ofD (l : List Pr) (dir : Bytes) (u v : Int) : List Dl × Int := if (listO l dir u).2 = 0 then (if (listO l dir v).2 = 0 then (ents (listO l dir u).1 (listO l dir v).1, 0) else ([], (listO l dir v).2)) else ([], (listO l dir u).2)
def dlO (x : List Dl × Int) : AV := .tup [dlA x.1 .none, .int .i64 x.2]
theorem closed_dlO (x : List Dl × Int) : Closed (dlO x) := closed_tup (closed2 (closed_dls _) closed_int)
theorem listO_len (l : List Pr) (p : Bytes) (w : Int) : (listO l p w).1.length ≤ l.length := by
  unfold listO
  split
  · exact list_len l p w
  · exact Nat.zero_le _
theorem ofD_len (l : List Pr) (dir : Bytes) (u v : Int) : (ofD l dir u v).1.length ≤ 2 * l.length + 1 := by
  unfold ofD
  split
  · split
    · have h1 := listO_len l dir u
      have h2 := listO_len l dir v
      have h3 := ents_len (listO l dir u).1 (listO l dir v).1
      show (ents _ _).length ≤ _
      omega
    · exact Nat.zero_le _
  · exact Nat.zero_le _
set_option maxRecDepth 100000 in
set_option maxHeartbeats 8000000 in
theorem of16_ok (t : Tr) (hs : t.all.length < 1000000) (hv : valsB t.all) (dir : Bytes) (hp : dir.length < 1000000) (u v : Int) : APure Tryz.prog 26 [t.av, .str dir, .int .i64 u, .int .i64 v] (dlO (ofD t.all dir u v)) := by
  refine pure_sub (closedL_cons (closed_tr t) (closed3 closed_str closed_int closed_int)) (closed_dlO _) ?_
  refine acalls_of tabOK Tryz.func26 rfl (by decide) (by simp [Tryz.f26]) ?_
  have hr := t.rise
  change Rise t.all at hr
  have l1 := list_ok t (by omega) hv dir hp u
  have l2 := list_ok t (by omega) hv dir hp v
  have s1 := listO_small hr hs dir u
  have s2 := listO_small hr hs dir v
  unfold ofD
  generalize listO t.all dir u = x at *
  generalize listO t.all dir v = y at *
  obtain ⟨a, e⟩ := x
  obtain ⟨b, e2⟩ := y
  have ke := entries_ok a b s1 s2
  unfold lsA at l1 l2
  by_cases h1 : e = 0
  · subst h1
    by_cases h2 : e2 = 0
    · subst h2
      rw [if_pos rfl, if_pos rfl]
      have hc := closed_dlO (ents a b, 0)
      unfold dlO at hc
      unfold ensA at *
      unfold Tr.av at *
      repeat' (first | refine DW_A tabs rfl ?_ | refine DW_nil ?_ | refine W_A rfl ?_ | refine DW_C rfl l1 ?_ | refine DW_C rfl l2 ?_ | refine DW_C rfl ke ?_)
      exact ⟨rfl, _, rfl, _, rfl, SubC.of_closed hc⟩
    · have d2 : (!decide (e2 = 0)) = true := by simp [h2]
      rw [if_pos rfl, if_neg h2]
      unfold ensA at *
      unfold Tr.av at *
      repeat' (first | refine DW_VB tabs rfl d2 ?_ | refine DW_A tabs rfl ?_ | refine DW_nil ?_ | refine W_A rfl ?_ | refine DW_C rfl l1 ?_ | refine DW_C rfl l2 ?_)
      exact ⟨rfl, _, rfl, _, rfl, SubC.tup2 SubC.nil (SubC.of_closed closed_int)⟩
  · have d1 : (!decide (e = 0)) = true := by simp [h1]
    rw [if_neg h1]
    unfold ensA at *
    unfold Tr.av at *
    repeat' (first | refine DW_VB tabs rfl d1 ?_ | refine DW_A tabs rfl ?_ | refine DW_nil ?_ | refine W_A rfl ?_ | refine DW_C rfl l1 ?_ | refine DW_C rfl l2 ?_)
    exact ⟨rfl, _, rfl, _, rfl, SubC.tup2 SubC.nil (SubC.of_closed closed_int)⟩
end Go.Proofs.YthdeopopodhimaaGreatDoor
