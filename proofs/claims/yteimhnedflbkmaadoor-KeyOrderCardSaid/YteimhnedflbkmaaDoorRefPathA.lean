/- The document's parts, names and paths are those of the program. No further condition. -/
import Derived.Test.YteimhnedflbkmaaDoorPathA
set_option linter.unusedVariables false
set_option linter.unusedSimpArgs false
namespace Go.Proofs.YteimhnedflbkmaaDoor
open Go.Ab

theorem splitOn_none (c : UInt8) : ∀ s : Bytes, (∀ b, b ∈ s → b ≠ c) → splitOn c s = [s]
  | [], _ => rfl
  | b :: l, h => by
    unfold splitOn
    rw [if_neg (h b (by simp)), splitOn_none c l (fun x hx => h x (by simp [hx]))]
theorem splitOn_cut (c : UInt8) (r : Bytes) : ∀ s : Bytes, (∀ b, b ∈ s → b ≠ c) → splitOn c (s ++ c :: r) = s :: splitOn c r
  | [], _ => by
    show splitOn c (c :: r) = _
    rw [splitOn, if_pos rfl]
  | b :: l, h => by
    show splitOn c (b :: (l ++ c :: r)) = _
    rw [splitOn, if_neg (h b (by simp)), splitOn_cut c r l (fun x hx => h x (by simp [hx]))]

/-- Where the loop over a text stands: parts told, and from where on. -/
structure AtPart (s : Bytes) (out : List Bytes) (frm i : Nat) : Prop where
  le : frm ≤ i
  len : out.length ≤ frm
  no : ∀ b, b ∈ (s.take i).drop frm → b ≠ 47
  eq : splitOn 47 s = out ++ splitOn 47 (s.drop frm)

theorem AtPart.start (s : Bytes) : AtPart s [] 0 0 := ⟨Nat.le_refl _, Nat.le_refl _, by simp, by simp⟩
theorem drop_split {s : Bytes} {frm i : Nat} {b : UInt8} (h : frm ≤ i) (hb : s[i]? = some b) : s.drop frm = (s.take i).drop frm ++ b :: s.drop (i + 1) := by
  have hi := (List.getElem?_eq_some_iff.1 hb).1
  have h1 : s = s.take i ++ b :: s.drop (i + 1) := by
    have := List.take_append_drop i s
    rw [List.drop_eq_getElem_cons hi, (List.getElem?_eq_some_iff.1 hb).2] at this
    exact this.symm
  calc s.drop frm = (s.take i ++ b :: s.drop (i + 1)).drop frm := by rw [← h1]
    _ = (s.take i).drop frm ++ b :: s.drop (i + 1) := by
      rw [List.drop_append_of_le_length (by simp; omega)]
theorem AtPart.hit {s : Bytes} {out : List Bytes} {frm i : Nat} (h : AtPart s out frm i) (hb : s[i]? = some 47) : AtPart s (out ++ [(s.take i).drop frm]) (i + 1) (i + 1) := by
  refine ⟨Nat.le_refl _, by have := h.len; have := h.le; simp; omega, ?_, ?_⟩
  · intro b hm
    have : ((s.take (i + 1)).drop (i + 1)) = [] := by simp
    rw [this] at hm
    simp at hm
  · rw [h.eq, drop_split h.le hb, splitOn_cut 47 _ _ h.no]
    simp
theorem AtPart.miss {s : Bytes} {out : List Bytes} {frm i : Nat} (h : AtPart s out frm i) {b : UInt8} (hb : s[i]? = some b) (hn : b ≠ 47) : AtPart s out frm (i + 1) := by
  have hi := (List.getElem?_eq_some_iff.1 hb).1
  refine ⟨by have := h.le; omega, h.len, ?_, h.eq⟩
  intro x hx
  rw [take_succ hb, List.drop_append_of_le_length (by have := h.le; simp; omega)] at hx
  rcases List.mem_append.1 hx with hx | hx
  · exact h.no x hx
  · simp at hx
    exact hx ▸ hn
theorem AtPart.done {s : Bytes} {out : List Bytes} {frm : Nat} (h : AtPart s out frm s.length) : out ++ [s.drop frm] = splitOn 47 s := by
  rw [h.eq, splitOn_none]
  intro b hb
  have := h.no b
  rw [List.take_length] at this
  exact this hb

theorem parts_ok (s : Bytes) (hs : s.length < 1000000) : APure Tryd.prog 54 [.str s] (.sl 1 ((splitOn 47 s).map .str) .none) := by
  refine pure_sub (closed1 closed_str) closed_strs ?_
  refine acalls_of tabOK Tryd.func54 rfl (by decide) (by simp [Tryd.f54]) ?_
  repeat' (first | (show DW _ _ _ _ _ _ _ _; first | refine DW_A tabs rfl ?_ | refine DW_nil ?_ | refine DW_lits tabOK rfl rfl rfl rfl rfl rfl rfl rfl rfl rfl rfl rfl rfl ?_ | refine DW_append_own tabOK rfl rfl rfl rfl rfl rfl rfl rfl rfl rfl rfl rfl rfl rfl rfl (by simp; omega) (by simp; omega) ?_) | (show W _ _ _ _ _ _; first | refine W_seq ?_ | refine W_text rfl (fun _ _ _ h => h) ?_ | refine W_block ?_ | refine W_skip ?_ | refine W_exit ?_ | refine W_ret ?_ | refine W_true rfl ?_ | refine W_false rfl ?_ | refine W_cond rfl (fun _ => ?_) (fun _ => ?_)))
  refine W_count s.length (fun i f N => ∃ (g frm : Nat) (out : List Bytes), AtPart s out frm i ∧ N = tokM g ∧ f = ⟨[(0, .str s), (3, .sl 1 (out.map .str) (.tok 0 g)), (4, .int .i64 (frm : Int)), (5, .int .i64 (i : Int))], []⟩) (Nat.zero_le _) ⟨0, 0, [], AtPart.start s, rfl, rfl⟩
    ((Joint.tok 3 rfl (sz' := 1) (.inr rfl)).trans (Joint.le ?_ (tokM_of rfl rfl))) ?_
  · skip
    repeat (refine AF.le_cons rfl ?_)
    exact AF.le_nil rfl
  · rintro i f N hi ⟨g, frm, out, hA, rfl, rfl⟩
    have hfl := hA.le
    have hol := hA.len
    by_cases h1 : i < s.length
    · have d1 : decide ((i : Int) < (s.length : Int)) = true := by simp; omega
      have hx : s[i]? = some s[i] := List.getElem?_eq_getElem h1
      have fi := wrap_succ (i := i) (by omega)
      generalize s[i] = b at hx
      by_cases hb : b = 47
      · subst hb
        have d2 : decide (((47 : UInt8).toNat : Int) = 47) = true := rfl
        repeat' (first | (show DW _ _ _ _ _ _ _ _; first | refine DW_V tabs rfl rfl rfl rfl (congrArg AV.bool d1) ?_ | refine DW_V tabs rfl rfl rfl rfl (congrArg (AV.int _) fi) ?_ | refine DW_A tabs rfl ?_ | refine DW_nil ?_ | refine DW_lits tabOK rfl rfl rfl rfl rfl rfl rfl rfl rfl rfl rfl rfl rfl ?_ | refine DW_append_own tabOK rfl rfl rfl rfl rfl rfl rfl rfl rfl rfl rfl rfl rfl rfl rfl (by simp; omega) (by simp; omega) ?_) | (show W _ _ _ _ _ _; first | refine W_seq ?_ | refine W_text rfl (fun _ _ _ h => h) ?_ | refine W_block ?_ | refine W_skip ?_ | refine W_exit ?_ | refine W_ret ?_ | refine W_true rfl ?_ | refine W_false rfl ?_ | refine W_cond rfl (fun _ => ?_) (fun _ => ?_)))
        refine DW_byte tabOK rfl rfl rfl rfl rfl rfl rfl rfl (Int.natCast_nonneg _) (c := 47) (by simpa using hx) ?_
        repeat' (first | (show DW _ _ _ _ _ _ _ _; first | refine DW_V tabs rfl rfl rfl rfl (congrArg AV.bool d2) ?_ | refine DW_V tabs rfl rfl rfl rfl (congrArg (AV.int _) fi) ?_ | refine DW_A tabs rfl ?_ | refine DW_nil ?_ | refine DW_lits tabOK rfl rfl rfl rfl rfl rfl rfl rfl rfl rfl rfl rfl rfl ?_ | refine DW_append_own tabOK rfl rfl rfl rfl rfl rfl rfl rfl rfl rfl rfl rfl rfl rfl rfl (by simp; omega) (by simp; omega) ?_) | (show W _ _ _ _ _ _; first | refine W_seq ?_ | refine W_text rfl (fun _ _ _ h => h) ?_ | refine W_block ?_ | refine W_skip ?_ | refine W_exit ?_ | refine W_ret ?_ | refine W_true rfl ?_ | refine W_false rfl ?_ | refine W_cond rfl (fun _ => ?_) (fun _ => ?_)))
        refine DW_substr tabOK rfl rfl rfl rfl rfl rfl rfl rfl rfl (Int.natCast_nonneg _) (by omega) (by omega) ?_
        repeat' (first | (show DW _ _ _ _ _ _ _ _; first | refine DW_V tabs rfl rfl rfl rfl (congrArg (AV.int _) fi) ?_ | refine DW_A tabs rfl ?_ | refine DW_nil ?_ | refine DW_lits tabOK rfl rfl rfl rfl rfl rfl rfl rfl rfl rfl rfl rfl rfl ?_ | refine DW_append_own tabOK rfl rfl rfl rfl rfl rfl rfl rfl rfl rfl rfl rfl rfl rfl rfl (by simp; omega) (by simp; omega) ?_) | (show W _ _ _ _ _ _; first | refine W_seq ?_ | refine W_text rfl (fun _ _ _ h => h) ?_ | refine W_block ?_ | refine W_skip ?_ | refine W_exit ?_ | refine W_ret ?_ | refine W_true rfl ?_ | refine W_false rfl ?_ | refine W_cond rfl (fun _ => ?_) (fun _ => ?_)))
        refine ⟨h1, _, _, ⟨g + 1, i + 1, _, hA.hit hx, rfl, rfl⟩, Joint.le (AF.le_cons rfl (AF.le_cons ?_ (AF.le_cons rfl (AF.le_cons rfl (AF.le_nil rfl))))) (tokM_of rfl rfl)⟩
        exact sl_app
      · have d2 : decide ((b.toNat : Int) = 47) = false := by
          simp only [decide_eq_false_iff_not]
          intro h
          apply hb
          apply UInt8.toNat_inj.1
          have : (47 : UInt8).toNat = 47 := rfl
          omega
        repeat' (first | (show DW _ _ _ _ _ _ _ _; first | refine DW_V tabs rfl rfl rfl rfl (congrArg AV.bool d1) ?_ | refine DW_V tabs rfl rfl rfl rfl (congrArg (AV.int _) fi) ?_ | refine DW_A tabs rfl ?_ | refine DW_nil ?_ | refine DW_lits tabOK rfl rfl rfl rfl rfl rfl rfl rfl rfl rfl rfl rfl rfl ?_ | refine DW_append_own tabOK rfl rfl rfl rfl rfl rfl rfl rfl rfl rfl rfl rfl rfl rfl rfl (by simp; omega) (by simp; omega) ?_) | (show W _ _ _ _ _ _; first | refine W_seq ?_ | refine W_text rfl (fun _ _ _ h => h) ?_ | refine W_block ?_ | refine W_skip ?_ | refine W_exit ?_ | refine W_ret ?_ | refine W_true rfl ?_ | refine W_false rfl ?_ | refine W_cond rfl (fun _ => ?_) (fun _ => ?_)))
        refine DW_byte tabOK rfl rfl rfl rfl rfl rfl rfl rfl (Int.natCast_nonneg _) (c := b) (by simpa using hx) ?_
        repeat' (first | (show DW _ _ _ _ _ _ _ _; first | refine DW_V tabs rfl rfl rfl rfl (congrArg AV.bool d2) ?_ | refine DW_V tabs rfl rfl rfl rfl (congrArg (AV.int _) fi) ?_ | refine DW_A tabs rfl ?_ | refine DW_nil ?_ | refine DW_lits tabOK rfl rfl rfl rfl rfl rfl rfl rfl rfl rfl rfl rfl rfl ?_ | refine DW_append_own tabOK rfl rfl rfl rfl rfl rfl rfl rfl rfl rfl rfl rfl rfl rfl rfl (by simp; omega) (by simp; omega) ?_) | (show W _ _ _ _ _ _; first | refine W_seq ?_ | refine W_text rfl (fun _ _ _ h => h) ?_ | refine W_block ?_ | refine W_skip ?_ | refine W_exit ?_ | refine W_ret ?_ | refine W_true rfl ?_ | refine W_false rfl ?_ | refine W_cond rfl (fun _ => ?_) (fun _ => ?_)))
        refine ⟨h1, _, _, ⟨g, frm, out, hA.miss hx hb, rfl, rfl⟩, Joint.le ?_ (tokM_of rfl rfl)⟩
        repeat (refine AF.le_cons rfl ?_)
        exact AF.le_nil rfl
    · have d1 : decide ((i : Int) < (s.length : Int)) = false := by simp; omega
      obtain rfl : i = s.length := by omega
      repeat' (first | (show DW _ _ _ _ _ _ _ _; first | refine DW_V tabs rfl rfl rfl rfl (congrArg AV.bool d1) ?_ | refine DW_A tabs rfl ?_ | refine DW_nil ?_ | refine DW_lits tabOK rfl rfl rfl rfl rfl rfl rfl rfl rfl rfl rfl rfl rfl ?_ | refine DW_append_own tabOK rfl rfl rfl rfl rfl rfl rfl rfl rfl rfl rfl rfl rfl rfl rfl (by simp; omega) (by simp; omega) ?_) | (show W _ _ _ _ _ _; first | refine W_seq ?_ | refine W_text rfl (fun _ _ _ h => h) ?_ | refine W_block ?_ | refine W_skip ?_ | refine W_exit ?_ | refine W_ret ?_ | refine W_true rfl ?_ | refine W_false rfl ?_ | refine W_cond rfl (fun _ => ?_) (fun _ => ?_)))
      refine DW_substr tabOK rfl rfl rfl rfl rfl rfl rfl rfl rfl (Int.natCast_nonneg _) (by omega) (by omega) ?_
      repeat' (first | (show DW _ _ _ _ _ _ _ _; first | refine DW_A tabs rfl ?_ | refine DW_nil ?_ | refine DW_lits tabOK rfl rfl rfl rfl rfl rfl rfl rfl rfl rfl rfl rfl rfl ?_ | refine DW_append_own tabOK rfl rfl rfl rfl rfl rfl rfl rfl rfl rfl rfl rfl rfl rfl rfl (by simp; omega) (by simp; omega) ?_) | (show W _ _ _ _ _ _; first | refine W_seq ?_ | refine W_text rfl (fun _ _ _ h => h) ?_ | refine W_block ?_ | refine W_skip ?_ | refine W_exit ?_ | refine W_ret ?_ | refine W_true rfl ?_ | refine W_false rfl ?_ | refine W_cond rfl (fun _ => ?_) (fun _ => ?_)))
      refine ⟨rfl, _, rfl, _, rfl, ?_⟩
      have hd := hA.done
      have e : (out.map AV.str) ++ [.str ((s.take ((s.length : Int)).toNat).drop ((frm : Int)).toNat)] = (splitOn 47 s).map .str := by
        rw [← hd]
        simp
      rw [← e]
      exact SubC.untag (by rw [e]; exact closed_strs)
end Go.Proofs.YteimhnedflbkmaaDoor
