/- Parts of the proof, one behind the other: RefPathA, RefPathB, StrA, PathU. No further condition. -/
import Derived.Test.YthdeopopodhimaaDoorM15
import Derived.Test.YthdeopopodhimaaDoorM07
set_option linter.unusedVariables false
set_option linter.unusedSimpArgs false
/- The document's parts, names and paths are those of the program. No further condition. -/
set_option linter.unusedVariables false
set_option linter.unusedSimpArgs false
namespace Go.Proofs.YthdeopopodhimaaDoor
open Go.Ab

theorem splitOn_none (c : UInt8) : ∀ s : Bytes, (∀ b, b ∈ s → b ≠ c) → splitOn c s = [s]
  | [], _ => rfl
  | b :: l, h => by
    unfold splitOn
    rw [if_neg (h b (by simp)), splitOn_none c l (fun x hx => h x (by simp [hx]))]
theorem splitOn_cut (c : UInt8) (r : Bytes) : ∀ s : Bytes, (∀ b, b ∈ s → b ≠ c) → splitOn c (s ++ c :: r) = s :: splitOn c r
  | [], _ => by
    show splitOn c (c :: r) = _
    rw [splitOn, if_pos rfl]
  | b :: l, h => by
    show splitOn c (b :: (l ++ c :: r)) = _
    rw [splitOn, if_neg (h b (by simp)), splitOn_cut c r l (fun x hx => h x (by simp [hx]))]

/-- Where the loop over a text stands: parts told, and from where on. -/
structure AtPart (s : Bytes) (out : List Bytes) (frm i : Nat) : Prop where
  le : frm ≤ i
  len : out.length ≤ frm
  no : ∀ b, b ∈ (s.take i).drop frm → b ≠ 47
  eq : splitOn 47 s = out ++ splitOn 47 (s.drop frm)

theorem AtPart.start (s : Bytes) : AtPart s [] 0 0 := ⟨Nat.le_refl _, Nat.le_refl _, by simp, by simp⟩
theorem drop_split {s : Bytes} {frm i : Nat} {b : UInt8} (h : frm ≤ i) (hb : s[i]? = some b) : s.drop frm = (s.take i).drop frm ++ b :: s.drop (i + 1) := by
  have hi := (List.getElem?_eq_some_iff.1 hb).1
  have h1 : s = s.take i ++ b :: s.drop (i + 1) := by
    have := List.take_append_drop i s
    rw [List.drop_eq_getElem_cons hi, (List.getElem?_eq_some_iff.1 hb).2] at this
    exact this.symm
  calc s.drop frm = (s.take i ++ b :: s.drop (i + 1)).drop frm := by rw [← h1]
    _ = (s.take i).drop frm ++ b :: s.drop (i + 1) := by
      rw [List.drop_append_of_le_length (by simp; omega)]
theorem AtPart.hit {s : Bytes} {out : List Bytes} {frm i : Nat} (h : AtPart s out frm i) (hb : s[i]? = some 47) : AtPart s (out ++ [(s.take i).drop frm]) (i + 1) (i + 1) := by
  refine ⟨Nat.le_refl _, by have := h.len; have := h.le; simp; omega, ?_, ?_⟩
  · intro b hm
    have : ((s.take (i + 1)).drop (i + 1)) = [] := by simp
    rw [this] at hm
    simp at hm
  · rw [h.eq, drop_split h.le hb, splitOn_cut 47 _ _ h.no]
    simp
theorem AtPart.miss {s : Bytes} {out : List Bytes} {frm i : Nat} (h : AtPart s out frm i) {b : UInt8} (hb : s[i]? = some b) (hn : b ≠ 47) : AtPart s out frm (i + 1) := by
  have hi := (List.getElem?_eq_some_iff.1 hb).1
  refine ⟨by have := h.le; omega, h.len, ?_, h.eq⟩
  intro x hx
  rw [take_succ hb, List.drop_append_of_le_length (by have := h.le; simp; omega)] at hx
  rcases List.mem_append.1 hx with hx | hx
  · exact h.no x hx
  · simp at hx
    exact hx ▸ hn
theorem AtPart.done {s : Bytes} {out : List Bytes} {frm : Nat} (h : AtPart s out frm s.length) : out ++ [s.drop frm] = splitOn 47 s := by
  rw [h.eq, splitOn_none]
  intro b hb
  have := h.no b
  rw [List.take_length] at this
  exact this hb

theorem parts_ok (s : Bytes) (hs : s.length < 1000000) : APure Tryd.prog 49 [.str s] (.sl 1 ((splitOn 47 s).map .str) .none) := by
  refine pure_sub (closed1 closed_str) closed_strs ?_
  refine acalls_of tabOK Tryd.func49 rfl (by decide) (by simp [Tryd.f49]) ?_
  repeat' (first | (show DW _ _ _ _ _ _ _ _; first | refine DW_A tabs rfl ?_ | refine DW_nil ?_ | refine DW_lits tabOK rfl rfl rfl rfl rfl rfl rfl rfl rfl rfl rfl rfl rfl ?_ | refine DW_append_own tabOK rfl rfl rfl rfl rfl rfl rfl rfl rfl rfl rfl rfl rfl rfl rfl (by simp; omega) (by simp; omega) ?_) | (show W _ _ _ _ _ _; first | refine W_seq ?_ | refine W_text rfl (fun _ _ _ h => h) ?_ | refine W_block ?_ | refine W_skip ?_ | refine W_exit ?_ | refine W_ret ?_ | refine W_true rfl ?_ | refine W_false rfl ?_ | refine W_cond rfl (fun _ => ?_) (fun _ => ?_)))
  refine W_count s.length (fun i f N => ∃ (g frm : Nat) (out : List Bytes), AtPart s out frm i ∧ N = tokM g ∧ f = ⟨[(0, .str s), (3, .sl 1 (out.map .str) (.tok 0 g)), (4, .int .i64 (frm : Int)), (5, .int .i64 (i : Int))], []⟩) (Nat.zero_le _) ⟨0, 0, [], AtPart.start s, rfl, rfl⟩
    ((Joint.tok 3 rfl (sz' := 1) (.inr rfl)).trans (Joint.le ?_ (tokM_of rfl rfl))) ?_
  · skip
    repeat (refine AF.le_cons rfl ?_)
    exact AF.le_nil rfl
  · rintro i f N hi ⟨g, frm, out, hA, rfl, rfl⟩
    have hfl := hA.le
    have hol := hA.len
    by_cases h1 : i < s.length
    · have d1 : decide ((i : Int) < (s.length : Int)) = true := by simp; omega
      have hx : s[i]? = some s[i] := List.getElem?_eq_getElem h1
      have fi := wrap_succ (i := i) (by omega)
      generalize s[i] = b at hx
      by_cases hb : b = 47
      · subst hb
        have d2 : decide (((47 : UInt8).toNat : Int) = 47) = true := rfl
        repeat' (first | (show DW _ _ _ _ _ _ _ _; first | refine DW_V tabs rfl rfl rfl rfl (congrArg AV.bool d1) ?_ | refine DW_V tabs rfl rfl rfl rfl (congrArg (AV.int _) fi) ?_ | refine DW_A tabs rfl ?_ | refine DW_nil ?_ | refine DW_lits tabOK rfl rfl rfl rfl rfl rfl rfl rfl rfl rfl rfl rfl rfl ?_ | refine DW_append_own tabOK rfl rfl rfl rfl rfl rfl rfl rfl rfl rfl rfl rfl rfl rfl rfl (by simp; omega) (by simp; omega) ?_) | (show W _ _ _ _ _ _; first | refine W_seq ?_ | refine W_text rfl (fun _ _ _ h => h) ?_ | refine W_block ?_ | refine W_skip ?_ | refine W_exit ?_ | refine W_ret ?_ | refine W_true rfl ?_ | refine W_false rfl ?_ | refine W_cond rfl (fun _ => ?_) (fun _ => ?_)))
        refine DW_byte tabOK rfl rfl rfl rfl rfl rfl rfl rfl (Int.natCast_nonneg _) (c := 47) (by simpa using hx) ?_
        repeat' (first | (show DW _ _ _ _ _ _ _ _; first | refine DW_V tabs rfl rfl rfl rfl (congrArg AV.bool d2) ?_ | refine DW_V tabs rfl rfl rfl rfl (congrArg (AV.int _) fi) ?_ | refine DW_A tabs rfl ?_ | refine DW_nil ?_ | refine DW_lits tabOK rfl rfl rfl rfl rfl rfl rfl rfl rfl rfl rfl rfl rfl ?_ | refine DW_append_own tabOK rfl rfl rfl rfl rfl rfl rfl rfl rfl rfl rfl rfl rfl rfl rfl (by simp; omega) (by simp; omega) ?_) | (show W _ _ _ _ _ _; first | refine W_seq ?_ | refine W_text rfl (fun _ _ _ h => h) ?_ | refine W_block ?_ | refine W_skip ?_ | refine W_exit ?_ | refine W_ret ?_ | refine W_true rfl ?_ | refine W_false rfl ?_ | refine W_cond rfl (fun _ => ?_) (fun _ => ?_)))
        refine DW_substr tabOK rfl rfl rfl rfl rfl rfl rfl rfl rfl (Int.natCast_nonneg _) (by omega) (by omega) ?_
        repeat' (first | (show DW _ _ _ _ _ _ _ _; first | refine DW_V tabs rfl rfl rfl rfl (congrArg (AV.int _) fi) ?_ | refine DW_A tabs rfl ?_ | refine DW_nil ?_ | refine DW_lits tabOK rfl rfl rfl rfl rfl rfl rfl rfl rfl rfl rfl rfl rfl ?_ | refine DW_append_own tabOK rfl rfl rfl rfl rfl rfl rfl rfl rfl rfl rfl rfl rfl rfl rfl (by simp; omega) (by simp; omega) ?_) | (show W _ _ _ _ _ _; first | refine W_seq ?_ | refine W_text rfl (fun _ _ _ h => h) ?_ | refine W_block ?_ | refine W_skip ?_ | refine W_exit ?_ | refine W_ret ?_ | refine W_true rfl ?_ | refine W_false rfl ?_ | refine W_cond rfl (fun _ => ?_) (fun _ => ?_)))
        refine ⟨h1, _, _, ⟨g + 1, i + 1, _, hA.hit hx, rfl, rfl⟩, Joint.le (AF.le_cons rfl (AF.le_cons ?_ (AF.le_cons rfl (AF.le_cons rfl (AF.le_nil rfl))))) (tokM_of rfl rfl)⟩
        exact sl_app
      · have d2 : decide ((b.toNat : Int) = 47) = false := by
          simp only [decide_eq_false_iff_not]
          intro h
          apply hb
          apply UInt8.toNat_inj.1
          have : (47 : UInt8).toNat = 47 := rfl
          omega
        repeat' (first | (show DW _ _ _ _ _ _ _ _; first | refine DW_V tabs rfl rfl rfl rfl (congrArg AV.bool d1) ?_ | refine DW_V tabs rfl rfl rfl rfl (congrArg (AV.int _) fi) ?_ | refine DW_A tabs rfl ?_ | refine DW_nil ?_ | refine DW_lits tabOK rfl rfl rfl rfl rfl rfl rfl rfl rfl rfl rfl rfl rfl ?_ | refine DW_append_own tabOK rfl rfl rfl rfl rfl rfl rfl rfl rfl rfl rfl rfl rfl rfl rfl (by simp; omega) (by simp; omega) ?_) | (show W _ _ _ _ _ _; first | refine W_seq ?_ | refine W_text rfl (fun _ _ _ h => h) ?_ | refine W_block ?_ | refine W_skip ?_ | refine W_exit ?_ | refine W_ret ?_ | refine W_true rfl ?_ | refine W_false rfl ?_ | refine W_cond rfl (fun _ => ?_) (fun _ => ?_)))
        refine DW_byte tabOK rfl rfl rfl rfl rfl rfl rfl rfl (Int.natCast_nonneg _) (c := b) (by simpa using hx) ?_
        repeat' (first | (show DW _ _ _ _ _ _ _ _; first | refine DW_V tabs rfl rfl rfl rfl (congrArg AV.bool d2) ?_ | refine DW_V tabs rfl rfl rfl rfl (congrArg (AV.int _) fi) ?_ | refine DW_A tabs rfl ?_ | refine DW_nil ?_ | refine DW_lits tabOK rfl rfl rfl rfl rfl rfl rfl rfl rfl rfl rfl rfl rfl ?_ | refine DW_append_own tabOK rfl rfl rfl rfl rfl rfl rfl rfl rfl rfl rfl rfl rfl rfl rfl (by simp; omega) (by simp; omega) ?_) | (show W _ _ _ _ _ _; first | refine W_seq ?_ | refine W_text rfl (fun _ _ _ h => h) ?_ | refine W_block ?_ | refine W_skip ?_ | refine W_exit ?_ | refine W_ret ?_ | refine W_true rfl ?_ | refine W_false rfl ?_ | refine W_cond rfl (fun _ => ?_) (fun _ => ?_)))
        refine ⟨h1, _, _, ⟨g, frm, out, hA.miss hx hb, rfl, rfl⟩, Joint.le ?_ (tokM_of rfl rfl)⟩
        repeat (refine AF.le_cons rfl ?_)
        exact AF.le_nil rfl
    · have d1 : decide ((i : Int) < (s.length : Int)) = false := by simp; omega
      obtain rfl : i = s.length := by omega
      repeat' (first | (show DW _ _ _ _ _ _ _ _; first | refine DW_V tabs rfl rfl rfl rfl (congrArg AV.bool d1) ?_ | refine DW_A tabs rfl ?_ | refine DW_nil ?_ | refine DW_lits tabOK rfl rfl rfl rfl rfl rfl rfl rfl rfl rfl rfl rfl rfl ?_ | refine DW_append_own tabOK rfl rfl rfl rfl rfl rfl rfl rfl rfl rfl rfl rfl rfl rfl rfl (by simp; omega) (by simp; omega) ?_) | (show W _ _ _ _ _ _; first | refine W_seq ?_ | refine W_text rfl (fun _ _ _ h => h) ?_ | refine W_block ?_ | refine W_skip ?_ | refine W_exit ?_ | refine W_ret ?_ | refine W_true rfl ?_ | refine W_false rfl ?_ | refine W_cond rfl (fun _ => ?_) (fun _ => ?_)))
      refine DW_substr tabOK rfl rfl rfl rfl rfl rfl rfl rfl rfl (Int.natCast_nonneg _) (by omega) (by omega) ?_
      repeat' (first | (show DW _ _ _ _ _ _ _ _; first | refine DW_A tabs rfl ?_ | refine DW_nil ?_ | refine DW_lits tabOK rfl rfl rfl rfl rfl rfl rfl rfl rfl rfl rfl rfl rfl ?_ | refine DW_append_own tabOK rfl rfl rfl rfl rfl rfl rfl rfl rfl rfl rfl rfl rfl rfl rfl (by simp; omega) (by simp; omega) ?_) | (show W _ _ _ _ _ _; first | refine W_seq ?_ | refine W_text rfl (fun _ _ _ h => h) ?_ | refine W_block ?_ | refine W_skip ?_ | refine W_exit ?_ | refine W_ret ?_ | refine W_true rfl ?_ | refine W_false rfl ?_ | refine W_cond rfl (fun _ => ?_) (fun _ => ?_)))
      refine ⟨rfl, _, rfl, _, rfl, ?_⟩
      have hd := hA.done
      have e : (out.map AV.str) ++ [.str ((s.take ((s.length : Int)).toNat).drop ((frm : Int)).toNat)] = (splitOn 47 s).map .str := by
        rw [← hd]
        simp
      rw [← e]
      exact SubC.untag (by rw [e]; exact closed_strs)
end Go.Proofs.YthdeopopodhimaaDoor

/- The document's names and paths are those of the program. No further condition. -/
set_option linter.unusedVariables false
set_option linter.unusedSimpArgs false
namespace Go.Proofs.YthdeopopodhimaaDoor
open Go.Ab

def badB (b : UInt8) : Bool := b == 47 || b == 0

theorem isNameB_eq (s : Bytes) (h : s.any badB = false) : isNameB s = (decide (1 ≤ (s.length : Int)) && decide ((s.length : Int) ≤ 30) && !(s == [46]) && !(s == [46, 46])) := by
  unfold isNameB
  have h' : (s.any fun b => b == 47 || b == 0) = false := h
  rw [h']
  have e1 : (!(s == [])) = decide (1 ≤ (s.length : Int)) := by
    cases s with
    | nil => rfl
    | cons b l => simp; omega
  have e2 : decide (s.length ≤ 30) = decide ((s.length : Int) ≤ 30) := decide_eq_decide.2 (by omega)
  rw [e1, e2]
  simp

theorem refName_ok (s : Bytes) (hs : s.length < 1000000) : APure Tryd.prog 50 [.str s] (.bool (isNameB s)) := by
  intro M
  refine acalls_of tabOK Tryd.func50 rfl (by decide) (by simp [Tryd.f50]) ?_
  repeat' (first | (show DW _ _ _ _ _ _ _ _; first | refine DW_A tabs rfl ?_ | refine DW_nil ?_ | refine DW_lits tabOK rfl rfl rfl rfl rfl rfl rfl rfl rfl rfl rfl rfl rfl ?_ | refine DW_append_own tabOK rfl rfl rfl rfl rfl rfl rfl rfl rfl rfl rfl rfl rfl rfl rfl (by simp; omega) (by simp; omega) ?_) | (show W _ _ _ _ _ _; first | refine W_seq ?_ | refine W_text rfl (fun _ _ _ h => h) ?_ | refine W_block ?_ | refine W_skip ?_ | refine W_exit ?_ | refine W_ret ?_ | refine W_true rfl ?_ | refine W_false rfl ?_ | refine W_cond rfl (fun _ => ?_) (fun _ => ?_)))
  refine W_count s.length (fun i f N => N = M ∧ (s.take i).any badB = false ∧ f = ⟨[(0, .str s), (3, .int .i64 (i : Int))], []⟩) (Nat.zero_le _) ⟨rfl, by simp, rfl⟩ (Joint.le ?_ (Mem.le_refl _)) ?_
  · skip
    repeat (refine AF.le_cons rfl ?_)
    exact AF.le_nil rfl
  · rintro i f N hi ⟨rfl, hpre, rfl⟩
    by_cases h1 : i < s.length
    · have d1 : decide ((i : Int) < (s.length : Int)) = true := by simp; omega
      have hx : s[i]? = some s[i] := List.getElem?_eq_getElem h1
      have fi := wrap_succ (i := i) (by omega)
      have ht := take_succ hx
      generalize s[i] = b at hx ht
      have hbad : ∀ {c : UInt8}, b = c → badB c = true → isNameB s = false := by
        rintro c rfl hc
        have h : (s.any fun b => b == 47 || b == 0) = true := List.any_eq_true.2 ⟨b, List.mem_of_getElem? hx, hc⟩
        unfold isNameB
        rw [h]
        simp
      by_cases h2 : b = 47
      · have d2 : decide ((b.toNat : Int) = 47) = true := by subst h2; rfl
        rw [hbad h2 rfl]
        repeat' (first | (show DW _ _ _ _ _ _ _ _; first | refine DW_V tabs rfl rfl rfl rfl (congrArg AV.bool d1) ?_ | refine DW_V tabs rfl rfl rfl rfl (congrArg (AV.int _) fi) ?_ | refine DW_A tabs rfl ?_ | refine DW_nil ?_ | refine DW_lits tabOK rfl rfl rfl rfl rfl rfl rfl rfl rfl rfl rfl rfl rfl ?_ | refine DW_append_own tabOK rfl rfl rfl rfl rfl rfl rfl rfl rfl rfl rfl rfl rfl rfl rfl (by simp; omega) (by simp; omega) ?_) | (show W _ _ _ _ _ _; first | refine W_seq ?_ | refine W_text rfl (fun _ _ _ h => h) ?_ | refine W_block ?_ | refine W_skip ?_ | refine W_exit ?_ | refine W_ret ?_ | refine W_true rfl ?_ | refine W_false rfl ?_ | refine W_cond rfl (fun _ => ?_) (fun _ => ?_)))
        refine DW_byte tabOK rfl rfl rfl rfl rfl rfl rfl rfl (Int.natCast_nonneg _) (c := b) (by simpa using hx) ?_
        repeat' (first | (show DW _ _ _ _ _ _ _ _; first | refine DW_V tabs rfl rfl rfl rfl (congrArg AV.bool d2) ?_ | refine DW_V tabs rfl rfl rfl rfl (congrArg (AV.int _) fi) ?_ | refine DW_A tabs rfl ?_ | refine DW_nil ?_ | refine DW_lits tabOK rfl rfl rfl rfl rfl rfl rfl rfl rfl rfl rfl rfl rfl ?_ | refine DW_append_own tabOK rfl rfl rfl rfl rfl rfl rfl rfl rfl rfl rfl rfl rfl rfl rfl (by simp; omega) (by simp; omega) ?_) | (show W _ _ _ _ _ _; first | refine W_seq ?_ | refine W_text rfl (fun _ _ _ h => h) ?_ | refine W_block ?_ | refine W_skip ?_ | refine W_exit ?_ | refine W_ret ?_ | refine W_true rfl ?_ | refine W_false rfl ?_ | refine W_cond rfl (fun _ => ?_) (fun _ => ?_)))
        exact ⟨rfl, _, rfl, rfl, rfl⟩
      · have d2 : decide ((b.toNat : Int) = 47) = false := by
          simp only [decide_eq_false_iff_not]
          intro h
          apply h2
          apply UInt8.toNat_inj.1
          have : (47 : UInt8).toNat = 47 := rfl
          omega
        by_cases h3 : b = 0
        · have d3 : decide ((b.toNat : Int) = 0) = true := by subst h3; rfl
          rw [hbad h3 rfl]
          repeat' (first | (show DW _ _ _ _ _ _ _ _; first | refine DW_V tabs rfl rfl rfl rfl (congrArg AV.bool d1) ?_ | refine DW_V tabs rfl rfl rfl rfl (congrArg (AV.int _) fi) ?_ | refine DW_A tabs rfl ?_ | refine DW_nil ?_ | refine DW_lits tabOK rfl rfl rfl rfl rfl rfl rfl rfl rfl rfl rfl rfl rfl ?_ | refine DW_append_own tabOK rfl rfl rfl rfl rfl rfl rfl rfl rfl rfl rfl rfl rfl rfl rfl (by simp; omega) (by simp; omega) ?_) | (show W _ _ _ _ _ _; first | refine W_seq ?_ | refine W_text rfl (fun _ _ _ h => h) ?_ | refine W_block ?_ | refine W_skip ?_ | refine W_exit ?_ | refine W_ret ?_ | refine W_true rfl ?_ | refine W_false rfl ?_ | refine W_cond rfl (fun _ => ?_) (fun _ => ?_)))
          refine DW_byte tabOK rfl rfl rfl rfl rfl rfl rfl rfl (Int.natCast_nonneg _) (c := b) (by simpa using hx) ?_
          repeat' (first | (show DW _ _ _ _ _ _ _ _; first | refine DW_V tabs rfl rfl rfl rfl (congrArg AV.bool d2) ?_ | refine DW_V tabs rfl rfl rfl rfl (congrArg (AV.int _) fi) ?_ | refine DW_A tabs rfl ?_ | refine DW_nil ?_ | refine DW_lits tabOK rfl rfl rfl rfl rfl rfl rfl rfl rfl rfl rfl rfl rfl ?_ | refine DW_append_own tabOK rfl rfl rfl rfl rfl rfl rfl rfl rfl rfl rfl rfl rfl rfl rfl (by simp; omega) (by simp; omega) ?_) | (show W _ _ _ _ _ _; first | refine W_seq ?_ | refine W_text rfl (fun _ _ _ h => h) ?_ | refine W_block ?_ | refine W_skip ?_ | refine W_exit ?_ | refine W_ret ?_ | refine W_true rfl ?_ | refine W_false rfl ?_ | refine W_cond rfl (fun _ => ?_) (fun _ => ?_)))
          refine DW_byte tabOK rfl rfl rfl rfl rfl rfl rfl rfl (Int.natCast_nonneg _) (c := b) (by simpa using hx) ?_
          repeat' (first | (show DW _ _ _ _ _ _ _ _; first | refine DW_V tabs rfl rfl rfl rfl (congrArg AV.bool d3) ?_ | refine DW_V tabs rfl rfl rfl rfl (congrArg (AV.int _) fi) ?_ | refine DW_A tabs rfl ?_ | refine DW_nil ?_ | refine DW_lits tabOK rfl rfl rfl rfl rfl rfl rfl rfl rfl rfl rfl rfl rfl ?_ | refine DW_append_own tabOK rfl rfl rfl rfl rfl rfl rfl rfl rfl rfl rfl rfl rfl rfl rfl (by simp; omega) (by simp; omega) ?_) | (show W _ _ _ _ _ _; first | refine W_seq ?_ | refine W_text rfl (fun _ _ _ h => h) ?_ | refine W_block ?_ | refine W_skip ?_ | refine W_exit ?_ | refine W_ret ?_ | refine W_true rfl ?_ | refine W_false rfl ?_ | refine W_cond rfl (fun _ => ?_) (fun _ => ?_)))
          exact ⟨rfl, _, rfl, rfl, rfl⟩
        · have d3 : decide ((b.toNat : Int) = 0) = false := by
            simp only [decide_eq_false_iff_not]
            intro h
            apply h3
            apply UInt8.toNat_inj.1
            have : (0 : UInt8).toNat = 0 := rfl
            omega
          repeat' (first | (show DW _ _ _ _ _ _ _ _; first | refine DW_V tabs rfl rfl rfl rfl (congrArg AV.bool d1) ?_ | refine DW_V tabs rfl rfl rfl rfl (congrArg (AV.int _) fi) ?_ | refine DW_A tabs rfl ?_ | refine DW_nil ?_ | refine DW_lits tabOK rfl rfl rfl rfl rfl rfl rfl rfl rfl rfl rfl rfl rfl ?_ | refine DW_append_own tabOK rfl rfl rfl rfl rfl rfl rfl rfl rfl rfl rfl rfl rfl rfl rfl (by simp; omega) (by simp; omega) ?_) | (show W _ _ _ _ _ _; first | refine W_seq ?_ | refine W_text rfl (fun _ _ _ h => h) ?_ | refine W_block ?_ | refine W_skip ?_ | refine W_exit ?_ | refine W_ret ?_ | refine W_true rfl ?_ | refine W_false rfl ?_ | refine W_cond rfl (fun _ => ?_) (fun _ => ?_)))
          refine DW_byte tabOK rfl rfl rfl rfl rfl rfl rfl rfl (Int.natCast_nonneg _) (c := b) (by simpa using hx) ?_
          repeat' (first | (show DW _ _ _ _ _ _ _ _; first | refine DW_V tabs rfl rfl rfl rfl (congrArg AV.bool d2) ?_ | refine DW_V tabs rfl rfl rfl rfl (congrArg (AV.int _) fi) ?_ | refine DW_A tabs rfl ?_ | refine DW_nil ?_ | refine DW_lits tabOK rfl rfl rfl rfl rfl rfl rfl rfl rfl rfl rfl rfl rfl ?_ | refine DW_append_own tabOK rfl rfl rfl rfl rfl rfl rfl rfl rfl rfl rfl rfl rfl rfl rfl (by simp; omega) (by simp; omega) ?_) | (show W _ _ _ _ _ _; first | refine W_seq ?_ | refine W_text rfl (fun _ _ _ h => h) ?_ | refine W_block ?_ | refine W_skip ?_ | refine W_exit ?_ | refine W_ret ?_ | refine W_true rfl ?_ | refine W_false rfl ?_ | refine W_cond rfl (fun _ => ?_) (fun _ => ?_)))
          refine DW_byte tabOK rfl rfl rfl rfl rfl rfl rfl rfl (Int.natCast_nonneg _) (c := b) (by simpa using hx) ?_
          repeat' (first | (show DW _ _ _ _ _ _ _ _; first | refine DW_V tabs rfl rfl rfl rfl (congrArg AV.bool d3) ?_ | refine DW_V tabs rfl rfl rfl rfl (congrArg (AV.int _) fi) ?_ | refine DW_A tabs rfl ?_ | refine DW_nil ?_ | refine DW_lits tabOK rfl rfl rfl rfl rfl rfl rfl rfl rfl rfl rfl rfl rfl ?_ | refine DW_append_own tabOK rfl rfl rfl rfl rfl rfl rfl rfl rfl rfl rfl rfl rfl rfl rfl (by simp; omega) (by simp; omega) ?_) | (show W _ _ _ _ _ _; first | refine W_seq ?_ | refine W_text rfl (fun _ _ _ h => h) ?_ | refine W_block ?_ | refine W_skip ?_ | refine W_exit ?_ | refine W_ret ?_ | refine W_true rfl ?_ | refine W_false rfl ?_ | refine W_cond rfl (fun _ => ?_) (fun _ => ?_)))
          refine ⟨h1, _, _, ⟨rfl, ?_, rfl⟩, Joint.le ?_ (Mem.le_refl _)⟩
          · rw [ht, List.any_append, hpre]
            simp [badB, h2, h3]
          · skip
            repeat (refine AF.le_cons rfl ?_)
            exact AF.le_nil rfl
    · have d1 : decide ((i : Int) < (s.length : Int)) = false := by simp; omega
      have hl2 : s.take i = s := List.take_of_length_le (by omega)
      rw [hl2] at hpre
      rw [isNameB_eq s hpre]
      cases g1 : decide (1 ≤ (s.length : Int))
      · repeat' (first | (show DW _ _ _ _ _ _ _ _; first | refine DW_V tabs rfl rfl rfl rfl (congrArg AV.bool d1) ?_ | refine DW_V tabs rfl rfl rfl rfl (congrArg AV.bool g1) ?_ | refine DW_A tabs rfl ?_ | refine DW_nil ?_ | refine DW_lits tabOK rfl rfl rfl rfl rfl rfl rfl rfl rfl rfl rfl rfl rfl ?_ | refine DW_append_own tabOK rfl rfl rfl rfl rfl rfl rfl rfl rfl rfl rfl rfl rfl rfl rfl (by simp; omega) (by simp; omega) ?_) | (show W _ _ _ _ _ _; first | refine W_seq ?_ | refine W_text rfl (fun _ _ _ h => h) ?_ | refine W_block ?_ | refine W_skip ?_ | refine W_exit ?_ | refine W_ret ?_ | refine W_true rfl ?_ | refine W_false rfl ?_ | refine W_cond rfl (fun _ => ?_) (fun _ => ?_)))
        exact ⟨rfl, _, rfl, rfl, rfl⟩
      · cases g2 : decide ((s.length : Int) ≤ 30)
        · repeat' (first | (show DW _ _ _ _ _ _ _ _; first | refine DW_V tabs rfl rfl rfl rfl (congrArg AV.bool d1) ?_ | refine DW_V tabs rfl rfl rfl rfl (congrArg AV.bool g1) ?_ | refine DW_V tabs rfl rfl rfl rfl (congrArg AV.bool g2) ?_ | refine DW_A tabs rfl ?_ | refine DW_nil ?_ | refine DW_lits tabOK rfl rfl rfl rfl rfl rfl rfl rfl rfl rfl rfl rfl rfl ?_ | refine DW_append_own tabOK rfl rfl rfl rfl rfl rfl rfl rfl rfl rfl rfl rfl rfl rfl rfl (by simp; omega) (by simp; omega) ?_) | (show W _ _ _ _ _ _; first | refine W_seq ?_ | refine W_text rfl (fun _ _ _ h => h) ?_ | refine W_block ?_ | refine W_skip ?_ | refine W_exit ?_ | refine W_ret ?_ | refine W_true rfl ?_ | refine W_false rfl ?_ | refine W_cond rfl (fun _ => ?_) (fun _ => ?_)))
          exact ⟨rfl, _, rfl, rfl, rfl⟩
        · cases g3 : !(s == [46])
          · repeat' (first | (show DW _ _ _ _ _ _ _ _; first | refine DW_V tabs rfl rfl rfl rfl (congrArg AV.bool d1) ?_ | refine DW_V tabs rfl rfl rfl rfl (congrArg AV.bool g1) ?_ | refine DW_V tabs rfl rfl rfl rfl (congrArg AV.bool g2) ?_ | refine DW_V tabs rfl rfl rfl rfl (congrArg AV.bool g3) ?_ | refine DW_A tabs rfl ?_ | refine DW_nil ?_ | refine DW_lits tabOK rfl rfl rfl rfl rfl rfl rfl rfl rfl rfl rfl rfl rfl ?_ | refine DW_append_own tabOK rfl rfl rfl rfl rfl rfl rfl rfl rfl rfl rfl rfl rfl rfl rfl (by simp; omega) (by simp; omega) ?_) | (show W _ _ _ _ _ _; first | refine W_seq ?_ | refine W_text rfl (fun _ _ _ h => h) ?_ | refine W_block ?_ | refine W_skip ?_ | refine W_exit ?_ | refine W_ret ?_ | refine W_true rfl ?_ | refine W_false rfl ?_ | refine W_cond rfl (fun _ => ?_) (fun _ => ?_)))
            exact ⟨rfl, _, rfl, rfl, rfl⟩
          · repeat' (first | (show DW _ _ _ _ _ _ _ _; first | refine DW_V tabs rfl rfl rfl rfl (congrArg AV.bool d1) ?_ | refine DW_V tabs rfl rfl rfl rfl (congrArg AV.bool g1) ?_ | refine DW_V tabs rfl rfl rfl rfl (congrArg AV.bool g2) ?_ | refine DW_V tabs rfl rfl rfl rfl (congrArg AV.bool g3) ?_ | refine DW_A tabs rfl ?_ | refine DW_nil ?_ | refine DW_lits tabOK rfl rfl rfl rfl rfl rfl rfl rfl rfl rfl rfl rfl rfl ?_ | refine DW_append_own tabOK rfl rfl rfl rfl rfl rfl rfl rfl rfl rfl rfl rfl rfl rfl rfl (by simp; omega) (by simp; omega) ?_) | (show W _ _ _ _ _ _; first | refine W_seq ?_ | refine W_text rfl (fun _ _ _ h => h) ?_ | refine W_block ?_ | refine W_skip ?_ | refine W_exit ?_ | refine W_ret ?_ | refine W_true rfl ?_ | refine W_false rfl ?_ | refine W_cond rfl (fun _ => ?_) (fun _ => ?_)))
            exact ⟨rfl, _, rfl, rfl, rfl⟩

def namesB (s : Bytes) : List Bytes × Bool := if s = [] then ([], true) else if (splitOn 47 s).all isNameB = true then (splitOn 47 s, decide (s.length ≤ 100)) else ([], false)
theorem namesB_is (s : Bytes) : (namesB s).2 = isPathB s := by
  unfold namesB isPathB
  by_cases h : s = []
  · simp [h]
  · rw [if_neg h]
    cases h2 : (splitOn 47 s).all isNameB
    · simp [h]
    · simp [h]

def namesA (l : List Bytes × Bool) : AV := .tup [.sl 1 (l.1.map .str) .none, .bool l.2]
theorem closed_names (l : List Bytes × Bool) : Closed (namesA l) := closed_tup (closed2 closed_strs closed_bool)

theorem names_ok (s : Bytes) (hs : s.length < 1000000) : APure Tryd.prog 43 [.str s] (namesA (namesB s)) := by
  refine pure_sub (closed1 closed_str) (closed_names _) ?_
  refine acalls_of tabOK Tryd.func43 rfl (by decide) (by simp [Tryd.f43]) ?_
  have k := parts_ok s hs
  have kl := splitOn_len 47 s
  unfold namesB
  by_cases h1 : s = []
  · have d0 : (s == []) = true := by simp [h1]
    rw [if_pos h1]
    repeat' (first | (show DW _ _ _ _ _ _ _ _; first | refine DW_V tabs rfl rfl rfl rfl (congrArg AV.bool d0) ?_ | refine DW_A tabs rfl ?_ | refine DW_nil ?_ | refine DW_lits tabOK rfl rfl rfl rfl rfl rfl rfl rfl rfl rfl rfl rfl rfl ?_ | refine DW_append_own tabOK rfl rfl rfl rfl rfl rfl rfl rfl rfl rfl rfl rfl rfl rfl rfl (by simp; omega) (by simp; omega) ?_) | (show W _ _ _ _ _ _; first | refine W_seq ?_ | refine W_text rfl (fun _ _ _ h => h) ?_ | refine W_block ?_ | refine W_skip ?_ | refine W_exit ?_ | refine W_ret ?_ | refine W_true rfl ?_ | refine W_false rfl ?_ | refine W_cond rfl (fun _ => ?_) (fun _ => ?_)))
    exact ⟨rfl, _, rfl, _, rfl, SubC.tup2 SubC.nil (SubC.of_closed closed_bool)⟩
  · have d0 : (s == []) = false := by simp [h1]
    rw [if_neg h1]
    generalize splitOn 47 s = l at k kl
    have la : ((l.map AV.str).length : Int) = (l.length : Int) := by simp
    repeat' (first | (show DW _ _ _ _ _ _ _ _; first | refine DW_V tabs rfl rfl rfl rfl (congrArg AV.bool d0) ?_ | refine DW_A tabs rfl ?_ | refine DW_nil ?_ | refine DW_lits tabOK rfl rfl rfl rfl rfl rfl rfl rfl rfl rfl rfl rfl rfl ?_ | refine DW_append_own tabOK rfl rfl rfl rfl rfl rfl rfl rfl rfl rfl rfl rfl rfl rfl rfl (by simp; omega) (by simp; omega) ?_) | (show W _ _ _ _ _ _; first | refine W_seq ?_ | refine W_text rfl (fun _ _ _ h => h) ?_ | refine W_block ?_ | refine W_skip ?_ | refine W_exit ?_ | refine W_ret ?_ | refine W_true rfl ?_ | refine W_false rfl ?_ | refine W_cond rfl (fun _ => ?_) (fun _ => ?_)))
    refine DW_pure rfl rfl rfl rfl rfl k ?_
    repeat' (first | (show DW _ _ _ _ _ _ _ _; first | refine DW_V tabs rfl rfl rfl rfl (congrArg (AV.int _) la) ?_ | refine DW_A tabs rfl ?_ | refine DW_nil ?_ | refine DW_lits tabOK rfl rfl rfl rfl rfl rfl rfl rfl rfl rfl rfl rfl rfl ?_ | refine DW_append_own tabOK rfl rfl rfl rfl rfl rfl rfl rfl rfl rfl rfl rfl rfl rfl rfl (by simp; omega) (by simp; omega) ?_) | (show W _ _ _ _ _ _; first | refine W_seq ?_ | refine W_text rfl (fun _ _ _ h => h) ?_ | refine W_block ?_ | refine W_skip ?_ | refine W_exit ?_ | refine W_ret ?_ | refine W_true rfl ?_ | refine W_false rfl ?_ | refine W_cond rfl (fun _ => ?_) (fun _ => ?_)))
    refine W_count l.length (fun i f N => N = ⟨0, []⟩ ∧ (l.take i).all isNameB = true ∧ f = ⟨[(0, .str s), (4, .sl 1 (l.map AV.str) .none), (5, .int .i64 (i : Int))], []⟩) (Nat.zero_le _) ⟨rfl, by simp, rfl⟩ (Joint.le ?_ (Mem.le_refl _)) ?_
    · skip
      repeat (refine AF.le_cons rfl ?_)
      exact AF.le_nil rfl
    · rintro i f N hi ⟨rfl, hpre, rfl⟩
      by_cases h2 : i < l.length
      · have d1 : decide ((i : Int) < (l.length : Int)) = true := by simp; omega
        have hx : l[i]? = some l[i] := List.getElem?_eq_getElem h2
        have fi := wrap_succ (i := i) (by omega)
        have ht := take_succ hx
        generalize l[i] = e at hx ht
        have he := kl.2 e (List.mem_of_getElem? hx)
        have ke := refName_ok e (by omega)
        cases h3 : isNameB e
        · have hall : ¬ l.all isNameB = true := by
            rw [List.all_eq_true]
            intro h
            rw [h e (List.mem_of_getElem? hx)] at h3
            cases h3
          rw [h3] at ke
          rw [if_neg hall]
          repeat' (first | (show DW _ _ _ _ _ _ _ _; first | refine DW_V tabs rfl rfl rfl rfl (congrArg AV.bool d1) ?_ | refine DW_V tabs rfl rfl rfl rfl (congrArg (AV.int _) la) ?_ | refine DW_V tabs rfl rfl rfl rfl (congrArg (AV.int _) fi) ?_ | refine DW_A tabs rfl ?_ | refine DW_nil ?_ | refine DW_lits tabOK rfl rfl rfl rfl rfl rfl rfl rfl rfl rfl rfl rfl rfl ?_ | refine DW_append_own tabOK rfl rfl rfl rfl rfl rfl rfl rfl rfl rfl rfl rfl rfl rfl rfl (by simp; omega) (by simp; omega) ?_) | (show W _ _ _ _ _ _; first | refine W_seq ?_ | refine W_text rfl (fun _ _ _ h => h) ?_ | refine W_block ?_ | refine W_skip ?_ | refine W_exit ?_ | refine W_ret ?_ | refine W_true rfl ?_ | refine W_false rfl ?_ | refine W_cond rfl (fun _ => ?_) (fun _ => ?_)))
          refine DW_index tabOK rfl rfl rfl rfl rfl rfl rfl rfl rfl rfl (Int.natCast_nonneg _) (map_get hx) ?_
          repeat' (first | (show DW _ _ _ _ _ _ _ _; first | refine DW_V tabs rfl rfl rfl rfl (congrArg AV.bool d1) ?_ | refine DW_V tabs rfl rfl rfl rfl (congrArg (AV.int _) la) ?_ | refine DW_V tabs rfl rfl rfl rfl (congrArg (AV.int _) fi) ?_ | refine DW_A tabs rfl ?_ | refine DW_nil ?_ | refine DW_lits tabOK rfl rfl rfl rfl rfl rfl rfl rfl rfl rfl rfl rfl rfl ?_ | refine DW_append_own tabOK rfl rfl rfl rfl rfl rfl rfl rfl rfl rfl rfl rfl rfl rfl rfl (by simp; omega) (by simp; omega) ?_) | (show W _ _ _ _ _ _; first | refine W_seq ?_ | refine W_text rfl (fun _ _ _ h => h) ?_ | refine W_block ?_ | refine W_skip ?_ | refine W_exit ?_ | refine W_ret ?_ | refine W_true rfl ?_ | refine W_false rfl ?_ | refine W_cond rfl (fun _ => ?_) (fun _ => ?_)))
          refine DW_pure rfl rfl rfl rfl rfl ke ?_
          repeat' (first | (show DW _ _ _ _ _ _ _ _; first | refine DW_V tabs rfl rfl rfl rfl (congrArg (AV.int _) la) ?_ | refine DW_V tabs rfl rfl rfl rfl (congrArg (AV.int _) fi) ?_ | refine DW_A tabs rfl ?_ | refine DW_nil ?_ | refine DW_lits tabOK rfl rfl rfl rfl rfl rfl rfl rfl rfl rfl rfl rfl rfl ?_ | refine DW_append_own tabOK rfl rfl rfl rfl rfl rfl rfl rfl rfl rfl rfl rfl rfl rfl rfl (by simp; omega) (by simp; omega) ?_) | (show W _ _ _ _ _ _; first | refine W_seq ?_ | refine W_text rfl (fun _ _ _ h => h) ?_ | refine W_block ?_ | refine W_skip ?_ | refine W_exit ?_ | refine W_ret ?_ | refine W_true rfl ?_ | refine W_false rfl ?_ | refine W_cond rfl (fun _ => ?_) (fun _ => ?_)))
          exact ⟨rfl, _, rfl, _, rfl, SubC.tup2 SubC.nil (SubC.of_closed closed_bool)⟩
        · rw [h3] at ke
          repeat' (first | (show DW _ _ _ _ _ _ _ _; first | refine DW_V tabs rfl rfl rfl rfl (congrArg AV.bool d1) ?_ | refine DW_V tabs rfl rfl rfl rfl (congrArg (AV.int _) la) ?_ | refine DW_V tabs rfl rfl rfl rfl (congrArg (AV.int _) fi) ?_ | refine DW_A tabs rfl ?_ | refine DW_nil ?_ | refine DW_lits tabOK rfl rfl rfl rfl rfl rfl rfl rfl rfl rfl rfl rfl rfl ?_ | refine DW_append_own tabOK rfl rfl rfl rfl rfl rfl rfl rfl rfl rfl rfl rfl rfl rfl rfl (by simp; omega) (by simp; omega) ?_) | (show W _ _ _ _ _ _; first | refine W_seq ?_ | refine W_text rfl (fun _ _ _ h => h) ?_ | refine W_block ?_ | refine W_skip ?_ | refine W_exit ?_ | refine W_ret ?_ | refine W_true rfl ?_ | refine W_false rfl ?_ | refine W_cond rfl (fun _ => ?_) (fun _ => ?_)))
          refine DW_index tabOK rfl rfl rfl rfl rfl rfl rfl rfl rfl rfl (Int.natCast_nonneg _) (map_get hx) ?_
          repeat' (first | (show DW _ _ _ _ _ _ _ _; first | refine DW_V tabs rfl rfl rfl rfl (congrArg AV.bool d1) ?_ | refine DW_V tabs rfl rfl rfl rfl (congrArg (AV.int _) la) ?_ | refine DW_V tabs rfl rfl rfl rfl (congrArg (AV.int _) fi) ?_ | refine DW_A tabs rfl ?_ | refine DW_nil ?_ | refine DW_lits tabOK rfl rfl rfl rfl rfl rfl rfl rfl rfl rfl rfl rfl rfl ?_ | refine DW_append_own tabOK rfl rfl rfl rfl rfl rfl rfl rfl rfl rfl rfl rfl rfl rfl rfl (by simp; omega) (by simp; omega) ?_) | (show W _ _ _ _ _ _; first | refine W_seq ?_ | refine W_text rfl (fun _ _ _ h => h) ?_ | refine W_block ?_ | refine W_skip ?_ | refine W_exit ?_ | refine W_ret ?_ | refine W_true rfl ?_ | refine W_false rfl ?_ | refine W_cond rfl (fun _ => ?_) (fun _ => ?_)))
          refine DW_pure rfl rfl rfl rfl rfl ke ?_
          repeat' (first | (show DW _ _ _ _ _ _ _ _; first | refine DW_V tabs rfl rfl rfl rfl (congrArg (AV.int _) la) ?_ | refine DW_V tabs rfl rfl rfl rfl (congrArg (AV.int _) fi) ?_ | refine DW_A tabs rfl ?_ | refine DW_nil ?_ | refine DW_lits tabOK rfl rfl rfl rfl rfl rfl rfl rfl rfl rfl rfl rfl rfl ?_ | refine DW_append_own tabOK rfl rfl rfl rfl rfl rfl rfl rfl rfl rfl rfl rfl rfl rfl rfl (by simp; omega) (by simp; omega) ?_) | (show W _ _ _ _ _ _; first | refine W_seq ?_ | refine W_text rfl (fun _ _ _ h => h) ?_ | refine W_block ?_ | refine W_skip ?_ | refine W_exit ?_ | refine W_ret ?_ | refine W_true rfl ?_ | refine W_false rfl ?_ | refine W_cond rfl (fun _ => ?_) (fun _ => ?_)))
          refine ⟨h2, _, _, ⟨rfl, ?_, rfl⟩, Joint.le ?_ (Mem.le_refl _)⟩
          · rw [ht, List.all_append, hpre]
            simp [h3]
          · skip
            repeat (refine AF.le_cons rfl ?_)
            exact AF.le_nil rfl
      · have d1 : decide ((i : Int) < (l.length : Int)) = false := by simp; omega
        have hl2 : l.take i = l := List.take_of_length_le (by omega)
        rw [hl2] at hpre
        rw [if_pos hpre]
        repeat' (first | (show DW _ _ _ _ _ _ _ _; first | refine DW_V tabs rfl rfl rfl rfl (congrArg AV.bool d1) ?_ | refine DW_V tabs rfl rfl rfl rfl (congrArg (AV.int _) la) ?_ | refine DW_A tabs rfl ?_ | refine DW_nil ?_ | refine DW_lits tabOK rfl rfl rfl rfl rfl rfl rfl rfl rfl rfl rfl rfl rfl ?_ | refine DW_append_own tabOK rfl rfl rfl rfl rfl rfl rfl rfl rfl rfl rfl rfl rfl rfl rfl (by simp; omega) (by simp; omega) ?_) | (show W _ _ _ _ _ _; first | refine W_seq ?_ | refine W_text rfl (fun _ _ _ h => h) ?_ | refine W_block ?_ | refine W_skip ?_ | refine W_exit ?_ | refine W_ret ?_ | refine W_true rfl ?_ | refine W_false rfl ?_ | refine W_cond rfl (fun _ => ?_) (fun _ => ?_)))
        refine ⟨rfl, _, rfl, _, rfl, SubC.tup2 (SubC.of_closed closed_strs) ?_⟩
        rw [show decide (s.length ≤ 100) = decide ((s.length : Int) ≤ 100) from decide_eq_decide.2 (by omega)]
        exact SubC.of_closed closed_bool

theorem refIs_ok (s : Bytes) (hs : s.length < 1000000) : APure Tryd.prog 32 [.str s] (.bool (isPathB s)) := by
  intro M
  refine acalls_of tabOK Tryd.func32 rfl (by decide) (by simp [Tryd.f32]) ?_
  rw [← namesB_is]
  have k := names_ok s hs
  repeat' (first | (show DW _ _ _ _ _ _ _ _; first | refine DW_A tabs rfl ?_ | refine DW_nil ?_ | refine DW_lits tabOK rfl rfl rfl rfl rfl rfl rfl rfl rfl rfl rfl rfl rfl ?_ | refine DW_append_own tabOK rfl rfl rfl rfl rfl rfl rfl rfl rfl rfl rfl rfl rfl rfl rfl (by simp; omega) (by simp; omega) ?_) | (show W _ _ _ _ _ _; first | refine W_seq ?_ | refine W_text rfl (fun _ _ _ h => h) ?_ | refine W_block ?_ | refine W_skip ?_ | refine W_exit ?_ | refine W_ret ?_ | refine W_true rfl ?_ | refine W_false rfl ?_ | refine W_cond rfl (fun _ => ?_) (fun _ => ?_)))
  refine DW_pure rfl rfl rfl rfl rfl k ?_
  repeat' (first | (show DW _ _ _ _ _ _ _ _; first | refine DW_A tabs rfl ?_ | refine DW_nil ?_ | refine DW_lits tabOK rfl rfl rfl rfl rfl rfl rfl rfl rfl rfl rfl rfl rfl ?_ | refine DW_append_own tabOK rfl rfl rfl rfl rfl rfl rfl rfl rfl rfl rfl rfl rfl rfl rfl (by simp; omega) (by simp; omega) ?_) | (show W _ _ _ _ _ _; first | refine W_seq ?_ | refine W_text rfl (fun _ _ _ h => h) ?_ | refine W_block ?_ | refine W_skip ?_ | refine W_exit ?_ | refine W_ret ?_ | refine W_true rfl ?_ | refine W_false rfl ?_ | refine W_cond rfl (fun _ => ?_) (fun _ => ?_)))
  exact ⟨rfl, _, rfl, rfl, rfl⟩
end Go.Proofs.YthdeopopodhimaaDoor

/- strings.HasPrefix tells what its text says. No further condition. -/
set_option linter.unusedVariables false
set_option linter.unusedSimpArgs false
namespace Go.Proofs.YthdeopopodhimaaDoor
open Go.Ab

def hasPre (s p : Bytes) : Bool := decide (p.length ≤ s.length) && (s.take p.length == p)

theorem litePrefix_ok (s p : Bytes) : APure Tryd.prog 58 [.str s, .str p] (.bool (hasPre s p)) := by
  intro M
  refine acalls_of tabOK Tryd.func58 rfl (by decide) (by simp [Tryd.f58]) ?_
  unfold hasPre
  by_cases h : p.length ≤ s.length
  · have d1 : decide ((p.length : Int) ≤ (s.length : Int)) = true := by simp; omega
    have e1 : decide (p.length ≤ s.length) = true := by simp [h]
    rw [e1]
    repeat' (first | (show DW _ _ _ _ _ _ _ _; first | refine DW_V tabs rfl rfl rfl rfl (congrArg AV.bool d1) ?_ | refine DW_A tabs rfl ?_ | refine DW_nil ?_ | refine DW_lits tabOK rfl rfl rfl rfl rfl rfl rfl rfl rfl rfl rfl rfl rfl ?_ | refine DW_append_own tabOK rfl rfl rfl rfl rfl rfl rfl rfl rfl rfl rfl rfl rfl rfl rfl (by simp; omega) (by simp; omega) ?_) | (show W _ _ _ _ _ _; first | refine W_seq ?_ | refine W_text rfl (fun _ _ _ h => h) ?_ | refine W_block ?_ | refine W_skip ?_ | refine W_exit ?_ | refine W_ret ?_ | refine W_true rfl ?_ | refine W_false rfl ?_ | refine W_cond rfl (fun _ => ?_) (fun _ => ?_)))
    refine DW_substr tabOK rfl rfl rfl rfl rfl rfl rfl rfl rfl (Int.le_refl 0) (Int.natCast_nonneg _) (by omega) ?_
    repeat' (first | (show DW _ _ _ _ _ _ _ _; first | refine DW_A tabs rfl ?_ | refine DW_nil ?_ | refine DW_lits tabOK rfl rfl rfl rfl rfl rfl rfl rfl rfl rfl rfl rfl rfl ?_ | refine DW_append_own tabOK rfl rfl rfl rfl rfl rfl rfl rfl rfl rfl rfl rfl rfl rfl rfl (by simp; omega) (by simp; omega) ?_) | (show W _ _ _ _ _ _; first | refine W_seq ?_ | refine W_text rfl (fun _ _ _ h => h) ?_ | refine W_block ?_ | refine W_skip ?_ | refine W_exit ?_ | refine W_ret ?_ | refine W_true rfl ?_ | refine W_false rfl ?_ | refine W_cond rfl (fun _ => ?_) (fun _ => ?_)))
    exact ⟨rfl, _, rfl, ret_bool (by simp), rfl⟩
  · have d1 : decide ((p.length : Int) ≤ (s.length : Int)) = false := by simp; omega
    have e1 : decide (p.length ≤ s.length) = false := by simp [h]
    rw [e1]
    repeat' (first | (show DW _ _ _ _ _ _ _ _; first | refine DW_V tabs rfl rfl rfl rfl (congrArg AV.bool d1) ?_ | refine DW_A tabs rfl ?_ | refine DW_nil ?_ | refine DW_lits tabOK rfl rfl rfl rfl rfl rfl rfl rfl rfl rfl rfl rfl rfl ?_ | refine DW_append_own tabOK rfl rfl rfl rfl rfl rfl rfl rfl rfl rfl rfl rfl rfl rfl rfl (by simp; omega) (by simp; omega) ?_) | (show W _ _ _ _ _ _; first | refine W_seq ?_ | refine W_text rfl (fun _ _ _ h => h) ?_ | refine W_block ?_ | refine W_skip ?_ | refine W_exit ?_ | refine W_ret ?_ | refine W_true rfl ?_ | refine W_false rfl ?_ | refine W_cond rfl (fun _ => ?_) (fun _ => ?_)))
    exact ⟨rfl, _, rfl, rfl, rfl⟩
theorem hasPrefix_ok (s p : Bytes) : APure Tryd.prog 48 [.str s, .str p] (.bool (hasPre s p)) := by
  intro M
  refine acalls_of tabOK Tryd.func48 rfl (by decide) (by simp [Tryd.f48]) ?_
  repeat' (first | (show DW _ _ _ _ _ _ _ _; first | refine DW_A tabs rfl ?_ | refine DW_nil ?_ | refine DW_lits tabOK rfl rfl rfl rfl rfl rfl rfl rfl rfl rfl rfl rfl rfl ?_ | refine DW_append_own tabOK rfl rfl rfl rfl rfl rfl rfl rfl rfl rfl rfl rfl rfl rfl rfl (by simp; omega) (by simp; omega) ?_) | (show W _ _ _ _ _ _; first | refine W_seq ?_ | refine W_text rfl (fun _ _ _ h => h) ?_ | refine W_block ?_ | refine W_skip ?_ | refine W_exit ?_ | refine W_ret ?_ | refine W_true rfl ?_ | refine W_false rfl ?_ | refine W_cond rfl (fun _ => ?_) (fun _ => ?_)))
  refine DW_pure rfl rfl rfl rfl rfl (litePrefix_ok s p) ?_
  repeat' (first | (show DW _ _ _ _ _ _ _ _; first | refine DW_A tabs rfl ?_ | refine DW_nil ?_ | refine DW_lits tabOK rfl rfl rfl rfl rfl rfl rfl rfl rfl rfl rfl rfl rfl ?_ | refine DW_append_own tabOK rfl rfl rfl rfl rfl rfl rfl rfl rfl rfl rfl rfl rfl rfl rfl (by simp; omega) (by simp; omega) ?_) | (show W _ _ _ _ _ _; first | refine W_seq ?_ | refine W_text rfl (fun _ _ _ h => h) ?_ | refine W_block ?_ | refine W_skip ?_ | refine W_exit ?_ | refine W_ret ?_ | refine W_true rfl ?_ | refine W_false rfl ?_ | refine W_cond rfl (fun _ => ?_) (fun _ => ?_)))
  exact ⟨rfl, _, rfl, rfl, rfl⟩
end Go.Proofs.YthdeopopodhimaaDoor

/- path.Under tells what its text says. No further condition. -/
set_option linter.unusedVariables false
set_option linter.unusedSimpArgs false
namespace Go.Proofs.YthdeopopodhimaaDoor
open Go.Ab

def underB (d s : Bytes) : Bool := isPathB d && isPathB s && (d == [] || d == s || hasPre s (d ++ [47]))

set_option maxRecDepth 100000 in
theorem under_ok (d s : Bytes) (hd : d.length < 1000000) (hs : s.length < 1000000) : APure Tryd.prog 42 [.str d, .str s] (.bool (underB d s)) := by
  intro M
  refine acalls_of tabOK Tryd.func42 rfl (by decide) (by simp [Tryd.f42]) ?_
  have k1 := isPath_ok d (by omega)
  have k2 := isPath_ok s (by omega)
  have k3 := hasPrefix_ok s (d ++ [47])
  unfold underB
  cases h1 : isPathB d
  · rw [h1] at k1
    repeat' (first | (show DW _ _ _ _ _ _ _ _; first | refine DW_A tabs rfl ?_ | refine DW_nil ?_ | refine DW_lits tabOK rfl rfl rfl rfl rfl rfl rfl rfl rfl rfl rfl rfl rfl ?_ | refine DW_pure rfl rfl rfl rfl rfl k1 ?_ | refine DW_append_own tabOK rfl rfl rfl rfl rfl rfl rfl rfl rfl rfl rfl rfl rfl rfl rfl (by simp; omega) (by simp; omega) ?_) | (show W _ _ _ _ _ _; first | refine W_seq ?_ | refine W_text rfl (fun _ _ _ h => h) ?_ | refine W_block ?_ | refine W_skip ?_ | refine W_exit ?_ | refine W_ret ?_ | refine W_true rfl ?_ | refine W_false rfl ?_ | refine W_cond rfl (fun _ => ?_) (fun _ => ?_)))
    exact ⟨rfl, _, rfl, rfl, rfl⟩
  · rw [h1] at k1
    cases h2 : isPathB s
    · rw [h2] at k2
      repeat' (first | (show DW _ _ _ _ _ _ _ _; first | refine DW_A tabs rfl ?_ | refine DW_nil ?_ | refine DW_lits tabOK rfl rfl rfl rfl rfl rfl rfl rfl rfl rfl rfl rfl rfl ?_ | refine DW_pure rfl rfl rfl rfl rfl k1 ?_ | refine DW_pure rfl rfl rfl rfl rfl k2 ?_ | refine DW_append_own tabOK rfl rfl rfl rfl rfl rfl rfl rfl rfl rfl rfl rfl rfl rfl rfl (by simp; omega) (by simp; omega) ?_) | (show W _ _ _ _ _ _; first | refine W_seq ?_ | refine W_text rfl (fun _ _ _ h => h) ?_ | refine W_block ?_ | refine W_skip ?_ | refine W_exit ?_ | refine W_ret ?_ | refine W_true rfl ?_ | refine W_false rfl ?_ | refine W_cond rfl (fun _ => ?_) (fun _ => ?_)))
      exact ⟨rfl, _, rfl, rfl, rfl⟩
    · rw [h2] at k2
      cases h3 : d == []
      · cases h4 : d == s
        · repeat' (first | (show DW _ _ _ _ _ _ _ _; first | refine DW_V tabs rfl rfl rfl rfl (congrArg AV.bool h3) ?_ | refine DW_V tabs rfl rfl rfl rfl (congrArg AV.bool h4) ?_ | refine DW_A tabs rfl ?_ | refine DW_nil ?_ | refine DW_lits tabOK rfl rfl rfl rfl rfl rfl rfl rfl rfl rfl rfl rfl rfl ?_ | refine DW_pure rfl rfl rfl rfl rfl k1 ?_ | refine DW_pure rfl rfl rfl rfl rfl k2 ?_ | refine DW_append_own tabOK rfl rfl rfl rfl rfl rfl rfl rfl rfl rfl rfl rfl rfl rfl rfl (by simp; omega) (by simp; omega) ?_) | (show W _ _ _ _ _ _; first | refine W_seq ?_ | refine W_text rfl (fun _ _ _ h => h) ?_ | refine W_block ?_ | refine W_skip ?_ | refine W_exit ?_ | refine W_ret ?_ | refine W_true rfl ?_ | refine W_false rfl ?_ | refine W_cond rfl (fun _ => ?_) (fun _ => ?_)))
          refine DW_concat rfl rfl rfl rfl rfl rfl (by simp; omega) ?_
          repeat' (first | (show DW _ _ _ _ _ _ _ _; first | refine DW_V tabs rfl rfl rfl rfl (congrArg AV.bool h3) ?_ | refine DW_V tabs rfl rfl rfl rfl (congrArg AV.bool h4) ?_ | refine DW_A tabs rfl ?_ | refine DW_nil ?_ | refine DW_lits tabOK rfl rfl rfl rfl rfl rfl rfl rfl rfl rfl rfl rfl rfl ?_ | refine DW_pure rfl rfl rfl rfl rfl k3 ?_ | refine DW_append_own tabOK rfl rfl rfl rfl rfl rfl rfl rfl rfl rfl rfl rfl rfl rfl rfl (by simp; omega) (by simp; omega) ?_) | (show W _ _ _ _ _ _; first | refine W_seq ?_ | refine W_text rfl (fun _ _ _ h => h) ?_ | refine W_block ?_ | refine W_skip ?_ | refine W_exit ?_ | refine W_ret ?_ | refine W_true rfl ?_ | refine W_false rfl ?_ | refine W_cond rfl (fun _ => ?_) (fun _ => ?_)))
          exact ⟨rfl, _, rfl, ret_bool (by simp), rfl⟩
        · repeat' (first | (show DW _ _ _ _ _ _ _ _; first | refine DW_V tabs rfl rfl rfl rfl (congrArg AV.bool h3) ?_ | refine DW_V tabs rfl rfl rfl rfl (congrArg AV.bool h4) ?_ | refine DW_A tabs rfl ?_ | refine DW_nil ?_ | refine DW_lits tabOK rfl rfl rfl rfl rfl rfl rfl rfl rfl rfl rfl rfl rfl ?_ | refine DW_pure rfl rfl rfl rfl rfl k1 ?_ | refine DW_pure rfl rfl rfl rfl rfl k2 ?_ | refine DW_append_own tabOK rfl rfl rfl rfl rfl rfl rfl rfl rfl rfl rfl rfl rfl rfl rfl (by simp; omega) (by simp; omega) ?_) | (show W _ _ _ _ _ _; first | refine W_seq ?_ | refine W_text rfl (fun _ _ _ h => h) ?_ | refine W_block ?_ | refine W_skip ?_ | refine W_exit ?_ | refine W_ret ?_ | refine W_true rfl ?_ | refine W_false rfl ?_ | refine W_cond rfl (fun _ => ?_) (fun _ => ?_)))
          exact ⟨rfl, _, rfl, rfl, rfl⟩
      · repeat' (first | (show DW _ _ _ _ _ _ _ _; first | refine DW_V tabs rfl rfl rfl rfl (congrArg AV.bool h3) ?_ | refine DW_A tabs rfl ?_ | refine DW_nil ?_ | refine DW_lits tabOK rfl rfl rfl rfl rfl rfl rfl rfl rfl rfl rfl rfl rfl ?_ | refine DW_pure rfl rfl rfl rfl rfl k1 ?_ | refine DW_pure rfl rfl rfl rfl rfl k2 ?_ | refine DW_append_own tabOK rfl rfl rfl rfl rfl rfl rfl rfl rfl rfl rfl rfl rfl rfl rfl (by simp; omega) (by simp; omega) ?_) | (show W _ _ _ _ _ _; first | refine W_seq ?_ | refine W_text rfl (fun _ _ _ h => h) ?_ | refine W_block ?_ | refine W_skip ?_ | refine W_exit ?_ | refine W_ret ?_ | refine W_true rfl ?_ | refine W_false rfl ?_ | refine W_cond rfl (fun _ => ?_) (fun _ => ?_)))
        exact ⟨rfl, _, rfl, rfl, rfl⟩

theorem hasPre_is {s p : Bytes} (h : hasPre s p = true) : s = p ++ s.drop p.length := by
  unfold hasPre at h
  simp only [Bool.and_eq_true, decide_eq_true_eq, beq_iff_eq] at h
  have := List.take_append_drop p.length s
  rw [h.2] at this
  exact this.symm
theorem hasPre_app (p r : Bytes) : hasPre (p ++ r) p = true := by
  unfold hasPre
  simp
end Go.Proofs.YthdeopopodhimaaDoor
