/- Parts of the proof, one behind the other: PathA, RefPathA, RefPathB, KeyI, StoA, PathU, UnderA. No further condition. -/
import Derived.Test.YtmgkebghojhocaaGreatDoorQV19
import Derived.Test.YtmgkebghojhocaaGreatDoorQV16
import Derived.Test.YtmgkebghojhocaaGreatDoorQV14
set_option linter.unusedVariables false
set_option linter.unusedSimpArgs false
/- Which texts are names, and which are paths. No further condition. -/
set_option linter.unusedVariables false
set_option linter.unusedSimpArgs false
namespace Go.Proofs.YtmgkebghojhocaaGreatDoor
open Go.Ab
def isNameB (s : Bytes) : Bool := !(s == []) && decide (s.length ≤ 30) && !(s == [46]) && !(s == [46, 46]) && !(s.any fun b => b == 47 || b == 0)
set_option maxRecDepth 100000 in
theorem isName_ok (s : Bytes) (hs : s.length < 4294967281) : APure Tryz.prog 166 [.str s] (.bool (isNameB s)) := by
 intro M
 refine acalls_of tabOK Tryz.func166 rfl (by decide) (by simp [Tryz.f166]) ?_
 have k := any470_ok s hs
 unfold isNameB
 cases h1 : s == []
 ·have n1 : (!(s == [])) = true := by rw [h1]; rfl
  cases h2 : decide (s.length ≤ 30)
  ·have d2 : decide ((s.length : Int) ≤ 30) = false := by
    simp at h2 ⊢
    omega
   repeat' (first | refine DW_VB tabs rfl (by first | exact n1 | exact d2) ?_ | refine DW_A tabs rfl ?_ | refine DW_nil ?_ | refine W_A rfl ?_)
   exact ⟨rfl, _, rfl, rfl, rfl⟩
  ·have d2 : decide ((s.length : Int) ≤ 30) = true := by
    simp at h2 ⊢
    omega
   cases h3 : s == [46]
   ·have n3 : (!(s == [46])) = true := by rw [h3]; rfl
    cases h4 : s == [46, 46]
    ·have n4 : (!(s == [46, 46])) = true := by rw [h4]; rfl
     repeat' (first | refine DW_VB tabs rfl (by first | exact n1 | exact d2 | exact n3 | exact n4) ?_ | refine DW_A tabs rfl ?_ | refine DW_nil ?_ | refine W_A rfl ?_)
     refine DW_pure rfl rfl rfl rfl rfl k ?_
     repeat' (first | refine DW_A tabs rfl ?_ | refine DW_nil ?_ | refine W_A rfl ?_)
     exact ⟨rfl, _, rfl, rfl, rfl⟩
    ·have n4 : (!(s == [46, 46])) = false := by rw [h4]; rfl
     repeat' (first | refine DW_VB tabs rfl (by first | exact n1 | exact d2 | exact n3 | exact n4) ?_ | refine DW_A tabs rfl ?_ | refine DW_nil ?_ | refine W_A rfl ?_)
     exact ⟨rfl, _, rfl, rfl, rfl⟩
   ·have n3 : (!(s == [46])) = false := by rw [h3]; rfl
    repeat' (first | refine DW_VB tabs rfl (by first | exact n1 | exact d2 | exact n3) ?_ | refine DW_A tabs rfl ?_ | refine DW_nil ?_ | refine W_A rfl ?_)
    exact ⟨rfl, _, rfl, rfl, rfl⟩
 ·have n1 : (!(s == [])) = false := by rw [h1]; rfl
  repeat' (first | refine DW_VB tabs rfl n1 ?_ | refine DW_A tabs rfl ?_ | refine DW_nil ?_ | refine W_A rfl ?_)
  exact ⟨rfl, _, rfl, rfl, rfl⟩
def isPathB (s : Bytes) : Bool := s == [] || ((splitOn 47 s).all isNameB && decide (s.length ≤ 100))
theorem splitOn_len (c : UInt8) : ∀ s : Bytes, (splitOn c s).length ≤ s.length + 1 ∧ ∀ p, p ∈ splitOn c s → p.length ≤ s.length
 | [] => ⟨by simp [splitOn], by simp [splitOn]⟩
 | b :: l => by
  have ih := splitOn_len c l
  unfold splitOn
  split
  ·refine ⟨by simp; omega, fun p hp => ?_⟩
   rcases List.mem_cons.1 hp with rfl | hp
   ·simp
   ·have := ih.2 p hp
    simp; omega
  ·split
   ·simp
   ·rename_i p r hr
    rw [hr] at ih
    refine ⟨by simp at ih ⊢; omega, fun q hq => ?_⟩
    rcases List.mem_cons.1 hq with rfl | hq
    ·have := ih.2 p (by simp)
     simp; omega
    ·have := ih.2 q (by simp [hq])
     simp; omega
set_option maxRecDepth 100000 in
theorem isPath_ok (s : Bytes) (hs : s.length < 4294967281) : APure Tryz.prog 141 [.str s] (.bool (isPathB s)) := by
 intro M
 refine acalls_of tabOK Tryz.func141 rfl (by decide) (by simp [Tryz.f141]) ?_
 have k := split47_ok s hs
 have kl := splitOn_len 47 s
 unfold isPathB
 cases h1 : s == []
 ·generalize splitOn 47 s = l at k kl
  have la : ((l.map AV.str).length : Int) = (l.length : Int) := by simp
  repeat' (first | refine DW_VB tabs rfl h1 ?_ | refine DW_A tabs rfl ?_ | refine DW_nil ?_ | refine W_A rfl ?_)
  refine DW_pure rfl rfl rfl rfl rfl k ?_
  repeat' (first | refine DW_VI tabs rfl la ?_ | refine DW_A tabs rfl ?_ | refine DW_nil ?_ | refine W_A rfl ?_)
  refine W_count l.length (fun i f N => N = M ∧ (l.take i).all isNameB = true ∧ f = ⟨[(0, .str s), (8, .sl 1 (l.map AV.str) .none), (9, .int .i64 (l.length : Int)), (10, .int .i64 (i : Int))], []⟩) (Nat.zero_le _) ⟨rfl, by simp, rfl⟩ (Joint.le ?_ (Mem.le_refl _)) ?_
  ·skip
   repeat (refine AF.le_cons rfl ?_)
   exact AF.le_nil rfl
  ·rintro i f N hi ⟨rfl, hpre, rfl⟩
   by_cases h2 : i < l.length
   ·have d1 : decide ((i : Int) < (l.length : Int)) = true := by simp; omega
    have hx : l[i]? = some l[i] := List.getElem?_eq_getElem h2
    have fi := wrap_succ (i := i) (by omega)
    have ht := take_succ hx
    generalize l[i] = e at hx ht
    have he := kl.2 e (List.mem_of_getElem? hx)
    have ke := isName_ok e (by omega)
    cases h3 : isNameB e
    ·have hall : l.all isNameB = false := List.all_eq_false.2 ⟨e, List.mem_of_getElem? hx, by simp [h3]⟩
     rw [h3] at ke
     rw [hall]
     repeat' (first | refine DW_VB tabs rfl d1 ?_ | refine DW_VI tabs rfl (by first | exact la | exact fi) ?_ | refine DW_A tabs rfl ?_ | refine DW_nil ?_ | refine W_A rfl ?_)
     refine DW_ix tabOK rfl (ixN hx) ?_
     repeat' (first | refine DW_VB tabs rfl d1 ?_ | refine DW_VI tabs rfl (by first | exact la | exact fi) ?_ | refine DW_A tabs rfl ?_ | refine DW_nil ?_ | refine W_A rfl ?_)
     refine DW_pure rfl rfl rfl rfl rfl ke ?_
     repeat' (first | refine DW_VI tabs rfl (by first | exact la | exact fi) ?_ | refine DW_A tabs rfl ?_ | refine DW_nil ?_ | refine W_A rfl ?_)
     exact ⟨rfl, _, rfl, rfl, rfl⟩
    ·rw [h3] at ke
     repeat' (first | refine DW_VB tabs rfl d1 ?_ | refine DW_VI tabs rfl (by first | exact la | exact fi) ?_ | refine DW_A tabs rfl ?_ | refine DW_nil ?_ | refine W_A rfl ?_)
     refine DW_ix tabOK rfl (ixN hx) ?_
     repeat' (first | refine DW_VB tabs rfl d1 ?_ | refine DW_VI tabs rfl (by first | exact la | exact fi) ?_ | refine DW_A tabs rfl ?_ | refine DW_nil ?_ | refine W_A rfl ?_)
     refine DW_pure rfl rfl rfl rfl rfl ke ?_
     repeat' (first | refine DW_VI tabs rfl (by first | exact la | exact fi) ?_ | refine DW_A tabs rfl ?_ | refine DW_nil ?_ | refine W_A rfl ?_)
     refine ⟨h2, _, _, ⟨rfl, ?_, rfl⟩, Joint.le ?_ (Mem.le_refl _)⟩
     ·rw [ht, List.all_append, hpre]
      simp [h3]
     ·skip
      repeat (refine AF.le_cons rfl ?_)
      exact AF.le_nil rfl
   ·have d1 : decide ((i : Int) < (l.length : Int)) = false := by simp; omega
    have hl2 : l.take i = l := List.take_of_length_le (by omega)
    rw [hl2] at hpre
    rw [hpre]
    repeat' (first | refine DW_VB tabs rfl d1 ?_ | refine DW_VI tabs rfl la ?_ | refine DW_A tabs rfl ?_ | refine DW_nil ?_ | refine W_A rfl ?_)
    exact ⟨rfl, _, rfl, ret_bool (by rw [Bool.true_and, Bool.false_or]; exact decide_eq_decide.2 (by omega)), rfl⟩
 ·repeat' (first | refine DW_VB tabs rfl h1 ?_ | refine DW_A tabs rfl ?_ | refine DW_nil ?_ | refine W_A rfl ?_)
  exact ⟨rfl, _, rfl, rfl, rfl⟩
end Go.Proofs.YtmgkebghojhocaaGreatDoor
/- The document's parts, names and paths are those of the program. No further condition. -/
set_option linter.unusedVariables false
set_option linter.unusedSimpArgs false
namespace Go.Proofs.YtmgkebghojhocaaGreatDoor
open Go.Ab
theorem splitOn_none (c : UInt8) : ∀ s : Bytes, (∀ b, b ∈ s → b ≠ c) → splitOn c s = [s]
 | [], _ => rfl
 | b :: l, h => by
  unfold splitOn
  rw [if_neg (h b (by simp)), splitOn_none c l (fun x hx => h x (by simp [hx]))]
theorem splitOn_cut (c : UInt8) (r : Bytes) : ∀ s : Bytes, (∀ b, b ∈ s → b ≠ c) → splitOn c (s ++ c :: r) = s :: splitOn c r
 | [], _ => by
  show splitOn c (c :: r) = _
  rw [splitOn, if_pos rfl]
 | b :: l, h => by
  show splitOn c (b :: (l ++ c :: r)) = _
  rw [splitOn, if_neg (h b (by simp)), splitOn_cut c r l (fun x hx => h x (by simp [hx]))]
/-- Where the loop over a text stands: parts told, and from where on. -/
structure AtPart (s : Bytes) (out : List Bytes) (frm i : Nat) : Prop where
 le : frm ≤ i
 len : out.length ≤ frm
 no : ∀ b, b ∈ (s.take i).drop frm → b ≠ 47
 eq : splitOn 47 s = out ++ splitOn 47 (s.drop frm)
theorem AtPart.start (s : Bytes) : AtPart s [] 0 0 := ⟨Nat.le_refl _, Nat.le_refl _, by simp, by simp⟩
theorem drop_split {s : Bytes} {frm i : Nat} {b : UInt8} (h : frm ≤ i) (hb : s[i]? = some b) : s.drop frm = (s.take i).drop frm ++ b :: s.drop (i + 1) := by
 have hi := (List.getElem?_eq_some_iff.1 hb).1
 have h1 : s = s.take i ++ b :: s.drop (i + 1) := by
  have := List.take_append_drop i s
  rw [List.drop_eq_getElem_cons hi, (List.getElem?_eq_some_iff.1 hb).2] at this
  exact this.symm
 calc s.drop frm = (s.take i ++ b :: s.drop (i + 1)).drop frm := by rw [← h1]
  _ = (s.take i).drop frm ++ b :: s.drop (i + 1) := by
   rw [List.drop_append_of_le_length (by simp; omega)]
theorem AtPart.hit {s : Bytes} {out : List Bytes} {frm i : Nat} (h : AtPart s out frm i) (hb : s[i]? = some 47) : AtPart s (out ++ [(s.take i).drop frm]) (i + 1) (i + 1) := by
 refine ⟨Nat.le_refl _, by have := h.len; have := h.le; simp; omega, ?_, ?_⟩
 ·intro b hm
  have : ((s.take (i + 1)).drop (i + 1)) = [] := by simp
  rw [this] at hm
  simp at hm
 ·rw [h.eq, drop_split h.le hb, splitOn_cut 47 _ _ h.no]
  simp
theorem AtPart.miss {s : Bytes} {out : List Bytes} {frm i : Nat} (h : AtPart s out frm i) {b : UInt8} (hb : s[i]? = some b) (hn : b ≠ 47) : AtPart s out frm (i + 1) := by
 have hi := (List.getElem?_eq_some_iff.1 hb).1
 refine ⟨by have := h.le; omega, h.len, ?_, h.eq⟩
 intro x hx
 rw [take_succ hb, List.drop_append_of_le_length (by have := h.le; simp; omega)] at hx
 rcases List.mem_append.1 hx with hx | hx
 ·exact h.no x hx
 ·simp at hx
  exact hx ▸ hn
theorem AtPart.done {s : Bytes} {out : List Bytes} {frm : Nat} (h : AtPart s out frm s.length) : out ++ [s.drop frm] = splitOn 47 s := by
 rw [h.eq, splitOn_none]
 intro b hb
 have := h.no b
 rw [List.take_length] at this
 exact this hb
set_option maxRecDepth 100000 in
theorem parts_ok (s : Bytes) (hs : s.length < 1000000) : APure Tryz.prog 182 [.str s] (.sl 1 ((splitOn 47 s).map .str) .none) := by
 refine pure_sub (closed1 closed_str) closed_strs ?_
 refine acalls_of tabOK Tryz.func182 rfl (by decide) (by simp [Tryz.f182]) ?_
 repeat' (first | refine DW_A tabs rfl ?_ | refine DW_nil ?_ | refine W_A rfl ?_ | refine DW_row tabOK rfl ?_ | refine DW_app tabOK rfl rfl (by simp; omega) (by simp; omega) ?_ | refine DW_app0 tabOK rfl (by simp; omega) (by simp; omega) ?_)
 refine W_count s.length (fun i f N => ∃ (g frm : Nat) (out : List Bytes), AtPart s out frm i ∧ N = tokM g ∧ f = ⟨[(0, .str s), (3, .sl 1 (out.map .str) (.tok 0 g)), (4, .int .i64 (frm : Int)), (5, .int .i64 (i : Int))], []⟩) (Nat.zero_le _) ⟨0, 0, [], AtPart.start s, rfl, rfl⟩
  ((Joint.tok 3 rfl (sz' := 1) (.inr rfl)).trans (Joint.le ?_ (tokM_of rfl rfl))) ?_
 ·skip
  repeat (refine AF.le_cons rfl ?_)
  exact AF.le_nil rfl
 ·rintro i f N hi ⟨g, frm, out, hA, rfl, rfl⟩
  have hfl := hA.le
  have hol := hA.len
  by_cases h1 : i < s.length
  ·have d1 : decide ((i : Int) < (s.length : Int)) = true := by simp; omega
   have hx : s[i]? = some s[i] := List.getElem?_eq_getElem h1
   have fi := wrap_succ (i := i) (by omega)
   generalize s[i] = b at hx
   by_cases hb : b = 47
   ·subst hb
    have d2 : decide (((47 : UInt8).toNat : Int) = 47) = true := rfl
    repeat' (first | refine DW_VB tabs rfl d1 ?_ | refine DW_VI tabs rfl fi ?_ | refine DW_A tabs rfl ?_ | refine DW_nil ?_ | refine W_A rfl ?_ | refine DW_row tabOK rfl ?_ | refine DW_app tabOK rfl rfl (by simp; omega) (by simp; omega) ?_ | refine DW_app0 tabOK rfl (by simp; omega) (by simp; omega) ?_)
    refine DW_byte tabOK rfl rfl rfl rfl rfl rfl rfl rfl (Int.natCast_nonneg _) (c := 47) (by simpa using hx) ?_
    repeat' (first | refine DW_VB tabs rfl d2 ?_ | refine DW_VI tabs rfl fi ?_ | refine DW_A tabs rfl ?_ | refine DW_nil ?_ | refine W_A rfl ?_ | refine DW_row tabOK rfl ?_ | refine DW_app tabOK rfl rfl (by simp; omega) (by simp; omega) ?_ | refine DW_app0 tabOK rfl (by simp; omega) (by simp; omega) ?_)
    refine DW_substr tabOK rfl rfl rfl rfl rfl rfl rfl rfl rfl (Int.natCast_nonneg _) (by omega) (by omega) ?_
    repeat' (first | refine DW_VI tabs rfl fi ?_ | refine DW_A tabs rfl ?_ | refine DW_nil ?_ | refine W_A rfl ?_ | refine DW_row tabOK rfl ?_ | refine DW_app tabOK rfl rfl (by simp; omega) (by simp; omega) ?_ | refine DW_app0 tabOK rfl (by simp; omega) (by simp; omega) ?_)
    refine ⟨h1, _, _, ⟨g + 1, i + 1, _, hA.hit hx, rfl, rfl⟩, Joint.le (AF.le_cons rfl (AF.le_cons ?_ (AF.le_cons rfl (AF.le_cons rfl (AF.le_nil rfl))))) (tokM_of rfl rfl)⟩
    exact sl_app
   ·have d2 : decide ((b.toNat : Int) = 47) = false := by
     simp only [decide_eq_false_iff_not]
     intro h
     apply hb
     apply UInt8.toNat_inj.1
     have : (47 : UInt8).toNat = 47 := rfl
     omega
    repeat' (first | refine DW_VB tabs rfl d1 ?_ | refine DW_VI tabs rfl fi ?_ | refine DW_A tabs rfl ?_ | refine DW_nil ?_ | refine W_A rfl ?_ | refine DW_row tabOK rfl ?_ | refine DW_app tabOK rfl rfl (by simp; omega) (by simp; omega) ?_ | refine DW_app0 tabOK rfl (by simp; omega) (by simp; omega) ?_)
    refine DW_byte tabOK rfl rfl rfl rfl rfl rfl rfl rfl (Int.natCast_nonneg _) (c := b) (by simpa using hx) ?_
    repeat' (first | refine DW_VB tabs rfl d2 ?_ | refine DW_VI tabs rfl fi ?_ | refine DW_A tabs rfl ?_ | refine DW_nil ?_ | refine W_A rfl ?_ | refine DW_row tabOK rfl ?_ | refine DW_app tabOK rfl rfl (by simp; omega) (by simp; omega) ?_ | refine DW_app0 tabOK rfl (by simp; omega) (by simp; omega) ?_)
    refine ⟨h1, _, _, ⟨g, frm, out, hA.miss hx hb, rfl, rfl⟩, Joint.le ?_ (tokM_of rfl rfl)⟩
    repeat (refine AF.le_cons rfl ?_)
    exact AF.le_nil rfl
  ·have d1 : decide ((i : Int) < (s.length : Int)) = false := by simp; omega
   obtain rfl : i = s.length := by omega
   repeat' (first | refine DW_VB tabs rfl d1 ?_ | refine DW_A tabs rfl ?_ | refine DW_nil ?_ | refine W_A rfl ?_ | refine DW_row tabOK rfl ?_ | refine DW_app tabOK rfl rfl (by simp; omega) (by simp; omega) ?_ | refine DW_app0 tabOK rfl (by simp; omega) (by simp; omega) ?_)
   refine DW_substr tabOK rfl rfl rfl rfl rfl rfl rfl rfl rfl (Int.natCast_nonneg _) (by omega) (by omega) ?_
   repeat' (first | refine DW_A tabs rfl ?_ | refine DW_nil ?_ | refine W_A rfl ?_ | refine DW_row tabOK rfl ?_ | refine DW_app tabOK rfl rfl (by simp; omega) (by simp; omega) ?_ | refine DW_app0 tabOK rfl (by simp; omega) (by simp; omega) ?_)
   refine ⟨rfl, _, rfl, _, rfl, ?_⟩
   have hd := hA.done
   have e : (out.map AV.str) ++ [.str ((s.take ((s.length : Int)).toNat).drop ((frm : Int)).toNat)] = (splitOn 47 s).map .str := by
    rw [← hd]
    simp
   rw [← e]
   exact SubC.untag (by rw [e]; exact closed_strs)
end Go.Proofs.YtmgkebghojhocaaGreatDoor
/- The document's names and paths are those of the program. No further condition. -/
set_option linter.unusedVariables false
set_option linter.unusedSimpArgs false
namespace Go.Proofs.YtmgkebghojhocaaGreatDoor
open Go.Ab
def badB (b : UInt8) : Bool := b == 47 || b == 0
theorem isNameB_eq (s : Bytes) (h : s.any badB = false) : isNameB s = (decide (1 ≤ (s.length : Int)) && decide ((s.length : Int) ≤ 30) && !(s == [46]) && !(s == [46, 46])) := by
 unfold isNameB
 have h' : (s.any fun b => b == 47 || b == 0) = false := h
 rw [h']
 have e1 : (!(s == [])) = decide (1 ≤ (s.length : Int)) := by
  cases s with
  | nil => rfl
  | cons b l => simp; omega
 have e2 : decide (s.length ≤ 30) = decide ((s.length : Int) ≤ 30) := decide_eq_decide.2 (by omega)
 rw [e1, e2]
 simp
set_option maxRecDepth 100000 in
theorem refName_ok (s : Bytes) (hs : s.length < 1000000) : APure Tryz.prog 183 [.str s] (.bool (isNameB s)) := by
 intro M
 refine acalls_of tabOK Tryz.func183 rfl (by decide) (by simp [Tryz.f183]) ?_
 repeat' (first | refine DW_A tabs rfl ?_ | refine DW_nil ?_ | refine W_A rfl ?_)
 refine W_count s.length (fun i f N => N = M ∧ (s.take i).any badB = false ∧ f = ⟨[(0, .str s), (3, .int .i64 (i : Int))], []⟩) (Nat.zero_le _) ⟨rfl, by simp, rfl⟩ (Joint.le ?_ (Mem.le_refl _)) ?_
 ·skip
  repeat (refine AF.le_cons rfl ?_)
  exact AF.le_nil rfl
 ·rintro i f N hi ⟨rfl, hpre, rfl⟩
  by_cases h1 : i < s.length
  ·have d1 : decide ((i : Int) < (s.length : Int)) = true := by simp; omega
   have hx : s[i]? = some s[i] := List.getElem?_eq_getElem h1
   have fi := wrap_succ (i := i) (by omega)
   have ht := take_succ hx
   generalize s[i] = b at hx ht
   have hbad : ∀ {c : UInt8}, b = c → badB c = true → isNameB s = false := by
    rintro c rfl hc
    have h : (s.any fun b => b == 47 || b == 0) = true := List.any_eq_true.2 ⟨b, List.mem_of_getElem? hx, hc⟩
    unfold isNameB
    rw [h]
    simp
   by_cases h2 : b = 47
   ·have d2 : decide ((b.toNat : Int) = 47) = true := by subst h2; rfl
    rw [hbad h2 rfl]
    repeat' (first | refine DW_VB tabs rfl d1 ?_ | refine DW_VI tabs rfl fi ?_ | refine DW_A tabs rfl ?_ | refine DW_nil ?_ | refine W_A rfl ?_)
    refine DW_byte tabOK rfl rfl rfl rfl rfl rfl rfl rfl (Int.natCast_nonneg _) (c := b) (by simpa using hx) ?_
    repeat' (first | refine DW_VB tabs rfl d2 ?_ | refine DW_VI tabs rfl fi ?_ | refine DW_A tabs rfl ?_ | refine DW_nil ?_ | refine W_A rfl ?_)
    exact ⟨rfl, _, rfl, rfl, rfl⟩
   ·have d2 : decide ((b.toNat : Int) = 47) = false := by
     simp only [decide_eq_false_iff_not]
     intro h
     apply h2
     apply UInt8.toNat_inj.1
     have : (47 : UInt8).toNat = 47 := rfl
     omega
    by_cases h3 : b = 0
    ·have d3 : decide ((b.toNat : Int) = 0) = true := by subst h3; rfl
     rw [hbad h3 rfl]
     repeat' (first | refine DW_VB tabs rfl d1 ?_ | refine DW_VI tabs rfl fi ?_ | refine DW_A tabs rfl ?_ | refine DW_nil ?_ | refine W_A rfl ?_)
     refine DW_byte tabOK rfl rfl rfl rfl rfl rfl rfl rfl (Int.natCast_nonneg _) (c := b) (by simpa using hx) ?_
     repeat' (first | refine DW_VB tabs rfl d2 ?_ | refine DW_VI tabs rfl fi ?_ | refine DW_A tabs rfl ?_ | refine DW_nil ?_ | refine W_A rfl ?_)
     refine DW_byte tabOK rfl rfl rfl rfl rfl rfl rfl rfl (Int.natCast_nonneg _) (c := b) (by simpa using hx) ?_
     repeat' (first | refine DW_VB tabs rfl d3 ?_ | refine DW_VI tabs rfl fi ?_ | refine DW_A tabs rfl ?_ | refine DW_nil ?_ | refine W_A rfl ?_)
     exact ⟨rfl, _, rfl, rfl, rfl⟩
    ·have d3 : decide ((b.toNat : Int) = 0) = false := by
      simp only [decide_eq_false_iff_not]
      intro h
      apply h3
      apply UInt8.toNat_inj.1
      have : (0 : UInt8).toNat = 0 := rfl
      omega
     repeat' (first | refine DW_VB tabs rfl d1 ?_ | refine DW_VI tabs rfl fi ?_ | refine DW_A tabs rfl ?_ | refine DW_nil ?_ | refine W_A rfl ?_)
     refine DW_byte tabOK rfl rfl rfl rfl rfl rfl rfl rfl (Int.natCast_nonneg _) (c := b) (by simpa using hx) ?_
     repeat' (first | refine DW_VB tabs rfl d2 ?_ | refine DW_VI tabs rfl fi ?_ | refine DW_A tabs rfl ?_ | refine DW_nil ?_ | refine W_A rfl ?_)
     refine DW_byte tabOK rfl rfl rfl rfl rfl rfl rfl rfl (Int.natCast_nonneg _) (c := b) (by simpa using hx) ?_
     repeat' (first | refine DW_VB tabs rfl d3 ?_ | refine DW_VI tabs rfl fi ?_ | refine DW_A tabs rfl ?_ | refine DW_nil ?_ | refine W_A rfl ?_)
     refine ⟨h1, _, _, ⟨rfl, ?_, rfl⟩, Joint.le ?_ (Mem.le_refl _)⟩
     ·rw [ht, List.any_append, hpre]
      simp [badB, h2, h3]
     ·skip
      repeat (refine AF.le_cons rfl ?_)
      exact AF.le_nil rfl
  ·have d1 : decide ((i : Int) < (s.length : Int)) = false := by simp; omega
   have hl2 : s.take i = s := List.take_of_length_le (by omega)
   rw [hl2] at hpre
   rw [isNameB_eq s hpre]
   cases g1 : decide (1 ≤ (s.length : Int))
   ·repeat' (first | refine DW_VB tabs rfl (by first | exact d1 | exact g1) ?_ | refine DW_A tabs rfl ?_ | refine DW_nil ?_ | refine W_A rfl ?_)
    exact ⟨rfl, _, rfl, rfl, rfl⟩
   ·cases g2 : decide ((s.length : Int) ≤ 30)
    ·repeat' (first | refine DW_VB tabs rfl (by first | exact d1 | exact g1 | exact g2) ?_ | refine DW_A tabs rfl ?_ | refine DW_nil ?_ | refine W_A rfl ?_)
     exact ⟨rfl, _, rfl, rfl, rfl⟩
    ·cases g3 : !(s == [46])
     ·repeat' (first | refine DW_VB tabs rfl (by first | exact d1 | exact g1 | exact g2 | exact g3) ?_ | refine DW_A tabs rfl ?_ | refine DW_nil ?_ | refine W_A rfl ?_)
      exact ⟨rfl, _, rfl, rfl, rfl⟩
     ·repeat' (first | refine DW_VB tabs rfl (by first | exact d1 | exact g1 | exact g2 | exact g3) ?_ | refine DW_A tabs rfl ?_ | refine DW_nil ?_ | refine W_A rfl ?_)
      exact ⟨rfl, _, rfl, rfl, rfl⟩
def namesB (s : Bytes) : List Bytes × Bool := if s = [] then ([], true) else if (splitOn 47 s).all isNameB = true then (splitOn 47 s, decide (s.length ≤ 100)) else ([], false)
theorem namesB_is (s : Bytes) : (namesB s).2 = isPathB s := by
 unfold namesB isPathB
 by_cases h : s = []
 ·simp [h]
 ·rw [if_neg h]
  cases h2 : (splitOn 47 s).all isNameB
  ·simp [h]
  ·simp [h]
def namesA (l : List Bytes × Bool) : AV := .tup [.sl 1 (l.1.map .str) .none, .bool l.2]
theorem closed_names (l : List Bytes × Bool) : Closed (namesA l) := closed_tup (closed2 closed_strs closed_bool)
set_option maxRecDepth 100000 in
theorem names_ok (s : Bytes) (hs : s.length < 1000000) : APure Tryz.prog 171 [.str s] (namesA (namesB s)) := by
 refine pure_sub (closed1 closed_str) (closed_names _) ?_
 refine acalls_of tabOK Tryz.func171 rfl (by decide) (by simp [Tryz.f171]) ?_
 have k := parts_ok s hs
 have kl := splitOn_len 47 s
 unfold namesB
 by_cases h1 : s = []
 ·have d0 : (s == []) = true := by simp [h1]
  rw [if_pos h1]
  repeat' (first | refine DW_VB tabs rfl d0 ?_ | refine DW_A tabs rfl ?_ | refine DW_nil ?_ | refine W_A rfl ?_)
  exact ⟨rfl, _, rfl, _, rfl, SubC.tup2 SubC.nil (SubC.of_closed closed_bool)⟩
 ·have d0 : (s == []) = false := by simp [h1]
  rw [if_neg h1]
  generalize splitOn 47 s = l at k kl
  have la : ((l.map AV.str).length : Int) = (l.length : Int) := by simp
  repeat' (first | refine DW_VB tabs rfl d0 ?_ | refine DW_A tabs rfl ?_ | refine DW_nil ?_ | refine W_A rfl ?_)
  refine DW_pure rfl rfl rfl rfl rfl k ?_
  repeat' (first | refine DW_VI tabs rfl la ?_ | refine DW_A tabs rfl ?_ | refine DW_nil ?_ | refine W_A rfl ?_)
  refine W_count l.length (fun i f N => N = ⟨0, []⟩ ∧ (l.take i).all isNameB = true ∧ f = ⟨[(0, .str s), (4, .sl 1 (l.map AV.str) .none), (5, .int .i64 (i : Int))], []⟩) (Nat.zero_le _) ⟨rfl, by simp, rfl⟩ (Joint.le ?_ (Mem.le_refl _)) ?_
  ·skip
   repeat (refine AF.le_cons rfl ?_)
   exact AF.le_nil rfl
  ·rintro i f N hi ⟨rfl, hpre, rfl⟩
   by_cases h2 : i < l.length
   ·have d1 : decide ((i : Int) < (l.length : Int)) = true := by simp; omega
    have hx : l[i]? = some l[i] := List.getElem?_eq_getElem h2
    have fi := wrap_succ (i := i) (by omega)
    have ht := take_succ hx
    generalize l[i] = e at hx ht
    have he := kl.2 e (List.mem_of_getElem? hx)
    have ke := refName_ok e (by omega)
    cases h3 : isNameB e
    ·have hall : ¬ l.all isNameB = true := by
      rw [List.all_eq_true]
      intro h
      rw [h e (List.mem_of_getElem? hx)] at h3
      cases h3
     rw [h3] at ke
     rw [if_neg hall]
     repeat' (first | refine DW_VB tabs rfl d1 ?_ | refine DW_VI tabs rfl (by first | exact la | exact fi) ?_ | refine DW_A tabs rfl ?_ | refine DW_nil ?_ | refine W_A rfl ?_)
     refine DW_ix tabOK rfl (ixN hx) ?_
     repeat' (first | refine DW_VB tabs rfl d1 ?_ | refine DW_VI tabs rfl (by first | exact la | exact fi) ?_ | refine DW_A tabs rfl ?_ | refine DW_nil ?_ | refine W_A rfl ?_)
     refine DW_pure rfl rfl rfl rfl rfl ke ?_
     repeat' (first | refine DW_VI tabs rfl (by first | exact la | exact fi) ?_ | refine DW_A tabs rfl ?_ | refine DW_nil ?_ | refine W_A rfl ?_)
     exact ⟨rfl, _, rfl, _, rfl, SubC.tup2 SubC.nil (SubC.of_closed closed_bool)⟩
    ·rw [h3] at ke
     repeat' (first | refine DW_VB tabs rfl d1 ?_ | refine DW_VI tabs rfl (by first | exact la | exact fi) ?_ | refine DW_A tabs rfl ?_ | refine DW_nil ?_ | refine W_A rfl ?_)
     refine DW_ix tabOK rfl (ixN hx) ?_
     repeat' (first | refine DW_VB tabs rfl d1 ?_ | refine DW_VI tabs rfl (by first | exact la | exact fi) ?_ | refine DW_A tabs rfl ?_ | refine DW_nil ?_ | refine W_A rfl ?_)
     refine DW_pure rfl rfl rfl rfl rfl ke ?_
     repeat' (first | refine DW_VI tabs rfl (by first | exact la | exact fi) ?_ | refine DW_A tabs rfl ?_ | refine DW_nil ?_ | refine W_A rfl ?_)
     refine ⟨h2, _, _, ⟨rfl, ?_, rfl⟩, Joint.le ?_ (Mem.le_refl _)⟩
     ·rw [ht, List.all_append, hpre]
      simp [h3]
     ·skip
      repeat (refine AF.le_cons rfl ?_)
      exact AF.le_nil rfl
   ·have d1 : decide ((i : Int) < (l.length : Int)) = false := by simp; omega
    have hl2 : l.take i = l := List.take_of_length_le (by omega)
    rw [hl2] at hpre
    rw [if_pos hpre]
    repeat' (first | refine DW_VB tabs rfl d1 ?_ | refine DW_VI tabs rfl la ?_ | refine DW_A tabs rfl ?_ | refine DW_nil ?_ | refine W_A rfl ?_)
    refine ⟨rfl, _, rfl, _, rfl, SubC.tup2 (SubC.of_closed closed_strs) ?_⟩
    rw [show decide (s.length ≤ 100) = decide ((s.length : Int) ≤ 100) from decide_eq_decide.2 (by omega)]
    exact SubC.of_closed closed_bool
set_option maxRecDepth 100000 in
theorem refIs_ok (s : Bytes) (hs : s.length < 1000000) : APure Tryz.prog 148 [.str s] (.bool (isPathB s)) := by
 intro M
 refine acalls_of tabOK Tryz.func148 rfl (by decide) (by simp [Tryz.f148]) ?_
 rw [← namesB_is]
 have k := names_ok s hs
 repeat' (first | refine DW_A tabs rfl ?_ | refine DW_nil ?_ | refine W_A rfl ?_)
 refine DW_pure rfl rfl rfl rfl rfl k ?_
 repeat' (first | refine DW_A tabs rfl ?_ | refine DW_nil ?_ | refine W_A rfl ?_)
 exact ⟨rfl, _, rfl, rfl, rfl⟩
end Go.Proofs.YtmgkebghojhocaaGreatDoor
/- Which keys may be; the first key of a path. No further condition. -/
set_option linter.unusedVariables false
set_option linter.unusedSimpArgs false
namespace Go.Proofs.YtmgkebghojhocaaGreatDoor
open Go.Ab
def isKeyB (k : Ky) : Bool := isPathB k.path && decide (0 ≤ k.time) && decide (k.time ≤ 1000000000)
set_option maxRecDepth 100000 in
set_option maxHeartbeats 8000000 in
theorem isKey_ok (k : Ky) (hs : k.path.length < 1000000) : APure Tryz.prog 115 [k.av] (.bool (isKeyB k)) := by
 intro M
 refine acalls_of tabOK Tryz.func115 rfl (by decide) (by simp [Tryz.f115]) ?_
 have kp := isPath_ok k.path (by omega)
 unfold isKeyB
 cases h1 : isPathB k.path
 ·rw [h1] at kp
  repeat' (first | refine DW_A tabs rfl ?_ | refine DW_nil ?_ | refine W_A rfl ?_ | refine DW_C rfl kp ?_)
  exact ⟨rfl, _, rfl, rfl, rfl⟩
 ·rw [h1] at kp
  cases h2 : decide (0 ≤ k.time)
  ·repeat' (first | refine DW_VB tabs rfl h2 ?_ | refine DW_A tabs rfl ?_ | refine DW_nil ?_ | refine W_A rfl ?_ | refine DW_C rfl kp ?_)
   exact ⟨rfl, _, rfl, rfl, rfl⟩
  ·repeat' (first | refine DW_VB tabs rfl h2 ?_ | refine DW_A tabs rfl ?_ | refine DW_nil ?_ | refine W_A rfl ?_ | refine DW_C rfl kp ?_)
   exact ⟨rfl, _, rfl, rfl, rfl⟩
set_option maxRecDepth 100000 in
set_option maxHeartbeats 8000000 in
theorem rIsKey_ok (k : Ky) (hs : k.path.length < 1000000) : APure Tryz.prog 117 [k.av] (.bool (isKeyB k)) := by
 intro M
 refine acalls_of tabOK Tryz.func117 rfl (by decide) (by simp [Tryz.f117]) ?_
 have kp := refIs_ok k.path hs
 unfold isKeyB
 cases h1 : isPathB k.path
 ·rw [h1] at kp
  repeat' (first | refine DW_A tabs rfl ?_ | refine DW_nil ?_ | refine W_A rfl ?_ | refine DW_C rfl kp ?_)
  exact ⟨rfl, _, rfl, rfl, rfl⟩
 ·rw [h1] at kp
  cases h2 : decide (0 ≤ k.time)
  ·repeat' (first | refine DW_VB tabs rfl h2 ?_ | refine DW_A tabs rfl ?_ | refine DW_nil ?_ | refine W_A rfl ?_ | refine DW_C rfl kp ?_)
   exact ⟨rfl, _, rfl, rfl, rfl⟩
  ·repeat' (first | refine DW_VB tabs rfl h2 ?_ | refine DW_A tabs rfl ?_ | refine DW_nil ?_ | refine W_A rfl ?_ | refine DW_C rfl kp ?_)
   exact ⟨rfl, _, rfl, rfl, rfl⟩
def zeroK : Ky := ⟨[], 0⟩
def getA (x : Ky × Int) : AV := .tup [x.1.av, .int .i64 x.2]
theorem closed_get (x : Ky × Int) : Closed (getA x) := closed_tup (closed2 (closed_agg (closed2 closed_str closed_int)) closed_int)
end Go.Proofs.YtmgkebghojhocaaGreatDoor
/- The store's pairs read: read, must, caught. No further condition. -/
set_option linter.unusedVariables false
set_option linter.unusedSimpArgs false
namespace Go.Proofs.YtmgkebghojhocaaGreatDoor
open Go.Ab
structure Vr where
 key : Ky
 meta_ : Mt
 gone : Bool
def Vr.cells (v : Vr) : List AV := [.str v.key.path, .int .i64 v.key.time, .int .i64 v.meta_.size, .int .i64 v.meta_.mode, iA v.meta_.ch .none, .bool v.gone]
def Vr.av (v : Vr) : AV := .agg v.cells
theorem closed_vrc (v : Vr) : ∀ x, x ∈ v.cells → Closed x := by
 intro x hx
 simp [Vr.cells] at hx
 rcases hx with rfl | rfl | rfl | rfl | rfl | rfl
 ·exact closed_str
 ·exact closed_int
 ·exact closed_int
 ·exact closed_int
 ·exact closed_iA _ (.inl rfl)
 ·exact closed_bool
theorem closed_vr (v : Vr) : Closed v.av := closed_agg (closed_vrc v)
/-- May a pair be a version? -/
def okP (p : Pr) : Bool := decide ((readM p.val).2.2 = 0) && isKeyB p.key && !(p.key.path == [])
def verP (p : Pr) : Vr := ⟨p.key, (readM p.val).1, (readM p.val).2.1⟩
def isSt (l : List Pr) : Bool := l.all okP
set_option maxRecDepth 100000 in
theorem must0_ok : APure Tryz.prog 109 [.int .i64 0] (.tup []) := by
 intro M
 refine acalls_of tabOK Tryz.func109 rfl (by decide) (by simp [Tryz.f109]) ?_
 repeat' (first | refine DW_A tabs rfl ?_ | refine DW_nil ?_ | refine W_A rfl ?_)
 exact ⟨rfl, _, rfl, rfl, rfl⟩
set_option maxRecDepth 100000 in
set_option maxHeartbeats 8000000 in
theorem read_yes (p : Pr) (hk : p.key.path.length < 1000000) (hv : p.val.length < 1000000) (h : okP p = true) : APure Tryz.prog 135 [p.av] (verP p).av := by
 refine pure_sub (closed1 (closed_pr p)) (closed_vr _) ?_
 refine acalls_of tabOK Tryz.func135 rfl (by decide) (by simp [Tryz.f135]) ?_
 have kr := read_ok p.val hv
 have kk := isKey_ok p.key hk
 unfold okP at h
 unfold verP
 generalize readM p.val = x at h kr
 obtain ⟨m, g, e⟩ := x
 simp at h
 obtain ⟨⟨he, h2⟩, h3⟩ := h
 subst he
 rw [h2] at kk
 have d3 : (p.key.path == []) = false := by simp [h3]
 repeat' (first | refine DW_VB tabs rfl d3 ?_ | refine DW_box 2 tabOK rfl ?_ | refine DW_box 3 tabOK rfl ?_ | refine DW_A tabs rfl ?_ | refine DW_nil ?_ | refine W_A rfl ?_ | refine DW_C rfl kr ?_ | refine DW_C rfl kk ?_)
 exact ⟨rfl, _, rfl, _, rfl, SubC.of_closed (closed_vr ⟨p.key, m, g⟩)⟩
set_option maxRecDepth 100000 in
set_option maxHeartbeats 8000000 in
theorem read_no (p : Pr) (hk : p.key.path.length < 1000000) (hv : p.val.length < 1000000) (h : okP p = false) : AThr Tryz.prog 135 [p.av] (.pan (errA 1)) := by
 refine thr_sub (closed1 (closed_pr p)) (closed_err 1) ?_
 refine acalls_of tabOK Tryz.func135 rfl (by decide) (by simp [Tryz.f135]) ?_
 have kr := read_ok p.val hv
 have kk := isKey_ok p.key hk
 unfold okP at h
 generalize readM p.val = x at h kr
 obtain ⟨m, g, e⟩ := x
 by_cases he : e = 0
 ·subst he
  cases h2 : isKeyB p.key
  ·rw [h2] at kk
   repeat' (first | refine DW_box 2 tabOK rfl ?_ | refine DW_box 3 tabOK rfl ?_ | refine DW_A tabs rfl ?_ | refine DW_nil ?_ | refine W_A rfl ?_ | refine DW_C rfl kr ?_ | refine DW_C rfl kk ?_)
   refine DW_panic rfl rfl rfl rfl rfl ?_
   exact ⟨rfl, SubC.of_closed (closed_err 1)⟩
  ·rw [h2] at kk h
   simp at h
   have d3 : (p.key.path == []) = true := by simp [h]
   repeat' (first | refine DW_VB tabs rfl d3 ?_ | refine DW_box 2 tabOK rfl ?_ | refine DW_box 3 tabOK rfl ?_ | refine DW_A tabs rfl ?_ | refine DW_nil ?_ | refine W_A rfl ?_ | refine DW_C rfl kr ?_ | refine DW_C rfl kk ?_)
   refine DW_panic rfl rfl rfl rfl rfl ?_
   exact ⟨rfl, SubC.of_closed (closed_err 1)⟩
 ·have d1 : (!decide (e = 0)) = true := by simp [he]
  repeat' (first | refine DW_VB tabs rfl d1 ?_ | refine DW_box 2 tabOK rfl ?_ | refine DW_box 3 tabOK rfl ?_ | refine DW_A tabs rfl ?_ | refine DW_nil ?_ | refine W_A rfl ?_ | refine DW_C rfl kr ?_ | refine DW_C rfl kk ?_)
  refine DW_panic rfl rfl rfl rfl rfl ?_
  exact ⟨rfl, SubC.of_closed (closed_err 1)⟩
def cm0 (nx : Nat) (n : Int) : Mem := ⟨nx, [(0, .cells [.int .i64 n])]⟩
def cm1 (nx : Nat) (o : AObj) (n : Int) : Mem := ⟨nx, [(0, o), (1, .cells [.int .i64 n])]⟩
set_option maxRecDepth 100000 in
theorem catch0 (nx : Nat) (n e : Int) : ACallsD Tryz.prog 94 [.ptr 0 0] (.pan (errA e)) (cm0 nx n) (fun m' M' => m' = .ret ∧ M'.next = nx ∧ M'.get 0 = some (.cells [.int .i64 e])) := by
 refine acallsD_recover tabOK Tryz.func94 rfl (by decide) rfl rfl rfl rfl rfl (by simp [Tryz.f94]) ?_
 refine DW_assert tabOK rfl rfl rfl rfl rfl ?_
 repeat' (first | refine DW_box 2 tabOK rfl ?_ | refine DW_box 3 tabOK rfl ?_ | refine DW_A tabs rfl ?_ | refine DW_nil ?_ | refine W_A rfl ?_)
 exact ⟨rfl, ⟨_, rfl⟩, rfl, rfl⟩
set_option maxRecDepth 100000 in
theorem pass0 (nx : Nat) (n : Int) : ACallsD Tryz.prog 94 [.ptr 0 0] .ret (cm0 nx n) (fun m' M' => m' = .ret ∧ M'.next = nx ∧ M'.get 0 = some (.cells [.int .i64 n])) := by
 refine acallsD_recover tabOK Tryz.func94 rfl (by decide) rfl rfl rfl rfl rfl (by simp [Tryz.f94]) ?_
 refine DW_assert tabOK rfl rfl rfl rfl rfl ?_
 repeat' (first | refine DW_box 2 tabOK rfl ?_ | refine DW_box 3 tabOK rfl ?_ | refine DW_A tabs rfl ?_ | refine DW_nil ?_ | refine W_A rfl ?_)
 exact ⟨rfl, ⟨_, rfl⟩, rfl, rfl⟩
set_option maxRecDepth 100000 in
theorem catch1 (nx : Nat) (o : AObj) (n e : Int) : ACallsD Tryz.prog 94 [.ptr 1 0] (.pan (errA e)) (cm1 nx o n) (fun m' M' => m' = .ret ∧ M'.next = nx ∧ M'.get 0 = some o ∧ M'.get 1 = some (.cells [.int .i64 e])) := by
 refine acallsD_recover tabOK Tryz.func94 rfl (by decide) rfl rfl rfl rfl rfl (by simp [Tryz.f94]) ?_
 refine DW_assert tabOK rfl rfl rfl rfl rfl ?_
 repeat' (first | refine DW_box 2 tabOK rfl ?_ | refine DW_box 3 tabOK rfl ?_ | refine DW_A tabs rfl ?_ | refine DW_nil ?_ | refine W_A rfl ?_)
 exact ⟨rfl, ⟨_, rfl⟩, rfl, rfl, rfl⟩
set_option maxRecDepth 100000 in
theorem pass1 (nx : Nat) (o : AObj) (n : Int) : ACallsD Tryz.prog 94 [.ptr 1 0] .ret (cm1 nx o n) (fun m' M' => m' = .ret ∧ M'.next = nx ∧ M'.get 0 = some o ∧ M'.get 1 = some (.cells [.int .i64 n])) := by
 refine acallsD_recover tabOK Tryz.func94 rfl (by decide) rfl rfl rfl rfl rfl (by simp [Tryz.f94]) ?_
 refine DW_assert tabOK rfl rfl rfl rfl rfl ?_
 repeat' (first | refine DW_box 2 tabOK rfl ?_ | refine DW_box 3 tabOK rfl ?_ | refine DW_A tabs rfl ?_ | refine DW_nil ?_ | refine W_A rfl ?_)
 exact ⟨rfl, ⟨_, rfl⟩, rfl, rfl, rfl⟩
end Go.Proofs.YtmgkebghojhocaaGreatDoor
/- path.Under tells what its text says. No further condition. -/
set_option linter.unusedVariables false
set_option linter.unusedSimpArgs false
namespace Go.Proofs.YtmgkebghojhocaaGreatDoor
open Go.Ab
def underB (d s : Bytes) : Bool := isPathB d && isPathB s && (d == [] || d == s || hasPre s (d ++ [47]))
set_option maxRecDepth 100000 in
theorem under_ok (d s : Bytes) (hd : d.length < 1000000) (hs : s.length < 1000000) : APure Tryz.prog 168 [.str d, .str s] (.bool (underB d s)) := by
 intro M
 refine acalls_of tabOK Tryz.func168 rfl (by decide) (by simp [Tryz.f168]) ?_
 have k1 := isPath_ok d (by omega)
 have k2 := isPath_ok s (by omega)
 have k3 := hasPrefix_ok s (d ++ [47])
 unfold underB
 cases h1 : isPathB d
 ·rw [h1] at k1
  repeat' (first | refine DW_A tabs rfl ?_ | refine DW_nil ?_ | refine W_A rfl ?_ | refine DW_C rfl k1 ?_)
  exact ⟨rfl, _, rfl, rfl, rfl⟩
 ·rw [h1] at k1
  cases h2 : isPathB s
  ·rw [h2] at k2
   repeat' (first | refine DW_A tabs rfl ?_ | refine DW_nil ?_ | refine W_A rfl ?_ | refine DW_C rfl k1 ?_ | refine DW_C rfl k2 ?_)
   exact ⟨rfl, _, rfl, rfl, rfl⟩
  ·rw [h2] at k2
   cases h3 : d == []
   ·cases h4 : d == s
    ·repeat' (first | refine DW_VB tabs rfl (by first | exact h3 | exact h4) ?_ | refine DW_A tabs rfl ?_ | refine DW_nil ?_ | refine W_A rfl ?_ | refine DW_C rfl k1 ?_ | refine DW_C rfl k2 ?_)
     refine DW_concat rfl rfl rfl rfl rfl rfl (by simp; omega) ?_
     repeat' (first | refine DW_VB tabs rfl (by first | exact h3 | exact h4) ?_ | refine DW_A tabs rfl ?_ | refine DW_nil ?_ | refine W_A rfl ?_ | refine DW_C rfl k3 ?_)
     exact ⟨rfl, _, rfl, ret_bool (by simp), rfl⟩
    ·repeat' (first | refine DW_VB tabs rfl (by first | exact h3 | exact h4) ?_ | refine DW_A tabs rfl ?_ | refine DW_nil ?_ | refine W_A rfl ?_ | refine DW_C rfl k1 ?_ | refine DW_C rfl k2 ?_)
     exact ⟨rfl, _, rfl, rfl, rfl⟩
   ·repeat' (first | refine DW_VB tabs rfl h3 ?_ | refine DW_A tabs rfl ?_ | refine DW_nil ?_ | refine W_A rfl ?_ | refine DW_C rfl k1 ?_ | refine DW_C rfl k2 ?_)
    exact ⟨rfl, _, rfl, rfl, rfl⟩
end Go.Proofs.YtmgkebghojhocaaGreatDoor
/- path.Under and the document's Under are one; what is under what. No further condition. -/
set_option linter.unusedVariables false
set_option linter.unusedSimpArgs false
namespace Go.Proofs.YtmgkebghojhocaaGreatDoor
open Go.Ab
/- The document's joins, parents, last names and depths tell what their texts say. No further condition. -/
/- What paths are, in plain words: parts, glue, Norm. No further condition. -/
end Go.Proofs.YtmgkebghojhocaaGreatDoor
