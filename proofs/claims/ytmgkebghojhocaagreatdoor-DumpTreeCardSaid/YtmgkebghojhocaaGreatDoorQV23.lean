/- Parts of the proof, one behind the other: RStA, SLaw, MetaR, CurC, StoP. No further condition. -/
import Derived.Test.YtmgkebghojhocaaGreatDoorQV22
import Derived.Test.YtmgkebghojhocaaGreatDoorQV16
import Derived.Test.YtmgkebghojhocaaGreatDoorQV21
set_option linter.unusedVariables false
set_option linter.unusedSimpArgs false
/- Rows of the document's statements: which are more than are looked at, entries that are the same. No further condition. -/
set_option linter.unusedVariables false
set_option linter.unusedSimpArgs false
namespace Go.Proofs.YtmgkebghojhocaaGreatDoor
open Go.Ab
structure Ld where
 at_ : Int
 batch : List Ch
def Ld.av (x : Ld) : AV := .agg [.int .i64 x.at_, chA x.batch .none]
end Go.Proofs.YtmgkebghojhocaaGreatDoor
/- Batches laid one behind the other. No further condition. -/
set_option linter.unusedVariables false
set_option linter.unusedSimpArgs false
namespace Go.Proofs.YtmgkebghojhocaaGreatDoor
open Go.Ab
/-- What is laid in small batches stays small. -/
def okS (t : Tr) (n : Nat) : Prop := t.all.length ≤ n ∧ ∀ p, p ∈ t.all → p.key.path.length ≤ 200 ∧ p.val.length < 1000
theorem okS.vals {t : Tr} {n : Nat} (h : okS t n) : valsB t.all := fun p hp => by have := h.2 p hp; omega
end Go.Proofs.YtmgkebghojhocaaGreatDoor
/- What is put of metadata is got. No further condition. -/
set_option linter.unusedVariables false
set_option linter.unusedSimpArgs false
namespace Go.Proofs.YtmgkebghojhocaaGreatDoor
open Go.Ab
theorem byteAt_nat (n j : Nat) : (byteAt n j).toNat = n / 256 ^ j % 256 := by
 unfold byteAt
 rw [UInt8.toNat_ofNat']
 omega
theorem num_be4 {n : Nat} (h : n < 4294967296) : num (be4 n) = n := by
 unfold num be4
 simp only [List.foldl_cons, List.foldl_nil, byteAt_nat]
 have e0 : n / 256 ^ 0 = n := by simp
 have e1 : n / 256 ^ 1 = n / 256 := by simp
 have e2 : n / 256 ^ 2 = n / 65536 := rfl
 have e3 : n / 256 ^ 3 = n / 16777216 := rfl
 rw [e0, e1, e2, e3]
 omega
theorem num_drop : ∀ l : Bytes, num (l.dropWhile (· == 0)) = num l
 | [] => rfl
 | b :: r => by
  rw [List.dropWhile_cons]
  by_cases h : (b == 0) = true
  ·rw [if_pos h, num_drop r]
   have : b = 0 := by simpa using h
   subst this
   rfl
  ·rw [if_neg h]
theorem num_nb {n : Nat} (h : n < 4294967296) : num (nb n) = n := by
 unfold nb nbI
 rw [num_drop, show (be4 n).take 4 = be4 n from rfl, num_be4 h]
theorem drop_head : ∀ l : Bytes, (l.dropWhile (· == 0)).head? ≠ some 0
 | [] => by simp
 | b :: r => by
  rw [List.dropWhile_cons]
  by_cases h : (b == 0) = true
  ·rw [if_pos h]
   exact drop_head r
  ·rw [if_neg h]
   simp at h
   simp [h]
theorem getNum_put {n : Nat} (h : n < 4294967296) (r : Bytes) : getNum (putN n ++ r) = some (n, r) := by
 have hl : (nb n).length ≤ 4 := nbI_len n 4
 have hc : (UInt8.ofNat (nb n).length).toNat = (nb n).length := by
  rw [UInt8.toNat_ofNat']
  omega
 unfold putN
 rw [List.cons_append, getNum_some]
 ·rw [hc, List.take_left, List.drop_left, num_nb h]
 ·rw [hc, List.take_left]
  rintro (h1 | h1 | h1)
  ·omega
  ·rw [List.length_append] at h1
   omega
  ·exact drop_head _ h1
theorem nums_cat : ∀ l : List Int, (∀ x, x ∈ l → 0 ≤ x ∧ x ≤ 4294967295) → nums (catN l) = some (l.map Int.toNat)
 | [], _ => nums_nil
 | x :: r, h => by
  have hx := h x (by simp)
  have e : catN (x :: r) = putN x.toNat ++ catN r := by simp [catN]
  rw [e, nums_some (getNum_put (by omega) _), nums_cat r (fun y hy => h y (by simp [hy]))]
  rfl
end Go.Proofs.YtmgkebghojhocaaGreatDoor
/- Plain facts of ranges and cursors. No further condition. -/
set_option linter.unusedVariables false
set_option linter.unusedSimpArgs false
namespace Go.Proofs.YtmgkebghojhocaaGreatDoor
open Go.Ab
/-- The program's cursor and the document's stand alike. -/
structure Alike (A : List Pr) (dir : Bytes) (m : List Pr) (i : Nat) : Prop where
 sub : m.Sublist A
 le : i ≤ (A.filter fun p => underB dir p.key.path).length
 eq : (A.filter fun p => underB dir p.key.path).drop i = m.filter fun p => underB dir p.key.path
end Go.Proofs.YtmgkebghojhocaaGreatDoor
/- Plain facts on stores: the newest version, lists, batches laid. No further condition. -/
set_option linter.unusedVariables false
set_option linter.unusedSimpArgs false
namespace Go.Proofs.YtmgkebghojhocaaGreatDoor
open Go.Ab
structure IsBest (l : List Pr) (p : Bytes) (w : Int) (x : Pr) : Prop where
 mem : x ∈ l
 path : x.key.path = p
 le : x.key.time ≤ w
 top : ∀ y, y ∈ l → y.key.path = p → y.key.time ≤ w → y.key.time ≤ x.key.time
theorem isSt_mem {l : List Pr} (h : isSt l = true) {p : Pr} (hp : p ∈ l) : okP p = true := by
 unfold isSt at h
 rw [List.all_eq_true] at h
 exact h p hp
structure Lays (l : List Pr) (at_ : Int) (c : List Ch) : Prop where
 st : isSt l = true
 pos : 1 ≤ at_
 le : at_ ≤ 1000000000
 ne : c ≠ []
 may : ∀ x, x ∈ c → mayB x = true
 rise : RiseC c
 new : ∀ y, y ∈ l → y.key.time < at_
 last : lastL l < at_
end Go.Proofs.YtmgkebghojhocaaGreatDoor
