/- Bytes of keys, read back; the first key of a path; the document's too. No further condition. -/
import Derived.Test.YtmgkebghojhocaaGreatDoorQKeyC
set_option linter.unusedVariables false
set_option linter.unusedSimpArgs false
namespace Go.Proofs.YtmgkebghojhocaaGreatDoor
open Go.Ab
set_option maxRecDepth 100000 in
theorem rPut_ok (k : Ky) (hs : k.path.length < 1000000) : APure Tryz.prog 59 [k.av] (putA (putB k)) := by
 refine pure_sub (closed1 (closed_ky k)) (closed_put _) ?_
 refine acalls_of tabOK Tryz.func59 rfl (by decide) (by simp [Tryz.f59]) ?_
 have ki := rIsKey_ok k hs
 unfold putB
 cases h : isKeyB k
 ·rw [h] at ki
  repeat' (first | (show DW _ _ _ _ _ _ _ _; first | refine DW_A tabs rfl ?_ | refine DW_nil ?_ | refine DW_lits tabOK rfl rfl rfl rfl rfl rfl rfl rfl rfl rfl rfl rfl rfl ?_ | refine DW_append_own tabOK rfl rfl rfl rfl rfl rfl rfl rfl rfl rfl rfl rfl rfl rfl rfl (by simp; omega) (by simp; omega) ?_) | (show W _ _ _ _ _ _ _; first | refine W_seq ?_ | refine W_text rfl (fun _ _ _ h => h) ?_ | refine W_block ?_ | refine W_skip ?_ | refine W_exit ?_ | refine W_ret ?_ | refine W_true rfl ?_ | refine W_false rfl ?_ | refine W_cond rfl (fun _ => ?_) (fun _ => ?_)))
  refine DW_pure rfl rfl rfl rfl rfl ki ?_
  repeat' (first | (show DW _ _ _ _ _ _ _ _; first | refine DW_A tabs rfl ?_ | refine DW_nil ?_ | refine DW_lits tabOK rfl rfl rfl rfl rfl rfl rfl rfl rfl rfl rfl rfl rfl ?_ | refine DW_append_own tabOK rfl rfl rfl rfl rfl rfl rfl rfl rfl rfl rfl rfl rfl rfl rfl (by simp; omega) (by simp; omega) ?_) | (show W _ _ _ _ _ _ _; first | refine W_seq ?_ | refine W_text rfl (fun _ _ _ h => h) ?_ | refine W_block ?_ | refine W_skip ?_ | refine W_exit ?_ | refine W_ret ?_ | refine W_true rfl ?_ | refine W_false rfl ?_ | refine W_cond rfl (fun _ => ?_) (fun _ => ?_)))
  exact ⟨rfl, _, rfl, _, rfl, SubC.of_closed (closed_put ([], 1))⟩
 ·obtain ⟨_, h1, h2⟩ := key_parts h
  rw [h] at ki
  obtain ⟨n, hn⟩ : ∃ n : Nat, (4294967295 - k.time).toNat = n := ⟨_, rfl⟩
  have hN : IntKind.wrap .i64 (4294967295 - k.time) = (n : Int) := (Go.Ab.wrap_small (i := 4294967295 - k.time) (by omega) (by omega)).trans (by omega)
  have hb : n < 4294967296 := by omega
  rw [if_pos rfl, hn]
  have q3 : IntKind.wrap .i64 (Int.tdiv (n : Int) 16777216) = ((n / 256 ^ 3 : Nat) : Int) := tdiv_pow n 3 _ rfl hb
  have q2 : IntKind.wrap .i64 (Int.tdiv (n : Int) 65536) = ((n / 256 ^ 2 : Nat) : Int) := tdiv_pow n 2 _ rfl hb
  have q1 : IntKind.wrap .i64 (Int.tdiv (n : Int) 256) = ((n / 256 ^ 1 : Nat) : Int) := tdiv_pow n 1 _ rfl hb
  have r2 := tmod_256 (n / 256 ^ 2)
  have r1 := tmod_256 (n / 256 ^ 1)
  have r0 : Int.tmod (n : Int) 256 = ((n / 256 ^ 0 % 256 : Nat) : Int) := by
   have := tmod_256 n
   simpa using this
  have b3 := byteAt_u8 n 3 _ rfl
  have b2 := byteAt_u8m n 2 _ rfl
  have b1 := byteAt_u8m n 1 _ rfl
  have b0 := byteAt_u8m n 0 _ rfl
  repeat' (first | (show DW _ _ _ _ _ _ _ _; first | refine DW_A tabs rfl ?_ | refine DW_nil ?_ | refine DW_lits tabOK rfl rfl rfl rfl rfl rfl rfl rfl rfl rfl rfl rfl rfl ?_ | refine DW_append_own tabOK rfl rfl rfl rfl rfl rfl rfl rfl rfl rfl rfl rfl rfl rfl rfl (by simp; omega) (by simp; omega) ?_) | (show W _ _ _ _ _ _ _; first | refine W_seq ?_ | refine W_text rfl (fun _ _ _ h => h) ?_ | refine W_block ?_ | refine W_skip ?_ | refine W_exit ?_ | refine W_ret ?_ | refine W_true rfl ?_ | refine W_false rfl ?_ | refine W_cond rfl (fun _ => ?_) (fun _ => ?_)))
  refine DW_pure rfl rfl rfl rfl rfl ki ?_
  repeat' (first | (show DW _ _ _ _ _ _ _ _; first | refine DW_V tabs rfl rfl rfl rfl (congrArg (AV.int _) hN) ?_ | refine DW_V tabs rfl rfl rfl rfl (congrArg (AV.int _) q3) ?_ | refine DW_V tabs rfl rfl rfl rfl (congrArg (AV.int _) q2) ?_ | refine DW_V tabs rfl rfl rfl rfl (congrArg (AV.int _) q1) ?_ | refine DW_V tabs rfl rfl rfl rfl (congrArg (AV.int _) r2) ?_ | refine DW_V tabs rfl rfl rfl rfl (congrArg (AV.int _) r1) ?_ | refine DW_V tabs rfl rfl rfl rfl (congrArg (AV.int _) r0) ?_ | refine DW_V tabs rfl rfl rfl rfl (congrArg (AV.int _) b3) ?_ | refine DW_V tabs rfl rfl rfl rfl (congrArg (AV.int _) b2) ?_ | refine DW_V tabs rfl rfl rfl rfl (congrArg (AV.int _) b1) ?_ | refine DW_V tabs rfl rfl rfl rfl (congrArg (AV.int _) b0) ?_ | refine DW_A tabs rfl ?_ | refine DW_nil ?_ | refine DW_lits tabOK rfl rfl rfl rfl rfl rfl rfl rfl rfl rfl rfl rfl rfl ?_ | refine DW_append_own tabOK rfl rfl rfl rfl rfl rfl rfl rfl rfl rfl rfl rfl rfl rfl rfl (by simp; omega) (by simp; omega) ?_) | (show W _ _ _ _ _ _ _; first | refine W_seq ?_ | refine W_text rfl (fun _ _ _ h => h) ?_ | refine W_block ?_ | refine W_skip ?_ | refine W_exit ?_ | refine W_ret ?_ | refine W_true rfl ?_ | refine W_false rfl ?_ | refine W_cond rfl (fun _ => ?_) (fun _ => ?_)))
  refine DW_b2s tabOK rfl rfl rfl rfl rfl rfl rfl rfl rfl rfl rfl (bs := [0, byteAt n 3, byteAt n 2, byteAt n 1, byteAt n 0]) rfl ?_
  repeat' (first | (show DW _ _ _ _ _ _ _ _; first | refine DW_A tabs rfl ?_ | refine DW_nil ?_ | refine DW_lits tabOK rfl rfl rfl rfl rfl rfl rfl rfl rfl rfl rfl rfl rfl ?_ | refine DW_append_own tabOK rfl rfl rfl rfl rfl rfl rfl rfl rfl rfl rfl rfl rfl rfl rfl (by simp; omega) (by simp; omega) ?_) | (show W _ _ _ _ _ _ _; first | refine W_seq ?_ | refine W_text rfl (fun _ _ _ h => h) ?_ | refine W_block ?_ | refine W_skip ?_ | refine W_exit ?_ | refine W_ret ?_ | refine W_true rfl ?_ | refine W_false rfl ?_ | refine W_cond rfl (fun _ => ?_) (fun _ => ?_)))
  refine DW_concat rfl rfl rfl rfl rfl rfl (by simp; omega) ?_
  repeat' (first | (show DW _ _ _ _ _ _ _ _; first | refine DW_A tabs rfl ?_ | refine DW_nil ?_ | refine DW_lits tabOK rfl rfl rfl rfl rfl rfl rfl rfl rfl rfl rfl rfl rfl ?_ | refine DW_append_own tabOK rfl rfl rfl rfl rfl rfl rfl rfl rfl rfl rfl rfl rfl rfl rfl (by simp; omega) (by simp; omega) ?_) | (show W _ _ _ _ _ _ _; first | refine W_seq ?_ | refine W_text rfl (fun _ _ _ h => h) ?_ | refine W_block ?_ | refine W_skip ?_ | refine W_exit ?_ | refine W_ret ?_ | refine W_true rfl ?_ | refine W_false rfl ?_ | refine W_cond rfl (fun _ => ?_) (fun _ => ?_)))
  exact ⟨rfl, _, rfl, _, rfl, SubC.of_closed (closed_put (k.path ++ [0, byteAt n 3, byteAt n 2, byteAt n 1, byteAt n 0], 0))⟩
def getB (s : Bytes) : Ky × Int :=
 if s.length < 5 ∨ s[s.length - 5]? ≠ some 0 then (zeroK, 30) else
 if isKeyB ⟨s.take (s.length - 5), 4294967295 - (num (s.drop (s.length - 4)) : Int)⟩ = true then (⟨s.take (s.length - 5), 4294967295 - (num (s.drop (s.length - 4)) : Int)⟩, 0) else (zeroK, 30)
def zeroM : Mem := ⟨1, [(0, .cells [.str [], .int .i64 0])]⟩
theorem zeroM_of {M : Mem} (hn : 1 = M.next) (h1 : M.get 0 = some (.cells [.str [], .int .i64 0])) : zeroM.le M := Mem.le_cons h1 (Mem.le_nil hn)
set_option maxHeartbeats 1000000 in
set_option maxRecDepth 100000 in
theorem get_ok (s : Bytes) (hs : s.length < 1000000) : APure Tryz.prog 125 [.str s] (getA (getB s)) := by
 refine pure_sub (closed1 closed_str) (closed_get _) ?_
 refine acalls_of tabOK Tryz.func125 rfl (by decide) (by simp [Tryz.f125]) ?_
 unfold getB
 by_cases h5 : s.length < 5
 ·have e1 : IntKind.wrap .i64 ((s.length : Int) - 4) = (s.length : Int) - 4 := Go.Ab.wrap_small (by omega) (by omega)
  have d1 : decide ((s.length : Int) - 4 < 1) = true := by simp; omega
  rw [if_pos (.inl h5)]
  repeat' (first | (show DW _ _ _ _ _ _ _ _; first | refine DW_V tabs rfl rfl rfl rfl (congrArg AV.bool d1) ?_ | refine DW_V tabs rfl rfl rfl rfl (congrArg (AV.int _) e1) ?_ | refine DW_A tabs rfl ?_ | refine DW_nil ?_ | refine DW_lits tabOK rfl rfl rfl rfl rfl rfl rfl rfl rfl rfl rfl rfl rfl ?_ | refine DW_append_own tabOK rfl rfl rfl rfl rfl rfl rfl rfl rfl rfl rfl rfl rfl rfl rfl (by simp; omega) (by simp; omega) ?_) | (show W _ _ _ _ _ _ _; first | refine W_seq ?_ | refine W_text rfl (fun _ _ _ h => h) ?_ | refine W_block ?_ | refine W_skip ?_ | refine W_exit ?_ | refine W_ret ?_ | refine W_true rfl ?_ | refine W_false rfl ?_ | refine W_cond rfl (fun _ => ?_) (fun _ => ?_)))
  exact ⟨rfl, _, rfl, _, rfl, SubC.of_closed (closed_get (zeroK, 30))⟩
 ·have e1 : IntKind.wrap .i64 ((s.length : Int) - 4) = ((s.length - 4 : Nat) : Int) := (Go.Ab.wrap_small (by omega) (by omega)).trans (by omega)
  have e2 : IntKind.wrap .i64 (((s.length - 4 : Nat) : Int) - 1) = ((s.length - 5 : Nat) : Int) := (Go.Ab.wrap_small (by omega) (by omega)).trans (by omega)
  have d1 : decide (((s.length - 4 : Nat) : Int) < 1) = false := by simp; omega
  have hlt : s.length - 5 < s.length := by omega
  have hx : s[s.length - 5]? = some s[s.length - 5] := List.getElem?_eq_getElem hlt
  generalize s[s.length - 5] = z at hx
  by_cases hz : z = 0
  ·subst hz
   have d2 : (!decide (((0 : UInt8).toNat : Int) = 0)) = false := rfl
   rw [if_neg (by rw [hx]; simp; omega)]
   obtain ⟨n, hn⟩ : ∃ n, num (s.drop (s.length - 4)) = n := ⟨_, rfl⟩
   have hnl : n < 4294967296 := by
    rw [← hn]
    exact num_lt 4 _ (by simp; omega)
   rw [hn]
   have e3 : IntKind.wrap .i64 (4294967295 - (n : Int)) = 4294967295 - (n : Int) := Go.Ab.wrap_small (by omega) (by omega)
   have ki := isKey_ok ⟨s.take (s.length - 5), 4294967295 - (n : Int)⟩ (by simp; omega)
   repeat' (first | (show DW _ _ _ _ _ _ _ _; first | refine DW_V tabs rfl rfl rfl rfl (congrArg AV.bool d1) ?_ | refine DW_V tabs rfl rfl rfl rfl (congrArg (AV.int _) e1) ?_ | refine DW_V tabs rfl rfl rfl rfl (congrArg (AV.int _) e2) ?_ | refine DW_A tabs rfl ?_ | refine DW_nil ?_ | refine DW_lits tabOK rfl rfl rfl rfl rfl rfl rfl rfl rfl rfl rfl rfl rfl ?_ | refine DW_append_own tabOK rfl rfl rfl rfl rfl rfl rfl rfl rfl rfl rfl rfl rfl rfl rfl (by simp; omega) (by simp; omega) ?_) | (show W _ _ _ _ _ _ _; first | refine W_seq ?_ | refine W_text rfl (fun _ _ _ h => h) ?_ | refine W_block ?_ | refine W_skip ?_ | refine W_exit ?_ | refine W_ret ?_ | refine W_true rfl ?_ | refine W_false rfl ?_ | refine W_cond rfl (fun _ => ?_) (fun _ => ?_)))
   refine DW_byte tabOK rfl rfl rfl rfl rfl rfl rfl rfl (Int.natCast_nonneg _) (c := 0) (by simpa using hx) ?_
   repeat' (first | (show DW _ _ _ _ _ _ _ _; first | refine DW_V tabs rfl rfl rfl rfl (congrArg AV.bool d1) ?_ | refine DW_V tabs rfl rfl rfl rfl (congrArg AV.bool d2) ?_ | refine DW_V tabs rfl rfl rfl rfl (congrArg (AV.int _) e1) ?_ | refine DW_V tabs rfl rfl rfl rfl (congrArg (AV.int _) e2) ?_ | refine DW_A tabs rfl ?_ | refine DW_nil ?_ | refine DW_lits tabOK rfl rfl rfl rfl rfl rfl rfl rfl rfl rfl rfl rfl rfl ?_ | refine DW_append_own tabOK rfl rfl rfl rfl rfl rfl rfl rfl rfl rfl rfl rfl rfl rfl rfl (by simp; omega) (by simp; omega) ?_) | (show W _ _ _ _ _ _ _; first | refine W_seq ?_ | refine W_text rfl (fun _ _ _ h => h) ?_ | refine W_block ?_ | refine W_skip ?_ | refine W_exit ?_ | refine W_ret ?_ | refine W_true rfl ?_ | refine W_false rfl ?_ | refine W_cond rfl (fun _ => ?_) (fun _ => ?_)))
   refine W_count s.length (fun i f N => s.length - 4 ≤ i ∧ N = zeroM ∧ f = ⟨[(0, .str s), (2, .ptr 0 0), (4, .int .i64 ((s.length - 4 : Nat) : Int)), (5, .int .i64 ((num ((s.take i).drop (s.length - 4)) : Nat) : Int)), (6, .int .i64 (i : Int))], []⟩) (i0 := s.length - 4) (by omega) ⟨by omega, rfl, rfl⟩ (Joint.le (AF.le_cons rfl (AF.le_cons rfl (AF.le_cons rfl (AF.le_cons ?_ (AF.le_cons rfl (AF.le_nil rfl)))))) (zeroM_of rfl rfl)) ?_
   ·have : (s.take (s.length - 4)).drop (s.length - 4) = [] := by simp
    rw [this]
    rfl
   ·rintro i f N hi ⟨hei, rfl, rfl⟩
    by_cases h1 : i < s.length
    ·have d3 : decide ((i : Int) < (s.length : Int)) = true := by simp; omega
     have hxi : s[i]? = some s[i] := List.getElem?_eq_getElem h1
     have fi := wrap_succ (i := i) (by omega)
     generalize s[i] = b at hxi
     have ht := take_drop_succ hei hxi
     have hnm := num_app ((s.take i).drop (s.length - 4)) b
     rw [← ht] at hnm
     have hml : num ((s.take i).drop (s.length - 4)) < 256 ^ 4 := num_lt 4 _ (by simp; omega)
     generalize num ((s.take i).drop (s.length - 4)) = m at hnm hml
     have hb := b.toNat_lt
     have g1 : IntKind.wrap .i64 ((m : Int) * (2 : Int) ^ (min (8 : Int).toNat IntKind.i64.bits)) = ((m * 256 : Nat) : Int) := by
      have : (2 : Int) ^ (min (8 : Int).toNat IntKind.i64.bits) = 256 := rfl
      rw [this]
      exact (Go.Ab.wrap_small (by omega) (by omega)).trans (by omega)
     have g2 := byte_i64 b
     have g3 := or_256 m b (by omega)
     repeat' (first | (show DW _ _ _ _ _ _ _ _; first | refine DW_V tabs rfl rfl rfl rfl (congrArg AV.bool d3) ?_ | refine DW_V tabs rfl rfl rfl rfl (congrArg (AV.int _) g1) ?_ | refine DW_V tabs rfl rfl rfl rfl (congrArg (AV.int _) fi) ?_ | refine DW_A tabs rfl ?_ | refine DW_nil ?_ | refine DW_lits tabOK rfl rfl rfl rfl rfl rfl rfl rfl rfl rfl rfl rfl rfl ?_ | refine DW_append_own tabOK rfl rfl rfl rfl rfl rfl rfl rfl rfl rfl rfl rfl rfl rfl rfl (by simp; omega) (by simp; omega) ?_) | (show W _ _ _ _ _ _ _; first | refine W_seq ?_ | refine W_text rfl (fun _ _ _ h => h) ?_ | refine W_block ?_ | refine W_skip ?_ | refine W_exit ?_ | refine W_ret ?_ | refine W_true rfl ?_ | refine W_false rfl ?_ | refine W_cond rfl (fun _ => ?_) (fun _ => ?_)))
     refine DW_byte tabOK rfl rfl rfl rfl rfl rfl rfl rfl (Int.natCast_nonneg _) (c := b) (by simpa using hxi) ?_
     repeat' (first | (show DW _ _ _ _ _ _ _ _; first | refine DW_V tabs rfl rfl rfl rfl (congrArg (AV.int _) g2) ?_ | refine DW_V tabs rfl rfl rfl rfl (congrArg (AV.int _) g3) ?_ | refine DW_V tabs rfl rfl rfl rfl (congrArg (AV.int _) fi) ?_ | refine DW_A tabs rfl ?_ | refine DW_nil ?_ | refine DW_lits tabOK rfl rfl rfl rfl rfl rfl rfl rfl rfl rfl rfl rfl rfl ?_ | refine DW_append_own tabOK rfl rfl rfl rfl rfl rfl rfl rfl rfl rfl rfl rfl rfl rfl rfl (by simp; omega) (by simp; omega) ?_) | (show W _ _ _ _ _ _ _; first | refine W_seq ?_ | refine W_text rfl (fun _ _ _ h => h) ?_ | refine W_block ?_ | refine W_skip ?_ | refine W_exit ?_ | refine W_ret ?_ | refine W_true rfl ?_ | refine W_false rfl ?_ | refine W_cond rfl (fun _ => ?_) (fun _ => ?_)))
     refine ⟨h1, _, _, ⟨by omega, rfl, rfl⟩, Joint.le (AF.le_cons rfl (AF.le_cons rfl (AF.le_cons rfl (AF.le_cons ?_ (AF.le_cons rfl (AF.le_nil rfl)))))) (zeroM_of rfl rfl)⟩
     rw [hnm]
     rfl
    ·have d3 : decide ((i : Int) < (s.length : Int)) = false := by simp; omega
     obtain rfl : i = s.length := by omega
     rw [List.take_length, hn]
     cases hk : isKeyB ⟨s.take (s.length - 5), 4294967295 - (n : Int)⟩
     ·rw [hk] at ki
      repeat' (first | (show DW _ _ _ _ _ _ _ _; first | refine DW_V tabs rfl rfl rfl rfl (congrArg AV.bool d3) ?_ | refine DW_V tabs rfl rfl rfl rfl (congrArg (AV.int _) e2) ?_ | refine DW_V tabs rfl rfl rfl rfl (congrArg (AV.int _) e3) ?_ | refine DW_A tabs rfl ?_ | refine DW_nil ?_ | refine DW_lits tabOK rfl rfl rfl rfl rfl rfl rfl rfl rfl rfl rfl rfl rfl ?_ | refine DW_append_own tabOK rfl rfl rfl rfl rfl rfl rfl rfl rfl rfl rfl rfl rfl rfl rfl (by simp; omega) (by simp; omega) ?_) | (show W _ _ _ _ _ _ _; first | refine W_seq ?_ | refine W_text rfl (fun _ _ _ h => h) ?_ | refine W_block ?_ | refine W_skip ?_ | refine W_exit ?_ | refine W_ret ?_ | refine W_true rfl ?_ | refine W_false rfl ?_ | refine W_cond rfl (fun _ => ?_) (fun _ => ?_)))
      refine DW_substr tabOK rfl rfl rfl rfl rfl rfl rfl rfl rfl (Int.le_refl 0) (by omega) (by omega) ?_
      repeat' (first | (show DW _ _ _ _ _ _ _ _; first | refine DW_V tabs rfl rfl rfl rfl (congrArg (AV.int _) e3) ?_ | refine DW_A tabs rfl ?_ | refine DW_nil ?_ | refine DW_lits tabOK rfl rfl rfl rfl rfl rfl rfl rfl rfl rfl rfl rfl rfl ?_ | refine DW_append_own tabOK rfl rfl rfl rfl rfl rfl rfl rfl rfl rfl rfl rfl rfl rfl rfl (by simp; omega) (by simp; omega) ?_) | (show W _ _ _ _ _ _ _; first | refine W_seq ?_ | refine W_text rfl (fun _ _ _ h => h) ?_ | refine W_block ?_ | refine W_skip ?_ | refine W_exit ?_ | refine W_ret ?_ | refine W_true rfl ?_ | refine W_false rfl ?_ | refine W_cond rfl (fun _ => ?_) (fun _ => ?_)))
      refine DW_pure rfl rfl rfl rfl rfl ki ?_
      repeat' (first | (show DW _ _ _ _ _ _ _ _; first | refine DW_A tabs rfl ?_ | refine DW_nil ?_ | refine DW_lits tabOK rfl rfl rfl rfl rfl rfl rfl rfl rfl rfl rfl rfl rfl ?_ | refine DW_append_own tabOK rfl rfl rfl rfl rfl rfl rfl rfl rfl rfl rfl rfl rfl rfl rfl (by simp; omega) (by simp; omega) ?_) | (show W _ _ _ _ _ _ _; first | refine W_seq ?_ | refine W_text rfl (fun _ _ _ h => h) ?_ | refine W_block ?_ | refine W_skip ?_ | refine W_exit ?_ | refine W_ret ?_ | refine W_true rfl ?_ | refine W_false rfl ?_ | refine W_cond rfl (fun _ => ?_) (fun _ => ?_)))
      exact ⟨rfl, _, rfl, _, rfl, SubC.of_closed (closed_get (zeroK, 30))⟩
     ·rw [hk] at ki
      repeat' (first | (show DW _ _ _ _ _ _ _ _; first | refine DW_V tabs rfl rfl rfl rfl (congrArg AV.bool d3) ?_ | refine DW_V tabs rfl rfl rfl rfl (congrArg (AV.int _) e2) ?_ | refine DW_V tabs rfl rfl rfl rfl (congrArg (AV.int _) e3) ?_ | refine DW_A tabs rfl ?_ | refine DW_nil ?_ | refine DW_lits tabOK rfl rfl rfl rfl rfl rfl rfl rfl rfl rfl rfl rfl rfl ?_ | refine DW_append_own tabOK rfl rfl rfl rfl rfl rfl rfl rfl rfl rfl rfl rfl rfl rfl rfl (by simp; omega) (by simp; omega) ?_) | (show W _ _ _ _ _ _ _; first | refine W_seq ?_ | refine W_text rfl (fun _ _ _ h => h) ?_ | refine W_block ?_ | refine W_skip ?_ | refine W_exit ?_ | refine W_ret ?_ | refine W_true rfl ?_ | refine W_false rfl ?_ | refine W_cond rfl (fun _ => ?_) (fun _ => ?_)))
      refine DW_substr tabOK rfl rfl rfl rfl rfl rfl rfl rfl rfl (Int.le_refl 0) (by omega) (by omega) ?_
      repeat' (first | (show DW _ _ _ _ _ _ _ _; first | refine DW_V tabs rfl rfl rfl rfl (congrArg (AV.int _) e3) ?_ | refine DW_A tabs rfl ?_ | refine DW_nil ?_ | refine DW_lits tabOK rfl rfl rfl rfl rfl rfl rfl rfl rfl rfl rfl rfl rfl ?_ | refine DW_append_own tabOK rfl rfl rfl rfl rfl rfl rfl rfl rfl rfl rfl rfl rfl rfl rfl (by simp; omega) (by simp; omega) ?_) | (show W _ _ _ _ _ _ _; first | refine W_seq ?_ | refine W_text rfl (fun _ _ _ h => h) ?_ | refine W_block ?_ | refine W_skip ?_ | refine W_exit ?_ | refine W_ret ?_ | refine W_true rfl ?_ | refine W_false rfl ?_ | refine W_cond rfl (fun _ => ?_) (fun _ => ?_)))
      refine DW_pure rfl rfl rfl rfl rfl ki ?_
      repeat' (first | (show DW _ _ _ _ _ _ _ _; first | refine DW_A tabs rfl ?_ | refine DW_nil ?_ | refine DW_lits tabOK rfl rfl rfl rfl rfl rfl rfl rfl rfl rfl rfl rfl rfl ?_ | refine DW_append_own tabOK rfl rfl rfl rfl rfl rfl rfl rfl rfl rfl rfl rfl rfl rfl rfl (by simp; omega) (by simp; omega) ?_) | (show W _ _ _ _ _ _ _; first | refine W_seq ?_ | refine W_text rfl (fun _ _ _ h => h) ?_ | refine W_block ?_ | refine W_skip ?_ | refine W_exit ?_ | refine W_ret ?_ | refine W_true rfl ?_ | refine W_false rfl ?_ | refine W_cond rfl (fun _ => ?_) (fun _ => ?_)))
      exact ⟨rfl, _, rfl, _, rfl, SubC.of_closed (closed_get (⟨s.take (s.length - 5), 4294967295 - (n : Int)⟩, 0))⟩
  ·have d2 : (!decide ((z.toNat : Int) = 0)) = true := by
    simp only [Bool.not_eq_true', decide_eq_false_iff_not]
    intro h
    apply hz
    apply UInt8.toNat_inj.1
    have : (0 : UInt8).toNat = 0 := rfl
    omega
   rw [if_pos (.inr (by rw [hx]; exact fun h => hz (Option.some.inj h)))]
   repeat' (first | (show DW _ _ _ _ _ _ _ _; first | refine DW_V tabs rfl rfl rfl rfl (congrArg AV.bool d1) ?_ | refine DW_V tabs rfl rfl rfl rfl (congrArg (AV.int _) e1) ?_ | refine DW_V tabs rfl rfl rfl rfl (congrArg (AV.int _) e2) ?_ | refine DW_A tabs rfl ?_ | refine DW_nil ?_ | refine DW_lits tabOK rfl rfl rfl rfl rfl rfl rfl rfl rfl rfl rfl rfl rfl ?_ | refine DW_append_own tabOK rfl rfl rfl rfl rfl rfl rfl rfl rfl rfl rfl rfl rfl rfl rfl (by simp; omega) (by simp; omega) ?_) | (show W _ _ _ _ _ _ _; first | refine W_seq ?_ | refine W_text rfl (fun _ _ _ h => h) ?_ | refine W_block ?_ | refine W_skip ?_ | refine W_exit ?_ | refine W_ret ?_ | refine W_true rfl ?_ | refine W_false rfl ?_ | refine W_cond rfl (fun _ => ?_) (fun _ => ?_)))
   refine DW_byte tabOK rfl rfl rfl rfl rfl rfl rfl rfl (Int.natCast_nonneg _) (c := z) (by rw [Int.toNat_natCast]; exact hx) ?_
   repeat' (first | (show DW _ _ _ _ _ _ _ _; first | refine DW_V tabs rfl rfl rfl rfl (congrArg AV.bool d1) ?_ | refine DW_V tabs rfl rfl rfl rfl (congrArg AV.bool d2) ?_ | refine DW_V tabs rfl rfl rfl rfl (congrArg (AV.int _) e1) ?_ | refine DW_V tabs rfl rfl rfl rfl (congrArg (AV.int _) e2) ?_ | refine DW_A tabs rfl ?_ | refine DW_nil ?_ | refine DW_lits tabOK rfl rfl rfl rfl rfl rfl rfl rfl rfl rfl rfl rfl rfl ?_ | refine DW_append_own tabOK rfl rfl rfl rfl rfl rfl rfl rfl rfl rfl rfl rfl rfl rfl rfl (by simp; omega) (by simp; omega) ?_) | (show W _ _ _ _ _ _ _; first | refine W_seq ?_ | refine W_text rfl (fun _ _ _ h => h) ?_ | refine W_block ?_ | refine W_skip ?_ | refine W_exit ?_ | refine W_ret ?_ | refine W_true rfl ?_ | refine W_false rfl ?_ | refine W_cond rfl (fun _ => ?_) (fun _ => ?_)))
   exact ⟨rfl, _, rfl, _, rfl, SubC.of_closed (closed_get (zeroK, 30))⟩
def rgetB (s : Bytes) : Ky × Int :=
 if s.length < 5 then (zeroK, 30) else
 if (putB ⟨s.take (s.length - 5), 4294967295 - (num (s.drop (s.length - 4)) : Int)⟩).2 ≠ 0 ∨ (putB ⟨s.take (s.length - 5), 4294967295 - (num (s.drop (s.length - 4)) : Int)⟩).1 ≠ s then (zeroK, 30)
 else (⟨s.take (s.length - 5), 4294967295 - (num (s.drop (s.length - 4)) : Int)⟩, 0)
set_option maxHeartbeats 1000000 in
set_option maxRecDepth 100000 in
theorem rkGet_ok (s : Bytes) (hs : s.length < 1000000) : APure Tryz.prog 77 [.str s] (getA (rgetB s)) := by
 refine pure_sub (closed1 closed_str) (closed_get _) ?_
 refine acalls_of tabOK Tryz.func77 rfl (by decide) (by simp [Tryz.f77]) ?_
 unfold rgetB
 by_cases h5 : s.length < 5
 ·have e1 : IntKind.wrap .i64 ((s.length : Int) - 5) = (s.length : Int) - 5 := Go.Ab.wrap_small (by omega) (by omega)
  have d1 : decide ((s.length : Int) - 5 < 0) = true := by simp; omega
  rw [if_pos h5]
  repeat' (first | (show DW _ _ _ _ _ _ _ _; first | refine DW_V tabs rfl rfl rfl rfl (congrArg AV.bool d1) ?_ | refine DW_V tabs rfl rfl rfl rfl (congrArg (AV.int _) e1) ?_ | refine DW_A tabs rfl ?_ | refine DW_nil ?_ | refine DW_lits tabOK rfl rfl rfl rfl rfl rfl rfl rfl rfl rfl rfl rfl rfl ?_ | refine DW_append_own tabOK rfl rfl rfl rfl rfl rfl rfl rfl rfl rfl rfl rfl rfl rfl rfl (by simp; omega) (by simp; omega) ?_) | (show W _ _ _ _ _ _ _; first | refine W_seq ?_ | refine W_text rfl (fun _ _ _ h => h) ?_ | refine W_block ?_ | refine W_skip ?_ | refine W_exit ?_ | refine W_ret ?_ | refine W_true rfl ?_ | refine W_false rfl ?_ | refine W_cond rfl (fun _ => ?_) (fun _ => ?_)))
  exact ⟨rfl, _, rfl, _, rfl, SubC.of_closed (closed_get (zeroK, 30))⟩
 ·have e1 : IntKind.wrap .i64 ((s.length : Int) - 5) = ((s.length - 5 : Nat) : Int) := (Go.Ab.wrap_small (by omega) (by omega)).trans (by omega)
  have e2 : IntKind.wrap .i64 (((s.length - 5 : Nat) : Int) + 1) = ((s.length - 4 : Nat) : Int) := (Go.Ab.wrap_small (by omega) (by omega)).trans (by omega)
  have d1 : decide (((s.length - 5 : Nat) : Int) < 0) = false := by simp
  rw [if_neg h5]
  obtain ⟨n, hn⟩ : ∃ n, num (s.drop (s.length - 4)) = n := ⟨_, rfl⟩
  have hnl : n < 4294967296 := by
   rw [← hn]
   exact num_lt 4 _ (by simp; omega)
  rw [hn]
  have e3 : IntKind.wrap .i64 (4294967295 - (n : Int)) = 4294967295 - (n : Int) := Go.Ab.wrap_small (by omega) (by omega)
  have kp := rPut_ok ⟨s.take (s.length - 5), 4294967295 - (n : Int)⟩ (by simp; omega)
  generalize putB ⟨s.take (s.length - 5), 4294967295 - (n : Int)⟩ = pp at kp
  obtain ⟨pt, pe⟩ := pp
  repeat' (first | (show DW _ _ _ _ _ _ _ _; first | refine DW_V tabs rfl rfl rfl rfl (congrArg AV.bool d1) ?_ | refine DW_V tabs rfl rfl rfl rfl (congrArg (AV.int _) e1) ?_ | refine DW_V tabs rfl rfl rfl rfl (congrArg (AV.int _) e2) ?_ | refine DW_A tabs rfl ?_ | refine DW_nil ?_ | refine DW_lits tabOK rfl rfl rfl rfl rfl rfl rfl rfl rfl rfl rfl rfl rfl ?_ | refine DW_append_own tabOK rfl rfl rfl rfl rfl rfl rfl rfl rfl rfl rfl rfl rfl rfl rfl (by simp; omega) (by simp; omega) ?_) | (show W _ _ _ _ _ _ _; first | refine W_seq ?_ | refine W_text rfl (fun _ _ _ h => h) ?_ | refine W_block ?_ | refine W_skip ?_ | refine W_exit ?_ | refine W_ret ?_ | refine W_true rfl ?_ | refine W_false rfl ?_ | refine W_cond rfl (fun _ => ?_) (fun _ => ?_)))
  refine W_count s.length (fun i f N => s.length - 4 ≤ i ∧ N = zeroM ∧ f = ⟨[(0, .str s), (2, .ptr 0 0), (4, .int .i64 ((s.length - 5 : Nat) : Int)), (5, .int .i64 ((num ((s.take i).drop (s.length - 4)) : Nat) : Int)), (6, .int .i64 (i : Int))], []⟩) (i0 := s.length - 4) (by omega) ⟨by omega, rfl, rfl⟩ (Joint.le (AF.le_cons rfl (AF.le_cons rfl (AF.le_cons rfl (AF.le_cons ?_ (AF.le_cons rfl (AF.le_nil rfl)))))) (zeroM_of rfl rfl)) ?_
  ·have : (s.take (s.length - 4)).drop (s.length - 4) = [] := by simp
   rw [this]
   rfl
  ·rintro i f N hi ⟨hei, rfl, rfl⟩
   by_cases h1 : i < s.length
   ·have d3 : decide ((i : Int) < (s.length : Int)) = true := by simp; omega
    have hxi : s[i]? = some s[i] := List.getElem?_eq_getElem h1
    have fi := wrap_succ (i := i) (by omega)
    generalize s[i] = b at hxi
    have ht := take_drop_succ hei hxi
    have hnm := num_app ((s.take i).drop (s.length - 4)) b
    rw [← ht] at hnm
    have hml : num ((s.take i).drop (s.length - 4)) < 256 ^ 4 := num_lt 4 _ (by simp; omega)
    generalize num ((s.take i).drop (s.length - 4)) = m at hnm hml
    have hb := b.toNat_lt
    have g1 : IntKind.wrap .i64 (256 * (m : Int)) = 256 * (m : Int) := Go.Ab.wrap_small (by omega) (by omega)
    have g2 := byte_i64 b
    have g3 : IntKind.wrap .i64 (256 * (m : Int) + ((b.toNat : Nat) : Int)) = ((m * 256 + b.toNat : Nat) : Int) := (Go.Ab.wrap_small (by omega) (by omega)).trans (by omega)
    repeat' (first | (show DW _ _ _ _ _ _ _ _; first | refine DW_V tabs rfl rfl rfl rfl (congrArg AV.bool d3) ?_ | refine DW_V tabs rfl rfl rfl rfl (congrArg (AV.int _) g1) ?_ | refine DW_V tabs rfl rfl rfl rfl (congrArg (AV.int _) fi) ?_ | refine DW_A tabs rfl ?_ | refine DW_nil ?_ | refine DW_lits tabOK rfl rfl rfl rfl rfl rfl rfl rfl rfl rfl rfl rfl rfl ?_ | refine DW_append_own tabOK rfl rfl rfl rfl rfl rfl rfl rfl rfl rfl rfl rfl rfl rfl rfl (by simp; omega) (by simp; omega) ?_) | (show W _ _ _ _ _ _ _; first | refine W_seq ?_ | refine W_text rfl (fun _ _ _ h => h) ?_ | refine W_block ?_ | refine W_skip ?_ | refine W_exit ?_ | refine W_ret ?_ | refine W_true rfl ?_ | refine W_false rfl ?_ | refine W_cond rfl (fun _ => ?_) (fun _ => ?_)))
    refine DW_byte tabOK rfl rfl rfl rfl rfl rfl rfl rfl (Int.natCast_nonneg _) (c := b) (by simpa using hxi) ?_
    repeat' (first | (show DW _ _ _ _ _ _ _ _; first | refine DW_V tabs rfl rfl rfl rfl (congrArg (AV.int _) g2) ?_ | refine DW_V tabs rfl rfl rfl rfl (congrArg (AV.int _) g3) ?_ | refine DW_V tabs rfl rfl rfl rfl (congrArg (AV.int _) fi) ?_ | refine DW_A tabs rfl ?_ | refine DW_nil ?_ | refine DW_lits tabOK rfl rfl rfl rfl rfl rfl rfl rfl rfl rfl rfl rfl rfl ?_ | refine DW_append_own tabOK rfl rfl rfl rfl rfl rfl rfl rfl rfl rfl rfl rfl rfl rfl rfl (by simp; omega) (by simp; omega) ?_) | (show W _ _ _ _ _ _ _; first | refine W_seq ?_ | refine W_text rfl (fun _ _ _ h => h) ?_ | refine W_block ?_ | refine W_skip ?_ | refine W_exit ?_ | refine W_ret ?_ | refine W_true rfl ?_ | refine W_false rfl ?_ | refine W_cond rfl (fun _ => ?_) (fun _ => ?_)))
    refine ⟨h1, _, _, ⟨by omega, rfl, rfl⟩, Joint.le (AF.le_cons rfl (AF.le_cons rfl (AF.le_cons rfl (AF.le_cons ?_ (AF.le_cons rfl (AF.le_nil rfl)))))) (zeroM_of rfl rfl)⟩
    rw [hnm]
    rfl
   ·have d3 : decide ((i : Int) < (s.length : Int)) = false := by simp; omega
    obtain rfl : i = s.length := by omega
    rw [List.take_length, hn]
    by_cases hk : pe = 0
    ·have d4 : (!decide (pe = 0)) = false := by simp [hk]
     by_cases hq : pt = s
     ·have d5 : (!(pt == s)) = false := by simp [hq]
      rw [if_neg (by simp [hk, hq])]
      repeat' (first | (show DW _ _ _ _ _ _ _ _; first | refine DW_V tabs rfl rfl rfl rfl (congrArg AV.bool d3) ?_ | refine DW_V tabs rfl rfl rfl rfl (congrArg (AV.int _) e2) ?_ | refine DW_V tabs rfl rfl rfl rfl (congrArg (AV.int _) e3) ?_ | refine DW_A tabs rfl ?_ | refine DW_nil ?_ | refine DW_lits tabOK rfl rfl rfl rfl rfl rfl rfl rfl rfl rfl rfl rfl rfl ?_ | refine DW_append_own tabOK rfl rfl rfl rfl rfl rfl rfl rfl rfl rfl rfl rfl rfl rfl rfl (by simp; omega) (by simp; omega) ?_) | (show W _ _ _ _ _ _ _; first | refine W_seq ?_ | refine W_text rfl (fun _ _ _ h => h) ?_ | refine W_block ?_ | refine W_skip ?_ | refine W_exit ?_ | refine W_ret ?_ | refine W_true rfl ?_ | refine W_false rfl ?_ | refine W_cond rfl (fun _ => ?_) (fun _ => ?_)))
      refine DW_substr tabOK rfl rfl rfl rfl rfl rfl rfl rfl rfl (Int.le_refl 0) (by omega) (by omega) ?_
      repeat' (first | (show DW _ _ _ _ _ _ _ _; first | refine DW_V tabs rfl rfl rfl rfl (congrArg (AV.int _) e3) ?_ | refine DW_A tabs rfl ?_ | refine DW_nil ?_ | refine DW_lits tabOK rfl rfl rfl rfl rfl rfl rfl rfl rfl rfl rfl rfl rfl ?_ | refine DW_append_own tabOK rfl rfl rfl rfl rfl rfl rfl rfl rfl rfl rfl rfl rfl rfl rfl (by simp; omega) (by simp; omega) ?_) | (show W _ _ _ _ _ _ _; first | refine W_seq ?_ | refine W_text rfl (fun _ _ _ h => h) ?_ | refine W_block ?_ | refine W_skip ?_ | refine W_exit ?_ | refine W_ret ?_ | refine W_true rfl ?_ | refine W_false rfl ?_ | refine W_cond rfl (fun _ => ?_) (fun _ => ?_)))
      refine DW_pure rfl rfl rfl rfl rfl kp ?_
      repeat' (first | (show DW _ _ _ _ _ _ _ _; first | refine DW_V tabs rfl rfl rfl rfl (congrArg AV.bool d4) ?_ | refine DW_V tabs rfl rfl rfl rfl (congrArg AV.bool d5) ?_ | refine DW_A tabs rfl ?_ | refine DW_nil ?_ | refine DW_lits tabOK rfl rfl rfl rfl rfl rfl rfl rfl rfl rfl rfl rfl rfl ?_ | refine DW_append_own tabOK rfl rfl rfl rfl rfl rfl rfl rfl rfl rfl rfl rfl rfl rfl rfl (by simp; omega) (by simp; omega) ?_) | (show W _ _ _ _ _ _ _; first | refine W_seq ?_ | refine W_text rfl (fun _ _ _ h => h) ?_ | refine W_block ?_ | refine W_skip ?_ | refine W_exit ?_ | refine W_ret ?_ | refine W_true rfl ?_ | refine W_false rfl ?_ | refine W_cond rfl (fun _ => ?_) (fun _ => ?_)))
      exact ⟨rfl, _, rfl, _, rfl, SubC.of_closed (closed_get (⟨s.take (s.length - 5), 4294967295 - (n : Int)⟩, 0))⟩
     ·have d5 : (!(pt == s)) = true := by simp [hq]
      rw [if_pos (.inr hq)]
      repeat' (first | (show DW _ _ _ _ _ _ _ _; first | refine DW_V tabs rfl rfl rfl rfl (congrArg AV.bool d3) ?_ | refine DW_V tabs rfl rfl rfl rfl (congrArg (AV.int _) e2) ?_ | refine DW_V tabs rfl rfl rfl rfl (congrArg (AV.int _) e3) ?_ | refine DW_A tabs rfl ?_ | refine DW_nil ?_ | refine DW_lits tabOK rfl rfl rfl rfl rfl rfl rfl rfl rfl rfl rfl rfl rfl ?_ | refine DW_append_own tabOK rfl rfl rfl rfl rfl rfl rfl rfl rfl rfl rfl rfl rfl rfl rfl (by simp; omega) (by simp; omega) ?_) | (show W _ _ _ _ _ _ _; first | refine W_seq ?_ | refine W_text rfl (fun _ _ _ h => h) ?_ | refine W_block ?_ | refine W_skip ?_ | refine W_exit ?_ | refine W_ret ?_ | refine W_true rfl ?_ | refine W_false rfl ?_ | refine W_cond rfl (fun _ => ?_) (fun _ => ?_)))
      refine DW_substr tabOK rfl rfl rfl rfl rfl rfl rfl rfl rfl (Int.le_refl 0) (by omega) (by omega) ?_
      repeat' (first | (show DW _ _ _ _ _ _ _ _; first | refine DW_V tabs rfl rfl rfl rfl (congrArg (AV.int _) e3) ?_ | refine DW_A tabs rfl ?_ | refine DW_nil ?_ | refine DW_lits tabOK rfl rfl rfl rfl rfl rfl rfl rfl rfl rfl rfl rfl rfl ?_ | refine DW_append_own tabOK rfl rfl rfl rfl rfl rfl rfl rfl rfl rfl rfl rfl rfl rfl rfl (by simp; omega) (by simp; omega) ?_) | (show W _ _ _ _ _ _ _; first | refine W_seq ?_ | refine W_text rfl (fun _ _ _ h => h) ?_ | refine W_block ?_ | refine W_skip ?_ | refine W_exit ?_ | refine W_ret ?_ | refine W_true rfl ?_ | refine W_false rfl ?_ | refine W_cond rfl (fun _ => ?_) (fun _ => ?_)))
      refine DW_pure rfl rfl rfl rfl rfl kp ?_
      repeat' (first | (show DW _ _ _ _ _ _ _ _; first | refine DW_V tabs rfl rfl rfl rfl (congrArg AV.bool d4) ?_ | refine DW_V tabs rfl rfl rfl rfl (congrArg AV.bool d5) ?_ | refine DW_A tabs rfl ?_ | refine DW_nil ?_ | refine DW_lits tabOK rfl rfl rfl rfl rfl rfl rfl rfl rfl rfl rfl rfl rfl ?_ | refine DW_append_own tabOK rfl rfl rfl rfl rfl rfl rfl rfl rfl rfl rfl rfl rfl rfl rfl (by simp; omega) (by simp; omega) ?_) | (show W _ _ _ _ _ _ _; first | refine W_seq ?_ | refine W_text rfl (fun _ _ _ h => h) ?_ | refine W_block ?_ | refine W_skip ?_ | refine W_exit ?_ | refine W_ret ?_ | refine W_true rfl ?_ | refine W_false rfl ?_ | refine W_cond rfl (fun _ => ?_) (fun _ => ?_)))
      exact ⟨rfl, _, rfl, _, rfl, SubC.of_closed (closed_get (zeroK, 30))⟩
    ·have d4 : (!decide (pe = 0)) = true := by simp [hk]
     rw [if_pos (.inl hk)]
     repeat' (first | (show DW _ _ _ _ _ _ _ _; first | refine DW_V tabs rfl rfl rfl rfl (congrArg AV.bool d3) ?_ | refine DW_V tabs rfl rfl rfl rfl (congrArg (AV.int _) e2) ?_ | refine DW_V tabs rfl rfl rfl rfl (congrArg (AV.int _) e3) ?_ | refine DW_A tabs rfl ?_ | refine DW_nil ?_ | refine DW_lits tabOK rfl rfl rfl rfl rfl rfl rfl rfl rfl rfl rfl rfl rfl ?_ | refine DW_append_own tabOK rfl rfl rfl rfl rfl rfl rfl rfl rfl rfl rfl rfl rfl rfl rfl (by simp; omega) (by simp; omega) ?_) | (show W _ _ _ _ _ _ _; first | refine W_seq ?_ | refine W_text rfl (fun _ _ _ h => h) ?_ | refine W_block ?_ | refine W_skip ?_ | refine W_exit ?_ | refine W_ret ?_ | refine W_true rfl ?_ | refine W_false rfl ?_ | refine W_cond rfl (fun _ => ?_) (fun _ => ?_)))
     refine DW_substr tabOK rfl rfl rfl rfl rfl rfl rfl rfl rfl (Int.le_refl 0) (by omega) (by omega) ?_
     repeat' (first | (show DW _ _ _ _ _ _ _ _; first | refine DW_V tabs rfl rfl rfl rfl (congrArg (AV.int _) e3) ?_ | refine DW_A tabs rfl ?_ | refine DW_nil ?_ | refine DW_lits tabOK rfl rfl rfl rfl rfl rfl rfl rfl rfl rfl rfl rfl rfl ?_ | refine DW_append_own tabOK rfl rfl rfl rfl rfl rfl rfl rfl rfl rfl rfl rfl rfl rfl rfl (by simp; omega) (by simp; omega) ?_) | (show W _ _ _ _ _ _ _; first | refine W_seq ?_ | refine W_text rfl (fun _ _ _ h => h) ?_ | refine W_block ?_ | refine W_skip ?_ | refine W_exit ?_ | refine W_ret ?_ | refine W_true rfl ?_ | refine W_false rfl ?_ | refine W_cond rfl (fun _ => ?_) (fun _ => ?_)))
     refine DW_pure rfl rfl rfl rfl rfl kp ?_
     repeat' (first | (show DW _ _ _ _ _ _ _ _; first | refine DW_V tabs rfl rfl rfl rfl (congrArg AV.bool d4) ?_ | refine DW_A tabs rfl ?_ | refine DW_nil ?_ | refine DW_lits tabOK rfl rfl rfl rfl rfl rfl rfl rfl rfl rfl rfl rfl rfl ?_ | refine DW_append_own tabOK rfl rfl rfl rfl rfl rfl rfl rfl rfl rfl rfl rfl rfl rfl rfl (by simp; omega) (by simp; omega) ?_) | (show W _ _ _ _ _ _ _; first | refine W_seq ?_ | refine W_text rfl (fun _ _ _ h => h) ?_ | refine W_block ?_ | refine W_skip ?_ | refine W_exit ?_ | refine W_ret ?_ | refine W_true rfl ?_ | refine W_false rfl ?_ | refine W_cond rfl (fun _ => ?_) (fun _ => ?_)))
     exact ⟨rfl, _, rfl, _, rfl, SubC.of_closed (closed_get (zeroK, 30))⟩
end Go.Proofs.YtmgkebghojhocaaGreatDoor
