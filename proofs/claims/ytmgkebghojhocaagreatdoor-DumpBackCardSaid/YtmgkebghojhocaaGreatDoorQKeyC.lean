/- Which keys may be, and their bytes. No further condition. -/
import Derived.Test.YtmgkebghojhocaaGreatDoorQV16
import Derived.Test.YtmgkebghojhocaaGreatDoorQV20
import Derived.Test.YtmgkebghojhocaaGreatDoorQV09
set_option linter.unusedVariables false
set_option linter.unusedSimpArgs false
namespace Go.Proofs.YtmgkebghojhocaaGreatDoor
open Go.Ab
def putB (k : Ky) : Bytes × Int := if isKeyB k = true then (k.path ++ 0 :: be4 (4294967295 - k.time).toNat, 0) else ([], 1)
def putA (x : Bytes × Int) : AV := .tup [.str x.1, .int .i64 x.2]
theorem closed_put (x : Bytes × Int) : Closed (putA x) := closed_tup (closed2 closed_str closed_int)
theorem key_parts {k : Ky} (h : isKeyB k = true) : isPathB k.path = true ∧ 0 ≤ k.time ∧ k.time ≤ 1000000000 := by
 simp [isKeyB] at h
 exact ⟨h.1.1, h.1.2, h.2⟩
def putF (k : Ky) (pre : Bytes) (g : Nat) (i : Int) : AF := ⟨[(1, .ref [.str k.path, .int .i64 k.time]), (4, .sl 1 ((k.path ++ pre).map byteAV) (.tok 0 g)), (5, .int .i64 i)], []⟩
theorem bytes_app0 {p : Bytes} {t : Tag} : AV.sl 1 (p.map byteAV ++ [.int .u8 0]) t = .sl 1 ((p ++ [0]).map byteAV) t := by
 simp [byteAV]
theorem bytes_app {p q : Bytes} {b : UInt8} {x : Int} {t : Tag} (hx : x = (b.toNat : Int)) : AV.sl 1 ((p ++ q).map byteAV ++ [.int .u8 x]) t = .sl 1 ((p ++ (q ++ [b])).map byteAV) t := by
 subst hx
 simp [byteAV]
set_option maxHeartbeats 1000000 in
set_option maxRecDepth 100000 in
theorem put_ok (k : Ky) (hs : k.path.length < 1000000) : APure Tryz.prog 56 [k.av] (putA (putB k)) := by
 refine pure_sub (closed1 (closed_ky k)) (closed_put _) ?_
 refine acalls_of tabOK Tryz.func56 rfl (by decide) (by simp [Tryz.f56]) ?_
 have ki := isKey_ok k hs
 unfold putB
 cases h : isKeyB k
 ·rw [h] at ki
  repeat' (first | (show DW _ _ _ _ _ _ _ _; first | refine DW_A tabs rfl ?_ | refine DW_nil ?_ | refine DW_lits tabOK rfl rfl rfl rfl rfl rfl rfl rfl rfl rfl rfl rfl rfl ?_ | refine DW_append_own tabOK rfl rfl rfl rfl rfl rfl rfl rfl rfl rfl rfl rfl rfl rfl rfl (by simp; omega) (by simp; omega) ?_) | (show W _ _ _ _ _ _ _; first | refine W_seq ?_ | refine W_text rfl (fun _ _ _ h => h) ?_ | refine W_block ?_ | refine W_skip ?_ | refine W_exit ?_ | refine W_ret ?_ | refine W_true rfl ?_ | refine W_false rfl ?_ | refine W_cond rfl (fun _ => ?_) (fun _ => ?_)))
  refine DW_pure rfl rfl rfl rfl rfl ki ?_
  repeat' (first | (show DW _ _ _ _ _ _ _ _; first | refine DW_A tabs rfl ?_ | refine DW_nil ?_ | refine DW_lits tabOK rfl rfl rfl rfl rfl rfl rfl rfl rfl rfl rfl rfl rfl ?_ | refine DW_append_own tabOK rfl rfl rfl rfl rfl rfl rfl rfl rfl rfl rfl rfl rfl rfl rfl (by simp; omega) (by simp; omega) ?_) | (show W _ _ _ _ _ _ _; first | refine W_seq ?_ | refine W_text rfl (fun _ _ _ h => h) ?_ | refine W_block ?_ | refine W_skip ?_ | refine W_exit ?_ | refine W_ret ?_ | refine W_true rfl ?_ | refine W_false rfl ?_ | refine W_cond rfl (fun _ => ?_) (fun _ => ?_)))
  exact ⟨rfl, _, rfl, _, rfl, SubC.of_closed (closed_put ([], 1))⟩
 ·obtain ⟨_, h1, h2⟩ := key_parts h
  rw [h] at ki
  obtain ⟨n, hn⟩ : ∃ n : Nat, (4294967295 - k.time).toNat = n := ⟨_, rfl⟩
  have hN : IntKind.wrap .i64 (4294967295 - k.time) = (n : Int) := (Go.Ab.wrap_small (i := 4294967295 - k.time) (by omega) (by omega)).trans (by omega)
  have hb : n < 4294967296 := by omega
  rw [if_pos rfl, hn]
  repeat' (first | (show DW _ _ _ _ _ _ _ _; first | refine DW_A tabs rfl ?_ | refine DW_nil ?_ | refine DW_lits tabOK rfl rfl rfl rfl rfl rfl rfl rfl rfl rfl rfl rfl rfl ?_ | refine DW_append_own tabOK rfl rfl rfl rfl rfl rfl rfl rfl rfl rfl rfl rfl rfl rfl rfl (by simp; omega) (by simp; omega) ?_) | (show W _ _ _ _ _ _ _; first | refine W_seq ?_ | refine W_text rfl (fun _ _ _ h => h) ?_ | refine W_block ?_ | refine W_skip ?_ | refine W_exit ?_ | refine W_ret ?_ | refine W_true rfl ?_ | refine W_false rfl ?_ | refine W_cond rfl (fun _ => ?_) (fun _ => ?_)))
  refine DW_pure rfl rfl rfl rfl rfl ki ?_
  repeat' (first | (show DW _ _ _ _ _ _ _ _; first | refine DW_A tabs rfl ?_ | refine DW_nil ?_ | refine DW_lits tabOK rfl rfl rfl rfl rfl rfl rfl rfl rfl rfl rfl rfl rfl ?_ | refine DW_append_own tabOK rfl rfl rfl rfl rfl rfl rfl rfl rfl rfl rfl rfl rfl rfl rfl (by simp; omega) (by simp; omega) ?_) | (show W _ _ _ _ _ _ _; first | refine W_seq ?_ | refine W_text rfl (fun _ _ _ h => h) ?_ | refine W_block ?_ | refine W_skip ?_ | refine W_exit ?_ | refine W_ret ?_ | refine W_true rfl ?_ | refine W_false rfl ?_ | refine W_cond rfl (fun _ => ?_) (fun _ => ?_)))
  refine DW_s2b tabOK rfl rfl rfl rfl rfl rfl rfl rfl rfl rfl rfl ?_
  repeat' (first | (show DW _ _ _ _ _ _ _ _; first | refine DW_A tabs rfl ?_ | refine DW_nil ?_ | refine DW_lits tabOK rfl rfl rfl rfl rfl rfl rfl rfl rfl rfl rfl rfl rfl ?_ | refine DW_append_own tabOK rfl rfl rfl rfl rfl rfl rfl rfl rfl rfl rfl rfl rfl rfl rfl (by simp; omega) (by simp; omega) ?_) | (show W _ _ _ _ _ _ _; first | refine W_seq ?_ | refine W_text rfl (fun _ _ _ h => h) ?_ | refine W_block ?_ | refine W_skip ?_ | refine W_exit ?_ | refine W_ret ?_ | refine W_true rfl ?_ | refine W_false rfl ?_ | refine W_cond rfl (fun _ => ?_) (fun _ => ?_)))
  refine W_loop (fun m f N => (m = 4 ∧ N = tokM 1 ∧ f = putF k [0] 1 (3)) ∨ (m = 3 ∧ N = tokM 2 ∧ f = putF k [0, byteAt n 3] 2 (2)) ∨ (m = 2 ∧ N = tokM 3 ∧ f = putF k [0, byteAt n 3, byteAt n 2] 3 (1)) ∨ (m = 1 ∧ N = tokM 4 ∧ f = putF k [0, byteAt n 3, byteAt n 2, byteAt n 1] 4 (0)) ∨ (m = 0 ∧ N = tokM 5 ∧ f = putF k [0, byteAt n 3, byteAt n 2, byteAt n 1, byteAt n 0] 5 (-1))) (k := 4) (.inl ⟨rfl, rfl, rfl⟩) (Joint.le (AF.le_cons rfl (AF.le_cons ?_ (AF.le_cons rfl (AF.le_nil rfl)))) (tokM_of rfl rfl)) ?_
  ·exact bytes_app0
  ·rintro m f N (⟨rfl, rfl, rfl⟩ | ⟨rfl, rfl, rfl⟩ | ⟨rfl, rfl, rfl⟩ | ⟨rfl, rfl, rfl⟩ | ⟨rfl, rfl, rfl⟩)
   ·have g2 : IntKind.wrap .i64 (8 * 3) = 24 := rfl
    have g3 : IntKind.wrap .i64 (3 - 1) = 2 := rfl
    have g4 : Int.fdiv (n : Int) ((2 : Int) ^ (min (24 : Int).toNat IntKind.i64.bits)) = ((n / 256 ^ 3 : Nat) : Int) := fdiv_pow n 24
    have g5 : IntKind.wrap .u8 ((n / 256 ^ 3 : Nat) : Int) = ((byteAt n 3).toNat : Int) := byteAt_u8 n 3 _ rfl
    unfold putF
    repeat' (first | (show DW _ _ _ _ _ _ _ _; first | refine DW_V tabs rfl rfl rfl rfl (congrArg (AV.int _) hN) ?_ | refine DW_V tabs rfl rfl rfl rfl (congrArg (AV.int _) g2) ?_ | refine DW_V tabs rfl rfl rfl rfl (congrArg (AV.int _) g3) ?_ | refine DW_V tabs rfl rfl rfl rfl (congrArg (AV.int _) g4) ?_ | refine DW_V tabs rfl rfl rfl rfl (congrArg (AV.int _) g5) ?_ | refine DW_A tabs rfl ?_ | refine DW_nil ?_ | refine DW_lits tabOK rfl rfl rfl rfl rfl rfl rfl rfl rfl rfl rfl rfl rfl ?_ | refine DW_append_own tabOK rfl rfl rfl rfl rfl rfl rfl rfl rfl rfl rfl rfl rfl rfl rfl (by simp; omega) (by simp; omega) ?_) | (show W _ _ _ _ _ _ _; first | refine W_seq ?_ | refine W_text rfl (fun _ _ _ h => h) ?_ | refine W_block ?_ | refine W_skip ?_ | refine W_exit ?_ | refine W_ret ?_ | refine W_true rfl ?_ | refine W_false rfl ?_ | refine W_cond rfl (fun _ => ?_) (fun _ => ?_)))
    refine ⟨3, _, _, by omega, .inr (.inl ⟨rfl, rfl, rfl⟩), Joint.le (AF.le_cons rfl (AF.le_cons ?_ (AF.le_cons rfl (AF.le_nil rfl)))) (tokM_of rfl rfl)⟩
    exact bytes_app rfl
   ·have g2 : IntKind.wrap .i64 (8 * 2) = 16 := rfl
    have g3 : IntKind.wrap .i64 (2 - 1) = 1 := rfl
    have g4 : Int.fdiv (n : Int) ((2 : Int) ^ (min (16 : Int).toNat IntKind.i64.bits)) = ((n / 256 ^ 2 : Nat) : Int) := fdiv_pow n 16
    have g5 : IntKind.wrap .u8 ((n / 256 ^ 2 : Nat) : Int) = ((byteAt n 2).toNat : Int) := byteAt_u8 n 2 _ rfl
    unfold putF
    repeat' (first | (show DW _ _ _ _ _ _ _ _; first | refine DW_V tabs rfl rfl rfl rfl (congrArg (AV.int _) hN) ?_ | refine DW_V tabs rfl rfl rfl rfl (congrArg (AV.int _) g2) ?_ | refine DW_V tabs rfl rfl rfl rfl (congrArg (AV.int _) g3) ?_ | refine DW_V tabs rfl rfl rfl rfl (congrArg (AV.int _) g4) ?_ | refine DW_V tabs rfl rfl rfl rfl (congrArg (AV.int _) g5) ?_ | refine DW_A tabs rfl ?_ | refine DW_nil ?_ | refine DW_lits tabOK rfl rfl rfl rfl rfl rfl rfl rfl rfl rfl rfl rfl rfl ?_ | refine DW_append_own tabOK rfl rfl rfl rfl rfl rfl rfl rfl rfl rfl rfl rfl rfl rfl rfl (by simp; omega) (by simp; omega) ?_) | (show W _ _ _ _ _ _ _; first | refine W_seq ?_ | refine W_text rfl (fun _ _ _ h => h) ?_ | refine W_block ?_ | refine W_skip ?_ | refine W_exit ?_ | refine W_ret ?_ | refine W_true rfl ?_ | refine W_false rfl ?_ | refine W_cond rfl (fun _ => ?_) (fun _ => ?_)))
    refine ⟨2, _, _, by omega, .inr (.inr (.inl ⟨rfl, rfl, rfl⟩)), Joint.le (AF.le_cons rfl (AF.le_cons ?_ (AF.le_cons rfl (AF.le_nil rfl)))) (tokM_of rfl rfl)⟩
    exact bytes_app rfl
   ·have g2 : IntKind.wrap .i64 (8 * 1) = 8 := rfl
    have g3 : IntKind.wrap .i64 (1 - 1) = 0 := rfl
    have g4 : Int.fdiv (n : Int) ((2 : Int) ^ (min (8 : Int).toNat IntKind.i64.bits)) = ((n / 256 ^ 1 : Nat) : Int) := fdiv_pow n 8
    have g5 : IntKind.wrap .u8 ((n / 256 ^ 1 : Nat) : Int) = ((byteAt n 1).toNat : Int) := byteAt_u8 n 1 _ rfl
    unfold putF
    repeat' (first | (show DW _ _ _ _ _ _ _ _; first | refine DW_V tabs rfl rfl rfl rfl (congrArg (AV.int _) hN) ?_ | refine DW_V tabs rfl rfl rfl rfl (congrArg (AV.int _) g2) ?_ | refine DW_V tabs rfl rfl rfl rfl (congrArg (AV.int _) g3) ?_ | refine DW_V tabs rfl rfl rfl rfl (congrArg (AV.int _) g4) ?_ | refine DW_V tabs rfl rfl rfl rfl (congrArg (AV.int _) g5) ?_ | refine DW_A tabs rfl ?_ | refine DW_nil ?_ | refine DW_lits tabOK rfl rfl rfl rfl rfl rfl rfl rfl rfl rfl rfl rfl rfl ?_ | refine DW_append_own tabOK rfl rfl rfl rfl rfl rfl rfl rfl rfl rfl rfl rfl rfl rfl rfl (by simp; omega) (by simp; omega) ?_) | (show W _ _ _ _ _ _ _; first | refine W_seq ?_ | refine W_text rfl (fun _ _ _ h => h) ?_ | refine W_block ?_ | refine W_skip ?_ | refine W_exit ?_ | refine W_ret ?_ | refine W_true rfl ?_ | refine W_false rfl ?_ | refine W_cond rfl (fun _ => ?_) (fun _ => ?_)))
    refine ⟨1, _, _, by omega, .inr (.inr (.inr (.inl ⟨rfl, rfl, rfl⟩))), Joint.le (AF.le_cons rfl (AF.le_cons ?_ (AF.le_cons rfl (AF.le_nil rfl)))) (tokM_of rfl rfl)⟩
    exact bytes_app rfl
   ·have g2 : IntKind.wrap .i64 (8 * 0) = 0 := rfl
    have g3 : IntKind.wrap .i64 (0 - 1) = -1 := rfl
    have g4 : Int.fdiv (n : Int) ((2 : Int) ^ (min (0 : Int).toNat IntKind.i64.bits)) = ((n / 256 ^ 0 : Nat) : Int) := fdiv_pow n 0
    have g5 : IntKind.wrap .u8 ((n / 256 ^ 0 : Nat) : Int) = ((byteAt n 0).toNat : Int) := byteAt_u8 n 0 _ rfl
    unfold putF
    repeat' (first | (show DW _ _ _ _ _ _ _ _; first | refine DW_V tabs rfl rfl rfl rfl (congrArg (AV.int _) hN) ?_ | refine DW_V tabs rfl rfl rfl rfl (congrArg (AV.int _) g2) ?_ | refine DW_V tabs rfl rfl rfl rfl (congrArg (AV.int _) g3) ?_ | refine DW_V tabs rfl rfl rfl rfl (congrArg (AV.int _) g4) ?_ | refine DW_V tabs rfl rfl rfl rfl (congrArg (AV.int _) g5) ?_ | refine DW_A tabs rfl ?_ | refine DW_nil ?_ | refine DW_lits tabOK rfl rfl rfl rfl rfl rfl rfl rfl rfl rfl rfl rfl rfl ?_ | refine DW_append_own tabOK rfl rfl rfl rfl rfl rfl rfl rfl rfl rfl rfl rfl rfl rfl rfl (by simp; omega) (by simp; omega) ?_) | (show W _ _ _ _ _ _ _; first | refine W_seq ?_ | refine W_text rfl (fun _ _ _ h => h) ?_ | refine W_block ?_ | refine W_skip ?_ | refine W_exit ?_ | refine W_ret ?_ | refine W_true rfl ?_ | refine W_false rfl ?_ | refine W_cond rfl (fun _ => ?_) (fun _ => ?_)))
    refine ⟨0, _, _, by omega, .inr (.inr (.inr (.inr (⟨rfl, rfl, rfl⟩)))), Joint.le (AF.le_cons rfl (AF.le_cons ?_ (AF.le_cons rfl (AF.le_nil rfl)))) (tokM_of rfl rfl)⟩
    exact bytes_app rfl
   ·unfold putF
    repeat' (first | (show DW _ _ _ _ _ _ _ _; first | refine DW_A tabs rfl ?_ | refine DW_nil ?_ | refine DW_lits tabOK rfl rfl rfl rfl rfl rfl rfl rfl rfl rfl rfl rfl rfl ?_ | refine DW_append_own tabOK rfl rfl rfl rfl rfl rfl rfl rfl rfl rfl rfl rfl rfl rfl rfl (by simp; omega) (by simp; omega) ?_) | (show W _ _ _ _ _ _ _; first | refine W_seq ?_ | refine W_text rfl (fun _ _ _ h => h) ?_ | refine W_block ?_ | refine W_skip ?_ | refine W_exit ?_ | refine W_ret ?_ | refine W_true rfl ?_ | refine W_false rfl ?_ | refine W_cond rfl (fun _ => ?_) (fun _ => ?_)))
    refine DW_b2s tabOK rfl rfl rfl rfl rfl rfl rfl rfl rfl rfl rfl rfl ?_
    repeat' (first | (show DW _ _ _ _ _ _ _ _; first | refine DW_A tabs rfl ?_ | refine DW_nil ?_ | refine DW_lits tabOK rfl rfl rfl rfl rfl rfl rfl rfl rfl rfl rfl rfl rfl ?_ | refine DW_append_own tabOK rfl rfl rfl rfl rfl rfl rfl rfl rfl rfl rfl rfl rfl rfl rfl (by simp; omega) (by simp; omega) ?_) | (show W _ _ _ _ _ _ _; first | refine W_seq ?_ | refine W_text rfl (fun _ _ _ h => h) ?_ | refine W_block ?_ | refine W_skip ?_ | refine W_exit ?_ | refine W_ret ?_ | refine W_true rfl ?_ | refine W_false rfl ?_ | refine W_cond rfl (fun _ => ?_) (fun _ => ?_)))
    exact ⟨rfl, _, rfl, _, rfl, SubC.of_closed (closed_put (k.path ++ [0, byteAt n 3, byteAt n 2, byteAt n 1, byteAt n 0], 0))⟩
end Go.Proofs.YtmgkebghojhocaaGreatDoor
