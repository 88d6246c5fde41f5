/- Bytes of keys, read back; the first key of a path; the document's too. No further condition. -/
import Derived.Test.YteimhnedflbkmaaDoorKeyC
set_option linter.unusedVariables false
set_option linter.unusedSimpArgs false
namespace Go.Proofs.YteimhnedflbkmaaDoor
open Go.Ab

theorem tdiv_pow (n j : Nat) (m : Int) (hm : m = ((256 ^ j : Nat) : Int)) (hn : n < 4294967296) : IntKind.wrap .i64 (Int.tdiv (n : Int) m) = ((n / 256 ^ j : Nat) : Int) := by
  subst hm
  have h : Int.tdiv (n : Int) ((256 ^ j : Nat) : Int) = ((n / 256 ^ j : Nat) : Int) := Int.tdiv_eq_ediv_of_nonneg (Int.natCast_nonneg _)
  rw [h]
  have := Nat.div_le_self n (256 ^ j)
  generalize n / 256 ^ j = q at this
  exact Go.Ab.wrap_small (by omega) (by omega)
theorem tmod_256 (m : Nat) : Int.tmod (m : Int) 256 = ((m % 256 : Nat) : Int) := Int.tmod_eq_emod_of_nonneg (Int.natCast_nonneg _)

theorem rPut_ok (k : Ky) (hs : k.path.length < 1000000) : APure Tryd.prog 21 [k.av] (putA (putB k)) := by
  refine pure_sub (closed1 (closed_ky k)) (closed_put _) ?_
  refine acalls_of tabOK Tryd.func21 rfl (by decide) (by simp [Tryd.f21]) ?_
  have ki := rIsKey_ok k hs
  unfold putB
  cases h : isKeyB k
  · rw [h] at ki
    repeat' (first | (show DW _ _ _ _ _ _ _ _; first | refine DW_A tabs rfl ?_ | refine DW_nil ?_ | refine DW_lits tabOK rfl rfl rfl rfl rfl rfl rfl rfl rfl rfl rfl rfl rfl ?_ | refine DW_append_own tabOK rfl rfl rfl rfl rfl rfl rfl rfl rfl rfl rfl rfl rfl rfl rfl (by simp; omega) (by simp; omega) ?_) | (show W _ _ _ _ _ _; first | refine W_seq ?_ | refine W_text rfl (fun _ _ _ h => h) ?_ | refine W_block ?_ | refine W_skip ?_ | refine W_exit ?_ | refine W_ret ?_ | refine W_true rfl ?_ | refine W_false rfl ?_ | refine W_cond rfl (fun _ => ?_) (fun _ => ?_)))
    refine DW_pure rfl rfl rfl rfl rfl ki ?_
    repeat' (first | (show DW _ _ _ _ _ _ _ _; first | refine DW_A tabs rfl ?_ | refine DW_nil ?_ | refine DW_lits tabOK rfl rfl rfl rfl rfl rfl rfl rfl rfl rfl rfl rfl rfl ?_ | refine DW_append_own tabOK rfl rfl rfl rfl rfl rfl rfl rfl rfl rfl rfl rfl rfl rfl rfl (by simp; omega) (by simp; omega) ?_) | (show W _ _ _ _ _ _; first | refine W_seq ?_ | refine W_text rfl (fun _ _ _ h => h) ?_ | refine W_block ?_ | refine W_skip ?_ | refine W_exit ?_ | refine W_ret ?_ | refine W_true rfl ?_ | refine W_false rfl ?_ | refine W_cond rfl (fun _ => ?_) (fun _ => ?_)))
    exact ⟨rfl, _, rfl, _, rfl, SubC.of_closed (closed_put ([], 1))⟩
  · obtain ⟨_, h1, h2⟩ := key_parts h
    rw [h] at ki
    obtain ⟨n, hn⟩ : ∃ n : Nat, (4294967295 - k.time).toNat = n := ⟨_, rfl⟩
    have hN : IntKind.wrap .i64 (4294967295 - k.time) = (n : Int) := (Go.Ab.wrap_small (i := 4294967295 - k.time) (by omega) (by omega)).trans (by omega)
    have hb : n < 4294967296 := by omega
    rw [if_pos rfl, hn]
    have q3 : IntKind.wrap .i64 (Int.tdiv (n : Int) 16777216) = ((n / 256 ^ 3 : Nat) : Int) := tdiv_pow n 3 _ rfl hb
    have q2 : IntKind.wrap .i64 (Int.tdiv (n : Int) 65536) = ((n / 256 ^ 2 : Nat) : Int) := tdiv_pow n 2 _ rfl hb
    have q1 : IntKind.wrap .i64 (Int.tdiv (n : Int) 256) = ((n / 256 ^ 1 : Nat) : Int) := tdiv_pow n 1 _ rfl hb
    have r2 := tmod_256 (n / 256 ^ 2)
    have r1 := tmod_256 (n / 256 ^ 1)
    have r0 : Int.tmod (n : Int) 256 = ((n / 256 ^ 0 % 256 : Nat) : Int) := by
      have := tmod_256 n
      simpa using this
    have b3 := byteAt_u8 n 3 _ rfl
    have b2 := byteAt_u8m n 2 _ rfl
    have b1 := byteAt_u8m n 1 _ rfl
    have b0 := byteAt_u8m n 0 _ rfl
    repeat' (first | (show DW _ _ _ _ _ _ _ _; first | refine DW_A tabs rfl ?_ | refine DW_nil ?_ | refine DW_lits tabOK rfl rfl rfl rfl rfl rfl rfl rfl rfl rfl rfl rfl rfl ?_ | refine DW_append_own tabOK rfl rfl rfl rfl rfl rfl rfl rfl rfl rfl rfl rfl rfl rfl rfl (by simp; omega) (by simp; omega) ?_) | (show W _ _ _ _ _ _; first | refine W_seq ?_ | refine W_text rfl (fun _ _ _ h => h) ?_ | refine W_block ?_ | refine W_skip ?_ | refine W_exit ?_ | refine W_ret ?_ | refine W_true rfl ?_ | refine W_false rfl ?_ | refine W_cond rfl (fun _ => ?_) (fun _ => ?_)))
    refine DW_pure rfl rfl rfl rfl rfl ki ?_
    repeat' (first | (show DW _ _ _ _ _ _ _ _; first | refine DW_V tabs rfl rfl rfl rfl (congrArg (AV.int _) hN) ?_ | refine DW_V tabs rfl rfl rfl rfl (congrArg (AV.int _) q3) ?_ | refine DW_V tabs rfl rfl rfl rfl (congrArg (AV.int _) q2) ?_ | refine DW_V tabs rfl rfl rfl rfl (congrArg (AV.int _) q1) ?_ | refine DW_V tabs rfl rfl rfl rfl (congrArg (AV.int _) r2) ?_ | refine DW_V tabs rfl rfl rfl rfl (congrArg (AV.int _) r1) ?_ | refine DW_V tabs rfl rfl rfl rfl (congrArg (AV.int _) r0) ?_ | refine DW_V tabs rfl rfl rfl rfl (congrArg (AV.int _) b3) ?_ | refine DW_V tabs rfl rfl rfl rfl (congrArg (AV.int _) b2) ?_ | refine DW_V tabs rfl rfl rfl rfl (congrArg (AV.int _) b1) ?_ | refine DW_V tabs rfl rfl rfl rfl (congrArg (AV.int _) b0) ?_ | refine DW_A tabs rfl ?_ | refine DW_nil ?_ | refine DW_lits tabOK rfl rfl rfl rfl rfl rfl rfl rfl rfl rfl rfl rfl rfl ?_ | refine DW_append_own tabOK rfl rfl rfl rfl rfl rfl rfl rfl rfl rfl rfl rfl rfl rfl rfl (by simp; omega) (by simp; omega) ?_) | (show W _ _ _ _ _ _; first | refine W_seq ?_ | refine W_text rfl (fun _ _ _ h => h) ?_ | refine W_block ?_ | refine W_skip ?_ | refine W_exit ?_ | refine W_ret ?_ | refine W_true rfl ?_ | refine W_false rfl ?_ | refine W_cond rfl (fun _ => ?_) (fun _ => ?_)))
    refine DW_b2s tabOK rfl rfl rfl rfl rfl rfl rfl rfl rfl rfl rfl (bs := [0, byteAt n 3, byteAt n 2, byteAt n 1, byteAt n 0]) rfl ?_
    repeat' (first | (show DW _ _ _ _ _ _ _ _; first | refine DW_A tabs rfl ?_ | refine DW_nil ?_ | refine DW_lits tabOK rfl rfl rfl rfl rfl rfl rfl rfl rfl rfl rfl rfl rfl ?_ | refine DW_append_own tabOK rfl rfl rfl rfl rfl rfl rfl rfl rfl rfl rfl rfl rfl rfl rfl (by simp; omega) (by simp; omega) ?_) | (show W _ _ _ _ _ _; first | refine W_seq ?_ | refine W_text rfl (fun _ _ _ h => h) ?_ | refine W_block ?_ | refine W_skip ?_ | refine W_exit ?_ | refine W_ret ?_ | refine W_true rfl ?_ | refine W_false rfl ?_ | refine W_cond rfl (fun _ => ?_) (fun _ => ?_)))
    refine DW_concat rfl rfl rfl rfl rfl rfl (by simp; omega) ?_
    repeat' (first | (show DW _ _ _ _ _ _ _ _; first | refine DW_A tabs rfl ?_ | refine DW_nil ?_ | refine DW_lits tabOK rfl rfl rfl rfl rfl rfl rfl rfl rfl rfl rfl rfl rfl ?_ | refine DW_append_own tabOK rfl rfl rfl rfl rfl rfl rfl rfl rfl rfl rfl rfl rfl rfl rfl (by simp; omega) (by simp; omega) ?_) | (show W _ _ _ _ _ _; first | refine W_seq ?_ | refine W_text rfl (fun _ _ _ h => h) ?_ | refine W_block ?_ | refine W_skip ?_ | refine W_exit ?_ | refine W_ret ?_ | refine W_true rfl ?_ | refine W_false rfl ?_ | refine W_cond rfl (fun _ => ?_) (fun _ => ?_)))
    exact ⟨rfl, _, rfl, _, rfl, SubC.of_closed (closed_put (k.path ++ [0, byteAt n 3, byteAt n 2, byteAt n 1, byteAt n 0], 0))⟩

/-- A number's value, the highest byte first. -/
def num (l : Bytes) : Nat := l.foldl (fun n b => n * 256 + b.toNat) 0
theorem num_app (l : Bytes) (b : UInt8) : num (l ++ [b]) = num l * 256 + b.toNat := by simp [num]
theorem num_lt : ∀ (k : Nat) (l : Bytes), l.length ≤ k → num l < 256 ^ k := by
  intro k
  induction k with
  | zero =>
    intro l h
    have : l = [] := List.eq_nil_of_length_eq_zero (by omega)
    subst this
    simp [num]
  | succ k ih =>
    intro l h
    rcases List.eq_nil_or_concat l with rfl | ⟨m, b, rfl⟩
    · have : 0 < 256 ^ (k + 1) := Nat.pow_pos (by omega)
      simpa [num] using this
    · rw [List.concat_eq_append, num_app]
      have h1 := ih m (by simp at h; omega)
      have h2 := b.toNat_lt
      rw [Nat.pow_succ]
      omega

theorem or_256 (n : Nat) (b : UInt8) (hn : n < 1000000000000) : IntKind.wrap .i64 ((BitVec.ofInt IntKind.i64.bits ((n * 256 : Nat) : Int) ||| BitVec.ofInt IntKind.i64.bits ((b.toNat : Nat) : Int)).toNat) = ((n * 256 + b.toNat : Nat) : Int) := by
  have hb := b.toNat_lt
  have e : IntKind.i64.bits = 64 := rfl
  have h : (BitVec.ofInt IntKind.i64.bits ((n * 256 : Nat) : Int) ||| BitVec.ofInt IntKind.i64.bits ((b.toNat : Nat) : Int)).toNat = n * 256 + b.toNat := by
    rw [BitVec.toNat_or, BitVec.ofInt_natCast, BitVec.ofInt_natCast, BitVec.toNat_ofNat, BitVec.toNat_ofNat, e, Nat.mod_eq_of_lt (by omega), Nat.mod_eq_of_lt (by omega)]
    have := Nat.shiftLeft_add_eq_or_of_lt (a := n) (b := b.toNat) (i := 8) (by omega)
    rw [Nat.shiftLeft_eq] at this
    exact this.symm
  rw [h]
  exact Go.Ab.wrap_small (by omega) (by omega)

def zeroK : Ky := ⟨[], 0⟩
def getB (s : Bytes) : Ky × Int :=
  if s.length < 5 ∨ s[s.length - 5]? ≠ some 0 then (zeroK, 30) else
  if isKeyB ⟨s.take (s.length - 5), 4294967295 - (num (s.drop (s.length - 4)) : Int)⟩ = true then (⟨s.take (s.length - 5), 4294967295 - (num (s.drop (s.length - 4)) : Int)⟩, 0) else (zeroK, 30)
def getA (x : Ky × Int) : AV := .tup [x.1.av, .int .i64 x.2]
theorem closed_get (x : Ky × Int) : Closed (getA x) := closed_tup (closed2 (closed_ky _) closed_int)
def zeroM : Mem := ⟨1, [(0, .cells [.str [], .int .i64 0])]⟩
theorem zeroM_of {M : Mem} (hn : 1 = M.next) (h1 : M.get 0 = some (.cells [.str [], .int .i64 0])) : zeroM.le M := Mem.le_cons h1 (Mem.le_nil hn)

theorem byte_i64 (b : UInt8) : IntKind.wrap .i64 ((b.toNat : Nat) : Int) = ((b.toNat : Nat) : Int) := by
  have := b.toNat_lt
  exact Go.Ab.wrap_small (by omega) (by omega)
theorem take_drop_succ {s : Bytes} {i e : Nat} {b : UInt8} (he : e ≤ i) (hb : s[i]? = some b) : (s.take (i + 1)).drop e = (s.take i).drop e ++ [b] := by
  have hi := (List.getElem?_eq_some_iff.1 hb).1
  rw [take_succ hb, List.drop_append_of_le_length (by simp; omega)]

set_option maxHeartbeats 1000000 in
theorem get_ok (s : Bytes) (hs : s.length < 1000000) : APure Tryd.prog 16 [.str s] (getA (getB s)) := by
  refine pure_sub (closed1 closed_str) (closed_get _) ?_
  refine acalls_of tabOK Tryd.func16 rfl (by decide) (by simp [Tryd.f16]) ?_
  unfold getB
  by_cases h5 : s.length < 5
  · have e1 : IntKind.wrap .i64 ((s.length : Int) - 4) = (s.length : Int) - 4 := Go.Ab.wrap_small (by omega) (by omega)
    have d1 : decide ((s.length : Int) - 4 < 1) = true := by simp; omega
    rw [if_pos (.inl h5)]
    repeat' (first | (show DW _ _ _ _ _ _ _ _; first | refine DW_V tabs rfl rfl rfl rfl (congrArg AV.bool d1) ?_ | refine DW_V tabs rfl rfl rfl rfl (congrArg (AV.int _) e1) ?_ | refine DW_A tabs rfl ?_ | refine DW_nil ?_ | refine DW_lits tabOK rfl rfl rfl rfl rfl rfl rfl rfl rfl rfl rfl rfl rfl ?_ | refine DW_append_own tabOK rfl rfl rfl rfl rfl rfl rfl rfl rfl rfl rfl rfl rfl rfl rfl (by simp; omega) (by simp; omega) ?_) | (show W _ _ _ _ _ _; first | refine W_seq ?_ | refine W_text rfl (fun _ _ _ h => h) ?_ | refine W_block ?_ | refine W_skip ?_ | refine W_exit ?_ | refine W_ret ?_ | refine W_true rfl ?_ | refine W_false rfl ?_ | refine W_cond rfl (fun _ => ?_) (fun _ => ?_)))
    exact ⟨rfl, _, rfl, _, rfl, SubC.of_closed (closed_get (zeroK, 30))⟩
  · have e1 : IntKind.wrap .i64 ((s.length : Int) - 4) = ((s.length - 4 : Nat) : Int) := (Go.Ab.wrap_small (by omega) (by omega)).trans (by omega)
    have e2 : IntKind.wrap .i64 (((s.length - 4 : Nat) : Int) - 1) = ((s.length - 5 : Nat) : Int) := (Go.Ab.wrap_small (by omega) (by omega)).trans (by omega)
    have d1 : decide (((s.length - 4 : Nat) : Int) < 1) = false := by simp; omega
    have hlt : s.length - 5 < s.length := by omega
    have hx : s[s.length - 5]? = some s[s.length - 5] := List.getElem?_eq_getElem hlt
    generalize s[s.length - 5] = z at hx
    by_cases hz : z = 0
    · subst hz
      have d2 : (!decide (((0 : UInt8).toNat : Int) = 0)) = false := rfl
      rw [if_neg (by rw [hx]; simp; omega)]
      obtain ⟨n, hn⟩ : ∃ n, num (s.drop (s.length - 4)) = n := ⟨_, rfl⟩
      have hnl : n < 4294967296 := by
        rw [← hn]
        exact num_lt 4 _ (by simp; omega)
      rw [hn]
      have e3 : IntKind.wrap .i64 (4294967295 - (n : Int)) = 4294967295 - (n : Int) := Go.Ab.wrap_small (by omega) (by omega)
      have ki := isKey_ok ⟨s.take (s.length - 5), 4294967295 - (n : Int)⟩ (by simp; omega)
      repeat' (first | (show DW _ _ _ _ _ _ _ _; first | refine DW_V tabs rfl rfl rfl rfl (congrArg AV.bool d1) ?_ | refine DW_V tabs rfl rfl rfl rfl (congrArg (AV.int _) e1) ?_ | refine DW_V tabs rfl rfl rfl rfl (congrArg (AV.int _) e2) ?_ | refine DW_A tabs rfl ?_ | refine DW_nil ?_ | refine DW_lits tabOK rfl rfl rfl rfl rfl rfl rfl rfl rfl rfl rfl rfl rfl ?_ | refine DW_append_own tabOK rfl rfl rfl rfl rfl rfl rfl rfl rfl rfl rfl rfl rfl rfl rfl (by simp; omega) (by simp; omega) ?_) | (show W _ _ _ _ _ _; first | refine W_seq ?_ | refine W_text rfl (fun _ _ _ h => h) ?_ | refine W_block ?_ | refine W_skip ?_ | refine W_exit ?_ | refine W_ret ?_ | refine W_true rfl ?_ | refine W_false rfl ?_ | refine W_cond rfl (fun _ => ?_) (fun _ => ?_)))
      refine DW_byte tabOK rfl rfl rfl rfl rfl rfl rfl rfl (Int.natCast_nonneg _) (c := 0) (by simpa using hx) ?_
      repeat' (first | (show DW _ _ _ _ _ _ _ _; first | refine DW_V tabs rfl rfl rfl rfl (congrArg AV.bool d1) ?_ | refine DW_V tabs rfl rfl rfl rfl (congrArg AV.bool d2) ?_ | refine DW_V tabs rfl rfl rfl rfl (congrArg (AV.int _) e1) ?_ | refine DW_V tabs rfl rfl rfl rfl (congrArg (AV.int _) e2) ?_ | refine DW_A tabs rfl ?_ | refine DW_nil ?_ | refine DW_lits tabOK rfl rfl rfl rfl rfl rfl rfl rfl rfl rfl rfl rfl rfl ?_ | refine DW_append_own tabOK rfl rfl rfl rfl rfl rfl rfl rfl rfl rfl rfl rfl rfl rfl rfl (by simp; omega) (by simp; omega) ?_) | (show W _ _ _ _ _ _; first | refine W_seq ?_ | refine W_text rfl (fun _ _ _ h => h) ?_ | refine W_block ?_ | refine W_skip ?_ | refine W_exit ?_ | refine W_ret ?_ | refine W_true rfl ?_ | refine W_false rfl ?_ | refine W_cond rfl (fun _ => ?_) (fun _ => ?_)))
      refine W_count s.length (fun i f N => s.length - 4 ≤ i ∧ N = zeroM ∧ f = ⟨[(0, .str s), (2, .ptr 0 0), (4, .int .i64 ((s.length - 4 : Nat) : Int)), (5, .int .i64 ((num ((s.take i).drop (s.length - 4)) : Nat) : Int)), (6, .int .i64 (i : Int))], []⟩) (i0 := s.length - 4) (by omega) ⟨by omega, rfl, rfl⟩ (Joint.le (AF.le_cons rfl (AF.le_cons rfl (AF.le_cons rfl (AF.le_cons ?_ (AF.le_cons rfl (AF.le_nil rfl)))))) (zeroM_of rfl rfl)) ?_
      · have : (s.take (s.length - 4)).drop (s.length - 4) = [] := by simp
        rw [this]
        rfl
      · rintro i f N hi ⟨hei, rfl, rfl⟩
        by_cases h1 : i < s.length
        · have d3 : decide ((i : Int) < (s.length : Int)) = true := by simp; omega
          have hxi : s[i]? = some s[i] := List.getElem?_eq_getElem h1
          have fi := wrap_succ (i := i) (by omega)
          generalize s[i] = b at hxi
          have ht := take_drop_succ hei hxi
          have hnm := num_app ((s.take i).drop (s.length - 4)) b
          rw [← ht] at hnm
          have hml : num ((s.take i).drop (s.length - 4)) < 256 ^ 4 := num_lt 4 _ (by simp; omega)
          generalize num ((s.take i).drop (s.length - 4)) = m at hnm hml
          have hb := b.toNat_lt
          have g1 : IntKind.wrap .i64 ((m : Int) * (2 : Int) ^ (min (8 : Int).toNat IntKind.i64.bits)) = ((m * 256 : Nat) : Int) := by
            have : (2 : Int) ^ (min (8 : Int).toNat IntKind.i64.bits) = 256 := rfl
            rw [this]
            exact (Go.Ab.wrap_small (by omega) (by omega)).trans (by omega)
          have g2 := byte_i64 b
          have g3 := or_256 m b (by omega)
          repeat' (first | (show DW _ _ _ _ _ _ _ _; first | refine DW_V tabs rfl rfl rfl rfl (congrArg AV.bool d3) ?_ | refine DW_V tabs rfl rfl rfl rfl (congrArg (AV.int _) g1) ?_ | refine DW_V tabs rfl rfl rfl rfl (congrArg (AV.int _) fi) ?_ | refine DW_A tabs rfl ?_ | refine DW_nil ?_ | refine DW_lits tabOK rfl rfl rfl rfl rfl rfl rfl rfl rfl rfl rfl rfl rfl ?_ | refine DW_append_own tabOK rfl rfl rfl rfl rfl rfl rfl rfl rfl rfl rfl rfl rfl rfl rfl (by simp; omega) (by simp; omega) ?_) | (show W _ _ _ _ _ _; first | refine W_seq ?_ | refine W_text rfl (fun _ _ _ h => h) ?_ | refine W_block ?_ | refine W_skip ?_ | refine W_exit ?_ | refine W_ret ?_ | refine W_true rfl ?_ | refine W_false rfl ?_ | refine W_cond rfl (fun _ => ?_) (fun _ => ?_)))
          refine DW_byte tabOK rfl rfl rfl rfl rfl rfl rfl rfl (Int.natCast_nonneg _) (c := b) (by simpa using hxi) ?_
          repeat' (first | (show DW _ _ _ _ _ _ _ _; first | refine DW_V tabs rfl rfl rfl rfl (congrArg (AV.int _) g2) ?_ | refine DW_V tabs rfl rfl rfl rfl (congrArg (AV.int _) g3) ?_ | refine DW_V tabs rfl rfl rfl rfl (congrArg (AV.int _) fi) ?_ | refine DW_A tabs rfl ?_ | refine DW_nil ?_ | refine DW_lits tabOK rfl rfl rfl rfl rfl rfl rfl rfl rfl rfl rfl rfl rfl ?_ | refine DW_append_own tabOK rfl rfl rfl rfl rfl rfl rfl rfl rfl rfl rfl rfl rfl rfl rfl (by simp; omega) (by simp; omega) ?_) | (show W _ _ _ _ _ _; first | refine W_seq ?_ | refine W_text rfl (fun _ _ _ h => h) ?_ | refine W_block ?_ | refine W_skip ?_ | refine W_exit ?_ | refine W_ret ?_ | refine W_true rfl ?_ | refine W_false rfl ?_ | refine W_cond rfl (fun _ => ?_) (fun _ => ?_)))
          refine ⟨h1, _, _, ⟨by omega, rfl, rfl⟩, Joint.le (AF.le_cons rfl (AF.le_cons rfl (AF.le_cons rfl (AF.le_cons ?_ (AF.le_cons rfl (AF.le_nil rfl)))))) (zeroM_of rfl rfl)⟩
          rw [hnm]
          rfl
        · have d3 : decide ((i : Int) < (s.length : Int)) = false := by simp; omega
          obtain rfl : i = s.length := by omega
          rw [List.take_length, hn]
          cases hk : isKeyB ⟨s.take (s.length - 5), 4294967295 - (n : Int)⟩
          · rw [hk] at ki
            repeat' (first | (show DW _ _ _ _ _ _ _ _; first | refine DW_V tabs rfl rfl rfl rfl (congrArg AV.bool d3) ?_ | refine DW_V tabs rfl rfl rfl rfl (congrArg (AV.int _) e2) ?_ | refine DW_V tabs rfl rfl rfl rfl (congrArg (AV.int _) e3) ?_ | refine DW_A tabs rfl ?_ | refine DW_nil ?_ | refine DW_lits tabOK rfl rfl rfl rfl rfl rfl rfl rfl rfl rfl rfl rfl rfl ?_ | refine DW_append_own tabOK rfl rfl rfl rfl rfl rfl rfl rfl rfl rfl rfl rfl rfl rfl rfl (by simp; omega) (by simp; omega) ?_) | (show W _ _ _ _ _ _; first | refine W_seq ?_ | refine W_text rfl (fun _ _ _ h => h) ?_ | refine W_block ?_ | refine W_skip ?_ | refine W_exit ?_ | refine W_ret ?_ | refine W_true rfl ?_ | refine W_false rfl ?_ | refine W_cond rfl (fun _ => ?_) (fun _ => ?_)))
            refine DW_substr tabOK rfl rfl rfl rfl rfl rfl rfl rfl rfl (Int.le_refl 0) (by omega) (by omega) ?_
            repeat' (first | (show DW _ _ _ _ _ _ _ _; first | refine DW_V tabs rfl rfl rfl rfl (congrArg (AV.int _) e3) ?_ | refine DW_A tabs rfl ?_ | refine DW_nil ?_ | refine DW_lits tabOK rfl rfl rfl rfl rfl rfl rfl rfl rfl rfl rfl rfl rfl ?_ | refine DW_append_own tabOK rfl rfl rfl rfl rfl rfl rfl rfl rfl rfl rfl rfl rfl rfl rfl (by simp; omega) (by simp; omega) ?_) | (show W _ _ _ _ _ _; first | refine W_seq ?_ | refine W_text rfl (fun _ _ _ h => h) ?_ | refine W_block ?_ | refine W_skip ?_ | refine W_exit ?_ | refine W_ret ?_ | refine W_true rfl ?_ | refine W_false rfl ?_ | refine W_cond rfl (fun _ => ?_) (fun _ => ?_)))
            refine DW_pure rfl rfl rfl rfl rfl ki ?_
            repeat' (first | (show DW _ _ _ _ _ _ _ _; first | refine DW_A tabs rfl ?_ | refine DW_nil ?_ | refine DW_lits tabOK rfl rfl rfl rfl rfl rfl rfl rfl rfl rfl rfl rfl rfl ?_ | refine DW_append_own tabOK rfl rfl rfl rfl rfl rfl rfl rfl rfl rfl rfl rfl rfl rfl rfl (by simp; omega) (by simp; omega) ?_) | (show W _ _ _ _ _ _; first | refine W_seq ?_ | refine W_text rfl (fun _ _ _ h => h) ?_ | refine W_block ?_ | refine W_skip ?_ | refine W_exit ?_ | refine W_ret ?_ | refine W_true rfl ?_ | refine W_false rfl ?_ | refine W_cond rfl (fun _ => ?_) (fun _ => ?_)))
            exact ⟨rfl, _, rfl, _, rfl, SubC.of_closed (closed_get (zeroK, 30))⟩
          · rw [hk] at ki
            repeat' (first | (show DW _ _ _ _ _ _ _ _; first | refine DW_V tabs rfl rfl rfl rfl (congrArg AV.bool d3) ?_ | refine DW_V tabs rfl rfl rfl rfl (congrArg (AV.int _) e2) ?_ | refine DW_V tabs rfl rfl rfl rfl (congrArg (AV.int _) e3) ?_ | refine DW_A tabs rfl ?_ | refine DW_nil ?_ | refine DW_lits tabOK rfl rfl rfl rfl rfl rfl rfl rfl rfl rfl rfl rfl rfl ?_ | refine DW_append_own tabOK rfl rfl rfl rfl rfl rfl rfl rfl rfl rfl rfl rfl rfl rfl rfl (by simp; omega) (by simp; omega) ?_) | (show W _ _ _ _ _ _; first | refine W_seq ?_ | refine W_text rfl (fun _ _ _ h => h) ?_ | refine W_block ?_ | refine W_skip ?_ | refine W_exit ?_ | refine W_ret ?_ | refine W_true rfl ?_ | refine W_false rfl ?_ | refine W_cond rfl (fun _ => ?_) (fun _ => ?_)))
            refine DW_substr tabOK rfl rfl rfl rfl rfl rfl rfl rfl rfl (Int.le_refl 0) (by omega) (by omega) ?_
            repeat' (first | (show DW _ _ _ _ _ _ _ _; first | refine DW_V tabs rfl rfl rfl rfl (congrArg (AV.int _) e3) ?_ | refine DW_A tabs rfl ?_ | refine DW_nil ?_ | refine DW_lits tabOK rfl rfl rfl rfl rfl rfl rfl rfl rfl rfl rfl rfl rfl ?_ | refine DW_append_own tabOK rfl rfl rfl rfl rfl rfl rfl rfl rfl rfl rfl rfl rfl rfl rfl (by simp; omega) (by simp; omega) ?_) | (show W _ _ _ _ _ _; first | refine W_seq ?_ | refine W_text rfl (fun _ _ _ h => h) ?_ | refine W_block ?_ | refine W_skip ?_ | refine W_exit ?_ | refine W_ret ?_ | refine W_true rfl ?_ | refine W_false rfl ?_ | refine W_cond rfl (fun _ => ?_) (fun _ => ?_)))
            refine DW_pure rfl rfl rfl rfl rfl ki ?_
            repeat' (first | (show DW _ _ _ _ _ _ _ _; first | refine DW_A tabs rfl ?_ | refine DW_nil ?_ | refine DW_lits tabOK rfl rfl rfl rfl rfl rfl rfl rfl rfl rfl rfl rfl rfl ?_ | refine DW_append_own tabOK rfl rfl rfl rfl rfl rfl rfl rfl rfl rfl rfl rfl rfl rfl rfl (by simp; omega) (by simp; omega) ?_) | (show W _ _ _ _ _ _; first | refine W_seq ?_ | refine W_text rfl (fun _ _ _ h => h) ?_ | refine W_block ?_ | refine W_skip ?_ | refine W_exit ?_ | refine W_ret ?_ | refine W_true rfl ?_ | refine W_false rfl ?_ | refine W_cond rfl (fun _ => ?_) (fun _ => ?_)))
            exact ⟨rfl, _, rfl, _, rfl, SubC.of_closed (closed_get (⟨s.take (s.length - 5), 4294967295 - (n : Int)⟩, 0))⟩
    · have d2 : (!decide ((z.toNat : Int) = 0)) = true := by
        simp only [Bool.not_eq_true', decide_eq_false_iff_not]
        intro h
        apply hz
        apply UInt8.toNat_inj.1
        have : (0 : UInt8).toNat = 0 := rfl
        omega
      rw [if_pos (.inr (by rw [hx]; exact fun h => hz (Option.some.inj h)))]
      repeat' (first | (show DW _ _ _ _ _ _ _ _; first | refine DW_V tabs rfl rfl rfl rfl (congrArg AV.bool d1) ?_ | refine DW_V tabs rfl rfl rfl rfl (congrArg (AV.int _) e1) ?_ | refine DW_V tabs rfl rfl rfl rfl (congrArg (AV.int _) e2) ?_ | refine DW_A tabs rfl ?_ | refine DW_nil ?_ | refine DW_lits tabOK rfl rfl rfl rfl rfl rfl rfl rfl rfl rfl rfl rfl rfl ?_ | refine DW_append_own tabOK rfl rfl rfl rfl rfl rfl rfl rfl rfl rfl rfl rfl rfl rfl rfl (by simp; omega) (by simp; omega) ?_) | (show W _ _ _ _ _ _; first | refine W_seq ?_ | refine W_text rfl (fun _ _ _ h => h) ?_ | refine W_block ?_ | refine W_skip ?_ | refine W_exit ?_ | refine W_ret ?_ | refine W_true rfl ?_ | refine W_false rfl ?_ | refine W_cond rfl (fun _ => ?_) (fun _ => ?_)))
      refine DW_byte tabOK rfl rfl rfl rfl rfl rfl rfl rfl (Int.natCast_nonneg _) (c := z) (by rw [Int.toNat_natCast]; exact hx) ?_
      repeat' (first | (show DW _ _ _ _ _ _ _ _; first | refine DW_V tabs rfl rfl rfl rfl (congrArg AV.bool d1) ?_ | refine DW_V tabs rfl rfl rfl rfl (congrArg AV.bool d2) ?_ | refine DW_V tabs rfl rfl rfl rfl (congrArg (AV.int _) e1) ?_ | refine DW_V tabs rfl rfl rfl rfl (congrArg (AV.int _) e2) ?_ | refine DW_A tabs rfl ?_ | refine DW_nil ?_ | refine DW_lits tabOK rfl rfl rfl rfl rfl rfl rfl rfl rfl rfl rfl rfl rfl ?_ | refine DW_append_own tabOK rfl rfl rfl rfl rfl rfl rfl rfl rfl rfl rfl rfl rfl rfl rfl (by simp; omega) (by simp; omega) ?_) | (show W _ _ _ _ _ _; first | refine W_seq ?_ | refine W_text rfl (fun _ _ _ h => h) ?_ | refine W_block ?_ | refine W_skip ?_ | refine W_exit ?_ | refine W_ret ?_ | refine W_true rfl ?_ | refine W_false rfl ?_ | refine W_cond rfl (fun _ => ?_) (fun _ => ?_)))
      exact ⟨rfl, _, rfl, _, rfl, SubC.of_closed (closed_get (zeroK, 30))⟩

def rgetB (s : Bytes) : Ky × Int :=
  if s.length < 5 then (zeroK, 30) else
  if (putB ⟨s.take (s.length - 5), 4294967295 - (num (s.drop (s.length - 4)) : Int)⟩).2 ≠ 0 ∨ (putB ⟨s.take (s.length - 5), 4294967295 - (num (s.drop (s.length - 4)) : Int)⟩).1 ≠ s then (zeroK, 30)
  else (⟨s.take (s.length - 5), 4294967295 - (num (s.drop (s.length - 4)) : Int)⟩, 0)

set_option maxHeartbeats 1000000 in
theorem rGet_ok (s : Bytes) (hs : s.length < 1000000) : APure Tryd.prog 22 [.str s] (getA (rgetB s)) := by
  refine pure_sub (closed1 closed_str) (closed_get _) ?_
  refine acalls_of tabOK Tryd.func22 rfl (by decide) (by simp [Tryd.f22]) ?_
  unfold rgetB
  by_cases h5 : s.length < 5
  · have e1 : IntKind.wrap .i64 ((s.length : Int) - 5) = (s.length : Int) - 5 := Go.Ab.wrap_small (by omega) (by omega)
    have d1 : decide ((s.length : Int) - 5 < 0) = true := by simp; omega
    rw [if_pos h5]
    repeat' (first | (show DW _ _ _ _ _ _ _ _; first | refine DW_V tabs rfl rfl rfl rfl (congrArg AV.bool d1) ?_ | refine DW_V tabs rfl rfl rfl rfl (congrArg (AV.int _) e1) ?_ | refine DW_A tabs rfl ?_ | refine DW_nil ?_ | refine DW_lits tabOK rfl rfl rfl rfl rfl rfl rfl rfl rfl rfl rfl rfl rfl ?_ | refine DW_append_own tabOK rfl rfl rfl rfl rfl rfl rfl rfl rfl rfl rfl rfl rfl rfl rfl (by simp; omega) (by simp; omega) ?_) | (show W _ _ _ _ _ _; first | refine W_seq ?_ | refine W_text rfl (fun _ _ _ h => h) ?_ | refine W_block ?_ | refine W_skip ?_ | refine W_exit ?_ | refine W_ret ?_ | refine W_true rfl ?_ | refine W_false rfl ?_ | refine W_cond rfl (fun _ => ?_) (fun _ => ?_)))
    exact ⟨rfl, _, rfl, _, rfl, SubC.of_closed (closed_get (zeroK, 30))⟩
  · have e1 : IntKind.wrap .i64 ((s.length : Int) - 5) = ((s.length - 5 : Nat) : Int) := (Go.Ab.wrap_small (by omega) (by omega)).trans (by omega)
    have e2 : IntKind.wrap .i64 (((s.length - 5 : Nat) : Int) + 1) = ((s.length - 4 : Nat) : Int) := (Go.Ab.wrap_small (by omega) (by omega)).trans (by omega)
    have d1 : decide (((s.length - 5 : Nat) : Int) < 0) = false := by simp
    rw [if_neg h5]
    obtain ⟨n, hn⟩ : ∃ n, num (s.drop (s.length - 4)) = n := ⟨_, rfl⟩
    have hnl : n < 4294967296 := by
      rw [← hn]
      exact num_lt 4 _ (by simp; omega)
    rw [hn]
    have e3 : IntKind.wrap .i64 (4294967295 - (n : Int)) = 4294967295 - (n : Int) := Go.Ab.wrap_small (by omega) (by omega)
    have kp := rPut_ok ⟨s.take (s.length - 5), 4294967295 - (n : Int)⟩ (by simp; omega)
    generalize putB ⟨s.take (s.length - 5), 4294967295 - (n : Int)⟩ = pp at kp
    obtain ⟨pt, pe⟩ := pp
    repeat' (first | (show DW _ _ _ _ _ _ _ _; first | refine DW_V tabs rfl rfl rfl rfl (congrArg AV.bool d1) ?_ | refine DW_V tabs rfl rfl rfl rfl (congrArg (AV.int _) e1) ?_ | refine DW_V tabs rfl rfl rfl rfl (congrArg (AV.int _) e2) ?_ | refine DW_A tabs rfl ?_ | refine DW_nil ?_ | refine DW_lits tabOK rfl rfl rfl rfl rfl rfl rfl rfl rfl rfl rfl rfl rfl ?_ | refine DW_append_own tabOK rfl rfl rfl rfl rfl rfl rfl rfl rfl rfl rfl rfl rfl rfl rfl (by simp; omega) (by simp; omega) ?_) | (show W _ _ _ _ _ _; first | refine W_seq ?_ | refine W_text rfl (fun _ _ _ h => h) ?_ | refine W_block ?_ | refine W_skip ?_ | refine W_exit ?_ | refine W_ret ?_ | refine W_true rfl ?_ | refine W_false rfl ?_ | refine W_cond rfl (fun _ => ?_) (fun _ => ?_)))
    refine W_count s.length (fun i f N => s.length - 4 ≤ i ∧ N = zeroM ∧ f = ⟨[(0, .str s), (2, .ptr 0 0), (4, .int .i64 ((s.length - 5 : Nat) : Int)), (5, .int .i64 ((num ((s.take i).drop (s.length - 4)) : Nat) : Int)), (6, .int .i64 (i : Int))], []⟩) (i0 := s.length - 4) (by omega) ⟨by omega, rfl, rfl⟩ (Joint.le (AF.le_cons rfl (AF.le_cons rfl (AF.le_cons rfl (AF.le_cons ?_ (AF.le_cons rfl (AF.le_nil rfl)))))) (zeroM_of rfl rfl)) ?_
    · have : (s.take (s.length - 4)).drop (s.length - 4) = [] := by simp
      rw [this]
      rfl
    · rintro i f N hi ⟨hei, rfl, rfl⟩
      by_cases h1 : i < s.length
      · have d3 : decide ((i : Int) < (s.length : Int)) = true := by simp; omega
        have hxi : s[i]? = some s[i] := List.getElem?_eq_getElem h1
        have fi := wrap_succ (i := i) (by omega)
        generalize s[i] = b at hxi
        have ht := take_drop_succ hei hxi
        have hnm := num_app ((s.take i).drop (s.length - 4)) b
        rw [← ht] at hnm
        have hml : num ((s.take i).drop (s.length - 4)) < 256 ^ 4 := num_lt 4 _ (by simp; omega)
        generalize num ((s.take i).drop (s.length - 4)) = m at hnm hml
        have hb := b.toNat_lt
        have g1 : IntKind.wrap .i64 (256 * (m : Int)) = 256 * (m : Int) := Go.Ab.wrap_small (by omega) (by omega)
        have g2 := byte_i64 b
        have g3 : IntKind.wrap .i64 (256 * (m : Int) + ((b.toNat : Nat) : Int)) = ((m * 256 + b.toNat : Nat) : Int) := (Go.Ab.wrap_small (by omega) (by omega)).trans (by omega)
        repeat' (first | (show DW _ _ _ _ _ _ _ _; first | refine DW_V tabs rfl rfl rfl rfl (congrArg AV.bool d3) ?_ | refine DW_V tabs rfl rfl rfl rfl (congrArg (AV.int _) g1) ?_ | refine DW_V tabs rfl rfl rfl rfl (congrArg (AV.int _) fi) ?_ | refine DW_A tabs rfl ?_ | refine DW_nil ?_ | refine DW_lits tabOK rfl rfl rfl rfl rfl rfl rfl rfl rfl rfl rfl rfl rfl ?_ | refine DW_append_own tabOK rfl rfl rfl rfl rfl rfl rfl rfl rfl rfl rfl rfl rfl rfl rfl (by simp; omega) (by simp; omega) ?_) | (show W _ _ _ _ _ _; first | refine W_seq ?_ | refine W_text rfl (fun _ _ _ h => h) ?_ | refine W_block ?_ | refine W_skip ?_ | refine W_exit ?_ | refine W_ret ?_ | refine W_true rfl ?_ | refine W_false rfl ?_ | refine W_cond rfl (fun _ => ?_) (fun _ => ?_)))
        refine DW_byte tabOK rfl rfl rfl rfl rfl rfl rfl rfl (Int.natCast_nonneg _) (c := b) (by simpa using hxi) ?_
        repeat' (first | (show DW _ _ _ _ _ _ _ _; first | refine DW_V tabs rfl rfl rfl rfl (congrArg (AV.int _) g2) ?_ | refine DW_V tabs rfl rfl rfl rfl (congrArg (AV.int _) g3) ?_ | refine DW_V tabs rfl rfl rfl rfl (congrArg (AV.int _) fi) ?_ | refine DW_A tabs rfl ?_ | refine DW_nil ?_ | refine DW_lits tabOK rfl rfl rfl rfl rfl rfl rfl rfl rfl rfl rfl rfl rfl ?_ | refine DW_append_own tabOK rfl rfl rfl rfl rfl rfl rfl rfl rfl rfl rfl rfl rfl rfl rfl (by simp; omega) (by simp; omega) ?_) | (show W _ _ _ _ _ _; first | refine W_seq ?_ | refine W_text rfl (fun _ _ _ h => h) ?_ | refine W_block ?_ | refine W_skip ?_ | refine W_exit ?_ | refine W_ret ?_ | refine W_true rfl ?_ | refine W_false rfl ?_ | refine W_cond rfl (fun _ => ?_) (fun _ => ?_)))
        refine ⟨h1, _, _, ⟨by omega, rfl, rfl⟩, Joint.le (AF.le_cons rfl (AF.le_cons rfl (AF.le_cons rfl (AF.le_cons ?_ (AF.le_cons rfl (AF.le_nil rfl)))))) (zeroM_of rfl rfl)⟩
        rw [hnm]
        rfl
      · have d3 : decide ((i : Int) < (s.length : Int)) = false := by simp; omega
        obtain rfl : i = s.length := by omega
        rw [List.take_length, hn]
        by_cases hk : pe = 0
        · have d4 : (!decide (pe = 0)) = false := by simp [hk]
          by_cases hq : pt = s
          · have d5 : (!(pt == s)) = false := by simp [hq]
            rw [if_neg (by simp [hk, hq])]
            repeat' (first | (show DW _ _ _ _ _ _ _ _; first | refine DW_V tabs rfl rfl rfl rfl (congrArg AV.bool d3) ?_ | refine DW_V tabs rfl rfl rfl rfl (congrArg (AV.int _) e2) ?_ | refine DW_V tabs rfl rfl rfl rfl (congrArg (AV.int _) e3) ?_ | refine DW_A tabs rfl ?_ | refine DW_nil ?_ | refine DW_lits tabOK rfl rfl rfl rfl rfl rfl rfl rfl rfl rfl rfl rfl rfl ?_ | refine DW_append_own tabOK rfl rfl rfl rfl rfl rfl rfl rfl rfl rfl rfl rfl rfl rfl rfl (by simp; omega) (by simp; omega) ?_) | (show W _ _ _ _ _ _; first | refine W_seq ?_ | refine W_text rfl (fun _ _ _ h => h) ?_ | refine W_block ?_ | refine W_skip ?_ | refine W_exit ?_ | refine W_ret ?_ | refine W_true rfl ?_ | refine W_false rfl ?_ | refine W_cond rfl (fun _ => ?_) (fun _ => ?_)))
            refine DW_substr tabOK rfl rfl rfl rfl rfl rfl rfl rfl rfl (Int.le_refl 0) (by omega) (by omega) ?_
            repeat' (first | (show DW _ _ _ _ _ _ _ _; first | refine DW_V tabs rfl rfl rfl rfl (congrArg (AV.int _) e3) ?_ | refine DW_A tabs rfl ?_ | refine DW_nil ?_ | refine DW_lits tabOK rfl rfl rfl rfl rfl rfl rfl rfl rfl rfl rfl rfl rfl ?_ | refine DW_append_own tabOK rfl rfl rfl rfl rfl rfl rfl rfl rfl rfl rfl rfl rfl rfl rfl (by simp; omega) (by simp; omega) ?_) | (show W _ _ _ _ _ _; first | refine W_seq ?_ | refine W_text rfl (fun _ _ _ h => h) ?_ | refine W_block ?_ | refine W_skip ?_ | refine W_exit ?_ | refine W_ret ?_ | refine W_true rfl ?_ | refine W_false rfl ?_ | refine W_cond rfl (fun _ => ?_) (fun _ => ?_)))
            refine DW_pure rfl rfl rfl rfl rfl kp ?_
            repeat' (first | (show DW _ _ _ _ _ _ _ _; first | refine DW_V tabs rfl rfl rfl rfl (congrArg AV.bool d4) ?_ | refine DW_V tabs rfl rfl rfl rfl (congrArg AV.bool d5) ?_ | refine DW_A tabs rfl ?_ | refine DW_nil ?_ | refine DW_lits tabOK rfl rfl rfl rfl rfl rfl rfl rfl rfl rfl rfl rfl rfl ?_ | refine DW_append_own tabOK rfl rfl rfl rfl rfl rfl rfl rfl rfl rfl rfl rfl rfl rfl rfl (by simp; omega) (by simp; omega) ?_) | (show W _ _ _ _ _ _; first | refine W_seq ?_ | refine W_text rfl (fun _ _ _ h => h) ?_ | refine W_block ?_ | refine W_skip ?_ | refine W_exit ?_ | refine W_ret ?_ | refine W_true rfl ?_ | refine W_false rfl ?_ | refine W_cond rfl (fun _ => ?_) (fun _ => ?_)))
            exact ⟨rfl, _, rfl, _, rfl, SubC.of_closed (closed_get (⟨s.take (s.length - 5), 4294967295 - (n : Int)⟩, 0))⟩
          · have d5 : (!(pt == s)) = true := by simp [hq]
            rw [if_pos (.inr hq)]
            repeat' (first | (show DW _ _ _ _ _ _ _ _; first | refine DW_V tabs rfl rfl rfl rfl (congrArg AV.bool d3) ?_ | refine DW_V tabs rfl rfl rfl rfl (congrArg (AV.int _) e2) ?_ | refine DW_V tabs rfl rfl rfl rfl (congrArg (AV.int _) e3) ?_ | refine DW_A tabs rfl ?_ | refine DW_nil ?_ | refine DW_lits tabOK rfl rfl rfl rfl rfl rfl rfl rfl rfl rfl rfl rfl rfl ?_ | refine DW_append_own tabOK rfl rfl rfl rfl rfl rfl rfl rfl rfl rfl rfl rfl rfl rfl rfl (by simp; omega) (by simp; omega) ?_) | (show W _ _ _ _ _ _; first | refine W_seq ?_ | refine W_text rfl (fun _ _ _ h => h) ?_ | refine W_block ?_ | refine W_skip ?_ | refine W_exit ?_ | refine W_ret ?_ | refine W_true rfl ?_ | refine W_false rfl ?_ | refine W_cond rfl (fun _ => ?_) (fun _ => ?_)))
            refine DW_substr tabOK rfl rfl rfl rfl rfl rfl rfl rfl rfl (Int.le_refl 0) (by omega) (by omega) ?_
            repeat' (first | (show DW _ _ _ _ _ _ _ _; first | refine DW_V tabs rfl rfl rfl rfl (congrArg (AV.int _) e3) ?_ | refine DW_A tabs rfl ?_ | refine DW_nil ?_ | refine DW_lits tabOK rfl rfl rfl rfl rfl rfl rfl rfl rfl rfl rfl rfl rfl ?_ | refine DW_append_own tabOK rfl rfl rfl rfl rfl rfl rfl rfl rfl rfl rfl rfl rfl rfl rfl (by simp; omega) (by simp; omega) ?_) | (show W _ _ _ _ _ _; first | refine W_seq ?_ | refine W_text rfl (fun _ _ _ h => h) ?_ | refine W_block ?_ | refine W_skip ?_ | refine W_exit ?_ | refine W_ret ?_ | refine W_true rfl ?_ | refine W_false rfl ?_ | refine W_cond rfl (fun _ => ?_) (fun _ => ?_)))
            refine DW_pure rfl rfl rfl rfl rfl kp ?_
            repeat' (first | (show DW _ _ _ _ _ _ _ _; first | refine DW_V tabs rfl rfl rfl rfl (congrArg AV.bool d4) ?_ | refine DW_V tabs rfl rfl rfl rfl (congrArg AV.bool d5) ?_ | refine DW_A tabs rfl ?_ | refine DW_nil ?_ | refine DW_lits tabOK rfl rfl rfl rfl rfl rfl rfl rfl rfl rfl rfl rfl rfl ?_ | refine DW_append_own tabOK rfl rfl rfl rfl rfl rfl rfl rfl rfl rfl rfl rfl rfl rfl rfl (by simp; omega) (by simp; omega) ?_) | (show W _ _ _ _ _ _; first | refine W_seq ?_ | refine W_text rfl (fun _ _ _ h => h) ?_ | refine W_block ?_ | refine W_skip ?_ | refine W_exit ?_ | refine W_ret ?_ | refine W_true rfl ?_ | refine W_false rfl ?_ | refine W_cond rfl (fun _ => ?_) (fun _ => ?_)))
            exact ⟨rfl, _, rfl, _, rfl, SubC.of_closed (closed_get (zeroK, 30))⟩
        · have d4 : (!decide (pe = 0)) = true := by simp [hk]
          rw [if_pos (.inl hk)]
          repeat' (first | (show DW _ _ _ _ _ _ _ _; first | refine DW_V tabs rfl rfl rfl rfl (congrArg AV.bool d3) ?_ | refine DW_V tabs rfl rfl rfl rfl (congrArg (AV.int _) e2) ?_ | refine DW_V tabs rfl rfl rfl rfl (congrArg (AV.int _) e3) ?_ | refine DW_A tabs rfl ?_ | refine DW_nil ?_ | refine DW_lits tabOK rfl rfl rfl rfl rfl rfl rfl rfl rfl rfl rfl rfl rfl ?_ | refine DW_append_own tabOK rfl rfl rfl rfl rfl rfl rfl rfl rfl rfl rfl rfl rfl rfl rfl (by simp; omega) (by simp; omega) ?_) | (show W _ _ _ _ _ _; first | refine W_seq ?_ | refine W_text rfl (fun _ _ _ h => h) ?_ | refine W_block ?_ | refine W_skip ?_ | refine W_exit ?_ | refine W_ret ?_ | refine W_true rfl ?_ | refine W_false rfl ?_ | refine W_cond rfl (fun _ => ?_) (fun _ => ?_)))
          refine DW_substr tabOK rfl rfl rfl rfl rfl rfl rfl rfl rfl (Int.le_refl 0) (by omega) (by omega) ?_
          repeat' (first | (show DW _ _ _ _ _ _ _ _; first | refine DW_V tabs rfl rfl rfl rfl (congrArg (AV.int _) e3) ?_ | refine DW_A tabs rfl ?_ | refine DW_nil ?_ | refine DW_lits tabOK rfl rfl rfl rfl rfl rfl rfl rfl rfl rfl rfl rfl rfl ?_ | refine DW_append_own tabOK rfl rfl rfl rfl rfl rfl rfl rfl rfl rfl rfl rfl rfl rfl rfl (by simp; omega) (by simp; omega) ?_) | (show W _ _ _ _ _ _; first | refine W_seq ?_ | refine W_text rfl (fun _ _ _ h => h) ?_ | refine W_block ?_ | refine W_skip ?_ | refine W_exit ?_ | refine W_ret ?_ | refine W_true rfl ?_ | refine W_false rfl ?_ | refine W_cond rfl (fun _ => ?_) (fun _ => ?_)))
          refine DW_pure rfl rfl rfl rfl rfl kp ?_
          repeat' (first | (show DW _ _ _ _ _ _ _ _; first | refine DW_V tabs rfl rfl rfl rfl (congrArg AV.bool d4) ?_ | refine DW_A tabs rfl ?_ | refine DW_nil ?_ | refine DW_lits tabOK rfl rfl rfl rfl rfl rfl rfl rfl rfl rfl rfl rfl rfl ?_ | refine DW_append_own tabOK rfl rfl rfl rfl rfl rfl rfl rfl rfl rfl rfl rfl rfl rfl rfl (by simp; omega) (by simp; omega) ?_) | (show W _ _ _ _ _ _; first | refine W_seq ?_ | refine W_text rfl (fun _ _ _ h => h) ?_ | refine W_block ?_ | refine W_skip ?_ | refine W_exit ?_ | refine W_ret ?_ | refine W_true rfl ?_ | refine W_false rfl ?_ | refine W_cond rfl (fun _ => ?_) (fun _ => ?_)))
          exact ⟨rfl, _, rfl, _, rfl, SubC.of_closed (closed_get (zeroK, 30))⟩

theorem min_is (t : Int) : (if false = true then (if t < 1000000000 then 1000000000 else t) else if 1000000000 < t then 1000000000 else t) = min t 1000000000 := by
  rw [if_neg (by simp)]
  split <;> omega

def firstB (p : Bytes) (t : Int) : Ky × Int := if isKeyB ⟨p, min t 1000000000⟩ = true then (⟨p, min t 1000000000⟩, 0) else (zeroK, 1)

theorem kFirst_ok (p : Bytes) (t : Int) (hs : p.length < 1000000) : APure Tryd.prog 23 [.str p, .int .i64 t] (getA (firstB p t)) := by
  refine pure_sub (closed2 closed_str closed_int) (closed_get _) ?_
  refine acalls_of tabOK Tryd.func23 rfl (by decide) (by simp [Tryd.f23]) ?_
  unfold firstB
  have ki := isKey_ok ⟨p, min t 1000000000⟩ hs
  have mn := min_is t
  cases hk : isKeyB ⟨p, min t 1000000000⟩
  · rw [hk] at ki
    repeat' (first | (show DW _ _ _ _ _ _ _ _; first | refine DW_V tabs rfl rfl rfl rfl (congrArg (AV.int _) mn) ?_ | refine DW_A tabs rfl ?_ | refine DW_nil ?_ | refine DW_lits tabOK rfl rfl rfl rfl rfl rfl rfl rfl rfl rfl rfl rfl rfl ?_ | refine DW_append_own tabOK rfl rfl rfl rfl rfl rfl rfl rfl rfl rfl rfl rfl rfl rfl rfl (by simp; omega) (by simp; omega) ?_) | (show W _ _ _ _ _ _; first | refine W_seq ?_ | refine W_text rfl (fun _ _ _ h => h) ?_ | refine W_block ?_ | refine W_skip ?_ | refine W_exit ?_ | refine W_ret ?_ | refine W_true rfl ?_ | refine W_false rfl ?_ | refine W_cond rfl (fun _ => ?_) (fun _ => ?_)))
    refine DW_pure rfl rfl rfl rfl rfl ki ?_
    repeat' (first | (show DW _ _ _ _ _ _ _ _; first | refine DW_A tabs rfl ?_ | refine DW_nil ?_ | refine DW_lits tabOK rfl rfl rfl rfl rfl rfl rfl rfl rfl rfl rfl rfl rfl ?_ | refine DW_append_own tabOK rfl rfl rfl rfl rfl rfl rfl rfl rfl rfl rfl rfl rfl rfl rfl (by simp; omega) (by simp; omega) ?_) | (show W _ _ _ _ _ _; first | refine W_seq ?_ | refine W_text rfl (fun _ _ _ h => h) ?_ | refine W_block ?_ | refine W_skip ?_ | refine W_exit ?_ | refine W_ret ?_ | refine W_true rfl ?_ | refine W_false rfl ?_ | refine W_cond rfl (fun _ => ?_) (fun _ => ?_)))
    exact ⟨rfl, _, rfl, _, rfl, SubC.of_closed (closed_get (zeroK, 1))⟩
  · rw [hk] at ki
    repeat' (first | (show DW _ _ _ _ _ _ _ _; first | refine DW_V tabs rfl rfl rfl rfl (congrArg (AV.int _) mn) ?_ | refine DW_A tabs rfl ?_ | refine DW_nil ?_ | refine DW_lits tabOK rfl rfl rfl rfl rfl rfl rfl rfl rfl rfl rfl rfl rfl ?_ | refine DW_append_own tabOK rfl rfl rfl rfl rfl rfl rfl rfl rfl rfl rfl rfl rfl rfl rfl (by simp; omega) (by simp; omega) ?_) | (show W _ _ _ _ _ _; first | refine W_seq ?_ | refine W_text rfl (fun _ _ _ h => h) ?_ | refine W_block ?_ | refine W_skip ?_ | refine W_exit ?_ | refine W_ret ?_ | refine W_true rfl ?_ | refine W_false rfl ?_ | refine W_cond rfl (fun _ => ?_) (fun _ => ?_)))
    refine DW_pure rfl rfl rfl rfl rfl ki ?_
    repeat' (first | (show DW _ _ _ _ _ _ _ _; first | refine DW_A tabs rfl ?_ | refine DW_nil ?_ | refine DW_lits tabOK rfl rfl rfl rfl rfl rfl rfl rfl rfl rfl rfl rfl rfl ?_ | refine DW_append_own tabOK rfl rfl rfl rfl rfl rfl rfl rfl rfl rfl rfl rfl rfl rfl rfl (by simp; omega) (by simp; omega) ?_) | (show W _ _ _ _ _ _; first | refine W_seq ?_ | refine W_text rfl (fun _ _ _ h => h) ?_ | refine W_block ?_ | refine W_skip ?_ | refine W_exit ?_ | refine W_ret ?_ | refine W_true rfl ?_ | refine W_false rfl ?_ | refine W_cond rfl (fun _ => ?_) (fun _ => ?_)))
    exact ⟨rfl, _, rfl, _, rfl, SubC.of_closed (closed_get (⟨p, min t 1000000000⟩, 0))⟩

theorem firstB_eq (p : Bytes) (t : Int) : firstB p t = if isPathB p = false ∨ t < 0 then (zeroK, 1) else (⟨p, min t 1000000000⟩, 0) := by
  unfold firstB isKeyB
  cases isPathB p
  · simp
  · by_cases h : t < 0
    · have : ¬ (0 : Int) ≤ min t 1000000000 := by omega
      simp [h, this]
    · have h1 : (0 : Int) ≤ min t 1000000000 := by omega
      have h2 : min t 1000000000 ≤ (1000000000 : Int) := by omega
      simp [h, h1, h2]

theorem rFirst_ok (p : Bytes) (t : Int) (hs : p.length < 1000000) : APure Tryd.prog 24 [.str p, .int .i64 t] (getA (firstB p t)) := by
  refine pure_sub (closed2 closed_str closed_int) (closed_get _) ?_
  refine acalls_of tabOK Tryd.func24 rfl (by decide) (by simp [Tryd.f24]) ?_
  rw [firstB_eq]
  have ki := refIs_ok p hs
  have mn := min_is t
  cases hk : isPathB p
  · rw [hk] at ki
    rw [if_pos (.inl rfl)]
    repeat' (first | (show DW _ _ _ _ _ _ _ _; first | refine DW_A tabs rfl ?_ | refine DW_nil ?_ | refine DW_lits tabOK rfl rfl rfl rfl rfl rfl rfl rfl rfl rfl rfl rfl rfl ?_ | refine DW_append_own tabOK rfl rfl rfl rfl rfl rfl rfl rfl rfl rfl rfl rfl rfl rfl rfl (by simp; omega) (by simp; omega) ?_) | (show W _ _ _ _ _ _; first | refine W_seq ?_ | refine W_text rfl (fun _ _ _ h => h) ?_ | refine W_block ?_ | refine W_skip ?_ | refine W_exit ?_ | refine W_ret ?_ | refine W_true rfl ?_ | refine W_false rfl ?_ | refine W_cond rfl (fun _ => ?_) (fun _ => ?_)))
    refine DW_pure rfl rfl rfl rfl rfl ki ?_
    repeat' (first | (show DW _ _ _ _ _ _ _ _; first | refine DW_A tabs rfl ?_ | refine DW_nil ?_ | refine DW_lits tabOK rfl rfl rfl rfl rfl rfl rfl rfl rfl rfl rfl rfl rfl ?_ | refine DW_append_own tabOK rfl rfl rfl rfl rfl rfl rfl rfl rfl rfl rfl rfl rfl rfl rfl (by simp; omega) (by simp; omega) ?_) | (show W _ _ _ _ _ _; first | refine W_seq ?_ | refine W_text rfl (fun _ _ _ h => h) ?_ | refine W_block ?_ | refine W_skip ?_ | refine W_exit ?_ | refine W_ret ?_ | refine W_true rfl ?_ | refine W_false rfl ?_ | refine W_cond rfl (fun _ => ?_) (fun _ => ?_)))
    exact ⟨rfl, _, rfl, _, rfl, SubC.of_closed (closed_get (zeroK, 1))⟩
  · rw [hk] at ki
    by_cases h : t < 0
    · have d1 : decide (t < 0) = true := by simp [h]
      rw [if_pos (.inr h)]
      repeat' (first | (show DW _ _ _ _ _ _ _ _; first | refine DW_V tabs rfl rfl rfl rfl (congrArg AV.bool d1) ?_ | refine DW_A tabs rfl ?_ | refine DW_nil ?_ | refine DW_lits tabOK rfl rfl rfl rfl rfl rfl rfl rfl rfl rfl rfl rfl rfl ?_ | refine DW_append_own tabOK rfl rfl rfl rfl rfl rfl rfl rfl rfl rfl rfl rfl rfl rfl rfl (by simp; omega) (by simp; omega) ?_) | (show W _ _ _ _ _ _; first | refine W_seq ?_ | refine W_text rfl (fun _ _ _ h => h) ?_ | refine W_block ?_ | refine W_skip ?_ | refine W_exit ?_ | refine W_ret ?_ | refine W_true rfl ?_ | refine W_false rfl ?_ | refine W_cond rfl (fun _ => ?_) (fun _ => ?_)))
      refine DW_pure rfl rfl rfl rfl rfl ki ?_
      repeat' (first | (show DW _ _ _ _ _ _ _ _; first | refine DW_V tabs rfl rfl rfl rfl (congrArg AV.bool d1) ?_ | refine DW_A tabs rfl ?_ | refine DW_nil ?_ | refine DW_lits tabOK rfl rfl rfl rfl rfl rfl rfl rfl rfl rfl rfl rfl rfl ?_ | refine DW_append_own tabOK rfl rfl rfl rfl rfl rfl rfl rfl rfl rfl rfl rfl rfl rfl rfl (by simp; omega) (by simp; omega) ?_) | (show W _ _ _ _ _ _; first | refine W_seq ?_ | refine W_text rfl (fun _ _ _ h => h) ?_ | refine W_block ?_ | refine W_skip ?_ | refine W_exit ?_ | refine W_ret ?_ | refine W_true rfl ?_ | refine W_false rfl ?_ | refine W_cond rfl (fun _ => ?_) (fun _ => ?_)))
      exact ⟨rfl, _, rfl, _, rfl, SubC.of_closed (closed_get (zeroK, 1))⟩
    · have d1 : decide (t < 0) = false := by simp [h]
      rw [if_neg (by simp [h])]
      repeat' (first | (show DW _ _ _ _ _ _ _ _; first | refine DW_V tabs rfl rfl rfl rfl (congrArg AV.bool d1) ?_ | refine DW_A tabs rfl ?_ | refine DW_nil ?_ | refine DW_lits tabOK rfl rfl rfl rfl rfl rfl rfl rfl rfl rfl rfl rfl rfl ?_ | refine DW_append_own tabOK rfl rfl rfl rfl rfl rfl rfl rfl rfl rfl rfl rfl rfl rfl rfl (by simp; omega) (by simp; omega) ?_) | (show W _ _ _ _ _ _; first | refine W_seq ?_ | refine W_text rfl (fun _ _ _ h => h) ?_ | refine W_block ?_ | refine W_skip ?_ | refine W_exit ?_ | refine W_ret ?_ | refine W_true rfl ?_ | refine W_false rfl ?_ | refine W_cond rfl (fun _ => ?_) (fun _ => ?_)))
      refine DW_pure rfl rfl rfl rfl rfl ki ?_
      repeat' (first | (show DW _ _ _ _ _ _ _ _; first | refine DW_V tabs rfl rfl rfl rfl (congrArg AV.bool d1) ?_ | refine DW_V tabs rfl rfl rfl rfl (congrArg (AV.int _) mn) ?_ | refine DW_A tabs rfl ?_ | refine DW_nil ?_ | refine DW_lits tabOK rfl rfl rfl rfl rfl rfl rfl rfl rfl rfl rfl rfl rfl ?_ | refine DW_append_own tabOK rfl rfl rfl rfl rfl rfl rfl rfl rfl rfl rfl rfl rfl rfl rfl (by simp; omega) (by simp; omega) ?_) | (show W _ _ _ _ _ _; first | refine W_seq ?_ | refine W_text rfl (fun _ _ _ h => h) ?_ | refine W_block ?_ | refine W_skip ?_ | refine W_exit ?_ | refine W_ret ?_ | refine W_true rfl ?_ | refine W_false rfl ?_ | refine W_cond rfl (fun _ => ?_) (fun _ => ?_)))
      exact ⟨rfl, _, rfl, _, rfl, SubC.of_closed (closed_get (⟨p, min t 1000000000⟩, 0))⟩
end Go.Proofs.YteimhnedflbkmaaDoor
