/- Parts of the proof, one behind the other: PathN, PathM, StrB. No further condition. -/
import Derived.Test.YteimhnedflbkmaaDoorM08
import Derived.Test.YteimhnedflbkmaaDoorM09
import Derived.Test.YteimhnedflbkmaaDoorM07
import Derived.Lib.Bytealg
set_option linter.unusedVariables false
set_option linter.unusedSimpArgs false
/- path.Norm tells what its text says. No further condition. -/
set_option linter.unusedVariables false
set_option linter.unusedSimpArgs false
namespace Go.Proofs.YteimhnedflbkmaaDoor
open Go.Ab

def P20 : AV := .iface 25 (.int .i64 20)

theorem up_nil (M : Mem) : ACalls Tryd.prog 47 [.sl 0 [] .full] M (fun e M' => e = .pan P20 ∧ M' = M) := by
  refine acalls_of tabOK Tryd.func47 rfl (by decide) (by simp [Tryd.f47]) ?_
  repeat' (first | (show DW _ _ _ _ _ _ _ _; first | refine DW_A tabs rfl ?_ | refine DW_nil ?_ | refine DW_lits tabOK rfl rfl rfl rfl rfl rfl rfl rfl rfl rfl rfl rfl rfl ?_ | refine DW_append_own tabOK rfl rfl rfl rfl rfl rfl rfl rfl rfl rfl rfl rfl rfl rfl rfl (by simp; omega) (by simp; omega) ?_) | (show W _ _ _ _ _ _; first | refine W_seq ?_ | refine W_text rfl (fun _ _ _ h => h) ?_ | refine W_block ?_ | refine W_skip ?_ | refine W_exit ?_ | refine W_ret ?_ | refine W_true rfl ?_ | refine W_false rfl ?_ | refine W_cond rfl (fun _ => ?_) (fun _ => ?_)))
  refine DW_panic rfl rfl rfl rfl rfl ?_
  exact ⟨rfl, rfl, rfl⟩

theorem up_osl {M : Mem} {id n cap : Nat} {l : List AV} (hM : M.get id = some (.cells l)) (hn : n ≤ cap) (hb : n < 1000000) : ACalls Tryd.prog 47 [.osl id 0 n cap 1] M (fun e M' => M' = M ∧ ((n = 0 ∧ e = .pan P20) ∨ (n ≠ 0 ∧ e = .ret (.osl id 0 (n - 1) cap 1)))) := by
  refine acalls_of tabOK Tryd.func47 rfl (by decide) (by simp [Tryd.f47]) ?_
  by_cases h : n = 0
  · have d : decide ((n : Int) = 0) = true := by simp [h]
    repeat' (first | (show DW _ _ _ _ _ _ _ _; first | refine DW_A tabs rfl ?_ | refine DW_nil ?_ | refine DW_lits tabOK rfl rfl rfl rfl rfl rfl rfl rfl rfl rfl rfl rfl rfl ?_ | refine DW_append_own tabOK rfl rfl rfl rfl rfl rfl rfl rfl rfl rfl rfl rfl rfl rfl rfl (by simp; omega) (by simp; omega) ?_) | (show W _ _ _ _ _ _; first | refine W_seq ?_ | refine W_text rfl (fun _ _ _ h => h) ?_ | refine W_block ?_ | refine W_skip ?_ | refine W_exit ?_ | refine W_ret ?_ | refine W_true rfl ?_ | refine W_false rfl ?_ | refine W_cond rfl (fun _ => ?_) (fun _ => ?_)))
    refine DW_olen tabOK rfl rfl rfl rfl rfl rfl hM rfl rfl ?_
    repeat' (first | (show DW _ _ _ _ _ _ _ _; first | refine DW_V tabs rfl rfl rfl rfl (congrArg AV.bool d) ?_ | refine DW_A tabs rfl ?_ | refine DW_nil ?_ | refine DW_lits tabOK rfl rfl rfl rfl rfl rfl rfl rfl rfl rfl rfl rfl rfl ?_ | refine DW_append_own tabOK rfl rfl rfl rfl rfl rfl rfl rfl rfl rfl rfl rfl rfl rfl rfl (by simp; omega) (by simp; omega) ?_) | (show W _ _ _ _ _ _; first | refine W_seq ?_ | refine W_text rfl (fun _ _ _ h => h) ?_ | refine W_block ?_ | refine W_skip ?_ | refine W_exit ?_ | refine W_ret ?_ | refine W_true rfl ?_ | refine W_false rfl ?_ | refine W_cond rfl (fun _ => ?_) (fun _ => ?_)))
    refine DW_panic rfl rfl rfl rfl rfl ?_
    exact ⟨rfl, rfl, .inl ⟨h, rfl⟩⟩
  · have d : decide ((n : Int) = 0) = false := by simp [h]
    have e1 : IntKind.wrap .i64 ((n : Int) - 1) = ((n - 1 : Nat) : Int) := (Go.Ab.wrap_small (by omega) (by omega)).trans (by omega)
    repeat' (first | (show DW _ _ _ _ _ _ _ _; first | refine DW_A tabs rfl ?_ | refine DW_nil ?_ | refine DW_lits tabOK rfl rfl rfl rfl rfl rfl rfl rfl rfl rfl rfl rfl rfl ?_ | refine DW_append_own tabOK rfl rfl rfl rfl rfl rfl rfl rfl rfl rfl rfl rfl rfl rfl rfl (by simp; omega) (by simp; omega) ?_) | (show W _ _ _ _ _ _; first | refine W_seq ?_ | refine W_text rfl (fun _ _ _ h => h) ?_ | refine W_block ?_ | refine W_skip ?_ | refine W_exit ?_ | refine W_ret ?_ | refine W_true rfl ?_ | refine W_false rfl ?_ | refine W_cond rfl (fun _ => ?_) (fun _ => ?_)))
    refine DW_olen tabOK rfl rfl rfl rfl rfl rfl hM rfl rfl ?_
    repeat' (first | (show DW _ _ _ _ _ _ _ _; first | refine DW_V tabs rfl rfl rfl rfl (congrArg AV.bool d) ?_ | refine DW_A tabs rfl ?_ | refine DW_nil ?_ | refine DW_lits tabOK rfl rfl rfl rfl rfl rfl rfl rfl rfl rfl rfl rfl rfl ?_ | refine DW_append_own tabOK rfl rfl rfl rfl rfl rfl rfl rfl rfl rfl rfl rfl rfl rfl rfl (by simp; omega) (by simp; omega) ?_) | (show W _ _ _ _ _ _; first | refine W_seq ?_ | refine W_text rfl (fun _ _ _ h => h) ?_ | refine W_block ?_ | refine W_skip ?_ | refine W_exit ?_ | refine W_ret ?_ | refine W_true rfl ?_ | refine W_false rfl ?_ | refine W_cond rfl (fun _ => ?_) (fun _ => ?_)))
    refine DW_olen tabOK rfl rfl rfl rfl rfl rfl hM rfl rfl ?_
    repeat' (first | (show DW _ _ _ _ _ _ _ _; first | refine DW_V tabs rfl rfl rfl rfl (congrArg (AV.int _) e1) ?_ | refine DW_A tabs rfl ?_ | refine DW_nil ?_ | refine DW_lits tabOK rfl rfl rfl rfl rfl rfl rfl rfl rfl rfl rfl rfl rfl ?_ | refine DW_append_own tabOK rfl rfl rfl rfl rfl rfl rfl rfl rfl rfl rfl rfl rfl rfl rfl (by simp; omega) (by simp; omega) ?_) | (show W _ _ _ _ _ _; first | refine W_seq ?_ | refine W_text rfl (fun _ _ _ h => h) ?_ | refine W_block ?_ | refine W_skip ?_ | refine W_exit ?_ | refine W_ret ?_ | refine W_true rfl ?_ | refine W_false rfl ?_ | refine W_cond rfl (fun _ => ?_) (fun _ => ?_)))
    refine DW_oslice tabOK rfl rfl rfl rfl rfl rfl hM rfl rfl rfl rfl (by omega) (by omega) hn ?_
    repeat' (first | (show DW _ _ _ _ _ _ _ _; first | refine DW_A tabs rfl ?_ | refine DW_nil ?_ | refine DW_lits tabOK rfl rfl rfl rfl rfl rfl rfl rfl rfl rfl rfl rfl rfl ?_ | refine DW_append_own tabOK rfl rfl rfl rfl rfl rfl rfl rfl rfl rfl rfl rfl rfl rfl rfl (by simp; omega) (by simp; omega) ?_) | (show W _ _ _ _ _ _; first | refine W_seq ?_ | refine W_text rfl (fun _ _ _ h => h) ?_ | refine W_block ?_ | refine W_skip ?_ | refine W_exit ?_ | refine W_ret ?_ | refine W_true rfl ?_ | refine W_false rfl ?_ | refine W_cond rfl (fun _ => ?_) (fun _ => ?_)))
    exact ⟨rfl, _, rfl, rfl, .inr ⟨h, rfl⟩⟩

/-- The objects of Norm's results. -/
def resM (nx : Nat) (x : Bytes) (y : Int) : Mem := ⟨nx, [(0, .cells [.str x]), (1, .cells [.int .i64 y])]⟩

theorem catch_ok (nx : Nat) (x : Bytes) (y e : Int) : ACallsD Tryd.prog 45 [.ptr 0 0, .ptr 1 0] (.pan (.iface 25 (.int .i64 e))) (resM nx x y) (fun m' M' => m' = .ret ∧ M'.get 0 = some (.cells [.str []]) ∧ M'.get 1 = some (.cells [.int .i64 e])) := by
  refine acallsD_recover tabOK Tryd.func45 rfl (by decide) rfl rfl rfl rfl rfl (by simp [Tryd.f45]) ?_
  refine DW_assert tabOK rfl rfl rfl rfl rfl ?_
  repeat' (first | (show DW _ _ _ _ _ _ _ _; first | refine DW_A tabs rfl ?_ | refine DW_nil ?_ | refine DW_lits tabOK rfl rfl rfl rfl rfl rfl rfl rfl rfl rfl rfl rfl rfl ?_ | refine DW_append_own tabOK rfl rfl rfl rfl rfl rfl rfl rfl rfl rfl rfl rfl rfl rfl rfl (by simp; omega) (by simp; omega) ?_) | (show W _ _ _ _ _ _; first | refine W_seq ?_ | refine W_text rfl (fun _ _ _ h => h) ?_ | refine W_block ?_ | refine W_skip ?_ | refine W_exit ?_ | refine W_ret ?_ | refine W_true rfl ?_ | refine W_false rfl ?_ | refine W_cond rfl (fun _ => ?_) (fun _ => ?_)))
  exact ⟨rfl, ⟨_, rfl⟩, rfl, rfl⟩
theorem pass_ok (nx : Nat) (x : Bytes) (y : Int) : ACallsD Tryd.prog 45 [.ptr 0 0, .ptr 1 0] .ret (resM nx x y) (fun m' M' => m' = .ret ∧ M'.get 0 = some (.cells [.str x]) ∧ M'.get 1 = some (.cells [.int .i64 y])) := by
  refine acallsD_recover tabOK Tryd.func45 rfl (by decide) rfl rfl rfl rfl rfl (by simp [Tryd.f45]) ?_
  refine DW_assert tabOK rfl rfl rfl rfl rfl ?_
  repeat' (first | (show DW _ _ _ _ _ _ _ _; first | refine DW_A tabs rfl ?_ | refine DW_nil ?_ | refine DW_lits tabOK rfl rfl rfl rfl rfl rfl rfl rfl rfl rfl rfl rfl rfl ?_ | refine DW_append_own tabOK rfl rfl rfl rfl rfl rfl rfl rfl rfl rfl rfl rfl rfl rfl rfl (by simp; omega) (by simp; omega) ?_) | (show W _ _ _ _ _ _; first | refine W_seq ?_ | refine W_text rfl (fun _ _ _ h => h) ?_ | refine W_block ?_ | refine W_skip ?_ | refine W_exit ?_ | refine W_ret ?_ | refine W_true rfl ?_ | refine W_false rfl ?_ | refine W_cond rfl (fun _ => ?_) (fun _ => ?_)))
  exact ⟨rfl, ⟨_, rfl⟩, rfl, rfl⟩
end Go.Proofs.YteimhnedflbkmaaDoor

/- path.Norm tells what its text says. No further condition. -/
set_option linter.unusedVariables false
set_option linter.unusedSimpArgs false
namespace Go.Proofs.YteimhnedflbkmaaDoor
open Go.Ab

def stepN (acc : Option (List Bytes)) (p : Bytes) : Option (List Bytes) :=
  match acc with
  | none => none
  | some l => if p = [] ∨ p = [46] then some l else if p = [46, 46] then (if l = [] then none else some l.dropLast) else if isNameB p = true then some (l ++ [p]) else none
def normL (s : Bytes) : Option (List Bytes) := (splitOn 47 s).foldl stepN (some [])
def normB (s : Bytes) : Bytes × Int :=
  if 400 < s.length then ([], 20) else
  match normL s with
  | none => ([], 20)
  | some l => if isPathB (glueL [47] l) = true then (glueL [47] l, 0) else ([], 20)

theorem fold_none : ∀ L : List Bytes, L.foldl stepN none = none
  | [] => rfl
  | p :: r => fold_none r

theorem glue_len (sep : Bytes) (k : Nat) : ∀ l : List Bytes, (∀ p, p ∈ l → p.length ≤ k) → (glueL sep l).length ≤ l.length * (k + sep.length)
  | [], _ => by simp [glueL]
  | [x], h => by
    have := h x (by simp)
    simp [glueL]
    omega
  | x :: y :: r, h => by
    have h1 := h x (by simp)
    have h2 := glue_len sep k (y :: r) (fun p hp => h p (by simp [hp]))
    rw [glueL]
    · simp only [List.length_append, List.length_cons, Nat.succ_mul, Nat.add_mul, Nat.one_mul] at h2 ⊢
      omega
    · simp

theorem name_len {p : Bytes} (h : isNameB p = true) : p.length ≤ 30 := by
  simp [isNameB] at h
  omega

def pairA (x : Bytes × Int) : AV := .tup [.str x.1, .int .i64 x.2]
theorem closed_pair (x : Bytes × Int) : Closed (pairA x) := closed_tup (closed2 closed_str closed_int)

def normD : ADef := { f := .func 45, cap := [.ptr 0 0, .ptr 1 0], args := [], keep := [(2, .ptr 0 0), (3, .ptr 1 0)] }
abbrev normR (z : Bytes × Int) : AEnd → Mem → Prop := fun e _ => ∃ x, e = .ret x ∧ SubC 0 x (pairA z)

theorem norm_res {M : Mem} {x : Bytes} {y : Int} {t : List (Nat × AV)} (h2 : AF.get ⟨t, []⟩ 2 = .ptr 0 0) (h3 : AF.get ⟨t, []⟩ 3 = .ptr 1 0) (g0 : M.get 0 = some (.cells [.str x])) (g1 : M.get 1 = some (.cells [.int .i64 y])) :
    resA tab M ⟨t, []⟩ Tryd.f29.results = some (.tup [.str x, .int .i64 y]) := by
  have a1 : aloadM M tab 9 (.ptr 0 0) = some (.str x) := by
    simp only [aloadM, g0]
    rfl
  have a2 : aloadM M tab 25 (.ptr 1 0) = some (.int .i64 y) := by
    simp only [aloadM, g1]
    rfl
  show resA tab M ⟨t, []⟩ #[.cell 2 9, .cell 3 25] = _
  simp only [resA, ress, resOf, h2, h3, a1, a2]

theorem norm_pan {M : Mem} {x : Bytes} {y : Int} {t : List (Nat × AV)} (h : (resM M.next x y).le M) (h2 : AF.get ⟨t, []⟩ 2 = .ptr 0 0) (h3 : AF.get ⟨t, []⟩ 3 = .ptr 1 0) : ALeaves Tryd.prog tab Tryd.f29 ⟨t, []⟩ (normR ([], 20)) [normD] (.pan P20) M := by
  refine ⟨45, rfl, ACallsD.le h (ACallsD.mono (catch_ok M.next x y 20) ?_)⟩
  rintro m' M' ⟨rfl, g0, g1⟩
  refine ⟨.tup [.str [], .int .i64 20], ?_, _, rfl, SubC.of_closed (closed_pair ([], 20))⟩
  exact norm_res h2 h3 g0 g1
theorem norm_ret {M : Mem} {x : Bytes} {y : Int} {t : List (Nat × AV)} (h : (resM M.next x y).le M) (h2 : AF.get ⟨t, []⟩ 2 = .ptr 0 0) (h3 : AF.get ⟨t, []⟩ 3 = .ptr 1 0) : ALeaves Tryd.prog tab Tryd.f29 ⟨t, []⟩ (normR (x, y)) [normD] .ret M := by
  refine ⟨45, rfl, ACallsD.le h (ACallsD.mono (pass_ok M.next x y) ?_)⟩
  rintro m' M' ⟨rfl, g0, g1⟩
  refine ⟨.tup [.str x, .int .i64 y], ?_, _, rfl, SubC.of_closed (closed_pair (x, y))⟩
  exact norm_res h2 h3 g0 g1

def zero2 : Mem := ⟨2, [(0, .cells [.str []]), (1, .cells [.int .i64 0])]⟩
def rowC (l : List Bytes) (cap : Nat) : List AV := l.map .str ++ List.replicate (cap - l.length) .top
def zero3 (l : List Bytes) (cap : Nat) : Mem := ⟨3, [(2, .cells (rowC l cap)), (0, .cells [.str []]), (1, .cells [.int .i64 0])]⟩
def baseF (s : Bytes) (L : List Bytes) (i : Nat) (x : AV) : List (Nat × AV) := [(0, .str s), (2, .ptr 0 0), (3, .ptr 1 0), (4, x), (13, .sl 1 (L.map .str) .none), (14, .int .i64 (L.length : Int)), (15, .int .i64 (i : Int))]

theorem rowC_len {l : List Bytes} {cap : Nat} (h : l.length ≤ cap) : (rowC l cap).length = cap * 1 := by
  simp [rowC]
  omega
theorem rowC_take {l : List Bytes} {cap : Nat} : (rowC l cap).take (l.length * 1) = l.map .str := by
  simp [rowC]
theorem rowC_get {l l' : List Bytes} {cap : Nat} {cells : List AV} {k id : Nat} (hp : ∃ r, l = l' ++ r) (hc : cells.take l.length = l.map .str) (hlen : cells.length = cap) (hl : l.length ≤ cap) : (rowC l' cap).length = cells.length ∧ ∀ (j : Nat) (x y : AV), cells[j]? = some x → (rowC l' cap)[j]? = some y → SubK k id x y := by
  obtain ⟨r, rfl⟩ := hp
  have hl' : l'.length ≤ cap := by simp at hl; omega
  refine ⟨by rw [rowC_len hl']; omega, fun j x y hx hy => ?_⟩
  by_cases hj : j < l'.length
  · have h1 : (cells.take (l' ++ r).length)[j]? = some x := by
      rw [List.getElem?_take, if_pos (by simp; omega)]
      exact hx
    rw [hc] at h1
    simp only [rowC] at hy
    rw [List.getElem?_append_left (by simpa using hj)] at hy
    simp only [List.map_append] at h1
    rw [List.getElem?_append_left (by simpa using hj), hy] at h1
    cases h1
    simp only [List.getElem?_map, Option.map_eq_some_iff] at hy
    obtain ⟨s, _, rfl⟩ := hy
    exact SubK.of_closed closed_str
  · simp only [rowC] at hy
    rw [List.getElem?_append_right (by simpa using hj)] at hy
    have := List.mem_of_getElem? hy
    rw [List.mem_replicate] at this
    rw [this.2]
    exact SubK.top

theorem base_K {k id : Nat} (hk : 2 ≤ k) {s : Bytes} {L : List Bytes} {i : Nat} {x : AV} {f : AF} (h0 : f.get 0 = .str s) (h2 : f.get 2 = .ptr 0 0) (h3 : f.get 3 = .ptr 1 0) (h4 : SubK k id (f.get 4) x) (h13 : f.get 13 = .sl 1 (L.map .str) .none) (h14 : f.get 14 = .int .i64 (L.length : Int)) (h15 : f.get 15 = .int .i64 (i : Int)) :
    SubsK k id f (baseF s L i x) := by
  refine ⟨?_, ?_, ?_, h4, ?_, ?_, ?_, trivial⟩
  · rw [h0]; exact SubK.of_closed closed_str
  · rw [h2]; exact SubK.ptr (by simp; omega)
  · rw [h3]; exact SubK.ptr (by simp; omega)
  · rw [h13]; exact SubK.of_closed closed_strs
  · rw [h14]; exact SubK.of_closed closed_int
  · rw [h15]; exact SubK.of_closed closed_int
theorem norm_defs {k id : Nat} (hk : 2 ≤ k) : DefsK k id [normD] := by
  have h : AllK k id [.ptr 0 0, .ptr 1 0] := by
    intro x hx
    simp only [List.mem_cons, List.not_mem_nil, or_false] at hx
    rcases hx with rfl | rfl <;> exact SubK.ptr (by simp; omega)
  exact ⟨h, (fun x hx => by cases hx), h, trivial⟩
theorem norm_objs {k id : Nat} {M : Mem} (hk : 2 ≤ k) (h0 : M.get 0 = some (.cells [.str []])) (h1 : M.get 1 = some (.cells [.int .i64 0])) : ObjsK k id M [(0, .cells [.str []]), (1, .cells [.int .i64 0])] := by
  refine ⟨by omega, h0, ?_, by omega, h1, ?_, trivial⟩
  · intro x hx
    simp at hx
    subst hx
    exact SubK.of_closed closed_str
  · intro x hx
    simp at hx
    subst hx
    exact SubK.of_closed closed_int

/-- Where the loop stands: no name yet; or a row of them, in an object. -/
def NormI (s : Bytes) (L : List Bytes) (i : Nat) (f : AF) (N : Mem) : Prop :=
  ∃ l : List Bytes, (L.take i).foldl stepN (some []) = some l ∧ l.length ≤ i ∧ (∀ p, p ∈ l → isNameB p = true) ∧
    ((l = [] ∧ N = zero2 ∧ f = ⟨baseF s L i (.sl 0 [] .full), [normD]⟩) ∨ ∃ cap, l.length ≤ cap ∧ N = zero3 l cap ∧ f = ⟨baseF s L i (.osl 2 0 l.length cap 1), [normD]⟩)

theorem norm_step {L : List Bytes} {i : Nat} {l : List Bytes} {p : Bytes} (h : (L.take i).foldl stepN (some []) = some l) (hp : L[i]? = some p) : (L.take (i + 1)).foldl stepN (some []) = stepN (some l) p := by
  rw [take_succ hp, List.foldl_append, h]
  rfl
theorem norm_stop {L : List Bytes} {i : Nat} {l : List Bytes} {p : Bytes} (h : (L.take i).foldl stepN (some []) = some l) (hp : L[i]? = some p) (hn : stepN (some l) p = none) : L.foldl stepN (some []) = none := by
  have h1 := norm_step h hp
  rw [hn] at h1
  have : L.foldl stepN (some []) = (L.take (i + 1) ++ L.drop (i + 1)).foldl stepN (some []) := by rw [List.take_append_drop]
  rw [this, List.foldl_append, h1, fold_none]
theorem join_nil_ok : APure Tryd.prog 49 [.sl 0 [] .full, .str [47]] (.str []) := by
  intro M
  refine ACalls.sub (join47_ok [] .full (by simp) (by simp [glueL]) M) rfl ?_
  intro i x y hx hy
  match i with
  | 0 => simp at hx hy; subst hx; subst hy; exact Sub.empty (.inr rfl)
  | 1 => simp at hx hy; subst hx; subst hy; exact Sub.refl
  | i + 2 => simp at hx

set_option maxHeartbeats 4000000 in
set_option maxRecDepth 100000 in
theorem norm_ok (s : Bytes) (hs : s.length < 1000000) : APure Tryd.prog 29 [.str s] (pairA (normB s)) := by
  refine pure_sub (closed1 closed_str) (closed_pair _) ?_
  refine acalls_of_d tabOK Tryd.func29 rfl (by decide) (by simp [Tryd.f29]) ?_
  refine W_seq ?_
  refine W_text rfl (fun _ _ _ h => h) ?_
  repeat (first | refine DW_A tabs rfl ?_ | refine DW_lits tabOK rfl rfl rfl rfl rfl rfl rfl rfl rfl rfl rfl rfl rfl ?_)
  refine DW_nil ?_
  refine W_scope ?_
  refine W_seq ?_
  refine W_region ?_
  refine WL_P rfl rfl opP_func ?_
  refine WL_defer rfl rfl rfl rfl [(2, .ptr 0 0), (3, .ptr 1 0)] ?_ ?_
  · intro p hp
    simp only [List.mem_cons, List.not_mem_nil, or_false] at hp
    rcases hp with rfl | rfl <;> rfl
  refine WL_nil ?_
  unfold normB
  by_cases h4 : 400 < s.length
  · have d4 : decide ((400 : Int) < (s.length : Int)) = true := by simp; omega
    rw [if_pos h4]
    repeat' (first | (show DW _ _ _ _ _ _ _ _; first | refine DW_V tabs rfl rfl rfl rfl (congrArg AV.bool d4) ?_ | refine DW_A tabs rfl ?_ | refine DW_nil ?_ | refine DW_lits tabOK rfl rfl rfl rfl rfl rfl rfl rfl rfl rfl rfl rfl rfl ?_ | refine DW_append_own tabOK rfl rfl rfl rfl rfl rfl rfl rfl rfl rfl rfl rfl rfl rfl rfl (by simp; omega) (by simp; omega) ?_) | (show W _ _ _ _ _ _; first | refine W_seq ?_ | refine W_text rfl (fun _ _ _ h => h) ?_ | refine W_block ?_ | refine W_skip ?_ | refine W_exit ?_ | refine W_ret ?_ | refine W_true rfl ?_ | refine W_false rfl ?_ | refine W_cond rfl (fun _ => ?_) (fun _ => ?_) | refine W_scope ?_ | refine W_label ?_))
    refine DW_panic rfl rfl rfl rfl rfl ?_
    exact norm_pan (x := []) (y := 0) (Mem.le_cons rfl (Mem.le_cons rfl (Mem.le_nil rfl))) rfl rfl
  · have d4 : decide ((400 : Int) < (s.length : Int)) = false := by simp; omega
    rw [if_neg h4]
    have k := split47_ok s (by omega)
    have kl := splitOn_len 47 s
    unfold normL
    generalize splitOn 47 s = L at k kl
    have la : ((L.map AV.str).length : Int) = (L.length : Int) := by simp
    repeat' (first | (show DW _ _ _ _ _ _ _ _; first | refine DW_V tabs rfl rfl rfl rfl (congrArg AV.bool d4) ?_ | refine DW_V tabs rfl rfl rfl rfl (congrArg (AV.int _) la) ?_ | refine DW_A tabs rfl ?_ | refine DW_nil ?_ | refine DW_lits tabOK rfl rfl rfl rfl rfl rfl rfl rfl rfl rfl rfl rfl rfl ?_ | refine DW_pure rfl rfl rfl rfl rfl k ?_ | refine DW_append_own tabOK rfl rfl rfl rfl rfl rfl rfl rfl rfl rfl rfl rfl rfl rfl rfl (by simp; omega) (by simp; omega) ?_) | (show W _ _ _ _ _ _; first | refine W_seq ?_ | refine W_text rfl (fun _ _ _ h => h) ?_ | refine W_block ?_ | refine W_skip ?_ | refine W_exit ?_ | refine W_ret ?_ | refine W_true rfl ?_ | refine W_false rfl ?_ | refine W_cond rfl (fun _ => ?_) (fun _ => ?_) | refine W_scope ?_ | refine W_label ?_))
    refine W_count L.length (NormI s L) (Nat.zero_le _) ⟨[], rfl, Nat.le_refl _, by simp, .inl ⟨rfl, rfl, rfl⟩⟩ (Joint.le ?_ (Mem.le_cons rfl (Mem.le_cons rfl (Mem.le_nil rfl)))) ?_
    · skip
      repeat (refine AF.le_cons rfl ?_)
      exact AF.le_nil rfl
    · rintro i f N hi ⟨l, hfold, hli, hnames, hst⟩
      by_cases h1 : i < L.length
      · have d1 : decide ((i : Int) < (L.length : Int)) = true := by simp; omega
        have hx : L[i]? = some L[i] := List.getElem?_eq_getElem h1
        have fi := wrap_succ (i := i) (by omega)
        generalize L[i] = p at hx
        have hpl := kl.2 p (List.mem_of_getElem? hx)
        have hstep := norm_step hfold hx
        have hstop := norm_stop hfold hx
        have kn := isName_ok p (by omega)
        have hlen : l.length < 1000000 := by omega
        have hpan : ∀ {M : Mem}, stepN (some l) p = none → M.get 0 = some (.cells [.str []]) → M.get 1 = some (.cells [.int .i64 0]) → ALeaves Tryd.prog tab Tryd.f29 ⟨[(2, .ptr 0 0), (3, .ptr 1 0)], []⟩
            (normR (match L.foldl stepN (some []) with | none => ([], 20) | some l => if isPathB (glueL [47] l) = true then (glueL [47] l, 0) else ([], 20))) [normD] (.pan P20) M := by
          intro M hn g0 g1
          rw [hstop hn]
          exact norm_pan (x := []) (y := 0) (Mem.le_cons g0 (Mem.le_cons g1 (Mem.le_nil rfl))) rfl rfl
        have keep : ∀ {x : AV}, stepN (some l) p = some l → (L.take (i + 1)).foldl stepN (some []) = some l := fun h => by rw [hstep, h]
        by_cases c1 : p = []
        · have e1 : (p == []) = true := by simp [c1]
          have hs1 : (L.take (i + 1)).foldl stepN (some []) = some l := by rw [hstep]; simp [stepN, c1]
          rcases hst with ⟨rfl, rfl, rfl⟩ | ⟨cap, hcap, rfl, rfl⟩
          · unfold baseF
            repeat' (first | (show DW _ _ _ _ _ _ _ _; first | refine DW_V tabs rfl rfl rfl rfl (congrArg AV.bool d1) ?_ | refine DW_V tabs rfl rfl rfl rfl (congrArg (AV.int _) la) ?_ | refine DW_V tabs rfl rfl rfl rfl (congrArg (AV.int _) fi) ?_ | refine DW_A tabs rfl ?_ | refine DW_nil ?_ | refine DW_lits tabOK rfl rfl rfl rfl rfl rfl rfl rfl rfl rfl rfl rfl rfl ?_ | refine DW_append_own tabOK rfl rfl rfl rfl rfl rfl rfl rfl rfl rfl rfl rfl rfl rfl rfl (by simp; omega) (by simp; omega) ?_) | (show W _ _ _ _ _ _; first | refine W_seq ?_ | refine W_text rfl (fun _ _ _ h => h) ?_ | refine W_block ?_ | refine W_skip ?_ | refine W_exit ?_ | refine W_ret ?_ | refine W_true rfl ?_ | refine W_false rfl ?_ | refine W_cond rfl (fun _ => ?_) (fun _ => ?_) | refine W_scope ?_ | refine W_label ?_))
            refine DW_index tabOK rfl rfl rfl rfl rfl rfl rfl rfl rfl rfl (Int.natCast_nonneg _) (map_get hx) ?_
            repeat' (first | (show DW _ _ _ _ _ _ _ _; first | refine DW_V tabs rfl rfl rfl rfl (congrArg AV.bool e1) ?_ | refine DW_V tabs rfl rfl rfl rfl (congrArg AV.bool d1) ?_ | refine DW_V tabs rfl rfl rfl rfl (congrArg (AV.int _) la) ?_ | refine DW_V tabs rfl rfl rfl rfl (congrArg (AV.int _) fi) ?_ | refine DW_A tabs rfl ?_ | refine DW_nil ?_ | refine DW_lits tabOK rfl rfl rfl rfl rfl rfl rfl rfl rfl rfl rfl rfl rfl ?_ | refine DW_append_own tabOK rfl rfl rfl rfl rfl rfl rfl rfl rfl rfl rfl rfl rfl rfl rfl (by simp; omega) (by simp; omega) ?_) | (show W _ _ _ _ _ _; first | refine W_seq ?_ | refine W_text rfl (fun _ _ _ h => h) ?_ | refine W_block ?_ | refine W_skip ?_ | refine W_exit ?_ | refine W_ret ?_ | refine W_true rfl ?_ | refine W_false rfl ?_ | refine W_cond rfl (fun _ => ?_) (fun _ => ?_) | refine W_scope ?_ | refine W_label ?_))
            refine ⟨h1, _, _, ⟨[], hs1, by simp, hnames, .inl ⟨rfl, rfl, rfl⟩⟩, Joint.le ?_ (Mem.le_refl _)⟩
            unfold baseF
            repeat (refine AF.le_cons rfl ?_)
            exact AF.le_nil rfl
          · unfold baseF
            repeat' (first | (show DW _ _ _ _ _ _ _ _; first | refine DW_V tabs rfl rfl rfl rfl (congrArg AV.bool d1) ?_ | refine DW_V tabs rfl rfl rfl rfl (congrArg (AV.int _) la) ?_ | refine DW_V tabs rfl rfl rfl rfl (congrArg (AV.int _) fi) ?_ | refine DW_A tabs rfl ?_ | refine DW_nil ?_ | refine DW_lits tabOK rfl rfl rfl rfl rfl rfl rfl rfl rfl rfl rfl rfl rfl ?_ | refine DW_append_own tabOK rfl rfl rfl rfl rfl rfl rfl rfl rfl rfl rfl rfl rfl rfl rfl (by simp; omega) (by simp; omega) ?_) | (show W _ _ _ _ _ _; first | refine W_seq ?_ | refine W_text rfl (fun _ _ _ h => h) ?_ | refine W_block ?_ | refine W_skip ?_ | refine W_exit ?_ | refine W_ret ?_ | refine W_true rfl ?_ | refine W_false rfl ?_ | refine W_cond rfl (fun _ => ?_) (fun _ => ?_) | refine W_scope ?_ | refine W_label ?_))
            refine DW_index tabOK rfl rfl rfl rfl rfl rfl rfl rfl rfl rfl (Int.natCast_nonneg _) (map_get hx) ?_
            repeat' (first | (show DW _ _ _ _ _ _ _ _; first | refine DW_V tabs rfl rfl rfl rfl (congrArg AV.bool e1) ?_ | refine DW_V tabs rfl rfl rfl rfl (congrArg AV.bool d1) ?_ | refine DW_V tabs rfl rfl rfl rfl (congrArg (AV.int _) la) ?_ | refine DW_V tabs rfl rfl rfl rfl (congrArg (AV.int _) fi) ?_ | refine DW_A tabs rfl ?_ | refine DW_nil ?_ | refine DW_lits tabOK rfl rfl rfl rfl rfl rfl rfl rfl rfl rfl rfl rfl rfl ?_ | refine DW_append_own tabOK rfl rfl rfl rfl rfl rfl rfl rfl rfl rfl rfl rfl rfl rfl rfl (by simp; omega) (by simp; omega) ?_) | (show W _ _ _ _ _ _; first | refine W_seq ?_ | refine W_text rfl (fun _ _ _ h => h) ?_ | refine W_block ?_ | refine W_skip ?_ | refine W_exit ?_ | refine W_ret ?_ | refine W_true rfl ?_ | refine W_false rfl ?_ | refine W_cond rfl (fun _ => ?_) (fun _ => ?_) | refine W_scope ?_ | refine W_label ?_))
            refine ⟨h1, _, _, ⟨l, hs1, by omega, hnames, .inr ⟨cap, hcap, rfl, rfl⟩⟩, Joint.le ?_ (Mem.le_refl _)⟩
            unfold baseF
            repeat (refine AF.le_cons rfl ?_)
            exact AF.le_nil rfl
        · have e1 : (p == []) = false := by simp [c1]
          by_cases c2 : p = [46]
          · have e2 : (p == [46]) = true := by simp [c2]
            have hs1 : (L.take (i + 1)).foldl stepN (some []) = some l := by rw [hstep]; simp [stepN, c2]
            rcases hst with ⟨rfl, rfl, rfl⟩ | ⟨cap, hcap, rfl, rfl⟩
            · unfold baseF
              repeat' (first | (show DW _ _ _ _ _ _ _ _; first | refine DW_V tabs rfl rfl rfl rfl (congrArg AV.bool d1) ?_ | refine DW_V tabs rfl rfl rfl rfl (congrArg (AV.int _) la) ?_ | refine DW_V tabs rfl rfl rfl rfl (congrArg (AV.int _) fi) ?_ | refine DW_A tabs rfl ?_ | refine DW_nil ?_ | refine DW_lits tabOK rfl rfl rfl rfl rfl rfl rfl rfl rfl rfl rfl rfl rfl ?_ | refine DW_append_own tabOK rfl rfl rfl rfl rfl rfl rfl rfl rfl rfl rfl rfl rfl rfl rfl (by simp; omega) (by simp; omega) ?_) | (show W _ _ _ _ _ _; first | refine W_seq ?_ | refine W_text rfl (fun _ _ _ h => h) ?_ | refine W_block ?_ | refine W_skip ?_ | refine W_exit ?_ | refine W_ret ?_ | refine W_true rfl ?_ | refine W_false rfl ?_ | refine W_cond rfl (fun _ => ?_) (fun _ => ?_) | refine W_scope ?_ | refine W_label ?_))
              refine DW_index tabOK rfl rfl rfl rfl rfl rfl rfl rfl rfl rfl (Int.natCast_nonneg _) (map_get hx) ?_
              repeat' (first | (show DW _ _ _ _ _ _ _ _; first | refine DW_V tabs rfl rfl rfl rfl (congrArg AV.bool e1) ?_ | refine DW_V tabs rfl rfl rfl rfl (congrArg AV.bool e2) ?_ | refine DW_V tabs rfl rfl rfl rfl (congrArg AV.bool d1) ?_ | refine DW_V tabs rfl rfl rfl rfl (congrArg (AV.int _) la) ?_ | refine DW_V tabs rfl rfl rfl rfl (congrArg (AV.int _) fi) ?_ | refine DW_A tabs rfl ?_ | refine DW_nil ?_ | refine DW_lits tabOK rfl rfl rfl rfl rfl rfl rfl rfl rfl rfl rfl rfl rfl ?_ | refine DW_append_own tabOK rfl rfl rfl rfl rfl rfl rfl rfl rfl rfl rfl rfl rfl rfl rfl (by simp; omega) (by simp; omega) ?_) | (show W _ _ _ _ _ _; first | refine W_seq ?_ | refine W_text rfl (fun _ _ _ h => h) ?_ | refine W_block ?_ | refine W_skip ?_ | refine W_exit ?_ | refine W_ret ?_ | refine W_true rfl ?_ | refine W_false rfl ?_ | refine W_cond rfl (fun _ => ?_) (fun _ => ?_) | refine W_scope ?_ | refine W_label ?_))
              refine ⟨h1, _, _, ⟨[], hs1, by simp, hnames, .inl ⟨rfl, rfl, rfl⟩⟩, Joint.le ?_ (Mem.le_refl _)⟩
              unfold baseF
              repeat (refine AF.le_cons rfl ?_)
              exact AF.le_nil rfl
            · unfold baseF
              repeat' (first | (show DW _ _ _ _ _ _ _ _; first | refine DW_V tabs rfl rfl rfl rfl (congrArg AV.bool d1) ?_ | refine DW_V tabs rfl rfl rfl rfl (congrArg (AV.int _) la) ?_ | refine DW_V tabs rfl rfl rfl rfl (congrArg (AV.int _) fi) ?_ | refine DW_A tabs rfl ?_ | refine DW_nil ?_ | refine DW_lits tabOK rfl rfl rfl rfl rfl rfl rfl rfl rfl rfl rfl rfl rfl ?_ | refine DW_append_own tabOK rfl rfl rfl rfl rfl rfl rfl rfl rfl rfl rfl rfl rfl rfl rfl (by simp; omega) (by simp; omega) ?_) | (show W _ _ _ _ _ _; first | refine W_seq ?_ | refine W_text rfl (fun _ _ _ h => h) ?_ | refine W_block ?_ | refine W_skip ?_ | refine W_exit ?_ | refine W_ret ?_ | refine W_true rfl ?_ | refine W_false rfl ?_ | refine W_cond rfl (fun _ => ?_) (fun _ => ?_) | refine W_scope ?_ | refine W_label ?_))
              refine DW_index tabOK rfl rfl rfl rfl rfl rfl rfl rfl rfl rfl (Int.natCast_nonneg _) (map_get hx) ?_
              repeat' (first | (show DW _ _ _ _ _ _ _ _; first | refine DW_V tabs rfl rfl rfl rfl (congrArg AV.bool e1) ?_ | refine DW_V tabs rfl rfl rfl rfl (congrArg AV.bool e2) ?_ | refine DW_V tabs rfl rfl rfl rfl (congrArg AV.bool d1) ?_ | refine DW_V tabs rfl rfl rfl rfl (congrArg (AV.int _) la) ?_ | refine DW_V tabs rfl rfl rfl rfl (congrArg (AV.int _) fi) ?_ | refine DW_A tabs rfl ?_ | refine DW_nil ?_ | refine DW_lits tabOK rfl rfl rfl rfl rfl rfl rfl rfl rfl rfl rfl rfl rfl ?_ | refine DW_append_own tabOK rfl rfl rfl rfl rfl rfl rfl rfl rfl rfl rfl rfl rfl rfl rfl (by simp; omega) (by simp; omega) ?_) | (show W _ _ _ _ _ _; first | refine W_seq ?_ | refine W_text rfl (fun _ _ _ h => h) ?_ | refine W_block ?_ | refine W_skip ?_ | refine W_exit ?_ | refine W_ret ?_ | refine W_true rfl ?_ | refine W_false rfl ?_ | refine W_cond rfl (fun _ => ?_) (fun _ => ?_) | refine W_scope ?_ | refine W_label ?_))
              refine ⟨h1, _, _, ⟨l, hs1, by omega, hnames, .inr ⟨cap, hcap, rfl, rfl⟩⟩, Joint.le ?_ (Mem.le_refl _)⟩
              unfold baseF
              repeat (refine AF.le_cons rfl ?_)
              exact AF.le_nil rfl
          · have e2 : (p == [46]) = false := by simp [c2]
            by_cases c3 : p = [46, 46]
            · have e3 : (p == [46, 46]) = true := by simp [c3]
              rcases hst with ⟨rfl, rfl, rfl⟩ | ⟨cap, hcap, rfl, rfl⟩
              · unfold baseF
                repeat' (first | (show DW _ _ _ _ _ _ _ _; first | refine DW_V tabs rfl rfl rfl rfl (congrArg AV.bool d1) ?_ | refine DW_V tabs rfl rfl rfl rfl (congrArg (AV.int _) la) ?_ | refine DW_V tabs rfl rfl rfl rfl (congrArg (AV.int _) fi) ?_ | refine DW_A tabs rfl ?_ | refine DW_nil ?_ | refine DW_lits tabOK rfl rfl rfl rfl rfl rfl rfl rfl rfl rfl rfl rfl rfl ?_ | refine DW_append_own tabOK rfl rfl rfl rfl rfl rfl rfl rfl rfl rfl rfl rfl rfl rfl rfl (by simp; omega) (by simp; omega) ?_) | (show W _ _ _ _ _ _; first | refine W_seq ?_ | refine W_text rfl (fun _ _ _ h => h) ?_ | refine W_block ?_ | refine W_skip ?_ | refine W_exit ?_ | refine W_ret ?_ | refine W_true rfl ?_ | refine W_false rfl ?_ | refine W_cond rfl (fun _ => ?_) (fun _ => ?_) | refine W_scope ?_ | refine W_label ?_))
                refine DW_index tabOK rfl rfl rfl rfl rfl rfl rfl rfl rfl rfl (Int.natCast_nonneg _) (map_get hx) ?_
                repeat' (first | (show DW _ _ _ _ _ _ _ _; first | refine DW_V tabs rfl rfl rfl rfl (congrArg AV.bool e1) ?_ | refine DW_V tabs rfl rfl rfl rfl (congrArg AV.bool e2) ?_ | refine DW_V tabs rfl rfl rfl rfl (congrArg AV.bool e3) ?_ | refine DW_V tabs rfl rfl rfl rfl (congrArg AV.bool d1) ?_ | refine DW_V tabs rfl rfl rfl rfl (congrArg (AV.int _) la) ?_ | refine DW_V tabs rfl rfl rfl rfl (congrArg (AV.int _) fi) ?_ | refine DW_A tabs rfl ?_ | refine DW_nil ?_ | refine DW_lits tabOK rfl rfl rfl rfl rfl rfl rfl rfl rfl rfl rfl rfl rfl ?_ | refine DW_append_own tabOK rfl rfl rfl rfl rfl rfl rfl rfl rfl rfl rfl rfl rfl rfl rfl (by simp; omega) (by simp; omega) ?_) | (show W _ _ _ _ _ _; first | refine W_seq ?_ | refine W_text rfl (fun _ _ _ h => h) ?_ | refine W_block ?_ | refine W_skip ?_ | refine W_exit ?_ | refine W_ret ?_ | refine W_true rfl ?_ | refine W_false rfl ?_ | refine W_cond rfl (fun _ => ?_) (fun _ => ?_) | refine W_scope ?_ | refine W_label ?_))
                refine DW_call rfl rfl rfl rfl rfl rfl (up_nil _) ?_ ?_
                · rintro u M' ⟨e, _⟩
                  cases e
                · rintro u M' ⟨e, rfl⟩
                  cases e
                  exact hpan (by simp [stepN, c3]) rfl rfl
              · unfold baseF
                repeat' (first | (show DW _ _ _ _ _ _ _ _; first | refine DW_V tabs rfl rfl rfl rfl (congrArg AV.bool d1) ?_ | refine DW_V tabs rfl rfl rfl rfl (congrArg (AV.int _) la) ?_ | refine DW_V tabs rfl rfl rfl rfl (congrArg (AV.int _) fi) ?_ | refine DW_A tabs rfl ?_ | refine DW_nil ?_ | refine DW_lits tabOK rfl rfl rfl rfl rfl rfl rfl rfl rfl rfl rfl rfl rfl ?_ | refine DW_append_own tabOK rfl rfl rfl rfl rfl rfl rfl rfl rfl rfl rfl rfl rfl rfl rfl (by simp; omega) (by simp; omega) ?_) | (show W _ _ _ _ _ _; first | refine W_seq ?_ | refine W_text rfl (fun _ _ _ h => h) ?_ | refine W_block ?_ | refine W_skip ?_ | refine W_exit ?_ | refine W_ret ?_ | refine W_true rfl ?_ | refine W_false rfl ?_ | refine W_cond rfl (fun _ => ?_) (fun _ => ?_) | refine W_scope ?_ | refine W_label ?_))
                refine DW_index tabOK rfl rfl rfl rfl rfl rfl rfl rfl rfl rfl (Int.natCast_nonneg _) (map_get hx) ?_
                repeat' (first | (show DW _ _ _ _ _ _ _ _; first | refine DW_V tabs rfl rfl rfl rfl (congrArg AV.bool e1) ?_ | refine DW_V tabs rfl rfl rfl rfl (congrArg AV.bool e2) ?_ | refine DW_V tabs rfl rfl rfl rfl (congrArg AV.bool e3) ?_ | refine DW_V tabs rfl rfl rfl rfl (congrArg AV.bool d1) ?_ | refine DW_V tabs rfl rfl rfl rfl (congrArg (AV.int _) la) ?_ | refine DW_V tabs rfl rfl rfl rfl (congrArg (AV.int _) fi) ?_ | refine DW_A tabs rfl ?_ | refine DW_nil ?_ | refine DW_lits tabOK rfl rfl rfl rfl rfl rfl rfl rfl rfl rfl rfl rfl rfl ?_ | refine DW_append_own tabOK rfl rfl rfl rfl rfl rfl rfl rfl rfl rfl rfl rfl rfl rfl rfl (by simp; omega) (by simp; omega) ?_) | (show W _ _ _ _ _ _; first | refine W_seq ?_ | refine W_text rfl (fun _ _ _ h => h) ?_ | refine W_block ?_ | refine W_skip ?_ | refine W_exit ?_ | refine W_ret ?_ | refine W_true rfl ?_ | refine W_false rfl ?_ | refine W_cond rfl (fun _ => ?_) (fun _ => ?_) | refine W_scope ?_ | refine W_label ?_))
                refine DW_call rfl rfl rfl rfl rfl rfl (up_osl rfl hcap hlen) ?_ ?_
                · rintro u M' ⟨rfl, ⟨_, e⟩ | ⟨hne, e⟩⟩
                  · cases e
                  · cases e
                    repeat' (first | (show DW _ _ _ _ _ _ _ _; first | refine DW_V tabs rfl rfl rfl rfl (congrArg (AV.int _) la) ?_ | refine DW_V tabs rfl rfl rfl rfl (congrArg (AV.int _) fi) ?_ | refine DW_A tabs rfl ?_ | refine DW_nil ?_ | refine DW_lits tabOK rfl rfl rfl rfl rfl rfl rfl rfl rfl rfl rfl rfl rfl ?_ | refine DW_append_own tabOK rfl rfl rfl rfl rfl rfl rfl rfl rfl rfl rfl rfl rfl rfl rfl (by simp; omega) (by simp; omega) ?_) | (show W _ _ _ _ _ _; first | refine W_seq ?_ | refine W_text rfl (fun _ _ _ h => h) ?_ | refine W_block ?_ | refine W_skip ?_ | refine W_exit ?_ | refine W_ret ?_ | refine W_true rfl ?_ | refine W_false rfl ?_ | refine W_cond rfl (fun _ => ?_) (fun _ => ?_) | refine W_scope ?_ | refine W_label ?_))
                    have hd : l.dropLast.length = l.length - 1 := by simp
                    have hs1 : (L.take (i + 1)).foldl stepN (some []) = some l.dropLast := by
                      have : l ≠ [] := by rintro rfl; exact hne rfl
                      rw [hstep]
                      simp [stepN, c3, this]
                    rw [← hd]
                    have hg := rowC_get (k := 2) (id := 2) (l := l) (l' := l.dropLast) (cap := cap) (cells := rowC l cap) ⟨l.drop (l.length - 1), by rw [List.dropLast_eq_take, List.take_append_drop]⟩ (by have := rowC_take (l := l) (cap := cap); rwa [Nat.mul_one] at this) (by have := rowC_len hcap; omega) hcap
                    refine ⟨h1, _, _, ⟨l.dropLast, hs1, by omega, fun q hq => hnames q (by rw [List.dropLast_eq_take] at hq; exact List.mem_of_mem_take hq), .inr ⟨cap, by omega, rfl, rfl⟩⟩, Joint.move (k := 2) (id := 2) (Nat.le_refl 2) (Nat.le_refl 2) rfl hg.1 hg.2 (norm_defs (Nat.le_refl 2)) ?_ (norm_objs (Nat.le_refl 2) rfl rfl)⟩
                    exact base_K (Nat.le_refl 2) rfl rfl rfl SubK.osl rfl rfl rfl
                · rintro u M' ⟨rfl, ⟨h0, e⟩ | ⟨_, e⟩⟩
                  · cases e
                    exact hpan (by have : l = [] := List.eq_nil_of_length_eq_zero h0; simp [stepN, c3, this]) rfl rfl
                  · cases e
            · have e3 : (p == [46, 46]) = false := by simp [c3]
              cases c4 : isNameB p
              · rw [c4] at kn
                have hn : stepN (some l) p = none := by simp [stepN, c1, c2, c3, c4]
                rcases hst with ⟨rfl, rfl, rfl⟩ | ⟨cap, hcap, rfl, rfl⟩
                · unfold baseF
                  repeat' (first | (show DW _ _ _ _ _ _ _ _; first | refine DW_V tabs rfl rfl rfl rfl (congrArg AV.bool d1) ?_ | refine DW_V tabs rfl rfl rfl rfl (congrArg (AV.int _) la) ?_ | refine DW_V tabs rfl rfl rfl rfl (congrArg (AV.int _) fi) ?_ | refine DW_A tabs rfl ?_ | refine DW_nil ?_ | refine DW_lits tabOK rfl rfl rfl rfl rfl rfl rfl rfl rfl rfl rfl rfl rfl ?_ | refine DW_append_own tabOK rfl rfl rfl rfl rfl rfl rfl rfl rfl rfl rfl rfl rfl rfl rfl (by simp; omega) (by simp; omega) ?_) | (show W _ _ _ _ _ _; first | refine W_seq ?_ | refine W_text rfl (fun _ _ _ h => h) ?_ | refine W_block ?_ | refine W_skip ?_ | refine W_exit ?_ | refine W_ret ?_ | refine W_true rfl ?_ | refine W_false rfl ?_ | refine W_cond rfl (fun _ => ?_) (fun _ => ?_) | refine W_scope ?_ | refine W_label ?_))
                  refine DW_index tabOK rfl rfl rfl rfl rfl rfl rfl rfl rfl rfl (Int.natCast_nonneg _) (map_get hx) ?_
                  repeat' (first | (show DW _ _ _ _ _ _ _ _; first | refine DW_V tabs rfl rfl rfl rfl (congrArg AV.bool e1) ?_ | refine DW_V tabs rfl rfl rfl rfl (congrArg AV.bool e2) ?_ | refine DW_V tabs rfl rfl rfl rfl (congrArg AV.bool e3) ?_ | refine DW_V tabs rfl rfl rfl rfl (congrArg AV.bool d1) ?_ | refine DW_V tabs rfl rfl rfl rfl (congrArg (AV.int _) la) ?_ | refine DW_V tabs rfl rfl rfl rfl (congrArg (AV.int _) fi) ?_ | refine DW_A tabs rfl ?_ | refine DW_nil ?_ | refine DW_lits tabOK rfl rfl rfl rfl rfl rfl rfl rfl rfl rfl rfl rfl rfl ?_ | refine DW_pure rfl rfl rfl rfl rfl kn ?_ | refine DW_append_own tabOK rfl rfl rfl rfl rfl rfl rfl rfl rfl rfl rfl rfl rfl rfl rfl (by simp; omega) (by simp; omega) ?_) | (show W _ _ _ _ _ _; first | refine W_seq ?_ | refine W_text rfl (fun _ _ _ h => h) ?_ | refine W_block ?_ | refine W_skip ?_ | refine W_exit ?_ | refine W_ret ?_ | refine W_true rfl ?_ | refine W_false rfl ?_ | refine W_cond rfl (fun _ => ?_) (fun _ => ?_) | refine W_scope ?_ | refine W_label ?_))
                  refine DW_panic rfl rfl rfl rfl rfl ?_
                  exact hpan hn rfl rfl
                · unfold baseF
                  repeat' (first | (show DW _ _ _ _ _ _ _ _; first | refine DW_V tabs rfl rfl rfl rfl (congrArg AV.bool d1) ?_ | refine DW_V tabs rfl rfl rfl rfl (congrArg (AV.int _) la) ?_ | refine DW_V tabs rfl rfl rfl rfl (congrArg (AV.int _) fi) ?_ | refine DW_A tabs rfl ?_ | refine DW_nil ?_ | refine DW_lits tabOK rfl rfl rfl rfl rfl rfl rfl rfl rfl rfl rfl rfl rfl ?_ | refine DW_append_own tabOK rfl rfl rfl rfl rfl rfl rfl rfl rfl rfl rfl rfl rfl rfl rfl (by simp; omega) (by simp; omega) ?_) | (show W _ _ _ _ _ _; first | refine W_seq ?_ | refine W_text rfl (fun _ _ _ h => h) ?_ | refine W_block ?_ | refine W_skip ?_ | refine W_exit ?_ | refine W_ret ?_ | refine W_true rfl ?_ | refine W_false rfl ?_ | refine W_cond rfl (fun _ => ?_) (fun _ => ?_) | refine W_scope ?_ | refine W_label ?_))
                  refine DW_index tabOK rfl rfl rfl rfl rfl rfl rfl rfl rfl rfl (Int.natCast_nonneg _) (map_get hx) ?_
                  repeat' (first | (show DW _ _ _ _ _ _ _ _; first | refine DW_V tabs rfl rfl rfl rfl (congrArg AV.bool e1) ?_ | refine DW_V tabs rfl rfl rfl rfl (congrArg AV.bool e2) ?_ | refine DW_V tabs rfl rfl rfl rfl (congrArg AV.bool e3) ?_ | refine DW_V tabs rfl rfl rfl rfl (congrArg AV.bool d1) ?_ | refine DW_V tabs rfl rfl rfl rfl (congrArg (AV.int _) la) ?_ | refine DW_V tabs rfl rfl rfl rfl (congrArg (AV.int _) fi) ?_ | refine DW_A tabs rfl ?_ | refine DW_nil ?_ | refine DW_lits tabOK rfl rfl rfl rfl rfl rfl rfl rfl rfl rfl rfl rfl rfl ?_ | refine DW_pure rfl rfl rfl rfl rfl kn ?_ | refine DW_append_own tabOK rfl rfl rfl rfl rfl rfl rfl rfl rfl rfl rfl rfl rfl rfl rfl (by simp; omega) (by simp; omega) ?_) | (show W _ _ _ _ _ _; first | refine W_seq ?_ | refine W_text rfl (fun _ _ _ h => h) ?_ | refine W_block ?_ | refine W_skip ?_ | refine W_exit ?_ | refine W_ret ?_ | refine W_true rfl ?_ | refine W_false rfl ?_ | refine W_cond rfl (fun _ => ?_) (fun _ => ?_) | refine W_scope ?_ | refine W_label ?_))
                  refine DW_panic rfl rfl rfl rfl rfl ?_
                  exact hpan hn rfl rfl
              · rw [c4] at kn
                have hs1 : (L.take (i + 1)).foldl stepN (some []) = some (l ++ [p]) := by rw [hstep]; simp [stepN, c1, c2, c3, c4]
                have hnm : ∀ q, q ∈ l ++ [p] → isNameB q = true := by
                  intro q hq
                  rcases List.mem_append.1 hq with hq | hq
                  · exact hnames q hq
                  · simp at hq
                    subst hq
                    exact c4
                rcases hst with ⟨rfl, rfl, rfl⟩ | ⟨cap, hcap, rfl, rfl⟩
                · unfold baseF
                  repeat' (first | (show DW _ _ _ _ _ _ _ _; first | refine DW_V tabs rfl rfl rfl rfl (congrArg AV.bool d1) ?_ | refine DW_V tabs rfl rfl rfl rfl (congrArg (AV.int _) la) ?_ | refine DW_V tabs rfl rfl rfl rfl (congrArg (AV.int _) fi) ?_ | refine DW_A tabs rfl ?_ | refine DW_nil ?_ | refine DW_lits tabOK rfl rfl rfl rfl rfl rfl rfl rfl rfl rfl rfl rfl rfl ?_ | refine DW_append_own tabOK rfl rfl rfl rfl rfl rfl rfl rfl rfl rfl rfl rfl rfl rfl rfl (by simp; omega) (by simp; omega) ?_) | (show W _ _ _ _ _ _; first | refine W_seq ?_ | refine W_text rfl (fun _ _ _ h => h) ?_ | refine W_block ?_ | refine W_skip ?_ | refine W_exit ?_ | refine W_ret ?_ | refine W_true rfl ?_ | refine W_false rfl ?_ | refine W_cond rfl (fun _ => ?_) (fun _ => ?_) | refine W_scope ?_ | refine W_label ?_))
                  refine DW_index tabOK rfl rfl rfl rfl rfl rfl rfl rfl rfl rfl (Int.natCast_nonneg _) (map_get hx) ?_
                  repeat' (first | (show DW _ _ _ _ _ _ _ _; first | refine DW_V tabs rfl rfl rfl rfl (congrArg AV.bool e1) ?_ | refine DW_V tabs rfl rfl rfl rfl (congrArg AV.bool e2) ?_ | refine DW_V tabs rfl rfl rfl rfl (congrArg AV.bool e3) ?_ | refine DW_V tabs rfl rfl rfl rfl (congrArg AV.bool d1) ?_ | refine DW_V tabs rfl rfl rfl rfl (congrArg (AV.int _) la) ?_ | refine DW_V tabs rfl rfl rfl rfl (congrArg (AV.int _) fi) ?_ | refine DW_A tabs rfl ?_ | refine DW_nil ?_ | refine DW_lits tabOK rfl rfl rfl rfl rfl rfl rfl rfl rfl rfl rfl rfl rfl ?_ | refine DW_pure rfl rfl rfl rfl rfl kn ?_ | refine DW_append_own tabOK rfl rfl rfl rfl rfl rfl rfl rfl rfl rfl rfl rfl rfl rfl rfl (by simp; omega) (by simp; omega) ?_) | (show W _ _ _ _ _ _; first | refine W_seq ?_ | refine W_text rfl (fun _ _ _ h => h) ?_ | refine W_block ?_ | refine W_skip ?_ | refine W_exit ?_ | refine W_ret ?_ | refine W_true rfl ?_ | refine W_false rfl ?_ | refine W_cond rfl (fun _ => ?_) (fun _ => ?_) | refine W_scope ?_ | refine W_label ?_))
                  refine DW_napp tabOK rfl rfl rfl rfl rfl rfl rfl rfl rfl rfl rfl (.inr rfl) rfl rfl (by simp) (by simp) (by simp) ?_
                  intro cap' l' g1 g2 g3
                  repeat' (first | (show DW _ _ _ _ _ _ _ _; first | refine DW_V tabs rfl rfl rfl rfl (congrArg (AV.int _) la) ?_ | refine DW_V tabs rfl rfl rfl rfl (congrArg (AV.int _) fi) ?_ | refine DW_A tabs rfl ?_ | refine DW_nil ?_ | refine DW_lits tabOK rfl rfl rfl rfl rfl rfl rfl rfl rfl rfl rfl rfl rfl ?_ | refine DW_append_own tabOK rfl rfl rfl rfl rfl rfl rfl rfl rfl rfl rfl rfl rfl rfl rfl (by simp; omega) (by simp; omega) ?_) | (show W _ _ _ _ _ _; first | refine W_seq ?_ | refine W_text rfl (fun _ _ _ h => h) ?_ | refine W_block ?_ | refine W_skip ?_ | refine W_exit ?_ | refine W_ret ?_ | refine W_true rfl ?_ | refine W_false rfl ?_ | refine W_cond rfl (fun _ => ?_) (fun _ => ?_) | refine W_scope ?_ | refine W_label ?_))
                  have hg := rowC_get (k := 2) (id := 2) (l := [p]) (l' := [p]) (cap := cap') (cells := l') ⟨[], by simp⟩ (by simpa [flat, AV.cells] using g3) (by simpa using g2) (by simpa using g1)
                  refine ⟨h1, _, _, ⟨[p], hs1, by simp, hnm, .inr ⟨cap', by simpa using g1, rfl, rfl⟩⟩, Joint.move (k := 2) (id := 2) (Nat.le_refl 2) (Nat.le_refl 2) rfl hg.1 hg.2 (norm_defs (Nat.le_refl 2)) ?_ (norm_objs (Nat.le_refl 2) rfl rfl)⟩
                  exact base_K (Nat.le_refl 2) rfl rfl rfl SubK.osl rfl rfl rfl
                · unfold baseF
                  repeat' (first | (show DW _ _ _ _ _ _ _ _; first | refine DW_V tabs rfl rfl rfl rfl (congrArg AV.bool d1) ?_ | refine DW_V tabs rfl rfl rfl rfl (congrArg (AV.int _) la) ?_ | refine DW_V tabs rfl rfl rfl rfl (congrArg (AV.int _) fi) ?_ | refine DW_A tabs rfl ?_ | refine DW_nil ?_ | refine DW_lits tabOK rfl rfl rfl rfl rfl rfl rfl rfl rfl rfl rfl rfl rfl ?_ | refine DW_append_own tabOK rfl rfl rfl rfl rfl rfl rfl rfl rfl rfl rfl rfl rfl rfl rfl (by simp; omega) (by simp; omega) ?_) | (show W _ _ _ _ _ _; first | refine W_seq ?_ | refine W_text rfl (fun _ _ _ h => h) ?_ | refine W_block ?_ | refine W_skip ?_ | refine W_exit ?_ | refine W_ret ?_ | refine W_true rfl ?_ | refine W_false rfl ?_ | refine W_cond rfl (fun _ => ?_) (fun _ => ?_) | refine W_scope ?_ | refine W_label ?_))
                  refine DW_index tabOK rfl rfl rfl rfl rfl rfl rfl rfl rfl rfl (Int.natCast_nonneg _) (map_get hx) ?_
                  repeat' (first | (show DW _ _ _ _ _ _ _ _; first | refine DW_V tabs rfl rfl rfl rfl (congrArg AV.bool e1) ?_ | refine DW_V tabs rfl rfl rfl rfl (congrArg AV.bool e2) ?_ | refine DW_V tabs rfl rfl rfl rfl (congrArg AV.bool e3) ?_ | refine DW_V tabs rfl rfl rfl rfl (congrArg AV.bool d1) ?_ | refine DW_V tabs rfl rfl rfl rfl (congrArg (AV.int _) la) ?_ | refine DW_V tabs rfl rfl rfl rfl (congrArg (AV.int _) fi) ?_ | refine DW_A tabs rfl ?_ | refine DW_nil ?_ | refine DW_lits tabOK rfl rfl rfl rfl rfl rfl rfl rfl rfl rfl rfl rfl rfl ?_ | refine DW_pure rfl rfl rfl rfl rfl kn ?_ | refine DW_append_own tabOK rfl rfl rfl rfl rfl rfl rfl rfl rfl rfl rfl rfl rfl rfl rfl (by simp; omega) (by simp; omega) ?_) | (show W _ _ _ _ _ _; first | refine W_seq ?_ | refine W_text rfl (fun _ _ _ h => h) ?_ | refine W_block ?_ | refine W_skip ?_ | refine W_exit ?_ | refine W_ret ?_ | refine W_true rfl ?_ | refine W_false rfl ?_ | refine W_cond rfl (fun _ => ?_) (fun _ => ?_) | refine W_scope ?_ | refine W_label ?_))
                  refine DW_oapp tabOK rfl rfl rfl rfl rfl rfl rfl rfl rfl rfl rfl rfl rfl rfl rfl (rowC_len hcap) hcap (by simp; omega) (by simp; omega) ?_
                  intro cap' l' g1 g2 g3
                  repeat' (first | (show DW _ _ _ _ _ _ _ _; first | refine DW_V tabs rfl rfl rfl rfl (congrArg (AV.int _) la) ?_ | refine DW_V tabs rfl rfl rfl rfl (congrArg (AV.int _) fi) ?_ | refine DW_A tabs rfl ?_ | refine DW_nil ?_ | refine DW_lits tabOK rfl rfl rfl rfl rfl rfl rfl rfl rfl rfl rfl rfl rfl ?_ | refine DW_append_own tabOK rfl rfl rfl rfl rfl rfl rfl rfl rfl rfl rfl rfl rfl rfl rfl (by simp; omega) (by simp; omega) ?_) | (show W _ _ _ _ _ _; first | refine W_seq ?_ | refine W_text rfl (fun _ _ _ h => h) ?_ | refine W_block ?_ | refine W_skip ?_ | refine W_exit ?_ | refine W_ret ?_ | refine W_true rfl ?_ | refine W_false rfl ?_ | refine W_cond rfl (fun _ => ?_) (fun _ => ?_) | refine W_scope ?_ | refine W_label ?_))
                  rw [rowC_take] at g3
                  have hg := rowC_get (k := 2) (id := 3) (l := l ++ [p]) (l' := l ++ [p]) (cap := cap') (cells := l') ⟨[], by simp⟩ (by simpa [flat, AV.cells] using g3) (by simpa using g2) (by simpa using g1)
                  have hlen2 : (l ++ [p]).length = l.length + 1 := by simp
                  refine ⟨h1, _, _, ⟨l ++ [p], hs1, by omega, hnm, .inr ⟨cap', by simpa using g1, rfl, rfl⟩⟩, Joint.move (k := 2) (id := 3) (Nat.le_refl 2) (by omega) rfl hg.1 hg.2 (norm_defs (Nat.le_refl 2)) ?_ (norm_objs (Nat.le_refl 2) rfl rfl)⟩
                  rw [hlen2]
                  exact base_K (Nat.le_refl 2) rfl rfl rfl SubK.osl rfl rfl rfl
      · have d1 : decide ((i : Int) < (L.length : Int)) = false := by simp; omega
        obtain rfl : i = L.length := by omega
        rw [List.take_length] at hfold
        rw [hfold]
        simp only
        have hgl := glue_len [47] 30 l (fun p hp => name_len (hnames p hp))
        have hgl2 : (glueL [47] l).length ≤ 500 * 31 := by
          refine Nat.le_trans hgl ?_
          have : l.length ≤ 500 := by omega
          exact Nat.mul_le_mul_right _ this
        have kp := isPath_ok (glueL [47] l) (by omega)
        rcases hst with ⟨rfl, rfl, rfl⟩ | ⟨cap, hcap, rfl, rfl⟩
        · unfold baseF
          repeat' (first | (show DW _ _ _ _ _ _ _ _; first | refine DW_V tabs rfl rfl rfl rfl (congrArg AV.bool d1) ?_ | refine DW_V tabs rfl rfl rfl rfl (congrArg (AV.int _) la) ?_ | refine DW_A tabs rfl ?_ | refine DW_nil ?_ | refine DW_lits tabOK rfl rfl rfl rfl rfl rfl rfl rfl rfl rfl rfl rfl rfl ?_ | refine DW_pure rfl rfl rfl rfl rfl join_nil_ok ?_ | refine DW_append_own tabOK rfl rfl rfl rfl rfl rfl rfl rfl rfl rfl rfl rfl rfl rfl rfl (by simp; omega) (by simp; omega) ?_) | (show W _ _ _ _ _ _; first | refine W_seq ?_ | refine W_text rfl (fun _ _ _ h => h) ?_ | refine W_block ?_ | refine W_skip ?_ | refine W_exit ?_ | refine W_ret ?_ | refine W_true rfl ?_ | refine W_false rfl ?_ | refine W_cond rfl (fun _ => ?_) (fun _ => ?_) | refine W_scope ?_ | refine W_label ?_))
          cases hp : isPathB (glueL [47] [])
          · rw [hp] at kp
            repeat' (first | (show DW _ _ _ _ _ _ _ _; first | refine DW_A tabs rfl ?_ | refine DW_nil ?_ | refine DW_lits tabOK rfl rfl rfl rfl rfl rfl rfl rfl rfl rfl rfl rfl rfl ?_ | refine DW_pure rfl rfl rfl rfl rfl kp ?_ | refine DW_append_own tabOK rfl rfl rfl rfl rfl rfl rfl rfl rfl rfl rfl rfl rfl rfl rfl (by simp; omega) (by simp; omega) ?_) | (show W _ _ _ _ _ _; first | refine W_seq ?_ | refine W_text rfl (fun _ _ _ h => h) ?_ | refine W_block ?_ | refine W_skip ?_ | refine W_exit ?_ | refine W_ret ?_ | refine W_true rfl ?_ | refine W_false rfl ?_ | refine W_cond rfl (fun _ => ?_) (fun _ => ?_) | refine W_scope ?_ | refine W_label ?_))
            refine DW_panic rfl rfl rfl rfl rfl ?_
            rw [if_neg (by simp)]
            exact norm_pan (x := []) (y := 0) (Mem.le_cons rfl (Mem.le_cons rfl (Mem.le_nil rfl))) rfl rfl
          · rw [hp] at kp
            repeat' (first | (show DW _ _ _ _ _ _ _ _; first | refine DW_A tabs rfl ?_ | refine DW_nil ?_ | refine DW_lits tabOK rfl rfl rfl rfl rfl rfl rfl rfl rfl rfl rfl rfl rfl ?_ | refine DW_pure rfl rfl rfl rfl rfl kp ?_ | refine DW_append_own tabOK rfl rfl rfl rfl rfl rfl rfl rfl rfl rfl rfl rfl rfl rfl rfl (by simp; omega) (by simp; omega) ?_) | (show W _ _ _ _ _ _; first | refine W_seq ?_ | refine W_text rfl (fun _ _ _ h => h) ?_ | refine W_block ?_ | refine W_skip ?_ | refine W_exit ?_ | refine W_ret ?_ | refine W_true rfl ?_ | refine W_false rfl ?_ | refine W_cond rfl (fun _ => ?_) (fun _ => ?_) | refine W_scope ?_ | refine W_label ?_))
            rw [if_pos rfl]
            exact norm_ret (x := glueL [47] []) (y := 0) (Mem.le_cons rfl (Mem.le_cons rfl (Mem.le_nil rfl))) rfl rfl
        · unfold baseF
          refine W_seq ?_
          refine W_text rfl (fun _ _ _ h => h) ?_
          refine DW_V tabs rfl rfl rfl rfl (congrArg AV.bool d1) ?_
          refine DW_nil ?_
          refine W_seq ?_
          refine W_false rfl ?_
          refine W_exit ?_
          show W _ _ _ _ _ _
          refine W_ghost (Joint.freeze 4 (xs := l.map AV.str) rfl rfl (by have := rowC_take (l := l) (cap := cap); rwa [Nat.mul_one] at this) (by rw [rowC_len hcap]; omega) hcap ?_) ?_
          · intro x hx
            obtain ⟨q, _, rfl⟩ := List.mem_map.1 hx
            rfl
          have kj := join47_ok l .none (by omega) (by omega)
          repeat' (first | (show DW _ _ _ _ _ _ _ _; first | refine DW_A tabs rfl ?_ | refine DW_nil ?_ | refine DW_lits tabOK rfl rfl rfl rfl rfl rfl rfl rfl rfl rfl rfl rfl rfl ?_ | refine DW_pure rfl rfl rfl rfl rfl kj ?_ | refine DW_append_own tabOK rfl rfl rfl rfl rfl rfl rfl rfl rfl rfl rfl rfl rfl rfl rfl (by simp; omega) (by simp; omega) ?_) | (show W _ _ _ _ _ _; first | refine W_seq ?_ | refine W_text rfl (fun _ _ _ h => h) ?_ | refine W_block ?_ | refine W_skip ?_ | refine W_exit ?_ | refine W_ret ?_ | refine W_true rfl ?_ | refine W_false rfl ?_ | refine W_cond rfl (fun _ => ?_) (fun _ => ?_) | refine W_scope ?_ | refine W_label ?_))
          cases hp : isPathB (glueL [47] l)
          · rw [hp] at kp
            repeat' (first | (show DW _ _ _ _ _ _ _ _; first | refine DW_A tabs rfl ?_ | refine DW_nil ?_ | refine DW_lits tabOK rfl rfl rfl rfl rfl rfl rfl rfl rfl rfl rfl rfl rfl ?_ | refine DW_pure rfl rfl rfl rfl rfl kp ?_ | refine DW_append_own tabOK rfl rfl rfl rfl rfl rfl rfl rfl rfl rfl rfl rfl rfl rfl rfl (by simp; omega) (by simp; omega) ?_) | (show W _ _ _ _ _ _; first | refine W_seq ?_ | refine W_text rfl (fun _ _ _ h => h) ?_ | refine W_block ?_ | refine W_skip ?_ | refine W_exit ?_ | refine W_ret ?_ | refine W_true rfl ?_ | refine W_false rfl ?_ | refine W_cond rfl (fun _ => ?_) (fun _ => ?_) | refine W_scope ?_ | refine W_label ?_))
            refine DW_panic rfl rfl rfl rfl rfl ?_
            rw [if_neg (by simp)]
            exact norm_pan (x := glueL [47] l) (y := 0) (Mem.le_cons rfl (Mem.le_cons rfl (Mem.le_nil rfl))) rfl rfl
          · rw [hp] at kp
            repeat' (first | (show DW _ _ _ _ _ _ _ _; first | refine DW_A tabs rfl ?_ | refine DW_nil ?_ | refine DW_lits tabOK rfl rfl rfl rfl rfl rfl rfl rfl rfl rfl rfl rfl rfl ?_ | refine DW_pure rfl rfl rfl rfl rfl kp ?_ | refine DW_append_own tabOK rfl rfl rfl rfl rfl rfl rfl rfl rfl rfl rfl rfl rfl rfl rfl (by simp; omega) (by simp; omega) ?_) | (show W _ _ _ _ _ _; first | refine W_seq ?_ | refine W_text rfl (fun _ _ _ h => h) ?_ | refine W_block ?_ | refine W_skip ?_ | refine W_exit ?_ | refine W_ret ?_ | refine W_true rfl ?_ | refine W_false rfl ?_ | refine W_cond rfl (fun _ => ?_) (fun _ => ?_) | refine W_scope ?_ | refine W_label ?_))
            rw [if_pos rfl]
            exact norm_ret (x := glueL [47] l) (y := 0) (Mem.le_cons rfl (Mem.le_cons rfl (Mem.le_nil rfl))) rfl rfl
end Go.Proofs.YteimhnedflbkmaaDoor

/- strings.Count, of one byte, tells how often it stands in a text. No further condition. -/
set_option linter.unusedVariables false
set_option linter.unusedSimpArgs false
namespace Go.Proofs.YteimhnedflbkmaaDoor
open Go.Ab

theorem countByte_ext (s : Bytes) (c : Int) : AExt Tryd.prog 67 [.str s, .int .u8 c] (.int .i64 (Lib.countByte s c.toNat.toUInt8)) := by
  intro μ F w vs hv
  obtain ⟨hl, hr⟩ := hv
  match vs, hl with
  | ⟨[a, b]⟩, _ =>
    have h1 := hr 0 _ a rfl rfl
    have h2 := hr 1 _ b rfl rfl
    cases h1
    cases h2
    refine ⟨_, ?_, .int _ _⟩
    have := run_callFunc_extern (P := Tryd.prog) Tryd.func67 (by kernel_rfl) (by kernel_rfl) (by kernel_rfl) (e := Extern.BytealgCount.count) (by kernel_rfl) #[.string ⟨s.toArray⟩, .int .u8 c] w
    rw [Lib.run_countString] at this
    simpa [Result.andThen, data_toList] using this

theorem count1_ok (s : Bytes) (c : UInt8) : APure Tryd.prog 53 [.str s, .str [c]] (.int .i64 (Lib.countByte s c)) := by
  intro M
  refine acalls_of tabOK Tryd.func53 rfl (by decide) (by simp [Tryd.f53]) ?_
  repeat' (first | (show DW _ _ _ _ _ _ _ _; first | refine DW_A tabs rfl ?_ | refine DW_nil ?_ | refine DW_lits tabOK rfl rfl rfl rfl rfl rfl rfl rfl rfl rfl rfl rfl rfl ?_ | refine DW_append_own tabOK rfl rfl rfl rfl rfl rfl rfl rfl rfl rfl rfl rfl rfl rfl rfl (by simp; omega) (by simp; omega) ?_) | (show W _ _ _ _ _ _; first | refine W_seq ?_ | refine W_text rfl (fun _ _ _ h => h) ?_ | refine W_block ?_ | refine W_skip ?_ | refine W_exit ?_ | refine W_ret ?_ | refine W_true rfl ?_ | refine W_false rfl ?_ | refine W_cond rfl (fun _ => ?_) (fun _ => ?_)))
  refine DW_byte tabOK rfl rfl rfl rfl rfl rfl rfl rfl (Int.le_refl 0) (c := c) rfl ?_
  refine DW_ext rfl rfl rfl rfl rfl (countByte_ext s c.toNat) ?_
  repeat' (first | (show DW _ _ _ _ _ _ _ _; first | refine DW_A tabs rfl ?_ | refine DW_nil ?_ | refine DW_lits tabOK rfl rfl rfl rfl rfl rfl rfl rfl rfl rfl rfl rfl rfl ?_ | refine DW_append_own tabOK rfl rfl rfl rfl rfl rfl rfl rfl rfl rfl rfl rfl rfl rfl rfl (by simp; omega) (by simp; omega) ?_) | (show W _ _ _ _ _ _; first | refine W_seq ?_ | refine W_text rfl (fun _ _ _ h => h) ?_ | refine W_block ?_ | refine W_skip ?_ | refine W_exit ?_ | refine W_ret ?_ | refine W_true rfl ?_ | refine W_false rfl ?_ | refine W_cond rfl (fun _ => ?_) (fun _ => ?_)))
  refine ⟨rfl, _, rfl, ret_int ?_, rfl⟩
  simp
end Go.Proofs.YteimhnedflbkmaaDoor
