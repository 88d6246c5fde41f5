/- Parts of the proof, one behind the other: CurA, CurB. No further condition. -/
import Derived.Test.YthdeopopodhimaaDoorM14
import Derived.Test.YthdeopopodhimaaDoorM17
set_option linter.unusedVariables false
set_option linter.unusedSimpArgs false
/- Cursors: New, what is told next, Skip, Seek. No further condition. -/
set_option linter.unusedVariables false
set_option linter.unusedSimpArgs false
namespace Go.Proofs.YthdeopopodhimaaDoor
open Go.Ab

def fnU (dir : Bytes) : AV := .fn (.func 41) [] [.ref [.str dir]]
theorem closed_fnU (dir : Bytes) : Closed (fnU dir) := closed_fn (by simp) (closed1 (closed_ref (closed1 closed_str)))
def curC (t : Tr) (dir : Bytes) (l : List Pr) : List AV := [t.av, fnU dir, .sl 3 (l.map Pr.av) .none]
theorem closed_curC (t : Tr) (dir : Bytes) (l : List Pr) : ∀ x, x ∈ curC t dir l → Closed x := closed3 (closed_tr t) (closed_fnU dir) (closed_prs l)
def curM (t : Tr) (dir : Bytes) (l : List Pr) : Mem := ⟨1, [(0, .cells (curC t dir l))]⟩
def CurP (t : Tr) (dir : Bytes) (l : List Pr) (e : AEnd) (N : Mem) (r : AEnd) : Prop := e = r ∧ N = curM t dir l

set_option maxRecDepth 100000 in
set_option maxHeartbeats 8000000 in
theorem undr_ok (dir : Bytes) : APure Tryd.prog 31 [.str dir] (fnU dir) := by
  refine pure_sub (closed1 closed_str) (closed_fnU dir) ?_
  refine acalls_of tabOK Tryd.func31 rfl (by decide) (by simp [Tryd.f31]) ?_
  repeat' (first | refine DW_A tabs rfl ?_ | refine DW_nil ?_ | refine W_A rfl ?_)
  exact ⟨rfl, _, rfl, _, rfl, SubC.of_closed (closed_fnU dir)⟩

set_option maxRecDepth 100000 in
set_option maxHeartbeats 8000000 in
theorem under1_ok (p : Pr) (dir : Bytes) (hp : p.key.path.length < 1000000) (hd : dir.length < 1000000) : APure Tryd.prog 41 [p.av, .ref [.str dir]] (.bool (underB dir p.key.path)) := by
  intro M
  refine acalls_of tabOK Tryd.func41 rfl (by decide) (by simp [Tryd.f41]) ?_
  have k := under_ok dir p.key.path hd hp
  repeat' (first | refine DW_A tabs rfl ?_ | refine DW_nil ?_ | refine W_A rfl ?_ | refine DW_C rfl k ?_)
  exact ⟨rfl, _, rfl, rfl, rfl⟩

set_option maxRecDepth 100000 in
set_option maxHeartbeats 8000000 in
theorem new_ok' (t : Tr) (hs : t.all.length < 10000000) (dir : Bytes) (hd : dir.length < 1000000) (hp : isPathB dir = true) : ACalls Tryd.prog 12 [t.av, .str dir] ⟨0, []⟩ (fun e N => CurP t dir t.all e N (.ret (.tup [.ptr 0 0, .int .i64 0]))) := by
  refine acalls_of tabOK Tryd.func12 rfl (by decide) (by simp [Tryd.f12]) ?_
  have k1 := isPath_ok dir (by omega)
  rw [hp] at k1
  have k2 := undr_ok dir
  have k3 := tAll_ok t hs
  unfold Tr.av at k3 ⊢
  repeat' (first | refine DW_box 15 tabOK rfl ?_ | refine DW_A tabs rfl ?_ | refine DW_nil ?_ | refine W_A rfl ?_ | refine DW_C rfl k1 ?_ | refine DW_C rfl k2 ?_ | refine DW_C rfl k3 ?_)
  exact ⟨rfl, _, rfl, rfl, rfl⟩
set_option maxRecDepth 100000 in
set_option maxHeartbeats 8000000 in
theorem newBad_ok (t : Tr) (dir : Bytes) (hd : dir.length < 1000000) (hp : isPathB dir = false) : APure Tryd.prog 12 [t.av, .str dir] (.tup [.nilptr, .int .i64 20]) := by
  intro M
  refine acalls_of tabOK Tryd.func12 rfl (by decide) (by simp [Tryd.f12]) ?_
  have k1 := isPath_ok dir (by omega)
  rw [hp] at k1
  repeat' (first | refine DW_A tabs rfl ?_ | refine DW_nil ?_ | refine W_A rfl ?_ | refine DW_C rfl k1 ?_)
  exact ⟨rfl, _, rfl, rfl, rfl⟩

/-- Those from the first one on that is told. -/
def skipU (dir : Bytes) (l : List Pr) : List Pr := l.dropWhile fun p => !underB dir p.key.path
def shortL (l : List Pr) : Prop := ∀ p, p ∈ l → p.key.path.length < 1000000
theorem skipU_cons {dir : Bytes} {p : Pr} {l : List Pr} (h : underB dir p.key.path = false) : skipU dir (p :: l) = skipU dir l := by
  unfold skipU
  rw [List.dropWhile_cons, if_pos (by rw [h]; rfl)]
theorem skipU_hit {dir : Bytes} {p : Pr} {l : List Pr} (h : underB dir p.key.path = true) : skipU dir (p :: l) = p :: l := by
  unfold skipU
  rw [List.dropWhile_cons, if_neg (by rw [h]; simp)]
theorem skipU_sub (dir : Bytes) (l : List Pr) : (skipU dir l).Sublist l := List.dropWhile_sublist _
theorem skipU_short {dir : Bytes} {l : List Pr} (h : shortL l) : shortL (skipU dir l) := fun p hp => h p ((skipU_sub dir l).subset hp)

set_option maxRecDepth 100000 in
set_option maxHeartbeats 8000000 in
theorem on_ok (t : Tr) (dir : Bytes) (hd : dir.length < 1000000) (l : List Pr) (hl : shortL l) : ACalls Tryd.prog 35 [.ptr 0 0] (curM t dir l) (fun e N => CurP t dir (skipU dir l) e N (.ret (.bool (decide (0 < ((skipU dir l).length : Int)))))) := by
  refine acalls_of tabOK Tryd.func35 rfl (by decide) (by simp [Tryd.f35]) ?_
  unfold curM curC Tr.av fnU
  repeat' (first | refine DW_A tabs rfl ?_ | refine DW_nil ?_ | refine W_A rfl ?_ | refine DW_nilc tabOK rfl ?_ | refine W_draw mixed [0, 4, 1, 2, 3, 5, 6, 7, 8, 9, 10] [.P, .R, .R, .R, .P, .R, .R, .R, .R, .R, .P] rfl rfl (by kernel_rfl) ?_)
  refine W_loop (fun k f N => ∃ m : List Pr, m.length = k ∧ skipU dir m = skipU dir l ∧ shortL m ∧ N = ⟨1, [(0, .cells [t.av, .fn (.func 41) [] [.ref [.str dir]], .sl 3 (m.map Pr.av) .none])]⟩ ∧ f = ⟨[(0, .ptr 0 0)], []⟩) (k := l.length) ⟨l, rfl, rfl, hl, rfl, rfl⟩ (Joint.le ?_ (Mem.le_refl _)) ?_
  · skip
    repeat (refine AF.le_cons rfl ?_)
    exact AF.le_nil rfl
  rintro k f N ⟨m, rfl, hm, hsm, rfl, rfl⟩
  unfold Tr.av
  cases m with
  | nil =>
    have e : skipU dir l = [] := hm.symm
    rw [e]
    repeat' (first | refine DW_A tabs rfl ?_ | refine DW_nil ?_ | refine W_A rfl ?_ | refine DW_nilc tabOK rfl ?_ | refine W_draw mixed [0, 4, 1, 2, 3, 5, 6, 7, 8, 9, 10] [.P, .R, .R, .R, .P, .R, .R, .R, .R, .R, .P] rfl rfl (by kernel_rfl) ?_)
    exact ⟨rfl, _, rfl, rfl, rfl⟩
  | cons p r =>
    have la : (((p :: r).map Pr.av).length : Int) = ((r.length + 1 : Nat) : Int) := by simp
    have d1 : decide ((0 : Int) < ((r.length + 1 : Nat) : Int)) = true := decide_eq_true (by omega)
    have ku := under1_ok p dir (hsm p (by simp)) hd
    cases hu : underB dir p.key.path
    · rw [hu] at ku
      repeat' (first | refine DW_VB tabs rfl d1 ?_ | refine DW_VI tabs rfl la ?_ | refine DW_A tabs rfl ?_ | refine DW_nil ?_ | refine W_A rfl ?_ | refine DW_C rfl ku ?_ | refine DW_ix tabOK rfl (⟨Int.le_refl 0, rfl⟩) ?_ | refine DW_nilc tabOK rfl ?_ | refine W_draw mixed [0, 4, 1, 2, 3, 5, 6, 7, 8, 9, 10] [.P, .R, .R, .R, .P, .R, .R, .R, .R, .R, .P] rfl rfl (by kernel_rfl) ?_)
      refine DW_from tabOK rfl rfl rfl rfl (lo := 1) (l := p :: r) rfl rfl rfl rfl rfl rfl (by simp) ?_
      repeat' (first | refine DW_A tabs rfl ?_ | refine DW_nil ?_ | refine W_A rfl ?_ | refine DW_nilc tabOK rfl ?_ | refine W_draw mixed [0, 4, 1, 2, 3, 5, 6, 7, 8, 9, 10] [.P, .R, .R, .R, .P, .R, .R, .R, .R, .R, .P] rfl rfl (by kernel_rfl) ?_)
      exact ⟨r.length, _, _, by simp, ⟨r, rfl, (skipU_cons hu).symm.trans hm, fun q hq => hsm q (by simp [hq]), rfl, rfl⟩, Joint.le (AF.le_cons rfl (AF.le_nil rfl)) (Mem.le_cons rfl (Mem.le_nil rfl))⟩
    · rw [hu] at ku
      have e : skipU dir l = p :: r := hm.symm.trans (skipU_hit hu)
      rw [e, show decide (0 < (((p :: r).length : Nat) : Int)) = true from decide_eq_true (by simp)]
      repeat' (first | refine DW_VB tabs rfl d1 ?_ | refine DW_VI tabs rfl la ?_ | refine DW_A tabs rfl ?_ | refine DW_nil ?_ | refine W_A rfl ?_ | refine DW_C rfl ku ?_ | refine DW_ix tabOK rfl (⟨Int.le_refl 0, rfl⟩) ?_ | refine DW_nilc tabOK rfl ?_ | refine W_draw mixed [0, 4, 1, 2, 3, 5, 6, 7, 8, 9, 10] [.P, .R, .R, .R, .P, .R, .R, .R, .R, .R, .P] rfl rfl (by kernel_rfl) ?_)
      exact ⟨rfl, _, rfl, rfl, rfl⟩

theorem cur_frame {t : Tr} {dir : Bytes} {l l' : List Pr} {g : FuncId} {args args1 : List AV} {r : AV} {M : Mem} {R : AEnd → Mem → Prop} (id : Nat) (hM : M.get id = some (.cells (curC t dir l))) (hlt : id < M.next)
    (h : ACalls Tryd.prog g args1 (curM t dir l) fun e N => CurP t dir l' e N (.ret r)) (hr : Closed r) (hargs : InL [id] args args1) (hR : R (.ret r) (M.set id (.cells (curC t dir l')))) : ACalls Tryd.prog g args M R := by
  refine ACalls.frame1 (R1 := fun e d => e = .ret r ∧ d = curC t dir l') id hM hlt (closed_curC t dir l) (h.mono ?_) hargs ?_
  · rintro e N ⟨h1, rfl⟩
    exact ⟨rfl, _, rfl, h1, rfl⟩
  · rintro e d ⟨h1, rfl⟩
    subst h1
    exact ⟨hr, closed_curC t dir l', hR⟩
theorem cur_cut {t : Tr} {dir : Bytes} {l l' : List Pr} {g : FuncId} {args : List AV} {r : AV} (hr : Closed r) (h : ACalls Tryd.prog g args (curM t dir l) fun e N => e = .ret r ∧ 1 ≤ N.next ∧ N.get 0 = some (.cells (curC t dir l'))) :
    ACalls Tryd.prog g args (curM t dir l) fun e N => CurP t dir l' e N (.ret r) := by
  refine (ACalls.cutL (r := r) (l := [(0, .cells (curC t dir l'))]) (h.mono ?_)).mono ?_
  · rintro e N ⟨h1, h2, h3⟩
    exact ⟨r, h1, SubC.of_closed hr, h2, objsC_closed (Nat.zero_lt_one) h3 (closed_curC t dir l') trivial⟩
  · rintro e N ⟨rfl, rfl⟩
    exact ⟨rfl, rfl⟩

def zeroPr : Pr := ⟨⟨[], 0⟩, []⟩
theorem drop_one (p : Pr) (r : List Pr) : (p :: r).drop 1 = r := rfl
def pb (x : Pr × Bool) : AV := .tup [x.1.av, .bool x.2]
theorem closed_pb (x : Pr × Bool) : Closed (pb x) := closed_tup (closed2 (closed_pr _) closed_bool)
def nextC (l : List Pr) : (Pr × Bool) × List Pr := match l with
  | [] => ((zeroPr, false), [])
  | p :: r => ((p, true), r)
set_option maxRecDepth 100000 in
set_option maxHeartbeats 8000000 in
theorem next_raw (t : Tr) (dir : Bytes) (hd : dir.length < 1000000) (l : List Pr) (hl : shortL l) : ACalls Tryd.prog 15 [.ptr 0 0] (curM t dir l) (fun e N => e = .ret (pb (nextC (skipU dir l)).1) ∧ 1 ≤ N.next ∧ N.get 0 = some (.cells (curC t dir (nextC (skipU dir l)).2))) := by
  refine acalls_of tabOK Tryd.func15 rfl (by decide) (by simp [Tryd.f15]) ?_
  have ko := on_ok t dir hd l hl
  repeat' (first | refine DW_A tabs rfl ?_ | refine DW_nil ?_ | refine W_A rfl ?_)
  refine DW_CM rfl rfl (cur_frame (R := fun e N => e = .ret (.bool (decide (0 < ((skipU dir l).length : Int)))) ∧ N = ⟨2, [(0, .cells (curC t dir (skipU dir l))), (1, .cells [.str [], .int .i64 0, .str []]), (0, .cells (curC t dir l))]⟩) 0 rfl (Nat.zero_lt_succ _) ko closed_bool ⟨InV.ptr rfl, trivial⟩ ⟨rfl, rfl⟩) ?_ (fun u M' h => by cases h.1)
  rintro u N ⟨e, rfl⟩
  cases e
  unfold curC Tr.av
  cases hs : skipU dir l with
  | nil =>
    repeat' (first | refine DW_A tabs rfl ?_ | refine DW_nil ?_ | refine W_A rfl ?_)
    exact ⟨rfl, _, rfl, rfl, Nat.le_add_left 1 _, rfl⟩
  | cons p r =>
    rw [show decide (0 < (((p :: r).length : Nat) : Int)) = true from decide_eq_true (by simp)]
    repeat' (first | refine DW_A tabs rfl ?_ | refine DW_nil ?_ | refine W_A rfl ?_ | refine DW_ix tabOK rfl (⟨Int.le_refl 0, rfl⟩) ?_)
    refine DW_from tabOK rfl rfl rfl rfl (lo := 1) (l := p :: r) rfl rfl rfl rfl rfl rfl (by simp) ?_
    repeat' (first | refine DW_A tabs rfl ?_ | refine DW_nil ?_ | refine W_A rfl ?_)
    exact ⟨rfl, _, rfl, rfl, Nat.le_add_left 1 _, rfl⟩
theorem next_ok (t : Tr) (dir : Bytes) (hd : dir.length < 1000000) (l : List Pr) (hl : shortL l) : ACalls Tryd.prog 15 [.ptr 0 0] (curM t dir l) fun e N => CurP t dir (nextC (skipU dir l)).2 e N (.ret (pb (nextC (skipU dir l)).1)) :=
  cur_cut (closed_pb _) (next_raw t dir hd l hl)

def sameP (p : Bytes) (l : List Pr) : List Pr := l.dropWhile fun q => q.key.path == p
def sb (x : Bytes × Bool) : AV := .tup [.str x.1, .bool x.2]
theorem closed_sb (x : Bytes × Bool) : Closed (sb x) := closed_tup (closed2 closed_str closed_bool)
def skipC (l : List Pr) : (Bytes × Bool) × List Pr := match l with
  | [] => (([], false), [])
  | p :: r => ((p.key.path, true), sameP p.key.path (p :: r))
set_option maxRecDepth 100000 in
set_option maxHeartbeats 8000000 in
theorem skip_raw (t : Tr) (dir : Bytes) (hd : dir.length < 1000000) (l : List Pr) (hl : shortL l) : ACalls Tryd.prog 17 [.ptr 0 0] (curM t dir l) (fun e N => e = .ret (sb (skipC (skipU dir l)).1) ∧ 1 ≤ N.next ∧ N.get 0 = some (.cells (curC t dir (skipC (skipU dir l)).2))) := by
  refine acalls_of tabOK Tryd.func17 rfl (by decide) (by simp [Tryd.f17]) ?_
  have ko := on_ok t dir hd l hl
  repeat' (first | refine DW_A tabs rfl ?_ | refine DW_nil ?_ | refine W_A rfl ?_)
  refine DW_CM rfl rfl (cur_frame (R := fun e N => e = .ret (.bool (decide (0 < ((skipU dir l).length : Int)))) ∧ N = ⟨1, [(0, .cells (curC t dir (skipU dir l))), (0, .cells (curC t dir l))]⟩) 0 rfl (Nat.zero_lt_succ _) ko closed_bool ⟨InV.ptr rfl, trivial⟩ ⟨rfl, rfl⟩) ?_ (fun u M' h => by cases h.1)
  rintro u N ⟨e, rfl⟩
  cases e
  unfold curC Tr.av
  cases hs : skipU dir l with
  | nil =>
    repeat' (first | refine DW_A tabs rfl ?_ | refine DW_nil ?_ | refine W_A rfl ?_)
    exact ⟨rfl, _, rfl, rfl, Nat.le_refl _, rfl⟩
  | cons p r =>
    rw [show decide (0 < (((p :: r).length : Nat) : Int)) = true from decide_eq_true (by simp)]
    repeat' (first | refine DW_A tabs rfl ?_ | refine DW_nil ?_ | refine W_A rfl ?_ | refine DW_ix tabOK rfl (⟨Int.le_refl 0, rfl⟩) ?_)
    refine W_loop (fun k f N => ∃ m : List Pr, m.length = k ∧ sameP p.key.path m = sameP p.key.path (p :: r) ∧ N = curM t dir m ∧ f = ⟨[(0, .ptr 0 0), (4, .str p.key.path)], []⟩) (k := (p :: r).length) ⟨p :: r, rfl, rfl, rfl, rfl⟩ (Joint.le ?_ (Mem.le_cons rfl (Mem.le_nil rfl))) ?_
    · skip
      repeat (refine AF.le_cons rfl ?_)
      exact AF.le_nil rfl
    rintro k f N ⟨m, rfl, hm, rfl, rfl⟩
    unfold curM curC Tr.av
    cases m with
    | nil =>
      repeat' (first | refine DW_A tabs rfl ?_ | refine DW_nil ?_ | refine W_A rfl ?_)
      refine ⟨rfl, _, rfl, rfl, Nat.le_refl _, ?_⟩
      show _ = some (AObj.cells (curC t dir (sameP p.key.path (p :: r))))
      rw [← hm]
      rfl
    | cons q s =>
      have la : (((q :: s).map Pr.av).length : Int) = ((s.length + 1 : Nat) : Int) := by simp
      have d1 : decide ((0 : Int) < ((s.length + 1 : Nat) : Int)) = true := decide_eq_true (by omega)
      cases hq : q.key.path == p.key.path
      · have e : sameP p.key.path (q :: s) = q :: s := by unfold sameP; rw [List.dropWhile_cons, if_neg (by rw [hq]; simp)]
        repeat' (first | refine DW_VB tabs rfl (by first | exact d1 | exact hq) ?_ | refine DW_VI tabs rfl la ?_ | refine DW_A tabs rfl ?_ | refine DW_nil ?_ | refine W_A rfl ?_ | refine DW_ix tabOK rfl (⟨Int.le_refl 0, rfl⟩) ?_)
        refine ⟨rfl, _, rfl, rfl, Nat.le_refl _, ?_⟩
        show _ = some (AObj.cells (curC t dir (sameP p.key.path (p :: r))))
        rw [← hm, e]
        rfl
      · have e : sameP p.key.path (q :: s) = sameP p.key.path s := by unfold sameP; rw [List.dropWhile_cons, if_pos hq]
        repeat' (first | refine DW_VB tabs rfl (by first | exact d1 | exact hq) ?_ | refine DW_VI tabs rfl la ?_ | refine DW_A tabs rfl ?_ | refine DW_nil ?_ | refine W_A rfl ?_ | refine DW_ix tabOK rfl (⟨Int.le_refl 0, rfl⟩) ?_)
        refine DW_from tabOK rfl rfl rfl rfl (lo := 1) (l := q :: s) rfl rfl rfl rfl rfl rfl (by simp) ?_
        repeat' (first | refine DW_A tabs rfl ?_ | refine DW_nil ?_ | refine W_A rfl ?_)
        exact ⟨s.length, _, _, by simp, ⟨s, rfl, e.symm.trans hm, rfl, rfl⟩, Joint.le (AF.le_cons rfl (AF.le_cons rfl (AF.le_nil rfl))) (Mem.le_cons rfl (Mem.le_nil rfl))⟩
theorem skip_ok (t : Tr) (dir : Bytes) (hd : dir.length < 1000000) (l : List Pr) (hl : shortL l) : ACalls Tryd.prog 17 [.ptr 0 0] (curM t dir l) fun e N => CurP t dir (skipC (skipU dir l)).2 e N (.ret (sb (skipC (skipU dir l)).1)) :=
  cur_cut (closed_sb _) (skip_raw t dir hd l hl)

theorem fromP_min (l : List Pr) (k : Ky) : (fromP l k).take (min ((l.length : Int)).toNat l.length) = fromP l k := by
  rw [show min ((l.length : Int)).toNat l.length = l.length by simp]
  exact List.take_of_length_le ((List.dropWhile_sublist _).length_le)
set_option maxRecDepth 100000 in
set_option maxHeartbeats 8000000 in
theorem seek_raw (t : Tr) (hs : t.all.length < 10000000) (dir : Bytes) (l : List Pr) (k : Ky) : ACalls Tryd.prog 19 [.ptr 0 0, k.av] (curM t dir l) (fun e N => e = .ret (.tup []) ∧ 1 ≤ N.next ∧ N.get 0 = some (.cells (curC t dir (fromP t.all k)))) := by
  refine acalls_of tabOK Tryd.func19 rfl (by decide) (by simp [Tryd.f19]) ?_
  have kl := len_ok t
  have kf := tFrom_ok t hs k (t.all.length : Int)
  rw [fromP_min] at kf
  unfold curM curC
  unfold Tr.av at kl kf ⊢
  repeat' (first | refine DW_A tabs rfl ?_ | refine DW_nil ?_ | refine W_A rfl ?_ | refine DW_C rfl kl ?_ | refine DW_C rfl kf ?_ | refine DW_nilc tabOK rfl ?_ | refine W_draw mixed [0, 1, 6, 2, 3, 4, 5, 7, 8, 9, 10, 11, 12, 13, 14] [.P, .P, .R, .R, .R, .R, .P, .R, .R, .R, .P, .P, .R, .R, .E] rfl rfl (by kernel_rfl) ?_)
  exact ⟨rfl, _, rfl, rfl, Nat.le_refl _, rfl⟩
end Go.Proofs.YthdeopopodhimaaDoor

/- Ranges, and what is under a path: of the program, and of the document. No further condition. -/
set_option linter.unusedVariables false
set_option linter.unusedSimpArgs false
namespace Go.Proofs.YthdeopopodhimaaDoor
open Go.Ab

def unA (x : List Pr × Int) : AV := .tup [.sl 3 (x.1.map Pr.av) .none, .int .i64 x.2]
theorem closed_un (x : List Pr × Int) : Closed (unA x) := closed_tup (closed2 (closed_prs _) closed_int)
def underR (dir : Bytes) (l : List Pr) : List Pr × Int := if isPathB dir = true then (l.filter fun p => underB dir p.key.path, 0) else ([], 20)
theorem filter_skip (dir : Bytes) (l : List Pr) : (skipU dir l).filter (fun p => underB dir p.key.path) = l.filter fun p => underB dir p.key.path := by
  induction l with
  | nil => rfl
  | cons p r ih =>
    cases h : underB dir p.key.path
    · rw [skipU_cons h, ih, List.filter_cons, if_neg (by rw [h]; simp)]
    · rw [skipU_hit h]
theorem skipU_head {dir : Bytes} {l r : List Pr} {p : Pr} (h : skipU dir l = p :: r) : underB dir p.key.path = true := by
  induction l with
  | nil => cases h
  | cons q s ih =>
    cases hq : underB dir q.key.path
    · rw [skipU_cons hq] at h
      exact ih h
    · rw [skipU_hit hq] at h
      cases h
      exact hq
theorem prs_one {a : List Pr} {p : Pr} {t : Tag} : AV.sl 3 (a.map Pr.av ++ [p.av]) t = .sl 3 ((a ++ [p]).map Pr.av) t := by simp
theorem closed_cells (p : Pr) : ∀ c, c ∈ p.av.cells → Closed c := by
  intro c hc
  have : c ∈ [AV.str p.key.path, .int .i64 p.key.time, .str p.val] := hc
  exact closed3 closed_str closed_int closed_str c this
theorem prs_cells (l : List Pr) : ∀ x, x ∈ l.map Pr.av → ∀ c, c ∈ x.cells → Closed c := by
  intro x hx
  obtain ⟨p, _, rfl⟩ := List.mem_map.1 hx
  exact closed_cells p
def curN (t : Tr) (dir : Bytes) (m : List Pr) (g : Nat) : Mem := ⟨3, [(0, .cells (curC t dir m)), (2, .spare g)]⟩
def curF (out : List Pr) (g : Nat) (p : Pr) (ok : Bool) : AF := ⟨[(6, .ptr 0 0), (8, .sl 3 (out.map Pr.av) (.tok 2 g)), (9, .ref p.av.cells), (10, .bool ok)], []⟩
def nextP (dir : Bytes) (l : List Pr) : Pr := (nextC (skipU dir l)).1.1
def nextB (dir : Bytes) (l : List Pr) : Bool := (nextC (skipU dir l)).1.2
def nextR (dir : Bytes) (l : List Pr) : List Pr := (nextC (skipU dir l)).2

set_option maxRecDepth 100000 in
set_option maxHeartbeats 8000000 in
theorem cUnderBad_ok (t : Tr) (dir : Bytes) (hd : dir.length < 1000000) (hp : isPathB dir = false) : APure Tryd.prog 21 [t.av, .str dir] (.tup [.sl 0 [] .full, .int .i64 20]) := by
  intro M
  refine acalls_of tabOK Tryd.func21 rfl (by decide) (by simp [Tryd.f21]) ?_
  have kb := newBad_ok t dir hd hp
  unfold Tr.av at kb ⊢
  repeat' (first | refine DW_A tabs rfl ?_ | refine DW_nil ?_ | refine W_A rfl ?_ | refine DW_C rfl kb ?_ | refine DW_row tabOK rfl ?_ | refine DW_app tabOK rfl rfl (by simp; omega) (by simp; omega) ?_ | refine DW_app0 tabOK rfl (by simp; omega) (by simp; omega) ?_)
  exact ⟨rfl, _, rfl, rfl, rfl⟩

set_option maxRecDepth 100000 in
set_option maxHeartbeats 8000000 in
theorem cUnderGood_ok (t : Tr) (hs : t.all.length < 10000000) (ht : shortL t.all) (dir : Bytes) (hd : dir.length < 1000000) (hp : isPathB dir = true) : APure Tryd.prog 21 [t.av, .str dir] (unA (t.all.filter (fun p => underB dir p.key.path), 0)) := by
  refine pure_sub (closed2 (closed_tr t) closed_str) (closed_un _) ?_
  refine acalls_of tabOK Tryd.func21 rfl (by decide) (by simp [Tryd.f21]) ?_
  have kn := new_ok' t hs dir hd hp
  have kx := fun (l : List Pr) (h : shortL l) => next_ok t dir hd l h
  obtain ⟨A, hA⟩ : ∃ A, A = t.all := ⟨_, rfl⟩
  rw [← hA] at kn hs ht ⊢
  unfold Tr.av at kn ⊢
  repeat' (first | refine DW_A tabs rfl ?_ | refine DW_nil ?_ | refine W_A rfl ?_ | refine DW_row tabOK rfl ?_ | refine DW_app tabOK rfl rfl (by simp; omega) (by simp; omega) ?_ | refine DW_app0 tabOK rfl (by simp; omega) (by simp; omega) ?_)
  refine DW_CM rfl rfl kn ?_ (fun u M' h => by cases h.1)
  rintro u N ⟨e, rfl⟩
  cases e
  repeat' (first | refine DW_A tabs rfl ?_ | refine DW_nil ?_ | refine W_A rfl ?_ | refine DW_row tabOK rfl ?_ | refine DW_app tabOK rfl rfl (by simp; omega) (by simp; omega) ?_ | refine DW_app0 tabOK rfl (by simp; omega) (by simp; omega) ?_)
  refine DW_CM rfl rfl (cur_frame (R := fun e N => e = .ret (pb (nextP dir A, nextB dir A)) ∧ N = ⟨1, [(0, .cells (curC t dir (nextR dir A))), (0, .cells (curC t dir A))]⟩) 0 rfl (Nat.zero_lt_succ _) (kx A ht) (closed_pb _) ⟨InV.ptr rfl, trivial⟩ ⟨rfl, rfl⟩) ?_ (fun u M' h => by cases h.1)
  rintro u N ⟨e, rfl⟩
  cases e
  unfold pb
  repeat' (first | refine DW_A tabs rfl ?_ | refine DW_nil ?_ | refine W_A rfl ?_ | refine DW_row tabOK rfl ?_ | refine DW_app tabOK rfl rfl (by simp; omega) (by simp; omega) ?_ | refine DW_app0 tabOK rfl (by simp; omega) (by simp; omega) ?_)
  refine W_loop (fun k f N => ∃ (g : Nat) (rest out : List Pr), rest.length = k ∧ shortL rest ∧ out ++ rest.filter (fun p => underB dir p.key.path) = A.filter (fun p => underB dir p.key.path) ∧ out.length + rest.length ≤ A.length ∧ N = curN t dir (nextR dir rest) g ∧ f = curF out g (nextP dir rest) (nextB dir rest)) (k := A.length) ⟨0, A, [], rfl, ht, rfl, by simp, rfl, rfl⟩
    ((Joint.freezeP 9 rfl rfl).trans ((Joint.tok 8 rfl (sz' := 3) (.inr rfl)).trans (Joint.le ?_ (Mem.le_cons rfl (Mem.le_cons rfl (Mem.le_nil rfl)))))) ?_
  · unfold curF
    repeat (refine AF.le_cons rfl ?_)
    exact AF.le_nil rfl
  rintro k f N ⟨g, rest, out, rfl, hsr, hinv, hlen, rfl, rfl⟩
  unfold curN curF
  have hf := filter_skip dir rest
  have hsub := skipU_sub dir rest
  unfold nextP nextB nextR
  have hhead := @skipU_head dir rest
  generalize skipU dir rest = sk at hf hsub hhead
  cases sk with
  | nil =>
    repeat' (first | refine DW_A tabs rfl ?_ | refine DW_nil ?_ | refine W_A rfl ?_ | refine DW_row tabOK rfl ?_ | refine DW_app tabOK rfl rfl (by simp; omega) (by simp; omega) ?_ | refine DW_app0 tabOK rfl (by simp; omega) (by simp; omega) ?_)
    rw [← hf] at hinv
    have e : out = A.filter (fun p => underB dir p.key.path) := by simpa using hinv
    exact ⟨rfl, _, rfl, _, rfl, SubC.tup2 (by rw [← e]; exact SubC.untag (closed_prs out)) (SubC.of_closed closed_int)⟩
  | cons p r =>
    have hu := hhead rfl
    have hl2 : r.length + 1 ≤ rest.length := hsub.length_le
    have hsr2 : shortL r := fun q hq => hsr q (hsub.subset (by simp [hq]))
    rw [← hf, List.filter_cons, if_pos hu] at hinv
    have kn2 := kx r hsr2
    repeat' (first | refine DW_A tabs rfl ?_ | refine DW_nil ?_ | refine W_A rfl ?_ | refine DW_row tabOK rfl ?_ | refine DW_app tabOK rfl rfl (by simp; omega) (by simp; omega) ?_ | refine DW_app0 tabOK rfl (by simp; omega) (by simp; omega) ?_)
    refine DW_CM rfl rfl (cur_frame (R := fun e N => e = .ret (pb (nextP dir r, nextB dir r)) ∧ N = _) 0 rfl (Nat.zero_lt_succ _) kn2 (closed_pb _) ⟨InV.ptr rfl, trivial⟩ ⟨rfl, rfl⟩) ?_ (fun u M' h => by cases h.1)
    rintro u N ⟨e, rfl⟩
    cases e
    unfold pb
    repeat' (first | refine DW_A tabs rfl ?_ | refine DW_nil ?_ | refine W_A rfl ?_ | refine DW_row tabOK rfl ?_ | refine DW_app tabOK rfl rfl (by simp; omega) (by simp; omega) ?_ | refine DW_app0 tabOK rfl (by simp; omega) (by simp; omega) ?_)
    refine ⟨r.length, curF (out ++ [p]) (g + 1) (nextP dir r) (nextB dir r), curN t dir (nextR dir r) (g + 1), by omega, ⟨g + 1, r, out ++ [p], rfl, hsr2, by rw [List.append_assoc]; exact hinv, by simp; omega, rfl, rfl⟩, ?_⟩
    refine (Joint.freezeP 9 rfl rfl).trans ?_
    refine Joint.cut (k := 3) (t := (curF (out ++ [p]) (g + 1) (nextP dir r) (nextB dir r)).t) (l := (curN t dir (nextR dir r) (g + 1)).objs) (by show 2 ≤ 3; omega) (by show 3 ≤ 4; omega) rfl ⟨?_, ?_, ?_, ?_, trivial⟩ ⟨by decide, ⟨rfl, ?_⟩, by decide, rfl, trivial⟩
    · exact SubC.ptr rfl
    · show SubC 3 (.sl 3 (out.map Pr.av ++ [p.av]) (.tok 2 (g + 1))) _
      rw [prs_one]
      exact SubC.tok rfl (prs_cells _)
    · exact SubC.of_closed (closed_ref (closed_cells _))
    · exact SubC.of_closed closed_bool
    · intro i x y hx hy
      have hx' : (curC t dir (nextR dir r))[i]? = some x := hx
      rw [hy] at hx'
      cases hx'
      exact SubC.of_closed (closed_curC t dir _ _ (List.mem_of_getElem? hy))

/-! ### Ranges -/
def rangeC (l : List Pr) (a b : Ky) : List Pr := (fromP l a).takeWhile fun p => rless p.key b
theorem takeW_at {α : Type} {q : α → Bool} : ∀ {l : List α} {i : Nat} {x : α}, (∀ y, y ∈ l.take i → q y = true) → l[i]? = some x → q x = false → l.takeWhile q = l.take i
  | [], i, x, _, h, _ => by simp at h
  | y :: r, 0, x, _, h, hq => by
    cases h
    rw [List.takeWhile_cons, if_neg (by rw [hq]; simp)]
    rfl
  | y :: r, i + 1, x, ha, h, hq => by
    rw [List.takeWhile_cons, if_pos (ha y (by simp)), List.take_succ_cons, takeW_at (l := r) (i := i) (x := x) (fun z hz => ha z (by simp [hz])) h hq]
theorem takeW_all {α : Type} {q : α → Bool} {l : List α} (h : ∀ y, y ∈ l → q y = true) : l.takeWhile q = l := by
  induction l with
  | nil => rfl
  | cons y r ih => rw [List.takeWhile_cons, if_pos (h y (by simp)), ih (fun z hz => h z (by simp [hz]))]
theorem take_mem {α : Type} {l : List α} {i : Nat} {x y : α} {q : α → Prop} (ht : l.take (i + 1) = l.take i ++ [x]) (h : ∀ y, y ∈ l.take i → q y) (hx : q x) : ∀ y, y ∈ l.take (i + 1) → q y := by
  intro y hy
  rw [ht] at hy
  rcases List.mem_append.1 hy with hy | hy
  · exact h y hy
  · simp at hy; exact hy ▸ hx
theorem prs_take {l : List Pr} {i : Nat} {x : Pr} {t : Tag} (ht : l.take (i + 1) = l.take i ++ [x]) : AV.sl 3 ((l.take i).map Pr.av ++ [x.av]) t = .sl 3 ((l.take (i + 1)).map Pr.av) t := by rw [ht]; simp
theorem prs_tok {k id g : Nat} {l : List Pr} (h : decide (id < k) = true) : SubC k (.sl 3 (l.map Pr.av) (.tok id g)) (.sl 3 (l.map Pr.av) (.tok id g)) := SubC.tok h (prs_cells _)

set_option maxRecDepth 100000 in
set_option maxHeartbeats 8000000 in
theorem range_ok (t : Tr) (hs : t.all.length < 10000000) (a b : Ky) : APure Tryd.prog 8 [t.av, a.av, b.av] (.sl 3 ((rangeC t.all a b).map Pr.av) .none) := by
  refine pure_sub (closed3 (closed_tr t) (closed_ky a) (closed_ky b)) (closed_prs _) ?_
  refine acalls_of tabOK Tryd.func8 rfl (by decide) (by simp [Tryd.f8]) ?_
  have kl := len_ok t
  have kf := tFrom_ok t hs a (t.all.length : Int)
  rw [fromP_min] at kf
  unfold rangeC
  have hlen : (fromP t.all a).length ≤ t.all.length := (List.dropWhile_sublist _).length_le
  unfold Tr.av at kl kf ⊢
  generalize fromP t.all a = L at kf hlen
  have la := len_map Pr.av L
  repeat' (first | refine DW_VI tabs rfl la ?_ | refine DW_A tabs rfl ?_ | refine DW_nil ?_ | refine W_A rfl ?_ | refine DW_C rfl kl ?_ | refine DW_C rfl kf ?_ | refine DW_row tabOK rfl ?_ | refine DW_app tabOK rfl rfl (by simp; omega) (by simp; omega) ?_ | refine DW_app0 tabOK rfl (by simp; omega) (by simp; omega) ?_ | refine W_draw mixed [0, 2, 3, 6, 1, 4, 5] [.P, .R, .P, .P, .P, .P, .P] rfl rfl (by kernel_rfl) ?_)
  refine W_count L.length (fun i f N => ∃ g : Nat, N = tokM g ∧ (∀ y, y ∈ L.take i → rless y.key b = true) ∧ f = ⟨[(5, .ref [.str b.path, .int .i64 b.time]), (7, .sl 3 ((L.take i).map Pr.av) (.tok 0 g)), (14, .sl 3 (L.map Pr.av) .none), (15, .int .i64 (L.length : Int)), (16, .int .i64 (i : Int))], []⟩) (Nat.zero_le _) ⟨0, rfl, by simp, rfl⟩ ((Joint.tok 7 rfl (sz' := 3) (.inr rfl)).trans (Joint.le ?_ (tokM_of rfl rfl))) ?_
  · skip
    repeat (refine AF.le_cons rfl ?_)
    exact AF.le_nil rfl
  rintro i f N hi ⟨g, rfl, hinv, rfl⟩
  by_cases h1 : i < L.length
  · have d1 : decide ((i : Int) < (L.length : Int)) = true := by simp; omega
    have hx : L[i]? = some L[i] := List.getElem?_eq_getElem h1
    have fi := wrap_succ (i := i) (by omega)
    have ht := take_succ hx
    have hm := List.getElem_mem h1
    generalize L[i] = x at hx ht hm
    have kl := less_ok x.key b
    rw [toS_neg] at kl
    cases h3 : rless x.key b
    · rw [h3] at kl
      repeat' (first | refine DW_VB tabs rfl d1 ?_ | refine DW_VI tabs rfl (by first | exact fi | exact la) ?_ | refine DW_A tabs rfl ?_ | refine DW_nil ?_ | refine W_A rfl ?_ | refine DW_C rfl kl ?_ | refine DW_ix tabOK rfl (ixN hx) ?_ | refine DW_row tabOK rfl ?_ | refine DW_app tabOK rfl rfl (by simp; omega) (by simp; omega) ?_ | refine DW_app0 tabOK rfl (by simp; omega) (by simp; omega) ?_ | refine W_draw mixed [0, 2, 3, 6, 1, 4, 5] [.P, .R, .P, .P, .P, .P, .P] rfl rfl (by kernel_rfl) ?_)
      rw [takeW_at hinv hx h3]
      exact ⟨rfl, _, rfl, _, rfl, SubC.untag (closed_prs _)⟩
    · rw [h3] at kl
      repeat' (first | refine DW_VB tabs rfl d1 ?_ | refine DW_VI tabs rfl (by first | exact fi | exact la) ?_ | refine DW_A tabs rfl ?_ | refine DW_nil ?_ | refine W_A rfl ?_ | refine DW_C rfl kl ?_ | refine DW_ix tabOK rfl (ixN hx) ?_ | refine DW_row tabOK rfl ?_ | refine DW_app tabOK rfl rfl (by simp; omega) (by simp; omega) ?_ | refine DW_app0 tabOK rfl (by simp; omega) (by simp; omega) ?_ | refine W_draw mixed [0, 2, 3, 6, 1, 4, 5] [.P, .R, .P, .P, .P, .P, .P] rfl rfl (by kernel_rfl) ?_)
      refine ⟨h1, _, _, ⟨g + 1, rfl, take_mem (y := x) ht hinv h3, rfl⟩, ?_⟩
      refine Joint.cut (k := 1) (Nat.zero_le _) (by show 1 ≤ 2; omega) rfl ⟨?_, ?_, ?_, ?_, ?_, trivial⟩ ⟨by decide, rfl, trivial⟩
      · exact SubC.of_closed (closed_ref (closed2 closed_str closed_int))
      · show SubC 1 (.sl 3 ((L.take i).map Pr.av ++ [x.av]) (.tok 0 (g + 1))) _
        rw [prs_take ht]
        exact SubC.tok rfl (prs_cells _)
      · exact SubC.of_closed (closed_prs _)
      · exact SubC.of_closed closed_int
      · exact SubC.of_closed closed_int
  · have d1 : decide ((i : Int) < (L.length : Int)) = false := by simp; omega
    obtain rfl : i = L.length := by omega
    rw [take_all] at hinv ⊢
    repeat' (first | refine DW_VB tabs rfl d1 ?_ | refine DW_A tabs rfl ?_ | refine DW_nil ?_ | refine W_A rfl ?_ | refine DW_row tabOK rfl ?_ | refine DW_app tabOK rfl rfl (by simp; omega) (by simp; omega) ?_ | refine DW_app0 tabOK rfl (by simp; omega) (by simp; omega) ?_ | refine W_draw mixed [0, 2, 3, 6, 1, 4, 5] [.P, .R, .P, .P, .P, .P, .P] rfl rfl (by kernel_rfl) ?_)
    rw [takeW_all hinv]
    exact ⟨rfl, _, rfl, _, rfl, SubC.untag (closed_prs _)⟩

/-! ### The document's -/
set_option maxRecDepth 100000 in
set_option maxHeartbeats 8000000 in
theorem rcUnder_ok (l : List Pr) (hl : l.length < 1000000) (hsh : ∀ p, p ∈ l → p.key.path.length < 99999) (tg : Tag) (htg : tg = .none ∨ tg = .full) (dir : Bytes) (hd : dir.length < 99999) : APure Tryd.prog 13 [.sl 3 (l.map Pr.av) tg, .str dir] (unA (underR dir l)) := by
  refine pure_sub (closed2 (closed_sl htg (fun x hx => by obtain ⟨p, _, rfl⟩ := List.mem_map.1 hx; exact closed_pr p) (prs_cells l)) closed_str) (closed_un _) ?_
  refine acalls_of tabOK Tryd.func13 rfl (by decide) (by simp [Tryd.f13]) ?_
  have k1 := refIs_ok dir (by omega)
  have la := len_map Pr.av l
  unfold underR
  cases hp : isPathB dir
  · rw [hp] at k1
    repeat' (first | refine DW_A tabs rfl ?_ | refine DW_nil ?_ | refine W_A rfl ?_ | refine DW_C rfl k1 ?_ | refine DW_row tabOK rfl ?_ | refine DW_app tabOK rfl rfl (by simp; omega) (by simp; omega) ?_ | refine DW_app0 tabOK rfl (by simp; omega) (by simp; omega) ?_)
    exact ⟨rfl, _, rfl, _, rfl, SubC.tup2 SubC.nil (SubC.of_closed closed_int)⟩
  · rw [hp] at k1
    rw [if_pos rfl]
    repeat' (first | refine DW_A tabs rfl ?_ | refine DW_nil ?_ | refine W_A rfl ?_ | refine DW_C rfl k1 ?_ | refine DW_row tabOK rfl ?_ | refine DW_app tabOK rfl rfl (by simp; omega) (by simp; omega) ?_ | refine DW_app0 tabOK rfl (by simp; omega) (by simp; omega) ?_)
    refine W_count l.length (fun i f N => ∃ g : Nat, N = tokM g ∧ (((l.take i).filter fun p => underB dir p.key.path).length ≤ i) ∧ f = ⟨[(0, .sl 3 (l.map Pr.av) tg), (1, .str dir), (6, .sl 3 (((l.take i).filter fun p => underB dir p.key.path).map Pr.av) (.tok 0 g)), (7, .int .i64 (i : Int))], []⟩) (Nat.zero_le _) ⟨0, rfl, by simp, rfl⟩ ((Joint.tok 6 rfl (sz' := 3) (.inr rfl)).trans (Joint.le ?_ (tokM_of rfl rfl))) ?_
    · skip
      repeat (refine AF.le_cons rfl ?_)
      exact AF.le_nil rfl
    rintro i f N hi ⟨g, rfl, hinv, rfl⟩
    by_cases h1 : i < l.length
    · have d1 : decide ((i : Int) < (l.length : Int)) = true := by simp; omega
      have hx : l[i]? = some l[i] := List.getElem?_eq_getElem h1
      have fi := wrap_succ (i := i) (by omega)
      have ht := take_succ hx
      have hm := List.getElem_mem h1
      generalize l[i] = x at hx ht hm
      have ku := rUnder_ok dir x.key.path hd (hsh x hm)
      rw [under_is] at ku
      have hf : (l.take (i + 1)).filter (fun p => underB dir p.key.path) = (l.take i).filter (fun p => underB dir p.key.path) ++ [x].filter (fun p => underB dir p.key.path) := by rw [ht, List.filter_append]
      cases h3 : underB dir x.key.path
      · rw [h3] at ku
        rw [List.filter_cons, if_neg (by rw [h3]; simp), List.filter_nil, List.append_nil] at hf
        repeat' (first | refine DW_VB tabs rfl d1 ?_ | refine DW_VI tabs rfl (by first | exact fi | exact la) ?_ | refine DW_A tabs rfl ?_ | refine DW_nil ?_ | refine W_A rfl ?_ | refine DW_C rfl ku ?_ | refine DW_ix tabOK rfl (ixN hx) ?_ | refine DW_row tabOK rfl ?_ | refine DW_app tabOK rfl rfl (by simp; omega) (by simp; omega) ?_ | refine DW_app0 tabOK rfl (by simp; omega) (by simp; omega) ?_)
        refine ⟨h1, _, _, ⟨g, rfl, by rw [hf]; omega, rfl⟩, Joint.le ?_ (tokM_of rfl rfl)⟩
        repeat' (first | exact AF.le_nil rfl | refine AF.le_cons rfl ?_ | refine AF.le_cons (by rw [hf]; rfl) ?_)
      · rw [h3] at ku
        rw [List.filter_cons, if_pos h3, List.filter_nil] at hf
        repeat' (first | refine DW_VB tabs rfl d1 ?_ | refine DW_VI tabs rfl (by first | exact fi | exact la) ?_ | refine DW_A tabs rfl ?_ | refine DW_nil ?_ | refine W_A rfl ?_ | refine DW_C rfl ku ?_ | refine DW_ix tabOK rfl (ixN hx) ?_ | refine DW_row tabOK rfl ?_ | refine DW_app tabOK rfl rfl (by simp; omega) (by simp; omega) ?_ | refine DW_app0 tabOK rfl (by simp; omega) (by simp; omega) ?_)
        refine ⟨h1, _, _, ⟨g + 1, rfl, by rw [hf]; simp; omega, rfl⟩, Joint.le ?_ (tokM_of rfl rfl)⟩
        repeat' (first | exact AF.le_nil rfl | refine AF.le_cons rfl ?_ | refine AF.le_cons (by rw [hf]; exact prs_one) ?_)
    · have d1 : decide ((i : Int) < (l.length : Int)) = false := by simp; omega
      obtain rfl : i = l.length := by omega
      rw [take_all]
      repeat' (first | refine DW_VB tabs rfl d1 ?_ | refine DW_VI tabs rfl la ?_ | refine DW_A tabs rfl ?_ | refine DW_nil ?_ | refine W_A rfl ?_ | refine DW_row tabOK rfl ?_ | refine DW_app tabOK rfl rfl (by simp; omega) (by simp; omega) ?_ | refine DW_app0 tabOK rfl (by simp; omega) (by simp; omega) ?_)
      exact ⟨rfl, _, rfl, _, rfl, SubC.tup2 (SubC.untag (closed_prs _)) (SubC.of_closed closed_int)⟩

set_option maxRecDepth 100000 in
set_option maxHeartbeats 8000000 in
theorem rcRange_ok (l : List Pr) (hl : l.length < 1000000) (tg : Tag) (htg : tg = .none ∨ tg = .full) (a b : Ky) : APure Tryd.prog 22 [.sl 3 (l.map Pr.av) tg, a.av, b.av] (.sl 3 ((l.filter fun p => !rless p.key a && rless p.key b).map Pr.av) .none) := by
  refine pure_sub (closed3 (closed_sl htg (fun x hx => by obtain ⟨p, _, rfl⟩ := List.mem_map.1 hx; exact closed_pr p) (prs_cells l)) (closed_ky a) (closed_ky b)) (closed_prs _) ?_
  refine acalls_of tabOK Tryd.func22 rfl (by decide) (by simp [Tryd.f22]) ?_
  have la := len_map Pr.av l
  repeat' (first | refine DW_A tabs rfl ?_ | refine DW_nil ?_ | refine W_A rfl ?_ | refine DW_row tabOK rfl ?_ | refine DW_app tabOK rfl rfl (by simp; omega) (by simp; omega) ?_ | refine DW_app0 tabOK rfl (by simp; omega) (by simp; omega) ?_ | refine W_draw mixed [0, 1, 2, 3, 4, 5, 6, 7, 8, 9, 10, 11, 12, 13, 14, 15, 16] [.P, .P, .R, .R, .R, .R, .P, .P, .P, .P, .P, .R, .R, .R, .R, .P, .P] rfl rfl (by kernel_rfl) ?_)
  refine W_count l.length (fun i f N => ∃ g : Nat, N = tokM g ∧ (((l.take i).filter fun p => !rless p.key a && rless p.key b).length ≤ i) ∧ f = ⟨[(0, .sl 3 (l.map Pr.av) tg), (4, .ref [.str a.path, .int .i64 a.time]), (5, .ref [.str b.path, .int .i64 b.time]), (7, .sl 3 (((l.take i).filter fun p => !rless p.key a && rless p.key b).map Pr.av) (.tok 0 g)), (8, .int .i64 (i : Int))], []⟩) (Nat.zero_le _) ⟨0, rfl, by simp, rfl⟩ ((Joint.tok 7 rfl (sz' := 3) (.inr rfl)).trans (Joint.le ?_ (tokM_of rfl rfl))) ?_
  · skip
    repeat (refine AF.le_cons rfl ?_)
    exact AF.le_nil rfl
  rintro i f N hi ⟨g, rfl, hinv, rfl⟩
  by_cases h1 : i < l.length
  · have d1 : decide ((i : Int) < (l.length : Int)) = true := by simp; omega
    have hx : l[i]? = some l[i] := List.getElem?_eq_getElem h1
    have fi := wrap_succ (i := i) (by omega)
    have ht := take_succ hx
    have hm := List.getElem_mem h1
    generalize l[i] = x at hx ht hm
    have k1 := rless_ok x.key a
    have k2 := rless_ok x.key b
    have hf : (l.take (i + 1)).filter (fun p => !rless p.key a && rless p.key b) = (l.take i).filter (fun p => !rless p.key a && rless p.key b) ++ [x].filter (fun p => !rless p.key a && rless p.key b) := by rw [ht, List.filter_append]
    rw [List.filter_cons, List.filter_nil] at hf
    cases h3 : rless x.key a
    · rw [h3] at k1 hf
      cases h4 : rless x.key b
      · rw [h4] at k2 hf
        simp only [Bool.not_false, Bool.and_false, Bool.false_eq_true, if_false, List.append_nil] at hf
        repeat' (first | refine DW_VB tabs rfl d1 ?_ | refine DW_VI tabs rfl (by first | exact fi | exact la) ?_ | refine DW_A tabs rfl ?_ | refine DW_nil ?_ | refine W_A rfl ?_ | refine DW_C rfl k1 ?_ | refine DW_C rfl k2 ?_ | refine DW_ix tabOK rfl (ixN hx) ?_ | refine DW_row tabOK rfl ?_ | refine DW_app tabOK rfl rfl (by simp; omega) (by simp; omega) ?_ | refine DW_app0 tabOK rfl (by simp; omega) (by simp; omega) ?_ | refine W_draw mixed [0, 1, 2, 3, 4, 5, 6, 7, 8, 9, 10, 11, 12, 13, 14, 15, 16] [.P, .P, .R, .R, .R, .R, .P, .P, .P, .P, .P, .R, .R, .R, .R, .P, .P] rfl rfl (by kernel_rfl) ?_)
        refine ⟨h1, _, _, ⟨g, rfl, by rw [hf]; omega, rfl⟩, Joint.le ?_ (tokM_of rfl rfl)⟩
        repeat' (first | exact AF.le_nil rfl | refine AF.le_cons rfl ?_ | refine AF.le_cons (by rw [hf]; rfl) ?_)
      · rw [h4] at k2 hf
        simp only [Bool.not_false, Bool.and_self, if_true] at hf
        repeat' (first | refine DW_VB tabs rfl d1 ?_ | refine DW_VI tabs rfl (by first | exact fi | exact la) ?_ | refine DW_A tabs rfl ?_ | refine DW_nil ?_ | refine W_A rfl ?_ | refine DW_C rfl k1 ?_ | refine DW_C rfl k2 ?_ | refine DW_ix tabOK rfl (ixN hx) ?_ | refine DW_row tabOK rfl ?_ | refine DW_app tabOK rfl rfl (by simp; omega) (by simp; omega) ?_ | refine DW_app0 tabOK rfl (by simp; omega) (by simp; omega) ?_ | refine W_draw mixed [0, 1, 2, 3, 4, 5, 6, 7, 8, 9, 10, 11, 12, 13, 14, 15, 16] [.P, .P, .R, .R, .R, .R, .P, .P, .P, .P, .P, .R, .R, .R, .R, .P, .P] rfl rfl (by kernel_rfl) ?_)
        refine ⟨h1, _, _, ⟨g + 1, rfl, by rw [hf]; simp; omega, rfl⟩, Joint.le ?_ (tokM_of rfl rfl)⟩
        repeat' (first | exact AF.le_nil rfl | refine AF.le_cons rfl ?_ | refine AF.le_cons (by rw [hf]; exact prs_one) ?_)
    · rw [h3] at k1 hf
      simp only [Bool.not_true, Bool.false_and, Bool.false_eq_true, if_false, List.append_nil] at hf
      repeat' (first | refine DW_VB tabs rfl d1 ?_ | refine DW_VI tabs rfl (by first | exact fi | exact la) ?_ | refine DW_A tabs rfl ?_ | refine DW_nil ?_ | refine W_A rfl ?_ | refine DW_C rfl k1 ?_ | refine DW_C rfl k2 ?_ | refine DW_ix tabOK rfl (ixN hx) ?_ | refine DW_row tabOK rfl ?_ | refine DW_app tabOK rfl rfl (by simp; omega) (by simp; omega) ?_ | refine DW_app0 tabOK rfl (by simp; omega) (by simp; omega) ?_ | refine W_draw mixed [0, 1, 2, 3, 4, 5, 6, 7, 8, 9, 10, 11, 12, 13, 14, 15, 16] [.P, .P, .R, .R, .R, .R, .P, .P, .P, .P, .P, .R, .R, .R, .R, .P, .P] rfl rfl (by kernel_rfl) ?_)
      refine ⟨h1, _, _, ⟨g, rfl, by rw [hf]; omega, rfl⟩, Joint.le ?_ (tokM_of rfl rfl)⟩
      repeat' (first | exact AF.le_nil rfl | refine AF.le_cons rfl ?_ | refine AF.le_cons (by rw [hf]; rfl) ?_)
  · have d1 : decide ((i : Int) < (l.length : Int)) = false := by simp; omega
    obtain rfl : i = l.length := by omega
    rw [take_all]
    repeat' (first | refine DW_VB tabs rfl d1 ?_ | refine DW_VI tabs rfl la ?_ | refine DW_A tabs rfl ?_ | refine DW_nil ?_ | refine W_A rfl ?_ | refine DW_row tabOK rfl ?_ | refine DW_app tabOK rfl rfl (by simp; omega) (by simp; omega) ?_ | refine DW_app0 tabOK rfl (by simp; omega) (by simp; omega) ?_ | refine W_draw mixed [0, 1, 2, 3, 4, 5, 6, 7, 8, 9, 10, 11, 12, 13, 14, 15, 16] [.P, .P, .R, .R, .R, .R, .P, .P, .P, .P, .P, .R, .R, .R, .R, .P, .P] rfl rfl (by kernel_rfl) ?_)
    exact ⟨rfl, _, rfl, _, rfl, SubC.untag (closed_prs _)⟩

/-! ### The document's cursor -/
def rcC (L : List Pr) (i : Nat) : List AV := [.sl 3 (L.map Pr.av) .none, .int .i64 (i : Int)]
theorem closed_rcC (L : List Pr) (i : Nat) : ∀ x, x ∈ rcC L i → Closed x := closed2 (closed_prs L) closed_int
def rcM (L : List Pr) (i : Nat) : Mem := ⟨1, [(0, .cells (rcC L i))]⟩
theorem rc_frame {L : List Pr} {i j : Nat} {g : FuncId} {args args1 : List AV} {r : AV} {M : Mem} {R : AEnd → Mem → Prop} (id : Nat) (hM : M.get id = some (.cells (rcC L i))) (hlt : id < M.next)
    (h : ACalls Tryd.prog g args1 (rcM L i) fun e N => e = .ret r ∧ N = rcM L j) (hr : Closed r) (hargs : InL [id] args args1) (hR : R (.ret r) (M.set id (.cells (rcC L j)))) : ACalls Tryd.prog g args M R := by
  refine ACalls.frame1 (R1 := fun e d => e = .ret r ∧ d = rcC L j) id hM hlt (closed_rcC L i) (h.mono ?_) hargs ?_
  · rintro e N ⟨h1, rfl⟩
    exact ⟨rfl, _, rfl, h1, rfl⟩
  · rintro e d ⟨h1, rfl⟩
    subst h1
    exact ⟨hr, closed_rcC L j, hR⟩
theorem rc_cut {L : List Pr} {i j : Nat} {g : FuncId} {args : List AV} {r : AV} (hr : Closed r) (h : ACalls Tryd.prog g args (rcM L i) fun e N => e = .ret r ∧ 1 ≤ N.next ∧ N.get 0 = some (.cells (rcC L j))) :
    ACalls Tryd.prog g args (rcM L i) fun e N => e = .ret r ∧ N = rcM L j := by
  refine (ACalls.cutL (r := r) (l := [(0, .cells (rcC L j))]) (h.mono ?_)).mono ?_
  · rintro e N ⟨h1, h2, h3⟩
    exact ⟨r, h1, SubC.of_closed hr, h2, objsC_closed (Nat.zero_lt_one) h3 (closed_rcC L j) trivial⟩
  · rintro e N ⟨rfl, rfl⟩
    exact ⟨rfl, rfl⟩
def rnextI (L : List Pr) (i : Nat) : Nat := if i < L.length then i + 1 else i
set_option maxRecDepth 100000 in
set_option maxHeartbeats 8000000 in
theorem rcNext_raw (L : List Pr) (hL : L.length < 1000000) (i : Nat) (hi : i < 1000000) : ACalls Tryd.prog 16 [.ptr 0 0] (rcM L i) (fun e N => e = .ret (pb (nextC (L.drop i)).1) ∧ 1 ≤ N.next ∧ N.get 0 = some (.cells (rcC L (rnextI L i)))) := by
  refine acalls_of tabOK Tryd.func16 rfl (by decide) (by simp [Tryd.f16]) ?_
  have la := len_map Pr.av L
  unfold rcM rcC rnextI
  by_cases h1 : i < L.length
  · have hx : L[i]? = some L[i] := List.getElem?_eq_getElem h1
    have hd : L.drop i = L[i] :: L.drop (i + 1) := List.drop_eq_getElem_cons h1
    generalize L[i] = x at hx hd
    have d1 : decide ((L.length : Int) ≤ (i : Int)) = false := decide_eq_false (by omega)
    have fi := wrap_succ (i := i) (by omega)
    have w1 : IntKind.wrap .i64 (((i + 1 : Nat) : Int) - 1) = (i : Int) := (Go.Ab.wrap_small (by omega) (by omega)).trans (by omega)
    rw [hd, if_pos h1]
    repeat' (first | refine DW_VB tabs rfl d1 ?_ | refine DW_VI tabs rfl (by first | exact la | exact fi | exact w1) ?_ | refine DW_A tabs rfl ?_ | refine DW_nil ?_ | refine W_A rfl ?_ | refine DW_ix tabOK rfl (ixN hx) ?_ | refine W_draw mixed [0, 4, 1, 2, 3, 5, 6, 7, 8, 9] [.P, .R, .R, .R, .P, .R, .R, .R, .P, .P] rfl rfl (by kernel_rfl) ?_ | refine W_draw mixed [0, 4, 1, 2, 3, 5, 6, 7, 8, 9, 10, 11, 12] [.P, .R, .R, .R, .P, .R, .R, .R, .P, .R, .R, .E, .P] rfl rfl (by kernel_rfl) ?_)
    exact ⟨rfl, _, rfl, rfl, Nat.le_add_left 1 _, rfl⟩
  · have d1 : decide ((L.length : Int) ≤ (i : Int)) = true := decide_eq_true (by omega)
    rw [List.drop_eq_nil_of_le (by omega), if_neg h1]
    repeat' (first | refine DW_VB tabs rfl d1 ?_ | refine DW_VI tabs rfl la ?_ | refine DW_A tabs rfl ?_ | refine DW_nil ?_ | refine W_A rfl ?_ | refine W_draw mixed [0, 4, 1, 2, 3, 5, 6, 7, 8, 9] [.P, .R, .R, .R, .P, .R, .R, .R, .P, .P] rfl rfl (by kernel_rfl) ?_ | refine W_draw mixed [0, 4, 1, 2, 3, 5, 6, 7, 8, 9, 10, 11, 12] [.P, .R, .R, .R, .P, .R, .R, .R, .P, .R, .R, .E, .P] rfl rfl (by kernel_rfl) ?_)
    exact ⟨rfl, _, rfl, rfl, Nat.le_add_left 1 _, rfl⟩
def rskipI (L : List Pr) (i : Nat) : Nat := match L.drop i with
  | [] => i
  | p :: r => i + ((p :: r).takeWhile fun q => q.key.path == p.key.path).length
set_option maxRecDepth 100000 in
set_option maxHeartbeats 8000000 in
theorem rcSkip_raw (L : List Pr) (hL : L.length < 1000000) (i : Nat) (hi : i < 1000000) : ACalls Tryd.prog 18 [.ptr 0 0] (rcM L i) (fun e N => e = .ret (sb (skipC (L.drop i)).1) ∧ 1 ≤ N.next ∧ N.get 0 = some (.cells (rcC L (rskipI L i)))) := by
  refine acalls_of tabOK Tryd.func18 rfl (by decide) (by simp [Tryd.f18]) ?_
  have la := len_map Pr.av L
  unfold rcM rcC rskipI
  by_cases h1 : i < L.length
  · have hx : L[i]? = some L[i] := List.getElem?_eq_getElem h1
    have hd : L.drop i = L[i] :: L.drop (i + 1) := List.drop_eq_getElem_cons h1
    generalize L[i] = x at hx hd
    have d1 : decide ((L.length : Int) ≤ (i : Int)) = false := decide_eq_false (by omega)
    rw [hd]
    repeat' (first | refine DW_VB tabs rfl d1 ?_ | refine DW_VI tabs rfl la ?_ | refine DW_A tabs rfl ?_ | refine DW_nil ?_ | refine W_A rfl ?_ | refine DW_ix tabOK rfl (ixN hx) ?_ | refine W_draw mixed [0, 4, 1, 2, 3, 5, 6, 7, 8, 9] [.P, .R, .R, .R, .P, .R, .R, .R, .P, .P] rfl rfl (by kernel_rfl) ?_ | refine W_draw mixed [0, 4, 1, 2, 3, 5, 6, 7, 8, 9, 10, 11, 12] [.P, .R, .R, .R, .P, .R, .R, .R, .R, .R, .R, .R, .P] rfl rfl (by kernel_rfl) ?_ | refine W_draw mixed [0, 4, 1, 2, 3, 5, 6, 7, 8, 9, 10, 11, 15, 23, 12, 13, 14, 16, 17, 18, 19, 20, 21, 22, 24, 25] [.P, .R, .R, .R, .P, .R, .R, .R, .P, .P, .P, .P, .R, .R, .R, .P, .R, .R, .R, .R, .R, .R, .R, .P, .P, .P] rfl rfl (by kernel_rfl) ?_)
    refine W_count (L.length - i) (fun j f N => (∀ (q : Nat) y, q < j → L[i + q]? = some y → (y.key.path == x.key.path) = true) ∧ N = rcM L (i + j) ∧ f = ⟨[(0, .ptr 0 0), (4, .str x.key.path)], []⟩) (Nat.zero_le _) ⟨fun q y hq => absurd hq (Nat.not_lt_zero _), rfl, rfl⟩ (Joint.le ?_ (Mem.le_cons rfl (Mem.le_nil rfl))) ?_
    · skip
      repeat (refine AF.le_cons rfl ?_)
      exact AF.le_nil rfl
    rintro j f N hj ⟨hinv, rfl, rfl⟩
    unfold rcM rcC
    have hcnt : ∀ (hend : ∀ y, L[i + j]? = some y → (y.key.path == x.key.path) = false), ((x :: L.drop (i + 1)).takeWhile fun q => q.key.path == x.key.path).length = j := by
      intro hend
      rw [← hd]
      have hcut : (L.drop i).takeWhile (fun q => q.key.path == x.key.path) = (L.drop i).take j := by
        have hall : ∀ y, y ∈ (L.drop i).take j → (y.key.path == x.key.path) = true := by
          intro y hy
          obtain ⟨q, hq⟩ := List.getElem?_of_mem hy
          rw [List.getElem?_take] at hq
          split at hq
          · rename_i hqj
            rw [List.getElem?_drop] at hq
            exact hinv q y hqj hq
          · cases hq
        cases hy : L[i + j]? with
        | none =>
          have : L.length ≤ i + j := List.getElem?_eq_none_iff.1 hy
          rw [List.take_of_length_le (by simp; omega)] at hall ⊢
          exact takeW_all hall
        | some y => exact takeW_at hall (x := y) (by rw [List.getElem?_drop]; exact hy) (hend y hy)
      rw [hcut]
      simp
      omega
    by_cases h2 : i + j < L.length
    · have d2 : decide (((i + j : Nat) : Int) < (L.length : Int)) = true := decide_eq_true (by omega)
      have hy : L[i + j]? = some L[i + j] := List.getElem?_eq_getElem h2
      have fi := wrap_succ (i := i + j) (by omega)
      generalize L[i + j] = y at hy
      cases h3 : y.key.path == x.key.path
      · repeat' (first | refine DW_VB tabs rfl (by first | exact d2 | exact h3) ?_ | refine DW_VI tabs rfl la ?_ | refine DW_A tabs rfl ?_ | refine DW_nil ?_ | refine W_A rfl ?_ | refine DW_ix tabOK rfl (ixN hy) ?_ | refine W_draw mixed [0, 4, 1, 2, 3, 5, 6, 7, 8, 9] [.P, .R, .R, .R, .P, .R, .R, .R, .P, .P] rfl rfl (by kernel_rfl) ?_ | refine W_draw mixed [0, 4, 1, 2, 3, 5, 6, 7, 8, 9, 10, 11, 12] [.P, .R, .R, .R, .P, .R, .R, .R, .R, .R, .R, .R, .P] rfl rfl (by kernel_rfl) ?_ | refine W_draw mixed [0, 4, 1, 2, 3, 5, 6, 7, 8, 9, 10, 11, 15, 23, 12, 13, 14, 16, 17, 18, 19, 20, 21, 22, 24, 25] [.P, .R, .R, .R, .P, .R, .R, .R, .P, .P, .P, .P, .R, .R, .R, .P, .R, .R, .R, .R, .R, .R, .R, .P, .P, .P] rfl rfl (by kernel_rfl) ?_)
        refine ⟨rfl, _, rfl, rfl, Nat.le_refl _, ?_⟩
        show _ = some (AObj.cells [.sl 3 (L.map Pr.av) .none, .int .i64 ((i + ((x :: L.drop (i + 1)).takeWhile fun q => q.key.path == x.key.path).length : Nat) : Int)])
        rw [hcnt fun z hz => by rw [hy] at hz; cases hz; exact h3]
        rfl
      · repeat' (first | refine DW_VB tabs rfl (by first | exact d2 | exact h3) ?_ | refine DW_VI tabs rfl (by first | exact la | exact fi) ?_ | refine DW_A tabs rfl ?_ | refine DW_nil ?_ | refine W_A rfl ?_ | refine DW_ix tabOK rfl (ixN hy) ?_ | refine W_draw mixed [0, 4, 1, 2, 3, 5, 6, 7, 8, 9] [.P, .R, .R, .R, .P, .R, .R, .R, .P, .P] rfl rfl (by kernel_rfl) ?_ | refine W_draw mixed [0, 4, 1, 2, 3, 5, 6, 7, 8, 9, 10, 11, 12] [.P, .R, .R, .R, .P, .R, .R, .R, .R, .R, .R, .R, .P] rfl rfl (by kernel_rfl) ?_ | refine W_draw mixed [0, 4, 1, 2, 3, 5, 6, 7, 8, 9, 10, 11, 15, 23, 12, 13, 14, 16, 17, 18, 19, 20, 21, 22, 24, 25] [.P, .R, .R, .R, .P, .R, .R, .R, .P, .P, .P, .P, .R, .R, .R, .P, .R, .R, .R, .R, .R, .R, .R, .P, .P, .P] rfl rfl (by kernel_rfl) ?_)
        refine ⟨by omega, _, _, ⟨?_, rfl, rfl⟩, Joint.le (AF.le_cons rfl (AF.le_cons rfl (AF.le_nil rfl))) (Mem.le_cons rfl (Mem.le_nil rfl))⟩
        intro q z hq hz
        by_cases hqj : q = j
        · subst hqj
          rw [hy] at hz
          cases hz
          exact h3
        · exact hinv q z (by omega) hz
    · have d2 : decide (((i + j : Nat) : Int) < (L.length : Int)) = false := decide_eq_false (by omega)
      repeat' (first | refine DW_VB tabs rfl d2 ?_ | refine DW_VI tabs rfl la ?_ | refine DW_A tabs rfl ?_ | refine DW_nil ?_ | refine W_A rfl ?_ | refine W_draw mixed [0, 4, 1, 2, 3, 5, 6, 7, 8, 9] [.P, .R, .R, .R, .P, .R, .R, .R, .P, .P] rfl rfl (by kernel_rfl) ?_ | refine W_draw mixed [0, 4, 1, 2, 3, 5, 6, 7, 8, 9, 10, 11, 12] [.P, .R, .R, .R, .P, .R, .R, .R, .R, .R, .R, .R, .P] rfl rfl (by kernel_rfl) ?_ | refine W_draw mixed [0, 4, 1, 2, 3, 5, 6, 7, 8, 9, 10, 11, 15, 23, 12, 13, 14, 16, 17, 18, 19, 20, 21, 22, 24, 25] [.P, .R, .R, .R, .P, .R, .R, .R, .P, .P, .P, .P, .R, .R, .R, .P, .R, .R, .R, .R, .R, .R, .R, .P, .P, .P] rfl rfl (by kernel_rfl) ?_)
      refine ⟨rfl, _, rfl, rfl, Nat.le_refl _, ?_⟩
      show _ = some (AObj.cells [.sl 3 (L.map Pr.av) .none, .int .i64 ((i + ((x :: L.drop (i + 1)).takeWhile fun q => q.key.path == x.key.path).length : Nat) : Int)])
      rw [hcnt fun z hz => by rw [List.getElem?_eq_none (by omega)] at hz; cases hz]
      rfl
  · have d1 : decide ((L.length : Int) ≤ (i : Int)) = true := decide_eq_true (by omega)
    rw [List.drop_eq_nil_of_le (by omega)]
    repeat' (first | refine DW_VB tabs rfl d1 ?_ | refine DW_VI tabs rfl la ?_ | refine DW_A tabs rfl ?_ | refine DW_nil ?_ | refine W_A rfl ?_ | refine W_draw mixed [0, 4, 1, 2, 3, 5, 6, 7, 8, 9] [.P, .R, .R, .R, .P, .R, .R, .R, .P, .P] rfl rfl (by kernel_rfl) ?_ | refine W_draw mixed [0, 4, 1, 2, 3, 5, 6, 7, 8, 9, 10, 11, 12] [.P, .R, .R, .R, .P, .R, .R, .R, .R, .R, .R, .R, .P] rfl rfl (by kernel_rfl) ?_ | refine W_draw mixed [0, 4, 1, 2, 3, 5, 6, 7, 8, 9, 10, 11, 15, 23, 12, 13, 14, 16, 17, 18, 19, 20, 21, 22, 24, 25] [.P, .R, .R, .R, .P, .R, .R, .R, .P, .P, .P, .P, .R, .R, .R, .P, .R, .R, .R, .R, .R, .R, .R, .P, .P, .P] rfl rfl (by kernel_rfl) ?_)
    exact ⟨rfl, _, rfl, rfl, Nat.le_refl _, rfl⟩
set_option maxRecDepth 100000 in
set_option maxHeartbeats 8000000 in
theorem rcSeek_raw (L : List Pr) (hL : L.length < 1000000) (i : Nat) (k : Ky) : ACalls Tryd.prog 20 [.ptr 0 0, k.av] (rcM L i) (fun e N => e = .ret (.tup []) ∧ 1 ≤ N.next ∧ N.get 0 = some (.cells (rcC L (findP L k)))) := by
  refine acalls_of tabOK Tryd.func20 rfl (by decide) (by simp [Tryd.f20]) ?_
  have kf := rFind_ok L .none hL k
  unfold rcM rcC
  repeat' (first | refine DW_A tabs rfl ?_ | refine DW_nil ?_ | refine W_A rfl ?_ | refine DW_C rfl kf ?_ | refine W_draw mixed [0, 1, 2, 3, 4, 5, 6, 7, 8, 9, 10] [.P, .R, .R, .R, .R, .P, .P, .P, .P, .P, .P] rfl rfl (by kernel_rfl) ?_)
  exact ⟨rfl, _, rfl, rfl, Nat.le_refl _, rfl⟩
end Go.Proofs.YthdeopopodhimaaDoor
