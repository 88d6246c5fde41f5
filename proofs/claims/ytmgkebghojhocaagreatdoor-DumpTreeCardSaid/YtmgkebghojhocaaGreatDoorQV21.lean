/- Parts of the proof, one behind the other: CurA, CurB, StoB, StoC, StoD, StoE. No further condition. -/
import Derived.Test.YtmgkebghojhocaaGreatDoorQV19
import Derived.Test.YtmgkebghojhocaaGreatDoorQV20
import Derived.Test.YtmgkebghojhocaaGreatDoorQV10
set_option linter.unusedVariables false
set_option linter.unusedSimpArgs false
/- Cursors: New, what is told next, Skip, Seek. No further condition. -/
set_option linter.unusedVariables false
set_option linter.unusedSimpArgs false
namespace Go.Proofs.YtmgkebghojhocaaGreatDoor
open Go.Ab
def fnU (dir : Bytes) : AV := .fn (.func 167) [] [.ref [.str dir]]
theorem closed_fnU (dir : Bytes) : Closed (fnU dir) := closed_fn (by simp) (closed1 (closed_ref (closed1 closed_str)))
def curC (t : Tr) (dir : Bytes) (l : List Pr) : List AV := [t.av, fnU dir, .sl 3 (l.map Pr.av) .none]
theorem closed_curC (t : Tr) (dir : Bytes) (l : List Pr) : ∀ x, x ∈ curC t dir l → Closed x := closed3 (closed_tr t) (closed_fnU dir) (closed_prs l)
def curM (t : Tr) (dir : Bytes) (l : List Pr) : Mem := ⟨1, [(0, .cells (curC t dir l))]⟩
def CurP (t : Tr) (dir : Bytes) (l : List Pr) (e : AEnd) (N : Mem) (r : AEnd) : Prop := e = r ∧ N = curM t dir l
set_option maxRecDepth 100000 in
set_option maxHeartbeats 8000000 in
theorem undr_ok (dir : Bytes) : APure Tryz.prog 143 [.str dir] (fnU dir) := by
 refine pure_sub (closed1 closed_str) (closed_fnU dir) ?_
 refine acalls_of tabOK Tryz.func143 rfl (by decide) (by simp [Tryz.f143]) ?_
 repeat' (first | refine DW_A tabs rfl ?_ | refine DW_nil ?_ | refine W_A rfl ?_)
 exact ⟨rfl, _, rfl, _, rfl, SubC.of_closed (closed_fnU dir)⟩
set_option maxRecDepth 100000 in
set_option maxHeartbeats 8000000 in
theorem under1_ok (p : Pr) (dir : Bytes) (hp : p.key.path.length < 1000000) (hd : dir.length < 1000000) : APure Tryz.prog 167 [p.av, .ref [.str dir]] (.bool (underB dir p.key.path)) := by
 intro M
 refine acalls_of tabOK Tryz.func167 rfl (by decide) (by simp [Tryz.f167]) ?_
 have k := under_ok dir p.key.path hd hp
 repeat' (first | refine DW_A tabs rfl ?_ | refine DW_nil ?_ | refine W_A rfl ?_ | refine DW_C rfl k ?_)
 exact ⟨rfl, _, rfl, rfl, rfl⟩
set_option maxRecDepth 100000 in
set_option maxHeartbeats 8000000 in
theorem new_ok' (t : Tr) (hs : t.all.length < 10000000) (dir : Bytes) (hd : dir.length < 1000000) (hp : isPathB dir = true) : ACalls Tryz.prog 108 [t.av, .str dir] ⟨0, []⟩ (fun e N => CurP t dir t.all e N (.ret (.tup [.ptr 0 0, .int .i64 0]))) := by
 refine acalls_of tabOK Tryz.func108 rfl (by decide) (by simp [Tryz.f108]) ?_
 have k1 := isPath_ok dir (by omega)
 rw [hp] at k1
 have k2 := undr_ok dir
 have k3 := tAll_ok t hs
 unfold Tr.av at k3 ⊢
 repeat' (first | refine DW_box 15 tabOK rfl ?_ | refine DW_A tabs rfl ?_ | refine DW_nil ?_ | refine W_A rfl ?_ | refine DW_C rfl k1 ?_ | refine DW_C rfl k2 ?_ | refine DW_C rfl k3 ?_)
 exact ⟨rfl, _, rfl, rfl, rfl⟩
/-- Those from the first one on that is told. -/
def skipU (dir : Bytes) (l : List Pr) : List Pr := l.dropWhile fun p => !underB dir p.key.path
def shortL (l : List Pr) : Prop := ∀ p, p ∈ l → p.key.path.length < 1000000
theorem skipU_cons {dir : Bytes} {p : Pr} {l : List Pr} (h : underB dir p.key.path = false) : skipU dir (p :: l) = skipU dir l := by
 unfold skipU
 rw [List.dropWhile_cons, if_pos (by rw [h]; rfl)]
theorem skipU_hit {dir : Bytes} {p : Pr} {l : List Pr} (h : underB dir p.key.path = true) : skipU dir (p :: l) = p :: l := by
 unfold skipU
 rw [List.dropWhile_cons, if_neg (by rw [h]; simp)]
set_option maxRecDepth 100000 in
set_option maxHeartbeats 8000000 in
theorem on_ok (t : Tr) (dir : Bytes) (hd : dir.length < 1000000) (l : List Pr) (hl : shortL l) : ACalls Tryz.prog 144 [.ptr 0 0] (curM t dir l) (fun e N => CurP t dir (skipU dir l) e N (.ret (.bool (decide (0 < ((skipU dir l).length : Int)))))) := by
 refine acalls_of tabOK Tryz.func144 rfl (by decide) (by simp [Tryz.f144]) ?_
 unfold curM curC Tr.av fnU
 repeat' (first | refine DW_A tabs rfl ?_ | refine DW_nil ?_ | refine W_A rfl ?_ | refine DW_nilc tabOK rfl ?_ | refine W_draw mixed [0, 4, 1, 2, 3, 5, 6, 7, 8, 9, 10] [.P, .R, .R, .R, .P, .R, .R, .R, .R, .R, .P] rfl rfl (by kernel_rfl) ?_)
 refine W_loop (fun k f N => ∃ m : List Pr, m.length = k ∧ skipU dir m = skipU dir l ∧ shortL m ∧ N = ⟨1, [(0, .cells [t.av, .fn (.func 167) [] [.ref [.str dir]], .sl 3 (m.map Pr.av) .none])]⟩ ∧ f = ⟨[(0, .ptr 0 0)], []⟩) (k := l.length) ⟨l, rfl, rfl, hl, rfl, rfl⟩ (Joint.le ?_ (Mem.le_refl _)) ?_
 ·skip
  repeat (refine AF.le_cons rfl ?_)
  exact AF.le_nil rfl
 rintro k f N ⟨m, rfl, hm, hsm, rfl, rfl⟩
 unfold Tr.av
 cases m with
 | nil =>
  have e : skipU dir l = [] := hm.symm
  rw [e]
  repeat' (first | refine DW_A tabs rfl ?_ | refine DW_nil ?_ | refine W_A rfl ?_ | refine DW_nilc tabOK rfl ?_ | refine W_draw mixed [0, 4, 1, 2, 3, 5, 6, 7, 8, 9, 10] [.P, .R, .R, .R, .P, .R, .R, .R, .R, .R, .P] rfl rfl (by kernel_rfl) ?_)
  exact ⟨rfl, _, rfl, rfl, rfl⟩
 | cons p r =>
  have la : (((p :: r).map Pr.av).length : Int) = ((r.length + 1 : Nat) : Int) := by simp
  have d1 : decide ((0 : Int) < ((r.length + 1 : Nat) : Int)) = true := decide_eq_true (by omega)
  have ku := under1_ok p dir (hsm p (by simp)) hd
  cases hu : underB dir p.key.path
  ·rw [hu] at ku
   repeat' (first | refine DW_VB tabs rfl d1 ?_ | refine DW_VI tabs rfl la ?_ | refine DW_A tabs rfl ?_ | refine DW_nil ?_ | refine W_A rfl ?_ | refine DW_C rfl ku ?_ | refine DW_ix tabOK rfl (⟨Int.le_refl 0, rfl⟩) ?_ | refine DW_nilc tabOK rfl ?_ | refine W_draw mixed [0, 4, 1, 2, 3, 5, 6, 7, 8, 9, 10] [.P, .R, .R, .R, .P, .R, .R, .R, .R, .R, .P] rfl rfl (by kernel_rfl) ?_)
   refine DW_from tabOK rfl rfl rfl rfl (lo := 1) (l := p :: r) rfl rfl rfl rfl rfl rfl (by simp) ?_
   repeat' (first | refine DW_A tabs rfl ?_ | refine DW_nil ?_ | refine W_A rfl ?_ | refine DW_nilc tabOK rfl ?_ | refine W_draw mixed [0, 4, 1, 2, 3, 5, 6, 7, 8, 9, 10] [.P, .R, .R, .R, .P, .R, .R, .R, .R, .R, .P] rfl rfl (by kernel_rfl) ?_)
   exact ⟨r.length, _, _, by simp, ⟨r, rfl, (skipU_cons hu).symm.trans hm, fun q hq => hsm q (by simp [hq]), rfl, rfl⟩, Joint.le (AF.le_cons rfl (AF.le_nil rfl)) (Mem.le_cons rfl (Mem.le_nil rfl))⟩
  ·rw [hu] at ku
   have e : skipU dir l = p :: r := hm.symm.trans (skipU_hit hu)
   rw [e, show decide (0 < (((p :: r).length : Nat) : Int)) = true from decide_eq_true (by simp)]
   repeat' (first | refine DW_VB tabs rfl d1 ?_ | refine DW_VI tabs rfl la ?_ | refine DW_A tabs rfl ?_ | refine DW_nil ?_ | refine W_A rfl ?_ | refine DW_C rfl ku ?_ | refine DW_ix tabOK rfl (⟨Int.le_refl 0, rfl⟩) ?_ | refine DW_nilc tabOK rfl ?_ | refine W_draw mixed [0, 4, 1, 2, 3, 5, 6, 7, 8, 9, 10] [.P, .R, .R, .R, .P, .R, .R, .R, .R, .R, .P] rfl rfl (by kernel_rfl) ?_)
   exact ⟨rfl, _, rfl, rfl, rfl⟩
theorem cur_frame {t : Tr} {dir : Bytes} {l l' : List Pr} {g : FuncId} {args args1 : List AV} {r : AV} {M : Mem} {R : AEnd → Mem → Prop} (id : Nat) (hM : M.get id = some (.cells (curC t dir l))) (hlt : id < M.next)
  (h : ACalls Tryz.prog g args1 (curM t dir l) fun e N => CurP t dir l' e N (.ret r)) (hr : Closed r) (hargs : InL [id] args args1) (hR : R (.ret r) (M.set id (.cells (curC t dir l')))) : ACalls Tryz.prog g args M R := by
 refine ACalls.frame1 (R1 := fun e d => e = .ret r ∧ d = curC t dir l') id hM hlt (closed_curC t dir l) (h.mono ?_) hargs ?_
 ·rintro e N ⟨h1, rfl⟩
  exact ⟨rfl, _, rfl, h1, rfl⟩
 ·rintro e d ⟨h1, rfl⟩
  subst h1
  exact ⟨hr, closed_curC t dir l', hR⟩
theorem cur_cut {t : Tr} {dir : Bytes} {l l' : List Pr} {g : FuncId} {args : List AV} {r : AV} (hr : Closed r) (h : ACalls Tryz.prog g args (curM t dir l) fun e N => e = .ret r ∧ 1 ≤ N.next ∧ N.get 0 = some (.cells (curC t dir l'))) :
  ACalls Tryz.prog g args (curM t dir l) fun e N => CurP t dir l' e N (.ret r) := by
 refine (ACalls.cutL (r := r) (l := [(0, .cells (curC t dir l'))]) (h.mono ?_)).mono ?_
 ·rintro e N ⟨h1, h2, h3⟩
  exact ⟨r, h1, SubC.of_closed hr, h2, objsC_closed (Nat.zero_lt_one) h3 (closed_curC t dir l') trivial⟩
 ·rintro e N ⟨rfl, rfl⟩
  exact ⟨rfl, rfl⟩
def zeroPr : Pr := ⟨⟨[], 0⟩, []⟩
def pb (x : Pr × Bool) : AV := .tup [x.1.av, .bool x.2]
theorem closed_pb (x : Pr × Bool) : Closed (pb x) := closed_tup (closed2 (closed_pr _) closed_bool)
def nextC (l : List Pr) : (Pr × Bool) × List Pr := match l with
 | [] => ((zeroPr, false), [])
 | p :: r => ((p, true), r)
set_option maxRecDepth 100000 in
set_option maxHeartbeats 8000000 in
theorem next_raw (t : Tr) (dir : Bytes) (hd : dir.length < 1000000) (l : List Pr) (hl : shortL l) : ACalls Tryz.prog 136 [.ptr 0 0] (curM t dir l) (fun e N => e = .ret (pb (nextC (skipU dir l)).1) ∧ 1 ≤ N.next ∧ N.get 0 = some (.cells (curC t dir (nextC (skipU dir l)).2))) := by
 refine acalls_of tabOK Tryz.func136 rfl (by decide) (by simp [Tryz.f136]) ?_
 have ko := on_ok t dir hd l hl
 repeat' (first | refine DW_A tabs rfl ?_ | refine DW_nil ?_ | refine W_A rfl ?_)
 refine DW_CM rfl rfl (cur_frame (R := fun e N => e = .ret (.bool (decide (0 < ((skipU dir l).length : Int)))) ∧ N = ⟨2, [(0, .cells (curC t dir (skipU dir l))), (1, .cells [.str [], .int .i64 0, .str []]), (0, .cells (curC t dir l))]⟩) 0 rfl (Nat.zero_lt_succ _) ko closed_bool ⟨InV.ptr rfl, trivial⟩ ⟨rfl, rfl⟩) ?_ (fun u M' h => by cases h.1)
 rintro u N ⟨e, rfl⟩
 cases e
 unfold curC Tr.av
 cases hs : skipU dir l with
 | nil =>
  repeat' (first | refine DW_A tabs rfl ?_ | refine DW_nil ?_ | refine W_A rfl ?_)
  exact ⟨rfl, _, rfl, rfl, Nat.le_add_left 1 _, rfl⟩
 | cons p r =>
  rw [show decide (0 < (((p :: r).length : Nat) : Int)) = true from decide_eq_true (by simp)]
  repeat' (first | refine DW_A tabs rfl ?_ | refine DW_nil ?_ | refine W_A rfl ?_ | refine DW_ix tabOK rfl (⟨Int.le_refl 0, rfl⟩) ?_)
  refine DW_from tabOK rfl rfl rfl rfl (lo := 1) (l := p :: r) rfl rfl rfl rfl rfl rfl (by simp) ?_
  repeat' (first | refine DW_A tabs rfl ?_ | refine DW_nil ?_ | refine W_A rfl ?_)
  exact ⟨rfl, _, rfl, rfl, Nat.le_add_left 1 _, rfl⟩
theorem next_ok (t : Tr) (dir : Bytes) (hd : dir.length < 1000000) (l : List Pr) (hl : shortL l) : ACalls Tryz.prog 136 [.ptr 0 0] (curM t dir l) fun e N => CurP t dir (nextC (skipU dir l)).2 e N (.ret (pb (nextC (skipU dir l)).1)) :=
 cur_cut (closed_pb _) (next_raw t dir hd l hl)
end Go.Proofs.YtmgkebghojhocaaGreatDoor
/- Ranges, and what is under a path: of the program, and of the document. No further condition. -/
set_option linter.unusedVariables false
set_option linter.unusedSimpArgs false
namespace Go.Proofs.YtmgkebghojhocaaGreatDoor
open Go.Ab
theorem closed_pcells (p : Pr) : ∀ c, c ∈ p.av.cells → Closed c := by
 intro c hc
 have : c ∈ [AV.str p.key.path, .int .i64 p.key.time, .str p.val] := hc
 exact closed3 closed_str closed_int closed_str c this
def nextP (dir : Bytes) (l : List Pr) : Pr := (nextC (skipU dir l)).1.1
def nextB (dir : Bytes) (l : List Pr) : Bool := (nextC (skipU dir l)).1.2
def nextR (dir : Bytes) (l : List Pr) : List Pr := (nextC (skipU dir l)).2
end Go.Proofs.YtmgkebghojhocaaGreatDoor
/- All versions of a store: all. No further condition. -/
set_option linter.unusedVariables false
set_option linter.unusedSimpArgs false
namespace Go.Proofs.YtmgkebghojhocaaGreatDoor
open Go.Ab
def vrs (l : List Pr) : List AV := l.map fun p => (verP p).av
def vrA (l : List Pr) (t : Tag) : AV := .sl 6 (vrs l) t
theorem vrs_cells (l : List Pr) : ∀ x, x ∈ vrs l → ∀ c, c ∈ x.cells → Closed c := by
 intro x hx
 obtain ⟨p, _, rfl⟩ := List.mem_map.1 hx
 exact closed_vrc _
theorem closed_vrs (l : List Pr) : Closed (vrA l .none) := closed_sl (.inl rfl) (fun x hx => by obtain ⟨p, _, rfl⟩ := List.mem_map.1 hx; exact closed_vr _) (vrs_cells l)
def valsB (l : List Pr) : Prop := ∀ p, p ∈ l → p.key.path.length < 1000000 ∧ p.val.length < 1000000
theorem valsB.short {l : List Pr} (h : valsB l) : shortL l := fun p hp => (h p hp).1
theorem okP_path {p : Pr} (h : okP p = true) : isPathB p.key.path = true := by
 unfold okP isKeyB at h
 simp at h
 exact h.1.2.1.1
theorem under_nil {s : Bytes} (h : isPathB s = true) : underB [] s = true := by
 unfold underB
 rw [h]
 rfl
theorem isPath_nil : isPathB [] = true := rfl
theorem isSt_take {l : List Pr} {i : Nat} {x : Pr} (hx : l[i]? = some x) (hi : isSt (l.take i) = true) (h : okP x = true) : isSt (l.take (i + 1)) = true := all_take hx hi h
def allN (t : Tr) (m : List Pr) (g : Nat) : Mem := ⟨3, [(0, .cells (curC t [] m)), (2, .spare g)]⟩
def allF (out : List Pr) (g : Nat) (p : Pr) (ok : Bool) : AF := ⟨[(8, .fn (.func 136) [.ptr 0 0] []), (7, vrA out (.tok 2 g)), (9, .ref p.av.cells), (10, .bool ok)], []⟩
def allL1 (t : Tr) (A : List Pr) (i : Nat) : AF := ⟨[(3, .ptr 0 0), (19, .sl 3 (A.map Pr.av) .none), (20, .int .i64 (A.length : Int)), (21, .int .i64 (i : Int))], []⟩
set_option maxRecDepth 100000 in
set_option maxHeartbeats 8000000 in
theorem allS_no (t : Tr) (hs : t.all.length < 10000000) (hv : valsB t.all) (h : isSt t.all = false) : AThr Tryz.prog 95 [t.av] (.pan (errA 1)) := by
 refine thr_sub (closed1 (closed_tr t)) (closed_err 1) ?_
 refine acalls_of tabOK Tryz.func95 rfl (by decide) (by simp [Tryz.f95]) ?_
 have kn := new_ok' t hs [] (by decide) isPath_nil
 have ka := tAll_ok t hs
 have k0 := must0_ok
 have lA := len_map Pr.av t.all
 unfold Tr.av at kn ka ⊢
 repeat' (first | refine DW_A tabs rfl ?_ | refine DW_nil ?_ | refine W_A rfl ?_ | refine DW_row tabOK rfl ?_ | refine DW_app tabOK rfl rfl (by simp; omega) (by simp; omega) ?_ | refine DW_app0 tabOK rfl (by simp; omega) (by simp; omega) ?_)
 refine DW_CM rfl rfl kn ?_ (fun u M' h => by cases h.1)
 rintro u N ⟨e, rfl⟩
 cases e
 repeat' (first | refine DW_VI tabs rfl lA ?_ | refine DW_A tabs rfl ?_ | refine DW_nil ?_ | refine W_A rfl ?_ | refine DW_C rfl k0 ?_ | refine DW_C rfl ka ?_ | refine DW_row tabOK rfl ?_ | refine DW_app tabOK rfl rfl (by simp; omega) (by simp; omega) ?_ | refine DW_app0 tabOK rfl (by simp; omega) (by simp; omega) ?_)
 generalize t.all = A at *
 refine W_count A.length (fun i f N => N = curM t [] A ∧ isSt (A.take i) = true ∧ f = allL1 t A i) (Nat.zero_le _) ⟨rfl, rfl, rfl⟩ (Joint.le ?_ (Mem.le_cons rfl (Mem.le_nil rfl))) ?_
 ·unfold allL1
  repeat (refine AF.le_cons rfl ?_)
  exact AF.le_nil rfl
 rintro i f N hi ⟨rfl, hinv, rfl⟩
 unfold allL1
 by_cases h1 : i < A.length
 ·have d1 : decide ((i : Int) < (A.length : Int)) = true := by simp; omega
  have hx : A[i]? = some A[i] := List.getElem?_eq_getElem h1
  have fi := wrap_succ (i := i) (by omega)
  have hb := hv _ (List.getElem_mem h1)
  generalize A[i] = x at hx hb
  cases ho : okP x
  ·have kr := read_no x hb.1 hb.2 ho
   repeat' (first | refine DW_VB tabs rfl d1 ?_ | refine DW_A tabs rfl ?_ | refine DW_nil ?_ | refine W_A rfl ?_ | refine DW_T rfl rfl (kr) ?_ | refine DW_ix tabOK rfl (ixN hx) ?_ | refine DW_row tabOK rfl ?_ | refine DW_app tabOK rfl rfl (by simp; omega) (by simp; omega) ?_ | refine DW_app0 tabOK rfl (by simp; omega) (by simp; omega) ?_)
   exact ⟨rfl, SubC.of_closed (closed_err 1)⟩
  ·have kr := read_yes x hb.1 hb.2 ho
   repeat' (first | refine DW_VB tabs rfl d1 ?_ | refine DW_VI tabs rfl fi ?_ | refine DW_A tabs rfl ?_ | refine DW_nil ?_ | refine W_A rfl ?_ | refine DW_C rfl kr ?_ | refine DW_ix tabOK rfl (ixN hx) ?_ | refine DW_row tabOK rfl ?_ | refine DW_app tabOK rfl rfl (by simp; omega) (by simp; omega) ?_ | refine DW_app0 tabOK rfl (by simp; omega) (by simp; omega) ?_)
   refine ⟨h1, _, _, ⟨rfl, isSt_take hx hinv ho, rfl⟩, Joint.cut (k := 1) (t := (allL1 t A (i + 1)).t) (l := (curM t [] A).objs) (by show 1 ≤ 1; omega) (by show 1 ≤ 2; omega) rfl ⟨?_, ?_, ?_, ?_, trivial⟩ (objsC_closed (by decide) rfl (closed_curC t [] A) trivial)⟩
   ·exact SubC.ptr rfl
   ·exact SubC.of_closed (closed_prs _)
   ·exact SubC.of_closed closed_int
   ·exact SubC.of_closed closed_int
 ·exfalso
  obtain rfl : i = A.length := by omega
  rw [List.take_length] at hinv
  rw [h] at hinv
  cases hinv
theorem vrs_one {a : List Pr} {p : Pr} {t : Tag} : AV.sl 6 (vrs a ++ [(verP p).av]) t = vrA (a ++ [p]) t := by simp [vrA, vrs]
set_option maxRecDepth 100000 in
set_option maxHeartbeats 8000000 in
theorem allS_yes (t : Tr) (hs : t.all.length < 10000000) (hv : valsB t.all) (h : isSt t.all = true) : APure Tryz.prog 95 [t.av] (vrA t.all .none) := by
 refine pure_sub (closed1 (closed_tr t)) (closed_vrs _) ?_
 refine acalls_of tabOK Tryz.func95 rfl (by decide) (by simp [Tryz.f95]) ?_
 have kn := new_ok' t hs [] (by decide) isPath_nil
 have kx := fun (l : List Pr) (h : shortL l) => next_ok t [] (by decide) l h
 have ka := tAll_ok t hs
 have k0 := must0_ok
 have lA := len_map Pr.av t.all
 unfold Tr.av at kn ka ⊢
 repeat' (first | refine DW_A tabs rfl ?_ | refine DW_nil ?_ | refine W_A rfl ?_ | refine DW_row tabOK rfl ?_ | refine DW_app tabOK rfl rfl (by simp; omega) (by simp; omega) ?_ | refine DW_app0 tabOK rfl (by simp; omega) (by simp; omega) ?_)
 refine DW_CM rfl rfl kn ?_ (fun u M' h => by cases h.1)
 rintro u N ⟨e, rfl⟩
 cases e
 repeat' (first | refine DW_VI tabs rfl lA ?_ | refine DW_A tabs rfl ?_ | refine DW_nil ?_ | refine W_A rfl ?_ | refine DW_C rfl k0 ?_ | refine DW_C rfl ka ?_ | refine DW_row tabOK rfl ?_ | refine DW_app tabOK rfl rfl (by simp; omega) (by simp; omega) ?_ | refine DW_app0 tabOK rfl (by simp; omega) (by simp; omega) ?_)
 have hok : ∀ p, p ∈ t.all → okP p = true := fun p hp => by
  unfold isSt at h
  rw [List.all_eq_true] at h
  exact h p hp
 generalize t.all = A at *
 refine W_count A.length (fun i f N => N = curM t [] A ∧ f = allL1 t A i) (Nat.zero_le _) ⟨rfl, rfl⟩ (Joint.le ?_ (Mem.le_cons rfl (Mem.le_nil rfl))) ?_
 ·unfold allL1
  repeat (refine AF.le_cons rfl ?_)
  exact AF.le_nil rfl
 rintro i f N hi ⟨rfl, rfl⟩
 unfold allL1
 by_cases h1 : i < A.length
 ·have d1 : decide ((i : Int) < (A.length : Int)) = true := by simp; omega
  have hx : A[i]? = some A[i] := List.getElem?_eq_getElem h1
  have fi := wrap_succ (i := i) (by omega)
  have hb := hv _ (List.getElem_mem h1)
  have ho := hok _ (List.getElem_mem h1)
  generalize A[i] = x at hx hb ho
  have kr := read_yes x hb.1 hb.2 ho
  repeat' (first | refine DW_VB tabs rfl d1 ?_ | refine DW_VI tabs rfl fi ?_ | refine DW_A tabs rfl ?_ | refine DW_nil ?_ | refine W_A rfl ?_ | refine DW_C rfl kr ?_ | refine DW_ix tabOK rfl (ixN hx) ?_ | refine DW_row tabOK rfl ?_ | refine DW_app tabOK rfl rfl (by simp; omega) (by simp; omega) ?_ | refine DW_app0 tabOK rfl (by simp; omega) (by simp; omega) ?_)
  refine ⟨h1, _, _, ⟨rfl, rfl⟩, Joint.cut (k := 1) (t := (allL1 t A (i + 1)).t) (l := (curM t [] A).objs) (by show 1 ≤ 1; omega) (by show 1 ≤ 2; omega) rfl ⟨?_, ?_, ?_, ?_, trivial⟩ (objsC_closed (by decide) rfl (closed_curC t [] A) trivial)⟩
  ·exact SubC.ptr rfl
  ·exact SubC.of_closed (closed_prs _)
  ·exact SubC.of_closed closed_int
  ·exact SubC.of_closed closed_int
 ·have d1 : decide ((i : Int) < (A.length : Int)) = false := by simp; omega
  obtain rfl : i = A.length := by omega
  repeat' (first | refine DW_VB tabs rfl d1 ?_ | refine DW_A tabs rfl ?_ | refine DW_nil ?_ | refine W_A rfl ?_ | refine DW_row tabOK rfl ?_ | refine DW_app tabOK rfl rfl (by simp; omega) (by simp; omega) ?_ | refine DW_app0 tabOK rfl (by simp; omega) (by simp; omega) ?_)
  refine DW_CM rfl rfl (cur_frame (R := fun e N => e = .ret (pb (nextP [] A, nextB [] A)) ∧ N = _) 0 rfl (Nat.zero_lt_succ _) (kx A hv.short) (closed_pb _) ⟨InV.ptr rfl, trivial⟩ ⟨rfl, rfl⟩) ?_ (fun u M' h => by cases h.1)
  rintro u N ⟨e, rfl⟩
  cases e
  unfold pb
  repeat' (first | refine DW_A tabs rfl ?_ | refine DW_nil ?_ | refine W_A rfl ?_ | refine DW_row tabOK rfl ?_ | refine DW_app tabOK rfl rfl (by simp; omega) (by simp; omega) ?_ | refine DW_app0 tabOK rfl (by simp; omega) (by simp; omega) ?_)
  refine W_loop (fun k f N => ∃ (g : Nat) (rest out : List Pr), rest.length = k ∧ (∀ p, p ∈ rest → p ∈ A) ∧ out ++ rest = A ∧ N = allN t (nextR [] rest) g ∧ f = allF out g (nextP [] rest) (nextB [] rest)) (k := A.length) ⟨0, A, [], rfl, fun _ hp => hp, rfl, rfl, rfl⟩
   ((Joint.freezeP 9 rfl rfl).trans ((Joint.tok 7 rfl (sz' := 6) (.inr rfl)).trans (Joint.le ?_ (Mem.le_cons rfl (Mem.le_cons rfl (Mem.le_nil rfl)))))) ?_
  ·unfold allF
   repeat (refine AF.le_cons rfl ?_)
   exact AF.le_nil rfl
  rintro k f N ⟨g, rest, out, rfl, hin, hinv, rfl, rfl⟩
  unfold allN allF
  unfold nextP nextB nextR
  cases rest with
  | nil =>
   rw [show skipU [] [] = [] from rfl]
   repeat' (first | refine DW_A tabs rfl ?_ | refine DW_nil ?_ | refine W_A rfl ?_ | refine DW_row tabOK rfl ?_ | refine DW_app tabOK rfl rfl (by simp; omega) (by simp; omega) ?_ | refine DW_app0 tabOK rfl (by simp; omega) (by simp; omega) ?_)
   have e : out = A := by simpa using hinv
   exact ⟨rfl, _, rfl, _, rfl, by rw [← e]; exact SubC.untag (closed_vrs out)⟩
  | cons p r =>
   have ho := hok p (hin p (by simp))
   have hb := hv p (hin p (by simp))
   rw [skipU_hit (under_nil (okP_path ho))]
   have hinr : ∀ q, q ∈ r → q ∈ A := fun q hq => hin q (by simp [hq])
   have kn2 := kx r (fun q hq => (hv q (hinr q hq)).1)
   have kr := read_yes p hb.1 hb.2 ho
   have lo : out.length < 10000000 := by have := congrArg List.length hinv; simp at this; omega
   have lv : (vrs out).length = out.length := by simp [vrs]
   unfold vrA
   repeat' (first | refine DW_A tabs rfl ?_ | refine DW_nil ?_ | refine W_A rfl ?_ | refine DW_C rfl kr ?_ | refine DW_row tabOK rfl ?_ | refine DW_app tabOK rfl rfl (by simp; omega) (by simp; omega) ?_ | refine DW_app0 tabOK rfl (by simp; omega) (by simp; omega) ?_)
   refine DW_CM rfl rfl (cur_frame (R := fun e N => e = .ret (pb (nextP [] r, nextB [] r)) ∧ N = _) 0 rfl (Nat.zero_lt_succ _) kn2 (closed_pb _) ⟨InV.ptr rfl, trivial⟩ ⟨rfl, rfl⟩) ?_ (fun u M' h => by cases h.1)
   rintro u N ⟨e, rfl⟩
   cases e
   unfold pb
   repeat' (first | refine DW_A tabs rfl ?_ | refine DW_nil ?_ | refine W_A rfl ?_ | refine DW_row tabOK rfl ?_ | refine DW_app tabOK rfl rfl (by simp; omega) (by simp; omega) ?_ | refine DW_app0 tabOK rfl (by simp; omega) (by simp; omega) ?_)
   refine ⟨r.length, allF (out ++ [p]) (g + 1) (nextP [] r) (nextB [] r), allN t (nextR [] r) (g + 1), by simp, ⟨g + 1, r, out ++ [p], rfl, hinr, by rw [List.append_assoc]; exact hinv, rfl, rfl⟩, ?_⟩
   refine (Joint.freezeP 9 rfl rfl).trans ?_
   refine Joint.cut (k := 3) (t := (allF (out ++ [p]) (g + 1) (nextP [] r) (nextB [] r)).t) (l := (allN t (nextR [] r) (g + 1)).objs) (by show 2 ≤ 3; omega) (by show 3 ≤ 4; omega) rfl ⟨?_, ?_, ?_, ?_, trivial⟩ ⟨by decide, ⟨rfl, ?_⟩, by decide, rfl, trivial⟩
   ·exact SubC.fn (by simp; exact SubC.ptr rfl) (by simp)
   ·show SubC 3 (.sl 6 (vrs out ++ [(verP p).av]) (.tok 2 (g + 1))) _
    rw [vrs_one]
    exact SubC.tok rfl (vrs_cells _)
   ·exact SubC.of_closed (closed_ref (closed_pcells _))
   ·exact SubC.of_closed closed_bool
   ·intro i x y hx hy
    have hx' : (curC t [] (nextR [] r))[i]? = some x := hx
    rw [hy] at hx'
    cases hx'
    exact SubC.of_closed (closed_curC t [] _ _ (List.mem_of_getElem? hy))
end Go.Proofs.YtmgkebghojhocaaGreatDoor
/- The store's Is, Last, open. No further condition. -/
set_option linter.unusedVariables false
set_option linter.unusedSimpArgs false
namespace Go.Proofs.YtmgkebghojhocaaGreatDoor
open Go.Ab
abbrev isQ (n : Int) : AEnd → Mem → Prop := fun e N => ∃ x, e = .ret x ∧ SubC (cm0 1 0).next x (.tup []) ∧ (cm0 1 0).next ≤ N.next ∧ ObjsC (cm0 1 0).next N (cm0 1 n).objs
set_option maxRecDepth 100000 in
set_option maxHeartbeats 8000000 in
theorem is1_raw (t : Tr) (hs : t.all.length < 10000000) (hv : valsB t.all) : ACalls Tryz.prog 93 [.ptr 0 0, .ref [t.av]] (cm0 1 0) (isQ (if isSt t.all = true then 0 else 1)) := by
 refine acalls_of_d tabOK Tryz.func93 rfl (by decide) (by simp [Tryz.f93]) ?_
 cases h : isSt t.all
 ·have ka := allS_no t hs hv h
  unfold Tr.av at ka ⊢
  unfold cm0
  repeat' (first | refine DW_A tabs rfl ?_ | refine DW_nil ?_ | refine W_A rfl ?_)
  refine W_region ?_
  refine WL_defer rfl rfl rfl rfl [] (by simp) ?_
  refine WL_nil ?_
  repeat' (first | refine DW_A tabs rfl ?_ | refine DW_nil ?_ | refine W_A rfl ?_ | refine DW_T rfl rfl (ka) ?_)
  refine ⟨rfl, _, rfl, ACallsD.le ?_ (ACallsD.mono (catch0 1 0 1) ?_)⟩
  ·exact Mem.le_cons rfl (Mem.le_nil rfl)
  ·rintro m' M' ⟨rfl, gn, g0⟩
   refine ⟨_, rfl, _, rfl, SubC.of_closed (closed_tup (by simp)), ?_, objsC_closed (by decide) g0 (closed1 closed_int) trivial⟩
   rw [gn]
   show 1 ≤ 1
   omega
 ·have ka := allS_yes t hs hv h
  unfold Tr.av at ka ⊢
  unfold cm0
  repeat' (first | refine DW_A tabs rfl ?_ | refine DW_nil ?_ | refine W_A rfl ?_)
  refine W_region ?_
  refine WL_defer rfl rfl rfl rfl [] (by simp) ?_
  refine WL_nil ?_
  repeat' (first | refine DW_A tabs rfl ?_ | refine DW_nil ?_ | refine W_A rfl ?_ | refine DW_C rfl ka ?_)
  refine ⟨rfl, _, rfl, ACallsD.le ?_ (ACallsD.mono (pass0 1 0) ?_)⟩
  ·exact Mem.le_cons rfl (Mem.le_nil rfl)
  ·rintro m' M' ⟨rfl, gn, g0⟩
   refine ⟨_, rfl, _, rfl, SubC.of_closed (closed_tup (by simp)), ?_, objsC_closed (by decide) g0 (closed1 closed_int) trivial⟩
   rw [gn]
   show 1 ≤ 1
   omega
theorem is1_ok (t : Tr) (hs : t.all.length < 10000000) (hv : valsB t.all) : ACalls Tryz.prog 93 [.ptr 0 0, .ref [t.av]] (cm0 1 0) fun e N => e = .ret (.tup []) ∧ N = cm0 1 (if isSt t.all = true then 0 else 1) :=
 ACalls.cutL (is1_raw t hs hv)
set_option maxRecDepth 100000 in
set_option maxHeartbeats 8000000 in
theorem isStore_ok (t : Tr) (hs : t.all.length < 10000000) (hv : valsB t.all) : APure Tryz.prog 35 [t.av] (.bool (isSt t.all)) := by
 refine pure_sub (closed1 (closed_tr t)) (closed_bool) ?_
 refine acalls_of tabOK Tryz.func35 rfl (by decide) (by simp [Tryz.f35]) ?_
 have k1 := is1_ok t hs hv
 unfold Tr.av at k1 ⊢
 repeat' (first | refine DW_A tabs rfl ?_ | refine DW_nil ?_ | refine W_A rfl ?_ | refine DW_CM rfl rfl (k1) ?_ ?_)
 ·rintro u N ⟨e, rfl⟩
  cases e
  unfold cm0
  cases isSt t.all
  ·repeat' (first | refine DW_A tabs rfl ?_ | refine DW_nil ?_ | refine W_A rfl ?_)
   exact ⟨rfl, _, rfl, _, rfl, SubC.of_closed closed_bool⟩
  ·repeat' (first | refine DW_A tabs rfl ?_ | refine DW_nil ?_ | refine W_A rfl ?_)
   exact ⟨rfl, _, rfl, _, rfl, SubC.of_closed closed_bool⟩
 ·intro u N h
  cases h.1
def maxAt (l : List Pr) : Int := l.foldl (fun n p => max n p.key.time) 0
def lastL (l : List Pr) : Int := if isSt l = true then maxAt l else 0
theorem maxAt_take {l : List Pr} {i : Nat} {x : Pr} (h : l.take (i + 1) = l.take i ++ [x]) : maxAt (l.take (i + 1)) = max (maxAt (l.take i)) x.key.time := by
 unfold maxAt
 rw [h, List.foldl_append]
 rfl
theorem max_is (a b : Int) : (if true = true then (if a < b then b else a) else if b < a then b else a) = max a b := by
 rw [if_pos rfl]
 split <;> omega
def lm (nx : Nat) (n e : Int) : Mem := ⟨nx, [(0, .cells [.int .i64 n]), (1, .cells [.int .i64 e])]⟩
set_option maxRecDepth 100000 in
theorem last1_ok (nx : Nat) (m : AMode) (n e : Int) : ACallsD Tryz.prog 96 [.ptr 1 0, .ptr 0 0] m (lm nx n e) (fun m' M' => m' = m ∧ M'.get 0 = some (.cells [.int .i64 (if e = 0 then n else 0)])) := by
 refine acallsD_plain tabOK Tryz.func96 rfl (by decide) (by simp [Tryz.f96]) ?_
 unfold lm
 by_cases h : e = 0
 ·have d1 : (!decide (e = 0)) = false := by simp [h]
  rw [if_pos h]
  repeat' (first | refine DW_VB tabs rfl d1 ?_ | refine DW_A tabs rfl ?_ | refine DW_nil ?_ | refine W_A rfl ?_)
  exact ⟨rfl, ⟨_, rfl⟩, rfl⟩
 ·have d1 : (!decide (e = 0)) = true := by simp [h]
  rw [if_neg h]
  repeat' (first | refine DW_VB tabs rfl d1 ?_ | refine DW_A tabs rfl ?_ | refine DW_nil ?_ | refine W_A rfl ?_)
  exact ⟨rfl, ⟨_, rfl⟩, rfl⟩
def lastD1 : ADef := { f := .func 96, cap := [.ptr 1 0, .ptr 0 0], args := [], keep := [(2, .ptr 0 0)] }
def lastD2 : ADef := { f := .func 94, cap := [], args := [.ptr 1 0], keep := [] }
abbrev lastR (n : Int) : AEnd → Mem → Prop := fun e _ => ∃ x, e = .ret x ∧ SubC 0 x (.int .i64 n)
theorem last_pan {M : Mem} {n k : Int} {t : List (Nat × AV)} (h : (lm M.next n 0).le M) (hk : k ≠ 0) (h2 : AF.get ⟨t, []⟩ 2 = .ptr 0 0) : ALeaves Tryz.prog tab Tryz.f36 ⟨t, []⟩ (lastR 0) [lastD2, lastD1] (.pan (errA k)) M := by
 refine ⟨rfl, _, rfl, ACallsD.le h (ACallsD.mono (catch1 M.next _ 0 k) ?_)⟩
 rintro m' M' ⟨rfl, gn, g0, g1⟩
 refine ⟨rfl, _, rfl, ACallsD.le (N := lm M'.next n k) (Mem.le_cons g0 (Mem.le_cons g1 (Mem.le_nil rfl))) (ACallsD.mono (last1_ok _ _ n k) ?_)⟩
 rintro m' M' ⟨rfl, g0⟩
 rw [if_neg hk] at g0
 refine ⟨.int .i64 0, ?_, _, rfl, SubC.of_closed closed_int⟩
 show resA tab M' ⟨t, []⟩ #[.cell 2 3] = _
 simp only [resA, ress, resOf, h2, aloadM, g0]
 rfl
theorem last_ret {M : Mem} {n : Int} {t : List (Nat × AV)} (h : (lm M.next n 0).le M) (h2 : AF.get ⟨t, []⟩ 2 = .ptr 0 0) : ALeaves Tryz.prog tab Tryz.f36 ⟨t, []⟩ (lastR n) [lastD2, lastD1] .ret M := by
 refine ⟨rfl, _, rfl, ACallsD.le h (ACallsD.mono (pass1 M.next _ 0) ?_)⟩
 rintro m' M' ⟨rfl, gn, g0, g1⟩
 refine ⟨rfl, _, rfl, ACallsD.le (N := lm M'.next n 0) (Mem.le_cons g0 (Mem.le_cons g1 (Mem.le_nil rfl))) (ACallsD.mono (last1_ok _ _ n 0) ?_)⟩
 rintro m' M' ⟨rfl, g0⟩
 rw [if_pos rfl] at g0
 refine ⟨.int .i64 n, ?_, _, rfl, SubC.of_closed closed_int⟩
 show resA tab M' ⟨t, []⟩ #[.cell 2 3] = _
 simp only [resA, ress, resOf, h2, aloadM, g0]
 rfl
theorem subs_ptr {k i o : Nat} (h : decide (i < k) = true) : ∀ x, x ∈ [AV.ptr i o] → SubC k x x := by
 intro x hx
 simp at hx
 subst hx
 exact SubC.ptr h
theorem lastDefs : DefsC 2 [lastD2, lastD1] := by
 have e : ∀ x, x ∈ ([] : List AV) → SubC 2 x x := fun x hx => by cases hx
 have e2 : ∀ p : Nat × AV, p ∈ ([] : List (Nat × AV)) → SubC 2 p.2 p.2 := fun x hx => by cases hx
 refine ⟨rfl, e, subs_ptr (k := 2) (i := 1) rfl, e2, rfl, ?_, e, ?_, trivial⟩
 ·intro x hx
  rcases List.mem_cons.1 hx with rfl | hx
  ·exact SubC.ptr rfl
  ·exact subs_ptr (k := 2) (i := 0) rfl x hx
 ·intro p hp
  rcases List.mem_cons.1 hp with rfl | hp
  ·exact SubC.ptr (k := 2) (id := 0) rfl
  ·cases hp
def lastF (A : List Pr) (i : Nat) : AF := ⟨[(2, .ptr 0 0), (8, vrA A .none), (9, .int .i64 (A.length : Int)), (10, .int .i64 (i : Int))], [lastD2, lastD1]⟩
set_option maxRecDepth 100000 in
set_option maxHeartbeats 8000000 in
theorem last_ok (t : Tr) (hs : t.all.length < 10000000) (hv : valsB t.all) : APure Tryz.prog 36 [t.av] (.int .i64 (lastL t.all)) := by
 refine pure_sub (closed1 (closed_tr t)) closed_int ?_
 refine acalls_of_d tabOK Tryz.func36 rfl (by decide) (by simp [Tryz.f36]) ?_
 unfold lastL
 cases h : isSt t.all
 ·have ka := allS_no t hs hv h
  unfold Tr.av at ka ⊢
  rw [if_neg (by simp)]
  repeat' (first | refine DW_A tabs rfl ?_ | refine DW_nil ?_ | refine W_A rfl ?_)
  refine W_region ?_
  refine WL_P rfl rfl opP_func ?_
  refine WL_defer rfl rfl rfl rfl [(2, .ptr 0 0)] (by intro p hp; simp at hp; subst hp; rfl) ?_
  refine WL_nil ?_
  repeat' (first | refine DW_A tabs rfl ?_ | refine DW_nil ?_ | refine W_A rfl ?_)
  refine W_region ?_
  refine WL_defer rfl rfl rfl rfl [] (by simp) ?_
  refine WL_nil ?_
  repeat' (first | refine DW_A tabs rfl ?_ | refine DW_nil ?_ | refine W_A rfl ?_ | refine DW_T rfl rfl (ka) ?_)
  exact last_pan (n := 0) (Mem.le_cons rfl (Mem.le_cons rfl (Mem.le_nil rfl))) (by decide) rfl
 ·have ka := allS_yes t hs hv h
  have lv : ((vrs t.all).length : Int) = (t.all.length : Int) := by simp [vrs]
  unfold Tr.av at ka ⊢
  rw [if_pos rfl]
  unfold vrA at ka
  repeat' (first | refine DW_A tabs rfl ?_ | refine DW_nil ?_ | refine W_A rfl ?_)
  refine W_region ?_
  refine WL_P rfl rfl opP_func ?_
  refine WL_defer rfl rfl rfl rfl [(2, .ptr 0 0)] (by intro p hp; simp at hp; subst hp; rfl) ?_
  refine WL_nil ?_
  repeat' (first | refine DW_A tabs rfl ?_ | refine DW_nil ?_ | refine W_A rfl ?_)
  refine W_region ?_
  refine WL_defer rfl rfl rfl rfl [] (by simp) ?_
  refine WL_nil ?_
  repeat' (first | refine DW_VI tabs rfl lv ?_ | refine DW_A tabs rfl ?_ | refine DW_nil ?_ | refine W_A rfl ?_ | refine DW_C rfl ka ?_)
  generalize t.all = A at *
  refine W_count A.length (fun i f N => N = lm 2 (maxAt (A.take i)) 0 ∧ f = lastF A i) (Nat.zero_le _) ⟨rfl, rfl⟩ (Joint.le ?_ (Mem.le_cons rfl (Mem.le_cons rfl (Mem.le_nil rfl)))) ?_
  ·unfold lastF
   repeat (refine AF.le_cons rfl ?_)
   exact AF.le_nil rfl
  rintro i f N hi ⟨rfl, rfl⟩
  by_cases h1 : i < A.length
  ·have d1 : decide ((i : Int) < (A.length : Int)) = true := by simp; omega
   have hx : A[i]? = some A[i] := List.getElem?_eq_getElem h1
   have fi := wrap_succ (i := i) (by omega)
   have ht := take_succ hx
   generalize A[i] = x at hx ht
   have hx' : (vrs A)[i]? = some (verP x).av := by unfold vrs; rw [List.getElem?_map, hx]; rfl
   have mx := max_is (maxAt (A.take i)) x.key.time
   rw [← maxAt_take ht] at mx
   unfold lastF lm vrA
   repeat' (first | refine DW_VB tabs rfl d1 ?_ | refine DW_VI tabs rfl (by first | exact fi | exact mx) ?_ | refine DW_A tabs rfl ?_ | refine DW_nil ?_ | refine W_A rfl ?_ | refine DW_ix tabOK rfl (⟨Int.natCast_nonneg _, hx'⟩) ?_)
   refine ⟨h1, lastF A (i + 1), lm 2 (maxAt (A.take (i + 1))) 0, ⟨rfl, rfl⟩, Joint.cutD (k := 2) (t := (lastF A (i + 1)).t) (l := (lm 2 (maxAt (A.take (i + 1))) 0).objs) (by show 2 ≤ 2; omega) (by show 2 ≤ 3; omega) lastDefs ⟨?_, ?_, ?_, ?_, trivial⟩ (objsC_closed (by decide) rfl (closed1 closed_int) (objsC_closed (by decide) rfl (closed1 closed_int) trivial))⟩
   ·exact SubC.ptr rfl
   ·exact SubC.of_closed (closed_vrs A)
   ·exact SubC.of_closed closed_int
   ·exact SubC.of_closed closed_int
  ·have d1 : decide ((i : Int) < (A.length : Int)) = false := by simp; omega
   obtain rfl : i = A.length := by omega
   rw [List.take_length]
   unfold lastF lm
   repeat' (first | refine DW_VB tabs rfl d1 ?_ | refine DW_A tabs rfl ?_ | refine DW_nil ?_ | refine W_A rfl ?_)
   exact last_ret (Mem.le_cons rfl (Mem.le_cons rfl (Mem.le_nil rfl))) rfl
end Go.Proofs.YtmgkebghojhocaaGreatDoor
/- The store's open and at. No further condition. -/
set_option linter.unusedVariables false
set_option linter.unusedSimpArgs false
namespace Go.Proofs.YtmgkebghojhocaaGreatDoor
open Go.Ab
structure En where
 path : Bytes
 time : Int
 meta_ : Mt
deriving DecidableEq
def En.cells (x : En) : List AV := [.str x.path, .int .i64 x.time, .int .i64 x.meta_.size, .int .i64 x.meta_.mode, iA x.meta_.ch .none]
def En.av (x : En) : AV := .agg x.cells
def atP (p : Bytes) (x : Pr) : Option En := if x.key.path = p ∧ (readM x.val).2.1 = false then some ⟨p, x.key.time, (readM x.val).1⟩ else none
def atL (l : List Pr) (p : Bytes) (w : Int) : Option En := ((fromP l ⟨p, min w 1000000000⟩).head?).bind (atP p)
end Go.Proofs.YtmgkebghojhocaaGreatDoor
/- The store's AsOf. No further condition. -/
set_option linter.unusedVariables false
set_option linter.unusedSimpArgs false
namespace Go.Proofs.YtmgkebghojhocaaGreatDoor
open Go.Ab
end Go.Proofs.YtmgkebghojhocaaGreatDoor
