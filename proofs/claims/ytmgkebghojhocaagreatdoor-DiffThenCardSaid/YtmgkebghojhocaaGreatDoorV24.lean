/- Parts of the proof, one behind the other: StoQ, ShoA, AbG9, TreeJ, TreeK. No further condition. -/
import Derived.Test.YtmgkebghojhocaaGreatDoorV23
import Derived.Test.YtmgkebghojhocaaGreatDoorV11
import Derived.Test.YtmgkebghojhocaaGreatDoorV19
import Derived.Test.YtmgkebghojhocaaGreatDoorV07
import Derived.Test.YtmgkebghojhocaaGreatDoorV09
set_option linter.unusedVariables false
set_option linter.unusedSimpArgs false
/- Stores of batches: what was laid last is told. No further condition. -/
set_option linter.unusedVariables false
set_option linter.unusedSimpArgs false
namespace Go.Proofs.YtmgkebghojhocaaGreatDoor
open Go.Ab

def lastAt (l : List Ld) : Int := l.foldl (fun _ x => x.at_) 0
theorem lastAt_snoc (l : List Ld) (x : Ld) : lastAt (l ++ [x]) = x.at_ := by simp [lastAt]
def hitL (x : Ld) (p : Bytes) (w : Int) : Option (Ch × Int) := if x.at_ ≤ w then (x.batch.find? fun c => c.path == p).map fun c => (c, x.at_) else none
def lastT (l : List Ld) (p : Bytes) (w : Int) : Option (Ch × Int) := l.foldl (fun r x => (hitL x p w).or r) none
theorem lastT_snoc (l : List Ld) (x : Ld) (p : Bytes) (w : Int) : lastT (l ++ [x]) p w = (hitL x p w).or (lastT l p w) := by simp [lastT]
def entT (p : Bytes) (r : Option (Ch × Int)) : Option En := r.bind fun y => if y.1.gone = true then none else some ⟨p, y.2, y.1.meta_⟩
structure LaidInv (t : Tr) (took : List Ld) : Prop where
 st : isSt t.all = true
 last : lastL t.all = lastAt took
 rises : ∀ (i : Nat) x, took[i]? = some x → lastAt (took.take i) < x.at_
 told : ∀ p w, atL t.all p w = entT p (lastT took p w)
theorem lay_inv {t : Tr} {took : List Ld} {x : Ld} (h : LaidInv t took) (hl : layB t.all x.at_ x.batch = true) (hn : t.all.length + x.batch.length < 10000000) : LaidInv (layT t x.at_ x.batch) (took ++ [x]) := by
 have hL := layB_parts hl
 have he := layT_all (t := t) (at_ := x.at_) (c := x.batch) hn
 have hr' := (layT t x.at_ x.batch).rise
 change Rise (layT t x.at_ x.batch).all at hr'
 rw [he] at hr'
 refine ⟨by rw [he]; exact lays_st hL, by rw [he, lastAt_snoc]; exact lays_last hL, ?_, ?_⟩
 ·intro i y hy
  by_cases hi : i < took.length
  ·rw [List.getElem?_append_left hi] at hy
   rw [List.take_append_of_le_length (by omega)]
   exact h.rises i y hy
  ·have hi2 : i = took.length := by
    have := (List.getElem?_eq_some_iff.1 hy).1
    simp at this
    omega
   subst hi2
   simp at hy
   subst hy
   rw [List.take_left]
   have := hL.last
   rw [h.last] at this
   exact this
 ·intro p w
  rw [he, lastT_snoc]
  by_cases hw : x.at_ ≤ w
  ·cases hf : x.batch.find? fun c => c.path == p with
   | none =>
    have : hitL x p w = none := by unfold hitL; rw [if_pos hw, hf]; rfl
    rw [this, lays_old hL t.rise hr' (.inr fun c hc e => ?_), h.told]
    ·rfl
    ·rw [List.find?_eq_none] at hf
     have := hf c hc
     simp [e] at this
   | some c =>
    have hh : hitL x p w = some (c, x.at_) := by unfold hitL; rw [if_pos hw, hf]; rfl
    have hc := List.mem_of_find?_eq_some hf
    have hp : c.path = p := by have := List.find?_some hf; simpa using this
    subst hp
    rw [hh, lays_newest hL hr' hc hw]
    rfl
  ·have : hitL x p w = none := by unfold hitL; rw [if_neg hw]
   rw [this, lays_old hL t.rise hr' (.inl (by omega)), h.told]
   rfl
theorem inv_nil : LaidInv nilT [] := ⟨rfl, rfl, fun i x h => by simp at h, fun p w => by
 rcases at_cases (l := nilT.all) List.Pairwise.nil (fun y hy => by cases hy) p w with ⟨y, hy, _⟩ | ⟨_, e⟩
 ·cases hy.mem
 ·rw [e]
  rfl⟩
theorem laid_inv {l : List Ld} (hs : smallL l) : ∀ i, i ≤ l.length → i ≤ 20 → LaidInv (laidS (l.take i)).1 (laidS (l.take i)).2
 | 0, _, _ => inv_nil
 | i + 1, h, h20 => by
  have ih := laid_inv hs i (by omega) (by omega)
  obtain ⟨h1, _, _⟩ := laidS_ok hs i (by omega) (by omega)
  have hx : l[i]? = some l[i] := List.getElem?_eq_getElem (by omega)
  have hm := hs _ (List.getElem_mem (show i < l.length by omega))
  rw [laidS_step (take_succ hx)]
  split
  ·rename_i hb
   exact lay_inv ih hb (by have := h1.1; have := hm.1; omega)
  ·exact ih
theorem laid_all_inv {l : List Ld} (hs : smallL l) (hl : l.length ≤ 20) : LaidInv (laidS l).1 (laidS l).2 ∧ okS (laidS l).1 500 ∧ (laidS l).2.length ≤ 20 ∧ ∀ x, x ∈ (laidS l).2 → x ∈ l := by
 have h1 := laid_inv hs l.length (Nat.le_refl _) hl
 obtain ⟨h2, h3, h4⟩ := laidS_ok hs l.length (Nat.le_refl _) hl
 rw [List.take_length] at h1 h2 h3 h4
 exact ⟨h1, ⟨by have := h2.1; omega, h2.2⟩, by omega, h4⟩
theorem openE_st {l : List Pr} (h : isSt l = true) (p : Bytes) (w : Int) : openE l p w = if isPathB p = false then 20 else if w < 0 then 1 else 0 := by
 unfold openE
 rw [if_neg (by simp [h])]
end Go.Proofs.YtmgkebghojhocaaGreatDoor

/- What a store tells has few chunks; lists of stores that tell the same are the same. No further condition. -/
set_option linter.unusedVariables false
set_option linter.unusedSimpArgs false
namespace Go.Proofs.YtmgkebghojhocaaGreatDoor
open Go.Ab

theorem getM_ch (s : Bytes) : (getM s).1.ch.length ≤ 16 := by
 unfold getM
 cases nums s with
 | none => exact Nat.zero_le _
 | some l =>
  match l with
  | [] => exact Nat.zero_le _
  | [_] => exact Nat.zero_le _
  | [_, _] => exact Nat.zero_le _
  | a :: b :: c :: m =>
   show (mtOf a b c m).1.ch.length ≤ 16
   unfold mtOf
   split
   ·rename_i h
    have h2 := h.2
    unfold isM at h2
    simp at h2
    simp
    exact h2.2.2
   ·exact Nat.zero_le _
theorem readM_ch (v : Bytes) : (readM v).1.ch.length ≤ 16 := by
 cases v with
 | nil => exact Nat.zero_le _
 | cons c r =>
  show (if c = 0 ∧ r = [] then (zeroMt, true, (0 : Int)) else if c = 1 then ((getM r).1, false, (getM r).2) else (zeroMt, false, 30)).1.ch.length ≤ 16
  split
  ·exact Nat.zero_le _
  ·split
   ·exact getM_ch r
   ·exact Nat.zero_le _
theorem pathsU_len : ∀ (n : Nat) (dir : Bytes) (m : List Pr), m.length ≤ n → (pathsU dir m).length ≤ m.length
 | n, dir, m, hn => by
  have hlen := (skipU_sub dir m).length_le
  cases hs : skipU dir m with
  | nil => rw [pathsU_nil hs]; exact Nat.zero_le _
  | cons x r =>
   rw [hs] at hlen
   have hlt := sameP_lt x r
   rw [pathsU_cons hs]
   match n, hn with
   | 0, hn => simp at hlen; omega
   | n + 1, hn =>
    simp at hlen
    have := pathsU_len n dir (sameP x.key.path (x :: r)) (by omega)
    simp
    omega
theorem list_len (l : List Pr) (dir : Bytes) (w : Int) : (listL l dir w).length ≤ l.length :=
 Nat.le_trans (List.length_filterMap_le _ _) (pathsU_len _ dir l (Nat.le_refl _))
theorem list_short {l : List Pr} (hr : Rise l) (ht : okT l) {dir : Bytes} {w : Int} : ∀ e, e ∈ listL l dir w → shortE e := fun e he => by
 obtain ⟨_, _, x, _, _, _, hm⟩ := at_is hr ht ((list_mem hr ht dir w e).1 he).2
 unfold shortE
 rw [hm]
 have := readM_ch x.val
 omega
theorem listO_short {l : List Pr} (hr : Rise l) (h : isSt l = true) (dir : Bytes) (w : Int) : (listO l dir w).1.length ≤ l.length ∧ ∀ e, e ∈ (listO l dir w).1 → shortE e := by
 unfold listO
 split
 ·exact ⟨list_len l dir w, list_short hr (isSt_okT h)⟩
 ·exact ⟨Nat.zero_le _, fun e he => by cases he⟩
theorem listO_congr {l m : List Pr} (hr : Rise l) (h : isSt l = true) (hr' : Rise m) (h' : isSt m = true) {w : Int} (hh : ∀ p, atL l p w = atL m p w) (dir : Bytes) : listO l dir w = listO m dir w := by
 unfold listO
 rw [openE_st h, openE_st h', list_congr hr (isSt_okT h) hr' (isSt_okT h') hh]

end Go.Proofs.YtmgkebghojhocaaGreatDoor

/- Own slices of wider elements, frozen. -/
set_option linter.unusedVariables false
set_option linter.unusedSimpArgs false
namespace Go.Ab
open Go.RowKit

/-- An own slice whose object nobody writes to any more: elements of sz cells. -/
theorem Joint.freezeS {n0 : Nat} {t : List (Nat × AV)} {ds : List ADef} {M : Mem} (i : Nat) {id n cap sz : Nat} {l xs : List AV} (h : AF.get ⟨t, ds⟩ i = .osl id 0 n cap sz) (hM : M.get id = some (.cells l)) (hx : l.take (n * sz) = flat xs) (hn : xs.length = n) (hnl : n * sz ≤ l.length) (hnc : n ≤ cap) (hs : ∀ x, x ∈ xs → x.cells.length = sz) :
  Joint n0 ⟨t, ds⟩ M ⟨(i, .sl sz xs .none) :: t, ds⟩ (M.drop id) := by
 intro μ0 μ F w0 w m a hnn he hg hr
 obtain ⟨b, c, ty, o1, o2, o3, o4, o5⟩ := hg.obj id l hM
 have hid : id < M.next := (hg.dom id).1 (by rw [o1]; simp)
 obtain ⟨μ2, k1, k2, k3, k4⟩ := gam_kill hg hid
 have hv := hr.tmps i
 rw [h] at hv
 obtain ⟨b', hb', hv'⟩ := gam_osl hg hM hv
 rw [o1] at hb'
 cases hb'
 refine ⟨μ2, he.trans k3, k4 _ rfl (fun j => Mem.get_drop M id j), hr.size, ?_, hr.defs.evo k3, fun p hp => (hr.kept p hp).evo k3⟩
 intro j
 by_cases e : j = i
 ·subst e
  have : AF.get ⟨(j, .sl sz xs .none) :: t, ds⟩ j = .sl sz xs .none := by simp [AF.get, lookup]
  rw [this, hv', ← hn]
  have key : ∀ (p : Nat) (y : AV), (flat xs)[p]? = some y → l[p]? = some y ∧ p < l.length := by
   intro p y hp
   have hlt := (List.getElem?_eq_some_iff.1 hp).1
   rw [flat_length hs, hn] at hlt
   rw [← hx, List.getElem?_take, if_pos hlt] at hp
   exact ⟨hp, by omega⟩
  have hcell : ∀ p, p < l.length → c[p]? = some (c.getD p undef) := by
   intro p hp
   have : p < c.size := by omega
   simp [Array.getD, this]
  refine rep_sl (b := b) (o := 0) (vals := fun p => c.getD p undef) hs (by omega) (fun _ => rfl) ?_ trivial
  intro p y hp
  obtain ⟨h2, h3⟩ := key p y hp
  refine ⟨o4 p _ (hcell p h3), ?_, ⟨hg.frm b _ ⟨id, .inl o1⟩, ?_⟩, (o5 p _ _ h2 (hcell p h3)).evo k3⟩
  ·rw [Nat.zero_add, cell_mk o2]
   exact hcell p h3
  ·intro ho
   obtain ⟨i', hi', h4 | ⟨e', g', h4, _⟩⟩ := k2 b _ ho
   ·exact hi' (hg.inj i' id b (.inl h4) (.inl o1))
   ·exact hi' (hg.inj i' id b (.inr ⟨e', g', h4⟩) (.inl o1))
 ·have : AF.get ⟨(i, .sl sz xs .none) :: t, ds⟩ j = AF.get ⟨t, ds⟩ j := by simp [AF.get, lookup, e]
  rw [this]
  exact (hr.tmps j).evo k3
end Go.Ab

/- Rows of pairs grow, and are laid one behind the other (leaves). No further condition. -/
set_option linter.unusedVariables false
set_option linter.unusedSimpArgs false
namespace Go.Proofs.YtmgkebghojhocaaGreatDoor
open Go.Ab

def fl (l : List Pr) : List AV := flat (l.map Pr.av)
theorem prs_three (l : List Pr) : ∀ x, x ∈ l.map Pr.av → x.cells.length = 3 := by
 intro x hx
 obtain ⟨a, _, rfl⟩ := List.mem_map.1 hx
 rfl
theorem fl_len (l : List Pr) : (fl l).length = l.length * 3 := by
 unfold fl
 rw [flat_length (prs_three l)]
 simp
theorem fl_app (a b : List Pr) : fl (a ++ b) = fl a ++ fl b := by simp [fl, flat]
theorem fl_closed (l : List Pr) : ∀ x, x ∈ fl l → Closed x := by
 intro x hx
 unfold fl flat at hx
 obtain ⟨y, hy, hx⟩ := List.mem_flatMap.1 hx
 obtain ⟨a, _, rfl⟩ := List.mem_map.1 hy
 have : x ∈ [AV.str a.key.path, .int .i64 a.key.time, .str a.val] := hx
 exact closed3 closed_str closed_int closed_str x this
theorem flatRL_le (rows : List (List Pr × Bool)) (i : Nat) : (flatR (rows.take i)).length ≤ (flatR rows).length := by
 unfold flatR
 have : rows = rows.take i ++ rows.drop i := (List.take_append_drop i rows).symm
 conv => rhs; rw [this]
 rw [List.map_append, List.flatten_append, List.length_append]
 omega
def catFL (rows : List (List Pr × Bool)) (b : Bool) (i : Nat) (x : AV) : List (Nat × AV) := [(6, x), (25, .sl 1 (rows.map rowA) (tgB b)), (26, .int .i64 (rows.length : Int)), (27, .int .i64 (i : Int))]
theorem catL_K {k id : Nat} {rows : List (List Pr × Bool)} {b : Bool} {i : Nat} {x : AV} {f : AF} (h6 : SubK k id (f.get 6) x) (h25 : f.get 25 = .sl 1 (rows.map rowA) (tgB b)) (h26 : f.get 26 = .int .i64 (rows.length : Int)) (h27 : f.get 27 = .int .i64 (i : Int)) : SubsK k id f (catFL rows b i x) := by
 refine ⟨h6, ?_, ?_, ?_, trivial⟩
 ·rw [h25]; exact SubK.of_closed (closed_rows rows b)
 ·rw [h26]; exact SubK.of_closed closed_int
 ·rw [h27]; exact SubK.of_closed closed_int
theorem catL_next {A B : List Pr} {cap' : Nat} {cells l' : List AV} (hc : cells.take (A.length * 3) = fl A) (g1 : A.length + (B.map Pr.av).length ≤ cap') (g2 : l'.length = cap' * 3)
  (g3 : l'.take ((A.length + (B.map Pr.av).length) * 3) = cells.take (A.length * 3) ++ flat (B.map Pr.av)) :
  l'.take (fl (A ++ B)).length = fl (A ++ B) ∧ l'.length = cap' * 3 ∧ (fl (A ++ B)).length ≤ cap' * 3 := by
 rw [List.length_map] at g1 g3
 rw [hc] at g3
 refine ⟨?_, g2, ?_⟩
 ·rw [fl_len, List.length_append, fl_app]
  exact g3
 ·rw [fl_len, List.length_append]
  omega
set_option maxRecDepth 100000 in
theorem growL_ok (n : Nat) (h0 : 0 < n) (h1 : n < 1000000) (M : Mem) : ACalls Tryz.prog 258 [.sl 0 [] .full, .int .i64 (n : Int)] M (fun e M' => ∃ (cap : Nat) (l' : List AV), n ≤ cap ∧ l'.length = cap * 3 ∧ e = .ret (.osl M.next 0 0 cap 3) ∧ M' = M.push (.cells l')) := by
 refine acalls_of tabOK Tryz.func258 rfl (by decide) (by simp [Tryz.f258]) ?_
 have d1 : decide ((n : Int) < 0) = false := by simp
 have w0 : IntKind.wrap .i64 ((n : Int) - 0) = (n : Int) := (Go.Ab.wrap_small (by omega) (by omega)).trans (by omega)
 have d2 : decide ((0 : Int) < (n : Int)) = true := by simp; omega
 repeat' (first | refine DW_VB tabs rfl d1 ?_ | refine DW_A tabs rfl ?_ | refine DW_nil ?_ | refine W_A rfl ?_ | refine DW_app tabOK rfl rfl (by simp; omega) (by simp; omega) ?_ | refine DW_app0 tabOK rfl (by simp; omega) (by simp; omega) ?_)
 refine DW_cap tabOK rfl rfl rfl rfl rfl rfl rfl ?_
 repeat' (first | refine DW_VB tabs rfl d2 ?_ | refine DW_VI tabs rfl w0 ?_ | refine DW_A tabs rfl ?_ | refine DW_nil ?_ | refine W_A rfl ?_ | refine DW_app tabOK rfl rfl (by simp; omega) (by simp; omega) ?_ | refine DW_app0 tabOK rfl (by simp; omega) (by simp; omega) ?_)
 refine DW_cap tabOK rfl rfl rfl rfl rfl rfl rfl ?_
 repeat' (first | refine DW_A tabs rfl ?_ | refine DW_nil ?_ | refine W_A rfl ?_ | refine DW_app tabOK rfl rfl (by simp; omega) (by simp; omega) ?_ | refine DW_app0 tabOK rfl (by simp; omega) (by simp; omega) ?_)
 refine DW_slice00 tabOK rfl rfl rfl rfl rfl rfl rfl rfl rfl ?_
 repeat' (first | refine DW_A tabs rfl ?_ | refine DW_nil ?_ | refine W_A rfl ?_ | refine DW_app tabOK rfl rfl (by simp; omega) (by simp; omega) ?_ | refine DW_app0 tabOK rfl (by simp; omega) (by simp; omega) ?_)
 refine DW_zapp tabOK rfl rfl rfl rfl rfl (n := n) rfl rfl rfl rfl rfl rfl rfl rfl h0 (by simp; omega) (by omega) ?_
 intro cap' l' g1 g2
 repeat' (first | refine DW_A tabs rfl ?_ | refine DW_nil ?_ | refine W_A rfl ?_ | refine DW_app tabOK rfl rfl (by simp; omega) (by simp; omega) ?_ | refine DW_app0 tabOK rfl (by simp; omega) (by simp; omega) ?_)
 refine DW_oslice tabOK rfl rfl rfl rfl rfl (l := l') rfl (by rw [Mem.get_push, if_pos rfl]) rfl rfl rfl rfl (by omega) (by simp) g1 ?_
 repeat' (first | refine DW_A tabs rfl ?_ | refine DW_nil ?_ | refine W_A rfl ?_ | refine DW_app tabOK rfl rfl (by simp; omega) (by simp; omega) ?_ | refine DW_app0 tabOK rfl (by simp; omega) (by simp; omega) ?_)
 exact ⟨rfl, _, rfl, cap', l', g1, g2, rfl, rfl⟩

set_option maxRecDepth 100000 in
theorem concatL_ok (rows : List (List Pr × Bool)) (b : Bool) (hr : rows.length < 1000) (h0 : 0 < (flatR rows).length) (h1 : (flatR rows).length < 100000) : APure Tryz.prog 256 [.sl 1 (rows.map rowA) (tgB b)] (.sl 3 ((flatR rows).map Pr.av) .none) := by
 refine pure_sub (closed1 (closed_rows rows b)) (closed_prs _) ?_
 refine acalls_of tabOK Tryz.func256 rfl (by decide) (by simp [Tryz.f256]) ?_
 have la : ((rows.map rowA).length : Int) = (rows.length : Int) := by simp
 repeat' (first | refine DW_VI tabs rfl la ?_ | refine DW_A tabs rfl ?_ | refine DW_nil ?_ | refine W_A rfl ?_ | refine DW_app tabOK rfl rfl (by simp; omega) (by simp; omega) ?_ | refine DW_app0 tabOK rfl (by simp; omega) (by simp; omega) ?_)
 refine W_count rows.length (fun i f N => N = ⟨0, []⟩ ∧ f = ⟨[(0, .sl 1 (rows.map rowA) (tgB b)), (3, .int .i64 ((flatR (rows.take i)).length : Int)), (9, .sl 1 (rows.map rowA) (tgB b)), (10, .int .i64 (rows.length : Int)), (11, .int .i64 (i : Int))], []⟩) (Nat.zero_le _) ⟨rfl, rfl⟩ (Joint.le ?_ (Mem.le_refl _)) ?_
 ·skip
  repeat (refine AF.le_cons rfl ?_)
  exact AF.le_nil rfl
 ·rintro i f N hi ⟨rfl, rfl⟩
  by_cases hi1 : i < rows.length
  ·have d1 : decide ((i : Int) < (rows.length : Int)) = true := by simp; omega
   have hx : rows[i]? = some rows[i] := List.getElem?_eq_getElem hi1
   have fi := wrap_succ (i := i) (by omega)
   have hs := flatR_succ hx
   have hle := flatRL_le rows (i + 1)
   generalize rows[i] = r at hx hs
   rw [hs, List.length_append] at hle
   have lr : ((r.1.map Pr.av).length : Int) = (r.1.length : Int) := by simp
   have w1 : IntKind.wrap .i64 (((flatR (rows.take i)).length : Int) + (r.1.length : Int)) = ((flatR (rows.take (i + 1))).length : Int) := by
    rw [hs, List.length_append]
    exact (Go.Ab.wrap_small (by omega) (by omega)).trans (by omega)
   have d2 : decide (((flatR (rows.take (i + 1))).length : Int) < 0) = false := by simp
   repeat' (first | refine DW_VB tabs rfl d1 ?_ | refine DW_VI tabs rfl (by first | exact fi | exact la) ?_ | refine DW_A tabs rfl ?_ | refine DW_nil ?_ | refine W_A rfl ?_ | refine DW_app tabOK rfl rfl (by simp; omega) (by simp; omega) ?_ | refine DW_app0 tabOK rfl (by simp; omega) (by simp; omega) ?_)
   refine DW_ix tabOK rfl (ixN hx) ?_
   repeat' (first | refine DW_VB tabs rfl d2 ?_ | refine DW_VI tabs rfl (by first | exact fi | exact la | exact lr | exact w1) ?_ | refine DW_A tabs rfl ?_ | refine DW_nil ?_ | refine W_A rfl ?_ | refine DW_app tabOK rfl rfl (by simp; omega) (by simp; omega) ?_ | refine DW_app0 tabOK rfl (by simp; omega) (by simp; omega) ?_)
   refine ⟨hi1, _, _, ⟨rfl, rfl⟩, Joint.le ?_ (Mem.le_refl _)⟩
   repeat (refine AF.le_cons rfl ?_)
   exact AF.le_nil rfl
  ·have d1 : decide ((i : Int) < (rows.length : Int)) = false := by simp; omega
   obtain rfl : i = rows.length := by omega
   rw [List.take_length]
   repeat' (first | refine DW_VB tabs rfl d1 ?_ | refine DW_A tabs rfl ?_ | refine DW_nil ?_ | refine W_A rfl ?_ | refine DW_app tabOK rfl rfl (by simp; omega) (by simp; omega) ?_ | refine DW_app0 tabOK rfl (by simp; omega) (by simp; omega) ?_)
   refine DW_call rfl rfl rfl rfl rfl rfl (growL_ok (flatR rows).length h0 (by omega) ⟨0, []⟩) ?_ (fun u M' ⟨_, _, _, _, e, _⟩ => by cases e)
   rintro u M' ⟨cap, l', g1, g2, g3, rfl⟩
   cases g3
   repeat' (first | refine DW_VI tabs rfl la ?_ | refine DW_A tabs rfl ?_ | refine DW_nil ?_ | refine W_A rfl ?_ | refine DW_app tabOK rfl rfl (by simp; omega) (by simp; omega) ?_ | refine DW_app0 tabOK rfl (by simp; omega) (by simp; omega) ?_)
   refine W_count rows.length (fun i f N => ∃ (cap : Nat) (cells : List AV) (id : Nat), id ≤ 1 ∧ (flatR (rows.take i)).length ≤ cap ∧ cells.take ((flatR (rows.take i)).length * 3) = fl (flatR (rows.take i)) ∧ cells.length = cap * 3 ∧ N = ⟨id + 1, [(id, .cells cells)]⟩ ∧ f = ⟨catFL rows b i (.osl id 0 (flatR (rows.take i)).length cap 3), []⟩) (Nat.zero_le _) ⟨cap, l', 0, Nat.zero_le 1, Nat.zero_le _, rfl, g2, rfl, rfl⟩ (Joint.le ?_ (Mem.le_refl _)) ?_
   ·unfold catFL
    repeat (refine AF.le_cons rfl ?_)
    exact AF.le_nil rfl
   ·rintro i f N hi ⟨cap, cells, id, hid, hcap, hce, hcl, rfl, rfl⟩
    have hle0 := flatRL_le rows i
    unfold catFL
    by_cases hi1 : i < rows.length
    ·have d1 : decide ((i : Int) < (rows.length : Int)) = true := by simp; omega
     have hx : rows[i]? = some rows[i] := List.getElem?_eq_getElem hi1
     have fi := wrap_succ (i := i) (by omega)
     have hs := flatR_succ hx
     have hle := flatRL_le rows (i + 1)
     generalize rows[i] = r at hx hs
     rw [hs, List.length_append] at hle
     generalize flatR (rows.take i) = A at hs hle hle0 hce hcap
     have hl : (A ++ r.1).length = A.length + (r.1.map Pr.av).length := by simp
     have hid2 : id = 0 ∨ id = 1 := by omega
     rcases hid2 with rfl | rfl
     ·repeat' (first | refine DW_VB tabs rfl d1 ?_ | refine DW_VI tabs rfl (by first | exact fi | exact la) ?_ | refine DW_A tabs rfl ?_ | refine DW_nil ?_ | refine W_A rfl ?_ | refine DW_app tabOK rfl rfl (by simp; omega) (by simp; omega) ?_ | refine DW_app0 tabOK rfl (by simp; omega) (by simp; omega) ?_)
      refine DW_ix tabOK rfl (ixN hx) ?_
      repeat' (first | refine DW_VI tabs rfl (by first | exact fi | exact la) ?_ | refine DW_A tabs rfl ?_ | refine DW_nil ?_ | refine W_A rfl ?_ | refine DW_app tabOK rfl rfl (by simp; omega) (by simp; omega) ?_ | refine DW_app0 tabOK rfl (by simp; omega) (by simp; omega) ?_)
      refine DW_oapp tabOK rfl rfl rfl rfl rfl (l := cells) rfl rfl rfl rfl rfl rfl rfl rfl rfl rfl (by omega) (by omega) (by simp; omega) (by simp; omega) ?_
      intro cap' l' g1 g2 g3
      repeat' (first | refine DW_VI tabs rfl (by first | exact la | exact fi) ?_ | refine DW_A tabs rfl ?_ | refine DW_nil ?_ | refine W_A rfl ?_ | refine DW_app tabOK rfl rfl (by simp; omega) (by simp; omega) ?_ | refine DW_app0 tabOK rfl (by simp; omega) (by simp; omega) ?_)
      obtain ⟨k1, k2, k3⟩ := catL_next hce g1 g2 g3
      have hg := rowG_all (k := 1) (id := 1) k1 k2 k3 (fl_closed _)
      refine ⟨hi1, _, _, ⟨cap', rowG (fl (A ++ r.1)) (cap' * 3), 1, Nat.le_refl 1, ?_, ?_, ?_, rfl, rfl⟩, Joint.move (k := 1) (id := 1) (Nat.le_refl 1) (Nat.le_refl 1) rfl hg.1 hg.2 trivial ?_ trivial⟩
      ·rw [hs]; rw [fl_len] at k3; omega
      ·rw [hs]; have := rowG_take (fl (A ++ r.1)) (cap' * 3); rw [fl_len] at this; exact this
      ·exact rowG_len k3
      ·rw [hs, hl]
       exact catL_K SubK.osl rfl rfl rfl
     ·repeat' (first | refine DW_VB tabs rfl d1 ?_ | refine DW_VI tabs rfl (by first | exact fi | exact la) ?_ | refine DW_A tabs rfl ?_ | refine DW_nil ?_ | refine W_A rfl ?_ | refine DW_app tabOK rfl rfl (by simp; omega) (by simp; omega) ?_ | refine DW_app0 tabOK rfl (by simp; omega) (by simp; omega) ?_)
      refine DW_ix tabOK rfl (ixN hx) ?_
      repeat' (first | refine DW_VI tabs rfl (by first | exact fi | exact la) ?_ | refine DW_A tabs rfl ?_ | refine DW_nil ?_ | refine W_A rfl ?_ | refine DW_app tabOK rfl rfl (by simp; omega) (by simp; omega) ?_ | refine DW_app0 tabOK rfl (by simp; omega) (by simp; omega) ?_)
      refine DW_oapp tabOK rfl rfl rfl rfl rfl (l := cells) rfl rfl rfl rfl rfl rfl rfl rfl rfl rfl (by omega) (by omega) (by simp; omega) (by simp; omega) ?_
      intro cap' l' g1 g2 g3
      repeat' (first | refine DW_VI tabs rfl (by first | exact la | exact fi) ?_ | refine DW_A tabs rfl ?_ | refine DW_nil ?_ | refine W_A rfl ?_ | refine DW_app tabOK rfl rfl (by simp; omega) (by simp; omega) ?_ | refine DW_app0 tabOK rfl (by simp; omega) (by simp; omega) ?_)
      obtain ⟨k1, k2, k3⟩ := catL_next hce g1 g2 g3
      have hg := rowG_all (k := 1) (id := 2) k1 k2 k3 (fl_closed _)
      refine ⟨hi1, _, _, ⟨cap', rowG (fl (A ++ r.1)) (cap' * 3), 1, Nat.le_refl 1, ?_, ?_, ?_, rfl, rfl⟩, Joint.move (k := 1) (id := 2) (Nat.le_refl 1) (by omega) rfl hg.1 hg.2 trivial ?_ trivial⟩
      ·rw [hs]; rw [fl_len] at k3; omega
      ·rw [hs]; have := rowG_take (fl (A ++ r.1)) (cap' * 3); rw [fl_len] at this; exact this
      ·exact rowG_len k3
      ·rw [hs, hl]
       exact catL_K SubK.osl rfl rfl rfl
    ·have d1 : decide ((i : Int) < (rows.length : Int)) = false := by simp; omega
     obtain rfl : i = rows.length := by omega
     rw [List.take_length] at hce hcap
     rw [List.take_length]
     have hid2 : id = 0 ∨ id = 1 := by omega
     rcases hid2 with rfl | rfl
     ·refine W_ghost (Joint.freezeS 6 (xs := (flatR rows).map Pr.av) rfl rfl hce (by simp) (by omega) hcap (prs_three _)) ?_
      repeat' (first | refine DW_VB tabs rfl d1 ?_ | refine DW_A tabs rfl ?_ | refine DW_nil ?_ | refine W_A rfl ?_ | refine DW_app tabOK rfl rfl (by simp; omega) (by simp; omega) ?_ | refine DW_app0 tabOK rfl (by simp; omega) (by simp; omega) ?_)
      exact ⟨rfl, _, rfl, _, rfl, SubC.of_closed (closed_prs _)⟩
     ·refine W_ghost (Joint.freezeS 6 (xs := (flatR rows).map Pr.av) rfl rfl hce (by simp) (by omega) hcap (prs_three _)) ?_
      repeat' (first | refine DW_VB tabs rfl d1 ?_ | refine DW_A tabs rfl ?_ | refine DW_nil ?_ | refine W_A rfl ?_ | refine DW_app tabOK rfl rfl (by simp; omega) (by simp; omega) ?_ | refine DW_app0 tabOK rfl (by simp; omega) (by simp; omega) ?_)
      exact ⟨rfl, _, rfl, _, rfl, SubC.of_closed (closed_prs _)⟩
end Go.Proofs.YtmgkebghojhocaaGreatDoor

/- A pair is dropped: rows, leaves, forks, trees. No further condition. -/
set_option linter.unusedVariables false
set_option linter.unusedSimpArgs false
namespace Go.Proofs.YtmgkebghojhocaaGreatDoor
open Go.Ab

theorem dropP_cut (l : List Pr) (k : Ky) : dropP l k = l.take (findP l k) ++ (if hasP l k = true then l.drop (findP l k + 1) else l.drop (findP l k)) := by
 induction l with
 | nil => rfl
 | cons q r ih =>
  cases h : rless q.key k
  ·have e1 : findP (q :: r) k = 0 := by unfold findP; rw [List.takeWhile_cons, if_neg (by simp [h])]; rfl
   have e2 : hasP (q :: r) k = decide (q.key = k) := by unfold hasP; rw [e1]; rfl
   rw [dropP, if_neg (by simp [h]), e1, e2]
   by_cases he : q.key = k
   ·simp [he]
   ·simp [he]
  ·have e1 : findP (q :: r) k = findP r k + 1 := by unfold findP; rw [List.takeWhile_cons, if_pos h]; rfl
   have e2 : hasP (q :: r) k = hasP r k := by unfold hasP; rw [e1]; rfl
   rw [dropP, if_pos h, e1, e2, ih]
   simp
set_option maxRecDepth 100000 in
set_option maxHeartbeats 8000000 in
theorem nDrop_ok (l : List Pr) (hl : l.length < 100000) (k : Ky) : APure Tryz.prog 236 [.sl 3 (l.map Pr.av) .none, k.av] (.sl 3 ((dropP l k).map Pr.av) .none) := by
 intro M
 refine acalls_of tabOK Tryz.func236 rfl (by decide) (by simp [Tryz.f236]) ?_
 have kf := nFind_ok l .none (by omega) k
 have hle := findP_le l k
 rw [dropP_cut]
 have hh := @hasP_lt l k
 generalize findP l k = n at kf hle hh
 cases hp : hasP l k
 ·rw [hp] at kf
  rw [if_neg (by simp), List.take_append_drop]
  have kj := joinedP_ok [(l, false)] true (by simp) (by simp; omega)
  have e : flatR [(l, false)] = l := by simp [flatR]
  rw [e] at kj
  repeat' (first | refine DW_A tabs rfl ?_ | refine DW_nil ?_ | refine W_A rfl ?_ | refine DW_C rfl kf ?_ | refine DW_C rfl kj ?_ | refine DW_row tabOK rfl ?_ | refine W_draw mixed [0, 1, 2, 3, 4, 5, 6, 7, 8, 9] [.P, .P, .P, .P, .P, .P, .P, .P, .P, .P] rfl rfl (by kernel_rfl) ?_)
  exact ⟨rfl, _, rfl, rfl, rfl⟩
 ·have hlt := hh hp
  rw [hp] at kf
  rw [if_pos rfl]
  have kj := joinedP_ok [(l.take n, false), (l.drop (n + 1), false)] true (by simp) (by simp; omega)
  have e : flatR [(l.take n, false), (l.drop (n + 1), false)] = l.take n ++ l.drop (n + 1) := by simp [flatR]
  rw [e] at kj
  have w1 := wrap_succ (i := n) (by omega)
  repeat' (first | refine DW_VI tabs rfl w1 ?_ | refine DW_A tabs rfl ?_ | refine DW_nil ?_ | refine W_A rfl ?_ | refine DW_C rfl kf ?_ | refine DW_row tabOK rfl ?_ | refine W_draw mixed [0, 1, 2, 3, 4, 5, 6, 7, 8, 9] [.P, .P, .P, .P, .P, .P, .P, .P, .P, .P] rfl rfl (by kernel_rfl) ?_)
  refine DW_to tabOK rfl rfl rfl rfl (n := n) rfl rfl rfl rfl rfl rfl hle ?_
  repeat' (first | refine DW_VI tabs rfl w1 ?_ | refine DW_A tabs rfl ?_ | refine DW_nil ?_ | refine W_A rfl ?_ | refine DW_row tabOK rfl ?_ | refine W_draw mixed [0, 1, 2, 3, 4, 5, 6, 7, 8, 9] [.P, .P, .P, .P, .P, .P, .P, .P, .P, .P] rfl rfl (by kernel_rfl) ?_)
  refine DW_from tabOK rfl rfl rfl rfl (lo := n + 1) rfl rfl rfl rfl rfl rfl (by omega) ?_
  repeat' (first | refine DW_A tabs rfl ?_ | refine DW_nil ?_ | refine W_A rfl ?_ | refine DW_C rfl kj ?_ | refine DW_row tabOK rfl ?_ | refine W_draw mixed [0, 1, 2, 3, 4, 5, 6, 7, 8, 9] [.P, .P, .P, .P, .P, .P, .P, .P, .P, .P] rfl rfl (by kernel_rfl) ?_)
  exact ⟨rfl, _, rfl, rfl, rfl⟩
set_option maxRecDepth 100000 in
set_option maxHeartbeats 8000000 in
theorem leafDrop_ok (l : List Pr) (hl : l.length < 100000) (k : Ky) : APure Tryz.prog 231 [.sl 3 (l.map Pr.av) .none, k.av] (avV 0 (dropP l k : Vt 0)) := by
 intro M
 refine acalls_of tabOK Tryz.func231 rfl (by decide) (by simp [Tryz.f231]) ?_
 have kd := nDrop_ok l hl k
 repeat' (first | refine DW_A tabs rfl ?_ | refine DW_nil ?_ | refine W_A rfl ?_ | refine DW_C rfl kd ?_)
 exact ⟨rfl, _, rfl, rfl, rfl⟩
def fDrop : Nat → FuncId
 | 0 => 231
 | _ + 1 => 245
theorem mDrop (h : Nat) : methF Tryz.prog (tyV h) "sexton/tree.drop" = some (fDrop h) := by
 cases h
 ·show methF Tryz.prog 189 "sexton/tree.drop" = some 231
  kernel_rfl
 ·show methF Tryz.prog 198 "sexton/tree.drop" = some 245
  kernel_rfl
set_option maxRecDepth 100000 in
set_option maxHeartbeats 8000000 in
theorem leafSize_ok (l : List Pr) : APure Tryz.prog 235 [.sl 3 (l.map Pr.av) .none] (.int .i64 (l.length : Int)) := by
 intro M
 refine acalls_of tabOK Tryz.func235 rfl (by decide) (by simp [Tryz.f235]) ?_
 have la := len_map Pr.av l
 repeat' (first | refine DW_VI tabs rfl la ?_ | refine DW_A tabs rfl ?_ | refine DW_nil ?_ | refine W_A rfl ?_)
 exact ⟨rfl, _, rfl, rfl, rfl⟩
set_option maxRecDepth 100000 in
set_option maxHeartbeats 8000000 in
theorem forkSize_ok (h : Nat) (l : List (Vt h)) (n : Int) : APure Tryz.prog 249 [.agg [.sl 1 (l.map (avV h)) .none, .int .i64 n]] (.int .i64 (l.length : Int)) := by
 intro M
 refine acalls_of tabOK Tryz.func249 rfl (by decide) (by simp [Tryz.f249]) ?_
 have la := len_map (avV h) l
 repeat' (first | refine DW_VI tabs rfl la ?_ | refine DW_A tabs rfl ?_ | refine DW_nil ?_ | refine W_A rfl ?_)
 exact ⟨rfl, _, rfl, rfl, rfl⟩
def fSize : Nat → FuncId
 | 0 => 235
 | _ + 1 => 249
theorem mSize (h : Nat) : methF Tryz.prog (tyV h) "sexton/tree.size" = some (fSize h) := by
 cases h
 ·show methF Tryz.prog 189 "sexton/tree.size" = some 235
  kernel_rfl
 ·show methF Tryz.prog 198 "sexton/tree.size" = some 249
  kernel_rfl
theorem size_ok (h : Nat) (v : Vt h) : APure Tryz.prog (fSize h) [inV h v] (.int .i64 (sizeV h v : Int)) := by
 cases h with
 | zero => exact leafSize_ok v.row
 | succ h => exact forkSize_ok h v.kids _

set_option maxRecDepth 100000 in
set_option maxHeartbeats 8000000 in
theorem join0_ok (a b : List Pr) (ha : a.length < 1000) (hb : b.length < 1000) (h0 : 0 < a.length + b.length) : APure Tryz.prog 252 [avV 0 (a : Vt 0), avV 0 (b : Vt 0)] (.sl 1 ((joinV 0 (a : Vt 0) (b : Vt 0)).map (avV 0)) .none) := by
 refine pure_sub (closed2 (closed_avV 0 _) (closed_avV 0 _)) (closed_vxs 0 _) ?_
 refine acalls_of tabOK Tryz.func252 rfl (by decide) (by simp [Tryz.f252]) ?_
 have kc := concatL_ok [(a, false), (b, false)] true (by simp) (by simp [flatR]; omega) (by simp [flatR]; omega)
 have e : flatR [(a, false), (b, false)] = a ++ b := by simp [flatR]
 rw [e] at kc
 have kl := leaves_ok (a ++ b) (by simp; omega)
 repeat' (first | refine DW_A tabs rfl ?_ | refine DW_nil ?_ | refine W_A rfl ?_ | refine DW_row tabOK rfl ?_)
 refine DW_assert tabOK rfl rfl rfl rfl rfl ?_
 repeat' (first | refine DW_A tabs rfl ?_ | refine DW_nil ?_ | refine W_A rfl ?_ | refine DW_row tabOK rfl ?_)
 refine DW_assert tabOK rfl rfl rfl rfl rfl ?_
 repeat' (first | refine DW_A tabs rfl ?_ | refine DW_nil ?_ | refine W_A rfl ?_ | refine DW_C rfl kc ?_ | refine DW_C rfl kl ?_ | refine DW_row tabOK rfl ?_)
 exact ⟨rfl, _, rfl, _, rfl, SubC.of_closed (closed_vxs 0 _)⟩
set_option maxRecDepth 100000 in
set_option maxHeartbeats 8000000 in
theorem joinN_ok (h : Nat) (a b : Vt (h + 1)) (ha : a.kids.length < 1000) (hb : b.kids.length < 1000) (h0 : 0 < a.kids.length + b.kids.length) (hs : (allL h (a.kids ++ b.kids)).length < 1000000000) : APure Tryz.prog 252 [avV (h + 1) a, avV (h + 1) b] (.sl 1 ((joinV (h + 1) a b).map (avV (h + 1))) .none) := by
 refine pure_sub (closed2 (closed_avV _ _) (closed_avV _ _)) (closed_vxs (h + 1) _) ?_
 refine acalls_of tabOK Tryz.func252 rfl (by decide) (by simp [Tryz.f252]) ?_
 have kc := concatV_ok h [(a.kids, false), (b.kids, false)] true (by simp) (by simp [flatV]; omega) (by simp [flatV]; omega)
 have e : flatV [(a.kids, false), (b.kids, false)] = a.kids ++ b.kids := by simp [flatV]
 rw [e] at kc
 have kf := forks_ok h (a.kids ++ b.kids) (by simp; omega) hs
 rw [avV_eq, avV_eq]
 repeat' (first | refine DW_A tabs rfl ?_ | refine DW_nil ?_ | refine W_A rfl ?_ | refine DW_row tabOK rfl ?_)
 refine DW_assert tabOK rfl rfl rfl rfl rfl ?_
 repeat' (first | refine DW_A tabs rfl ?_ | refine DW_nil ?_ | refine W_A rfl ?_ | refine DW_row tabOK rfl ?_)
 refine DW_assert tabOK rfl rfl rfl rfl rfl ?_
 repeat' (first | refine DW_A tabs rfl ?_ | refine DW_nil ?_ | refine W_A rfl ?_ | refine DW_row tabOK rfl ?_)
 refine DW_assert tabOK rfl rfl rfl rfl rfl ?_
 repeat' (first | refine DW_A tabs rfl ?_ | refine DW_nil ?_ | refine W_A rfl ?_ | refine DW_C rfl kc ?_ | refine DW_C rfl kf ?_ | refine DW_row tabOK rfl ?_)
 exact ⟨rfl, _, rfl, _, rfl, SubC.of_closed (closed_vxs (h + 1) _)⟩
theorem vJoin_ok (h : Nat) (a b : Vt h) (ha : sizeV h a < 1000) (hb : sizeV h b < 1000) (h0 : 0 < sizeV h a + sizeV h b) (hs : (allV h a ++ allV h b).length < 1000000000) : APure Tryz.prog 252 [avV h a, avV h b] (.sl 1 ((joinV h a b).map (avV h)) .none) := by
 cases h with
 | zero => exact join0_ok a.row b.row ha hb h0
 | succ h => exact joinN_ok h a b ha hb h0 (by rw [allL_app]; exact hs)

theorem dropV_len {h : Nat} {l : Vt (h + 1)} {k : Ky} (hv : okN (h + 1) l) (hr : Rise (allV (h + 1) l)) : 1 ≤ (dropV (h + 1) l k).kids.length ∧ (dropV (h + 1) l k).kids.length ≤ 4 := by
 have h1 := (drop_all (h + 1) l k hv hr).2.1 hv
 exact ⟨h1.1, h1.2.1⟩
theorem with_two {α : Type} {c b m : List α} {y x : α} : withL ((c ++ [y]) ++ x :: b) c.length 2 m = c ++ (m ++ b) := by
 unfold withL
 simp
theorem allL_sum {h : Nat} (a b : List (Vt h)) : (allL h (a ++ b)).length = (allL h a).length + (allL h b).length := by rw [allL_app, List.length_append]
set_option maxRecDepth 100000 in
set_option maxHeartbeats 8000000 in
theorem forkDrop_ok (h : Nat) (l : Vt (h + 1)) (hv : okN (h + 1) l) (hr : Rise (allV (h + 1) l)) (hn : (allV (h + 1) l).length < 10000000) (k : Ky) (ih : ∀ v : Vt h, okN h v → Rise (allV h v) → (allV h v).length < 10000000 → APure Tryz.prog (fDrop h) [inV h v, k.av] (avV h (dropV h v k))) : APure Tryz.prog 245 [.agg [.sl 1 (l.kids.map (avV h)) .none, .int .i64 ((allV (h + 1) l).length : Int)], k.av] (avV (h + 1) (dropV (h + 1) l k)) := by
 intro M
 refine acalls_of tabOK Tryz.func245 rfl (by decide) (by simp [Tryz.f245]) ?_
 have hv' := hv
 obtain ⟨h1, h2, h3⟩ := hv'
 have kb := below_ok h l.kids ((allV (h + 1) l).length : Int) (by omega) h3 k
 have hdl := dropV_len (k := k) hv hr
 have hda := (drop_all (h + 1) l k hv hr).1
 have hdn := dropP_le (allV (h + 1) l) k
 rw [← hda] at hdn
 obtain ⟨a, v, b, e1, e2, e3, e4, e5, e6, e7⟩ := dropV_cut (k := k) hv hr
 rw [e2] at kb
 have hall : (allV (h + 1) l).length = (allL h a).length + ((allV h v).length + (allL h b).length) := by
  show (allL h l.kids).length = _
  rw [e1, allL_app, allL_cons, List.length_append, List.length_append]
 have kv := ih v e3 e4 (by omega)
 have hdv := drop_all h v k (okN_okR e3) e4
 have hx : l.kids[a.length]? = some v := by rw [e1]; simp
 have hal : a.length + b.length + 1 ≤ 4 := by
  have := congrArg List.length e1
  simp at this
  omega
 have hdnv := dropP_le (allV h v) k
 rw [← hdv.1] at hdnv
 have hsv := okD_size (hdv.2.1 e3)
 have ks := size_ok h (dropV h v k)
 have md := mDrop h
 have ms := mSize h
 have kf := forks_ok h (dropV (h + 1) l k).kids (by omega) (by show (allV (h + 1) (dropV (h + 1) l k)).length < _; omega)
 have hsm : (halvesL (dropV (h + 1) l k).kids : List (Vt (h + 1))) = [(dropV (h + 1) l k : Vt (h + 1))] := halves_small hdl.2
 rw [hsm] at kf
 have hi0 : ([(dropV (h + 1) l k : Vt (h + 1))])[0]? = some (dropV (h + 1) l k) := rfl
 have hre : avV (h + 1) (dropV (h + 1) l k) = .iface (tyV (h + 1)) (inV (h + 1) (dropV (h + 1) l k)) := avV_eq _ _
 rw [hre]
 rw [avV_eq] at kv
 rcases e7 with ⟨g1, g2⟩ | ⟨g1, c, y, g2, g3⟩ | ⟨g1, g2, y, c, g3, g4⟩
 ·have hw : withL l.kids a.length 1 [dropV h v k] = (dropV (h + 1) l k).kids := by rw [e1, with_at]; exact g2.symm
  have kw := with_ok h l.kids ((allV (h + 1) l).length : Int) (by omega) a.length 1 (by have := congrArg List.length e1; simp at this; omega) [dropV h v k] (by simp) (by rw [hw]; omega)
  rw [hw] at kw
  have kw := kw.sub (args := [.agg [.sl 1 (l.kids.map (avV h)) .none, .int .i64 ((allV (h + 1) l).length : Int)], .int .i64 (a.length : Int), .int .i64 ((1 : Nat) : Int), .sl 1 [.iface (tyV h) (inV h (dropV h v k))] .full]) ⟨Sub.refl, Sub.refl, Sub.refl, by rw [← avV_eq]; exact Sub.untag, trivial⟩
  have d1 : decide ((2 : Int) ≤ (sizeV h (dropV h v k) : Int)) = true := decide_eq_true (by omega)
  generalize (dropV (h + 1) l k) = D at *
  repeat' (first | refine DW_A tabs rfl ?_ | refine DW_nil ?_ | refine W_A rfl ?_ | refine DW_C rfl kb ?_ | refine DW_row tabOK rfl ?_ | refine W_draw mixed [2, 0, 1, 3, 4, 5, 6, 7] [.R, .R, .P, .R, .R, .R, .P, .P] rfl rfl (by kernel_rfl) ?_ | refine W_draw mixed [1, 2, 5, 6, 9, 0, 3, 4, 7, 8, 10, 11, 12, 13, 14, 15] [.R, .P, .P, .R, .R, .P, .P, .R, .R, .P, .P, .P, .P, .R, .R, .P] rfl rfl (by kernel_rfl) ?_ | refine W_draw mixed [1, 0, 2, 3, 4, 5, 6, 7, 8, 9, 10, 11] [.R, .P, .R, .R, .R, .R, .P, .P, .P, .R, .R, .P] rfl rfl (by kernel_rfl) ?_)
  refine DW_index tabOK rfl rfl rfl rfl rfl rfl rfl rfl rfl rfl (Int.natCast_nonneg _) (vx_get hx) ?_
  repeat' (first | refine DW_A tabs rfl ?_ | refine DW_nil ?_ | refine W_A rfl ?_ | refine DW_row tabOK rfl ?_ | refine W_draw mixed [2, 0, 1, 3, 4, 5, 6, 7] [.R, .R, .P, .R, .R, .R, .P, .P] rfl rfl (by kernel_rfl) ?_ | refine W_draw mixed [1, 2, 5, 6, 9, 0, 3, 4, 7, 8, 10, 11, 12, 13, 14, 15] [.R, .P, .P, .R, .R, .P, .P, .R, .R, .P, .P, .P, .P, .R, .R, .P] rfl rfl (by kernel_rfl) ?_ | refine W_draw mixed [1, 0, 2, 3, 4, 5, 6, 7, 8, 9, 10, 11] [.R, .P, .R, .R, .R, .R, .P, .P, .P, .R, .R, .P] rfl rfl (by kernel_rfl) ?_)
  refine DW_invoke rfl rfl rfl rfl rfl md kv ?_
  repeat' (first | refine DW_A tabs rfl ?_ | refine DW_nil ?_ | refine W_A rfl ?_ | refine DW_row tabOK rfl ?_ | refine W_draw mixed [2, 0, 1, 3, 4, 5, 6, 7] [.R, .R, .P, .R, .R, .R, .P, .P] rfl rfl (by kernel_rfl) ?_ | refine W_draw mixed [1, 2, 5, 6, 9, 0, 3, 4, 7, 8, 10, 11, 12, 13, 14, 15] [.R, .P, .P, .R, .R, .P, .P, .R, .R, .P, .P, .P, .P, .R, .R, .P] rfl rfl (by kernel_rfl) ?_ | refine W_draw mixed [1, 0, 2, 3, 4, 5, 6, 7, 8, 9, 10, 11] [.R, .P, .R, .R, .R, .R, .P, .P, .P, .R, .R, .P] rfl rfl (by kernel_rfl) ?_)
  refine DW_invoke rfl rfl rfl rfl rfl ms ks ?_
  repeat' (first | refine DW_VB tabs rfl d1 ?_ | refine DW_A tabs rfl ?_ | refine DW_nil ?_ | refine W_A rfl ?_ | refine DW_C rfl kw ?_ | refine DW_C rfl kf ?_ | refine DW_ix tabOK rfl (⟨Int.le_refl 0, vx_get (i := 0) hi0⟩) ?_ | refine DW_row tabOK rfl ?_ | refine W_draw mixed [2, 0, 1, 3, 4, 5, 6, 7] [.R, .R, .P, .R, .R, .R, .P, .P] rfl rfl (by kernel_rfl) ?_ | refine W_draw mixed [1, 2, 5, 6, 9, 0, 3, 4, 7, 8, 10, 11, 12, 13, 14, 15] [.R, .P, .P, .R, .R, .P, .P, .R, .R, .P, .P, .P, .P, .R, .R, .P] rfl rfl (by kernel_rfl) ?_ | refine W_draw mixed [1, 0, 2, 3, 4, 5, 6, 7, 8, 9, 10, 11] [.R, .P, .R, .R, .R, .R, .P, .P, .P, .R, .R, .P] rfl rfl (by kernel_rfl) ?_)
  exact ⟨rfl, _, rfl, rfl, rfl⟩
 ·subst g2
  have hsy : okN h y := h3 y (by rw [e1]; simp)
  have hy2 := okN_size hsy
  have hw : withL l.kids c.length 2 (joinV h y (dropV h v k)) = (dropV (h + 1) l k).kids := by rw [e1, with_two]; exact g3.symm
  have kj := vJoin_ok h y (dropV h v k) (by omega) (by omega) (by omega) (by
   have hyl : (allL h (c ++ [y])).length = (allL h c).length + (allV h y).length := by rw [allL_app, allL_one, List.length_append]
   rw [List.length_append]
   omega)
  have hjl := join_len h y (dropV h v k) (by omega)
  have hjl2 : (joinV h y (dropV h v k)).length ≤ 2 := by rw [hjl]; split <;> omega
  have kw := with_ok h l.kids ((allV (h + 1) l).length : Int) (by omega) c.length 2 (by have := congrArg List.length e1; simp at this; omega) (joinV h y (dropV h v k)) (by omega) (by rw [hw]; omega)
  rw [hw] at kw
  have d1 : decide ((2 : Int) ≤ (sizeV h (dropV h v k) : Int)) = false := by simp; omega
  have la : (c ++ [y]).length = c.length + 1 := by simp
  have d2 : decide ((0 : Int) < ((c ++ [y]).length : Int)) = true := by rw [la]; exact decide_eq_true (by omega)
  have w1 : IntKind.wrap .i64 (((c ++ [y]).length : Int) - 1) = (c.length : Int) := by
   rw [la]
   exact (Go.Ab.wrap_small (by omega) (by omega)).trans (by omega)
  have hxy : l.kids[c.length]? = some y := by rw [e1]; simp
  rw [avV_eq, avV_eq] at kj
  generalize (dropV (h + 1) l k) = D at *
  repeat' (first | refine DW_A tabs rfl ?_ | refine DW_nil ?_ | refine W_A rfl ?_ | refine DW_C rfl kb ?_ | refine DW_row tabOK rfl ?_ | refine W_draw mixed [2, 0, 1, 3, 4, 5, 6, 7] [.R, .R, .P, .R, .R, .R, .P, .P] rfl rfl (by kernel_rfl) ?_ | refine W_draw mixed [1, 2, 5, 6, 9, 0, 3, 4, 7, 8, 10, 11, 12, 13, 14, 15] [.R, .P, .P, .R, .R, .P, .P, .R, .R, .P, .P, .P, .P, .R, .R, .P] rfl rfl (by kernel_rfl) ?_ | refine W_draw mixed [1, 0, 2, 3, 4, 5, 6, 7, 8, 9, 10, 11] [.R, .P, .R, .R, .R, .R, .P, .P, .P, .R, .R, .P] rfl rfl (by kernel_rfl) ?_)
  refine DW_index tabOK rfl rfl rfl rfl rfl rfl rfl rfl rfl rfl (Int.natCast_nonneg _) (vx_get hx) ?_
  repeat' (first | refine DW_A tabs rfl ?_ | refine DW_nil ?_ | refine W_A rfl ?_ | refine DW_row tabOK rfl ?_ | refine W_draw mixed [2, 0, 1, 3, 4, 5, 6, 7] [.R, .R, .P, .R, .R, .R, .P, .P] rfl rfl (by kernel_rfl) ?_ | refine W_draw mixed [1, 2, 5, 6, 9, 0, 3, 4, 7, 8, 10, 11, 12, 13, 14, 15] [.R, .P, .P, .R, .R, .P, .P, .R, .R, .P, .P, .P, .P, .R, .R, .P] rfl rfl (by kernel_rfl) ?_ | refine W_draw mixed [1, 0, 2, 3, 4, 5, 6, 7, 8, 9, 10, 11] [.R, .P, .R, .R, .R, .R, .P, .P, .P, .R, .R, .P] rfl rfl (by kernel_rfl) ?_)
  refine DW_invoke rfl rfl rfl rfl rfl md kv ?_
  repeat' (first | refine DW_A tabs rfl ?_ | refine DW_nil ?_ | refine W_A rfl ?_ | refine DW_row tabOK rfl ?_ | refine W_draw mixed [2, 0, 1, 3, 4, 5, 6, 7] [.R, .R, .P, .R, .R, .R, .P, .P] rfl rfl (by kernel_rfl) ?_ | refine W_draw mixed [1, 2, 5, 6, 9, 0, 3, 4, 7, 8, 10, 11, 12, 13, 14, 15] [.R, .P, .P, .R, .R, .P, .P, .R, .R, .P, .P, .P, .P, .R, .R, .P] rfl rfl (by kernel_rfl) ?_ | refine W_draw mixed [1, 0, 2, 3, 4, 5, 6, 7, 8, 9, 10, 11] [.R, .P, .R, .R, .R, .R, .P, .P, .P, .R, .R, .P] rfl rfl (by kernel_rfl) ?_)
  refine DW_invoke rfl rfl rfl rfl rfl ms ks ?_
  repeat' (first | refine DW_VB tabs rfl (by first | exact d1 | exact d2) ?_ | refine DW_VI tabs rfl w1 ?_ | refine DW_A tabs rfl ?_ | refine DW_nil ?_ | refine W_A rfl ?_ | refine DW_C rfl kj ?_ | refine DW_C rfl kw ?_ | refine DW_C rfl kf ?_ | refine DW_ix tabOK rfl (⟨Int.natCast_nonneg _, vx_get hxy⟩) ?_ | refine DW_ix tabOK rfl (⟨Int.le_refl 0, vx_get (i := 0) hi0⟩) ?_ | refine DW_row tabOK rfl ?_ | refine W_draw mixed [2, 0, 1, 3, 4, 5, 6, 7] [.R, .R, .P, .R, .R, .R, .P, .P] rfl rfl (by kernel_rfl) ?_ | refine W_draw mixed [1, 2, 5, 6, 9, 0, 3, 4, 7, 8, 10, 11, 12, 13, 14, 15] [.R, .P, .P, .R, .R, .P, .P, .R, .R, .P, .P, .P, .P, .R, .R, .P] rfl rfl (by kernel_rfl) ?_ | refine W_draw mixed [1, 0, 2, 3, 4, 5, 6, 7, 8, 9, 10, 11] [.R, .P, .R, .R, .R, .R, .P, .P, .P, .R, .R, .P] rfl rfl (by kernel_rfl) ?_)
  exact ⟨rfl, _, rfl, rfl, rfl⟩
 ·subst g2
  subst g3
  have hsy : okN h y := h3 y (by rw [e1]; simp)
  have hy2 := okN_size hsy
  have hw : withL l.kids 0 2 (joinV h (dropV h v k) y) = (dropV (h + 1) l k).kids := by
   rw [e1]
   unfold withL
   exact g4.symm
  have kj := vJoin_ok h (dropV h v k) y (by omega) (by omega) (by omega) (by
   rw [List.length_append]
   rw [allL_cons, List.length_append] at hall
   omega)
  have hjl := join_len h (dropV h v k) y (by omega)
  have hjl2 : (joinV h (dropV h v k) y).length ≤ 2 := by rw [hjl]; split <;> omega
  have kw := with_ok h l.kids ((allV (h + 1) l).length : Int) (by omega) 0 2 (by have := congrArg List.length e1; simp at this; omega) (joinV h (dropV h v k) y) (by omega) (by rw [hw]; omega)
  rw [hw] at kw
  have d1 : decide ((2 : Int) ≤ (sizeV h (dropV h v k) : Int)) = false := by simp; omega
  have hxy : l.kids[1]? = some y := by rw [e1]; rfl
  rw [avV_eq, avV_eq] at kj
  generalize (dropV (h + 1) l k) = D at *
  repeat' (first | refine DW_A tabs rfl ?_ | refine DW_nil ?_ | refine W_A rfl ?_ | refine DW_C rfl kb ?_ | refine DW_row tabOK rfl ?_ | refine W_draw mixed [2, 0, 1, 3, 4, 5, 6, 7] [.R, .R, .P, .R, .R, .R, .P, .P] rfl rfl (by kernel_rfl) ?_ | refine W_draw mixed [1, 2, 5, 6, 9, 0, 3, 4, 7, 8, 10, 11, 12, 13, 14, 15] [.R, .P, .P, .R, .R, .P, .P, .R, .R, .P, .P, .P, .P, .R, .R, .P] rfl rfl (by kernel_rfl) ?_ | refine W_draw mixed [1, 0, 2, 3, 4, 5, 6, 7, 8, 9, 10, 11] [.R, .P, .R, .R, .R, .R, .P, .P, .P, .R, .R, .P] rfl rfl (by kernel_rfl) ?_)
  refine DW_index tabOK rfl rfl rfl rfl rfl rfl rfl rfl rfl rfl (Int.le_refl 0) (vx_get (i := 0) hx) ?_
  repeat' (first | refine DW_A tabs rfl ?_ | refine DW_nil ?_ | refine W_A rfl ?_ | refine DW_row tabOK rfl ?_ | refine W_draw mixed [2, 0, 1, 3, 4, 5, 6, 7] [.R, .R, .P, .R, .R, .R, .P, .P] rfl rfl (by kernel_rfl) ?_ | refine W_draw mixed [1, 2, 5, 6, 9, 0, 3, 4, 7, 8, 10, 11, 12, 13, 14, 15] [.R, .P, .P, .R, .R, .P, .P, .R, .R, .P, .P, .P, .P, .R, .R, .P] rfl rfl (by kernel_rfl) ?_ | refine W_draw mixed [1, 0, 2, 3, 4, 5, 6, 7, 8, 9, 10, 11] [.R, .P, .R, .R, .R, .R, .P, .P, .P, .R, .R, .P] rfl rfl (by kernel_rfl) ?_)
  refine DW_invoke rfl rfl rfl rfl rfl md kv ?_
  repeat' (first | refine DW_A tabs rfl ?_ | refine DW_nil ?_ | refine W_A rfl ?_ | refine DW_row tabOK rfl ?_ | refine W_draw mixed [2, 0, 1, 3, 4, 5, 6, 7] [.R, .R, .P, .R, .R, .R, .P, .P] rfl rfl (by kernel_rfl) ?_ | refine W_draw mixed [1, 2, 5, 6, 9, 0, 3, 4, 7, 8, 10, 11, 12, 13, 14, 15] [.R, .P, .P, .R, .R, .P, .P, .R, .R, .P, .P, .P, .P, .R, .R, .P] rfl rfl (by kernel_rfl) ?_ | refine W_draw mixed [1, 0, 2, 3, 4, 5, 6, 7, 8, 9, 10, 11] [.R, .P, .R, .R, .R, .R, .P, .P, .P, .R, .R, .P] rfl rfl (by kernel_rfl) ?_)
  refine DW_invoke rfl rfl rfl rfl rfl ms ks ?_
  repeat' (first | refine DW_VB tabs rfl d1 ?_ | refine DW_A tabs rfl ?_ | refine DW_nil ?_ | refine W_A rfl ?_ | refine DW_C rfl kj ?_ | refine DW_C rfl kw ?_ | refine DW_C rfl kf ?_ | refine DW_ix tabOK rfl (⟨Int.le_of_lt Int.one_pos, vx_get (i := 1) hxy⟩) ?_ | refine DW_ix tabOK rfl (⟨Int.le_refl 0, vx_get (i := 0) hi0⟩) ?_ | refine DW_row tabOK rfl ?_ | refine W_draw mixed [2, 0, 1, 3, 4, 5, 6, 7] [.R, .R, .P, .R, .R, .R, .P, .P] rfl rfl (by kernel_rfl) ?_ | refine W_draw mixed [1, 2, 5, 6, 9, 0, 3, 4, 7, 8, 10, 11, 12, 13, 14, 15] [.R, .P, .P, .R, .R, .P, .P, .R, .R, .P, .P, .P, .P, .R, .R, .P] rfl rfl (by kernel_rfl) ?_ | refine W_draw mixed [1, 0, 2, 3, 4, 5, 6, 7, 8, 9, 10, 11] [.R, .P, .R, .R, .R, .R, .P, .P, .P, .R, .R, .P] rfl rfl (by kernel_rfl) ?_)
  exact ⟨rfl, _, rfl, rfl, rfl⟩
theorem vDrop_ok : ∀ (h : Nat) (v : Vt h) (k : Ky), okR h v → Rise (allV h v) → (allV h v).length < 10000000 → APure Tryz.prog (fDrop h) [inV h v, k.av] (avV h (dropV h v k))
 | 0, l, k, hv, _, _ => leafDrop_ok l.row (by have : l.row.length ≤ 4 := hv; omega) k
 | h + 1, l, k, hv, hr, hn => forkDrop_ok h l hv hr hn k (fun v e3 e4 e5 => vDrop_ok h v k (okN_okR e3) e4 e5)

/-! ### Trees -/
theorem okD_one {h : Nat} {v : Vt (h + 1)} (hv : okD (h + 1) v) (h1 : ¬ 1 < v.kids.length) : ∃ x : Vt h, v.kids = [x] ∧ okN h x ∧ allV (h + 1) v = allV h x := by
 obtain ⟨a, b, c⟩ := hv
 match hk : v.kids, a, h1, c with
 | [], a, _, _ => simp at a
 | [x], _, _, c =>
  refine ⟨x, rfl, c x (by simp), ?_⟩
  show (v.kids.map (allV h)).flatten = _
  rw [hk]
  simp
 | x :: y :: r, _, h1, _ => simp at h1
def dropF (v : AV) : AF := ⟨[(5, v)], []⟩
set_option maxRecDepth 100000 in
set_option maxHeartbeats 8000000 in
theorem tDrop0_ok (t : Tr) (k : Ky) (hs : t.all.length < 10000000) : ∃ u : Tr, u.all = dropP t.all k ∧ ACalls Tryz.prog 82 [t.av, k.av] ⟨0, []⟩ fun e _ => ∃ x, e = .ret x ∧ SubC 0 x u.av := by
 obtain ⟨h, v, hv, hr⟩ := t
 have hs' : (allV h v).length < 10000000 := hs
 have kt := top_ok ⟨h, v, hv, hr⟩
 have kd := vDrop_ok h v k hv hr hs'
 have md := mDrop h
 obtain ⟨a1, a2, a3⟩ := drop_all h v k hv hr
 have hdr := dropP_rise (k := k) hr
 cases h with
 | zero =>
  have o1 : okR 0 (dropV 0 v k) := by
   show (dropP v.row k).length ≤ 4
   have := dropP_le v.row k
   have : v.row.length ≤ 4 := hv
   omega
  have o2 : Rise (allV 0 (dropV 0 v k)) := by rw [a1]; exact hdr
  refine ⟨⟨0, dropV 0 v k, o1, o2⟩, a1, ?_⟩
  have hc := closed_tr ⟨0, dropV 0 v k, o1, o2⟩
  refine acalls_of tabOK Tryz.func82 rfl (by decide) (by simp [Tryz.f82]) ?_
  rw [avV_eq] at kd
  repeat' (first | refine DW_A tabs rfl ?_ | refine DW_nil ?_ | refine W_A rfl ?_ | refine DW_C rfl kt ?_ | refine DW_nilc tabOK rfl ?_ | refine W_draw mixed [0, 1, 2, 3, 4] [.P, .P, .R, .P, .P] rfl rfl (by kernel_rfl) ?_)
  refine DW_invoke rfl rfl rfl rfl rfl md kd ?_
  repeat' (first | refine DW_A tabs rfl ?_ | refine DW_nil ?_ | refine W_A rfl ?_ | refine DW_nilc tabOK rfl ?_ | refine W_draw mixed [0, 1, 2, 3, 4] [.P, .P, .R, .P, .P] rfl rfl (by kernel_rfl) ?_)
  refine W_loop (fun c f N => N = ⟨0, []⟩ ∧ f = dropF (.iface (tyV 0) (inV 0 (dropV 0 v k)))) (k := 0) ⟨rfl, rfl⟩ (Joint.le ?_ (Mem.le_nil rfl)) ?_
  ·unfold dropF
   repeat (refine AF.le_cons rfl ?_)
   exact AF.le_nil rfl
  rintro c f N ⟨rfl, rfl⟩
  unfold dropF
  repeat' (first | refine DW_A tabs rfl ?_ | refine DW_nil ?_ | refine W_A rfl ?_ | refine DW_nilc tabOK rfl ?_ | refine W_draw mixed [0, 1, 2, 3, 4] [.P, .P, .R, .P, .P] rfl rfl (by kernel_rfl) ?_)
  refine DW_assert tabOK rfl rfl rfl rfl rfl ?_
  repeat' (first | refine DW_A tabs rfl ?_ | refine DW_nil ?_ | refine W_A rfl ?_ | refine DW_nilc tabOK rfl ?_ | refine W_draw mixed [0, 1, 2, 3, 4] [.P, .P, .R, .P, .P] rfl rfl (by kernel_rfl) ?_)
  exact ⟨rfl, _, rfl, _, rfl, SubC.of_closed hc⟩
 | succ h =>
  have hd := a2 hv
  rw [avV_eq] at kd
  by_cases h1 : 1 < (dropV (h + 1) v k).kids.length
  ·have o1 : okR (h + 1) (dropV (h + 1) v k) := okD_okN hd h1
   have o2 : Rise (allV (h + 1) (dropV (h + 1) v k)) := by rw [a1]; exact hdr
   refine ⟨⟨h + 1, dropV (h + 1) v k, o1, o2⟩, a1, ?_⟩
   have hc := closed_tr ⟨h + 1, dropV (h + 1) v k, o1, o2⟩
   have la := len_map (avV h) (dropV (h + 1) v k).kids
   have d1 : decide ((1 : Int) < ((dropV (h + 1) v k).kids.length : Int)) = true := by simp; omega
   refine acalls_of tabOK Tryz.func82 rfl (by decide) (by simp [Tryz.f82]) ?_
   repeat' (first | refine DW_A tabs rfl ?_ | refine DW_nil ?_ | refine W_A rfl ?_ | refine DW_C rfl kt ?_ | refine DW_nilc tabOK rfl ?_ | refine W_draw mixed [0, 1, 2, 3, 4] [.P, .P, .R, .P, .P] rfl rfl (by kernel_rfl) ?_)
   refine DW_invoke rfl rfl rfl rfl rfl md kd ?_
   repeat' (first | refine DW_A tabs rfl ?_ | refine DW_nil ?_ | refine W_A rfl ?_ | refine DW_nilc tabOK rfl ?_ | refine W_draw mixed [0, 1, 2, 3, 4] [.P, .P, .R, .P, .P] rfl rfl (by kernel_rfl) ?_)
   refine W_loop (fun c f N => N = ⟨0, []⟩ ∧ f = dropF (.iface (tyV (h + 1)) (inV (h + 1) (dropV (h + 1) v k)))) (k := 0) ⟨rfl, rfl⟩ (Joint.le ?_ (Mem.le_nil rfl)) ?_
   ·unfold dropF
    repeat (refine AF.le_cons rfl ?_)
    exact AF.le_nil rfl
   rintro c f N ⟨rfl, rfl⟩
   unfold dropF
   repeat' (first | refine DW_A tabs rfl ?_ | refine DW_nil ?_ | refine W_A rfl ?_ | refine DW_nilc tabOK rfl ?_ | refine W_draw mixed [0, 1, 2, 3, 4] [.P, .P, .R, .P, .P] rfl rfl (by kernel_rfl) ?_)
   refine DW_assert tabOK rfl rfl rfl rfl rfl ?_
   repeat' (first | refine DW_VB tabs rfl d1 ?_ | refine DW_VI tabs rfl la ?_ | refine DW_A tabs rfl ?_ | refine DW_nil ?_ | refine W_A rfl ?_ | refine DW_nilc tabOK rfl ?_ | refine W_draw mixed [0, 1, 2, 3, 4] [.P, .P, .R, .P, .P] rfl rfl (by kernel_rfl) ?_)
   exact ⟨rfl, _, rfl, _, rfl, SubC.of_closed hc⟩
  ·obtain ⟨x, hx, ox, hall⟩ := okD_one hd h1
   have o1 : okR h x := okN_okR ox
   have o2 : Rise (allV h x) := by rw [← hall, a1]; exact hdr
   refine ⟨⟨h, x, o1, o2⟩, (hall.symm.trans a1), ?_⟩
   have hc := closed_tr ⟨h, x, o1, o2⟩
   have la := len_map (avV h) (dropV (h + 1) v k).kids
   have d1 : decide ((1 : Int) < ((dropV (h + 1) v k).kids.length : Int)) = false := by simp; omega
   have hx0 : (dropV (h + 1) v k).kids[0]? = some x := by rw [hx]; rfl
   refine acalls_of tabOK Tryz.func82 rfl (by decide) (by simp [Tryz.f82]) ?_
   repeat' (first | refine DW_A tabs rfl ?_ | refine DW_nil ?_ | refine W_A rfl ?_ | refine DW_C rfl kt ?_ | refine DW_nilc tabOK rfl ?_ | refine W_draw mixed [0, 1, 2, 3, 4] [.P, .P, .R, .P, .P] rfl rfl (by kernel_rfl) ?_)
   refine DW_invoke rfl rfl rfl rfl rfl md kd ?_
   repeat' (first | refine DW_A tabs rfl ?_ | refine DW_nil ?_ | refine W_A rfl ?_ | refine DW_nilc tabOK rfl ?_ | refine W_draw mixed [0, 1, 2, 3, 4] [.P, .P, .R, .P, .P] rfl rfl (by kernel_rfl) ?_)
   refine W_loop (fun c f N => N = ⟨0, []⟩ ∧ ((c = 1 ∧ f = dropF (.iface (tyV (h + 1)) (inV (h + 1) (dropV (h + 1) v k)))) ∨ (c = 0 ∧ f = dropF (.iface (tyV h) (inV h x))))) (k := 1) ⟨rfl, .inl ⟨rfl, rfl⟩⟩ (Joint.le ?_ (Mem.le_nil rfl)) ?_
   ·unfold dropF
    repeat (refine AF.le_cons rfl ?_)
    exact AF.le_nil rfl
   rintro c f N ⟨rfl, ⟨rfl, rfl⟩ | ⟨rfl, rfl⟩⟩
   ·unfold dropF
    repeat' (first | refine DW_A tabs rfl ?_ | refine DW_nil ?_ | refine W_A rfl ?_ | refine DW_nilc tabOK rfl ?_ | refine W_draw mixed [0, 1, 2, 3, 4] [.P, .P, .R, .P, .P] rfl rfl (by kernel_rfl) ?_)
    refine DW_assert tabOK rfl rfl rfl rfl rfl ?_
    repeat' (first | refine DW_VB tabs rfl d1 ?_ | refine DW_VI tabs rfl la ?_ | refine DW_A tabs rfl ?_ | refine DW_nil ?_ | refine W_A rfl ?_ | refine DW_ix tabOK rfl (⟨Int.le_refl 0, vx_get (i := 0) hx0⟩) ?_ | refine DW_nilc tabOK rfl ?_ | refine W_draw mixed [0, 1, 2, 3, 4] [.P, .P, .R, .P, .P] rfl rfl (by kernel_rfl) ?_)
    refine ⟨0, dropF (.iface (tyV h) (inV h x)), ⟨0, []⟩, by decide, ⟨rfl, .inr ⟨rfl, rfl⟩⟩, Joint.cut (k := 0) (t := (dropF (.iface (tyV h) (inV h x))).t) (l := []) (Nat.le_refl _) (Nat.zero_le _) rfl ⟨?_, trivial⟩ trivial⟩
    rw [← avV_eq]
    exact SubC.of_closed (closed_avV h x)
   ·cases h with
    | zero =>
     unfold dropF
     repeat' (first | refine DW_A tabs rfl ?_ | refine DW_nil ?_ | refine W_A rfl ?_ | refine DW_nilc tabOK rfl ?_ | refine W_draw mixed [0, 1, 2, 3, 4] [.P, .P, .R, .P, .P] rfl rfl (by kernel_rfl) ?_)
     refine DW_assert tabOK rfl rfl rfl rfl rfl ?_
     repeat' (first | refine DW_A tabs rfl ?_ | refine DW_nil ?_ | refine W_A rfl ?_ | refine DW_nilc tabOK rfl ?_ | refine W_draw mixed [0, 1, 2, 3, 4] [.P, .P, .R, .P, .P] rfl rfl (by kernel_rfl) ?_)
     exact ⟨rfl, _, rfl, _, rfl, SubC.of_closed hc⟩
    | succ h =>
     have h2 : 2 ≤ x.kids.length := ox.1
     have lb := len_map (avV h) x.kids
     have d2 : decide ((1 : Int) < (x.kids.length : Int)) = true := by simp; omega
     unfold dropF
     repeat' (first | refine DW_A tabs rfl ?_ | refine DW_nil ?_ | refine W_A rfl ?_ | refine DW_nilc tabOK rfl ?_ | refine W_draw mixed [0, 1, 2, 3, 4] [.P, .P, .R, .P, .P] rfl rfl (by kernel_rfl) ?_)
     refine DW_assert tabOK rfl rfl rfl rfl rfl ?_
     repeat' (first | refine DW_VB tabs rfl d2 ?_ | refine DW_VI tabs rfl lb ?_ | refine DW_A tabs rfl ?_ | refine DW_nil ?_ | refine W_A rfl ?_ | refine DW_nilc tabOK rfl ?_ | refine W_draw mixed [0, 1, 2, 3, 4] [.P, .P, .R, .P, .P] rfl rfl (by kernel_rfl) ?_)
     exact ⟨rfl, _, rfl, _, rfl, SubC.of_closed hc⟩
theorem tDrop_ok (t : Tr) (k : Ky) (hs : t.all.length < 10000000) : ∃ u : Tr, u.all = dropP t.all k ∧ APure Tryz.prog 82 [t.av, k.av] u.av := by
 obtain ⟨u, h1, h2⟩ := tDrop0_ok t k hs
 exact ⟨u, h1, pure_sub (closed2 (closed_tr t) (closed_ky k)) (closed_tr u) h2⟩
noncomputable def dropT (t : Tr) (k : Ky) : Tr := if h : t.all.length < 10000000 then Classical.choose (tDrop_ok t k h) else t
theorem dropT_all {t : Tr} {k : Ky} (h : t.all.length < 10000000) : (dropT t k).all = dropP t.all k := by
 unfold dropT
 rw [dif_pos h]
 exact (Classical.choose_spec (tDrop_ok t k h)).1
theorem dropT_ok {t : Tr} {k : Ky} (h : t.all.length < 10000000) : APure Tryz.prog 82 [t.av, k.av] (dropT t k).av := by
 unfold dropT
 rw [dif_pos h]
 exact (Classical.choose_spec (tDrop_ok t k h)).2
end Go.Proofs.YtmgkebghojhocaaGreatDoor
