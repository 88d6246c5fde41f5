/- Parts of the proof, one behind the other: RStA, SLaw, MetaR, CurC, StoP. No further condition. -/
import Derived.Test.YtmgkebghojhocaaGreatDoorV22
import Derived.Test.YtmgkebghojhocaaGreatDoorV16
import Derived.Test.YtmgkebghojhocaaGreatDoorV21
set_option linter.unusedVariables false
set_option linter.unusedSimpArgs false
/- Rows of the document's statements: which are more than are looked at, entries that are the same. No further condition. -/
set_option linter.unusedVariables false
set_option linter.unusedSimpArgs false
namespace Go.Proofs.YtmgkebghojhocaaGreatDoor
open Go.Ab

def bigCh (c : Ch) : Bool := decide (200 < c.path.length) || decide (30 < c.meta_.ch.length)
def bigC (l : List Ch) : Bool := decide (50 < l.length) || l.any bigCh
theorem bigC_no {l : List Ch} (h : bigC l = false) : l.length ≤ 50 ∧ ∀ c, c ∈ l → c.path.length ≤ 200 ∧ c.meta_.ch.length ≤ 30 := by
 unfold bigC bigCh at h
 simp only [Bool.or_eq_false_iff, decide_eq_false_iff_not, List.any_eq_false, Bool.or_eq_true, decide_eq_true_eq, not_or] at h
 exact ⟨by omega, fun p hp => by have := h.2 p hp; omega⟩
set_option maxRecDepth 100000 in
set_option maxHeartbeats 8000000 in
theorem bigC_ok (l : List Ch) (tg : Tag) (hl : l.length < 4611686018427387904) : APure Tryz.prog 78 [chA l tg] (.bool (bigC l)) := by
 intro M
 refine acalls_of tabOK Tryz.func78 rfl (by decide) (by simp [Tryz.f78]) ?_
 have la := len_map Ch.av l
 unfold bigC chA
 by_cases h80 : 50 < l.length
 ·have d1 : decide ((0 : Int) < (l.length : Int)) = true := by simp; omega
  have d2 : decide ((l.length : Int) ≤ 50) = false := by simp; omega
  have d3 : decide ((50 : Int) < (l.length : Int)) = true := by simp; omega
  have e : decide (50 < l.length) = true := by simp [h80]
  rw [e]
  repeat' (first | refine DW_VB tabs rfl (by first | exact d1 | exact d2) ?_ | refine DW_VI tabs rfl la ?_ | refine DW_A tabs rfl ?_ | refine DW_nil ?_ | refine W_A rfl ?_)
  refine W_count 0 (fun i f N => N = M ∧ f = ⟨[(0, .sl 5 (l.map Ch.av) tg), (3, .int .i64 (i : Int))], []⟩) (Nat.zero_le _) ⟨rfl, rfl⟩ (Joint.le ?_ (Mem.le_refl _)) ?_
  ·skip
   repeat (refine AF.le_cons rfl ?_)
   exact AF.le_nil rfl
  rintro i f N hi ⟨rfl, rfl⟩
  obtain rfl : i = 0 := by omega
  repeat' (first | refine DW_VB tabs rfl (by first | exact d1 | exact d2 | exact d3) ?_ | refine DW_VI tabs rfl la ?_ | refine DW_A tabs rfl ?_ | refine DW_nil ?_ | refine W_A rfl ?_)
  exact ⟨rfl, _, rfl, rfl, rfl⟩
 ·have d2 : decide ((l.length : Int) ≤ 50) = true := by simp; omega
  have d3 : decide ((50 : Int) < (l.length : Int)) = false := by simp; omega
  have e : decide (50 < l.length) = false := by simp; omega
  rw [e, Bool.false_or]
  repeat' (first | refine DW_VB tabs rfl d2 ?_ | refine DW_VI tabs rfl la ?_ | refine DW_A tabs rfl ?_ | refine DW_nil ?_ | refine W_A rfl ?_)
  refine W_count l.length (fun i f N => N = M ∧ ((l.take i).any bigCh = false) ∧ f = ⟨[(0, .sl 5 (l.map Ch.av) tg), (3, .int .i64 (i : Int))], []⟩) (Nat.zero_le _) ⟨rfl, by simp, rfl⟩ (Joint.le ?_ (Mem.le_refl _)) ?_
  ·skip
   repeat (refine AF.le_cons rfl ?_)
   exact AF.le_nil rfl
  rintro i f N hi ⟨rfl, hinv, rfl⟩
  by_cases h1 : i < l.length
  ·have d1 : decide ((i : Int) < (l.length : Int)) = true := by simp; omega
   have hx : l[i]? = some l[i] := List.getElem?_eq_getElem h1
   have fi := wrap_succ (i := i) (by omega)
   have ht := take_succ hx
   have hm := List.getElem_mem h1
   generalize l[i] = x at hx ht hm
   have e2 : (l.take (i + 1)).any bigCh = bigCh x := by rw [ht, List.any_append, hinv]; simp
   have hs : bigCh x = true → l.any bigCh = true := fun h => List.any_eq_true.2 ⟨x, List.mem_of_getElem? hx, h⟩
   have lx := len_map (fun n => AV.int .i64 n) x.meta_.ch
   unfold bigCh at hs e2
   by_cases h5 : 200 < x.path.length
   ·have d5 : decide ((200 : Int) < (x.path.length : Int)) = true := by simp; omega
    rw [show l.any bigCh = true from hs (by simp [h5])]
    repeat' (first | refine DW_VB tabs rfl (by first | exact d1 | exact d2 | exact d5) ?_ | refine DW_VI tabs rfl (by first | exact la | exact fi) ?_ | refine DW_A tabs rfl ?_ | refine DW_nil ?_ | refine W_A rfl ?_ | refine DW_ix tabOK rfl (ixN hx) ?_)
    exact ⟨rfl, _, rfl, rfl, rfl⟩
   ·have d5 : decide ((200 : Int) < (x.path.length : Int)) = false := by simp; omega
    by_cases h6 : 30 < x.meta_.ch.length
    ·have d6 : decide ((30 : Int) < (x.meta_.ch.length : Int)) = true := by simp; omega
     rw [show l.any bigCh = true from hs (by simp [h6])]
     repeat' (first | refine DW_VB tabs rfl (by first | exact d1 | exact d2 | exact d5 | exact d6) ?_ | refine DW_VI tabs rfl (by first | exact la | exact lx | exact fi) ?_ | refine DW_A tabs rfl ?_ | refine DW_nil ?_ | refine W_A rfl ?_ | refine DW_ix tabOK rfl (ixN hx) ?_)
     exact ⟨rfl, _, rfl, rfl, rfl⟩
    ·have d6 : decide ((30 : Int) < (x.meta_.ch.length : Int)) = false := by simp; omega
     repeat' (first | refine DW_VB tabs rfl (by first | exact d1 | exact d2 | exact d5 | exact d6) ?_ | refine DW_VI tabs rfl (by first | exact la | exact lx | exact fi) ?_ | refine DW_A tabs rfl ?_ | refine DW_nil ?_ | refine W_A rfl ?_ | refine DW_ix tabOK rfl (ixN hx) ?_)
     refine ⟨h1, _, _, ⟨rfl, by rw [show bigCh = (fun c => decide (200 < c.path.length) || decide (30 < c.meta_.ch.length)) from rfl, e2]; simp [h5, h6], rfl⟩, Joint.le ?_ (Mem.le_refl _)⟩
     repeat (refine AF.le_cons rfl ?_)
     exact AF.le_nil rfl
  ·have d1 : decide ((i : Int) < (l.length : Int)) = false := by simp; omega
   obtain rfl : i = l.length := by omega
   rw [take_all] at hinv
   rw [hinv]
   repeat' (first | refine DW_VB tabs rfl (by first | exact d1 | exact d2 | exact d3) ?_ | refine DW_VI tabs rfl la ?_ | refine DW_A tabs rfl ?_ | refine DW_nil ?_ | refine W_A rfl ?_)
   exact ⟨rfl, _, rfl, rfl, rfl⟩

structure Ld where
 at_ : Int
 batch : List Ch
def Ld.av (x : Ld) : AV := .agg [.int .i64 x.at_, chA x.batch .none]
theorem closed_ldc (x : Ld) : ∀ c, c ∈ x.av.cells → Closed c := by
 intro c hc
 have : c ∈ [AV.int .i64 x.at_, chA x.batch .none] := hc
 exact closed2 closed_int (closed_chs _ (.inl rfl)) c this
theorem closed_ld (x : Ld) : Closed x.av := closed_agg (closed_ldc x)
theorem lds_cells (l : List Ld) : ∀ x, x ∈ l.map Ld.av → ∀ c, c ∈ x.cells → Closed c := by
 intro x hx
 obtain ⟨p, _, rfl⟩ := List.mem_map.1 hx
 exact closed_ldc p
def ldA (l : List Ld) (t : Tag) : AV := .sl 2 (l.map Ld.av) t
theorem closed_lds (l : List Ld) {t : Tag} (ht : t = .none ∨ t = .full) : Closed (ldA l t) := closed_sl ht (fun x hx => by obtain ⟨p, _, rfl⟩ := List.mem_map.1 hx; exact closed_ld p) (lds_cells l)
def ldsB (l : List Ld) : Prop := l.length < 4611686018427387904 ∧ ∀ x, x ∈ l → x.batch.length < 4611686018427387904
def bigLd (x : Ld) : Bool := bigC x.batch || decide (25 < x.batch.length)
def bigL (l : List Ld) : Bool := decide (20 < l.length) || l.any bigLd
theorem bigL_no {l : List Ld} (h : bigL l = false) : l.length ≤ 20 ∧ ∀ x, x ∈ l → x.batch.length ≤ 25 ∧ ∀ c, c ∈ x.batch → c.path.length ≤ 200 ∧ c.meta_.ch.length ≤ 30 := by
 unfold bigL bigLd at h
 simp only [Bool.or_eq_false_iff, decide_eq_false_iff_not, List.any_eq_false, Bool.or_eq_true, decide_eq_true_eq, not_or] at h
 exact ⟨by omega, fun p hp => by
  have := h.2 p hp
  exact ⟨by omega, (bigC_no (by simpa using this.1)).2⟩⟩
set_option maxRecDepth 100000 in
set_option maxHeartbeats 8000000 in
theorem bigL_ok (l : List Ld) (tg : Tag) (hl : l.length < 4611686018427387904) (hib : ∀ x, x ∈ l → x.batch.length < 4611686018427387904) : APure Tryz.prog 26 [ldA l tg] (.bool (bigL l)) := by
 intro M
 refine acalls_of tabOK Tryz.func26 rfl (by decide) (by simp [Tryz.f26]) ?_
 have la := len_map Ld.av l
 unfold bigL ldA
 by_cases h80 : 20 < l.length
 ·have d1 : decide ((0 : Int) < (l.length : Int)) = true := by simp; omega
  have d2 : decide ((l.length : Int) ≤ 20) = false := by simp; omega
  have d3 : decide ((20 : Int) < (l.length : Int)) = true := by simp; omega
  have e : decide (20 < l.length) = true := by simp [h80]
  rw [e]
  repeat' (first | refine DW_VB tabs rfl (by first | exact d1 | exact d2) ?_ | refine DW_VI tabs rfl la ?_ | refine DW_A tabs rfl ?_ | refine DW_nil ?_ | refine W_A rfl ?_)
  refine W_count 0 (fun i f N => N = M ∧ f = ⟨[(0, .sl 2 (l.map Ld.av) tg), (3, .int .i64 (i : Int))], []⟩) (Nat.zero_le _) ⟨rfl, rfl⟩ (Joint.le ?_ (Mem.le_refl _)) ?_
  ·skip
   repeat (refine AF.le_cons rfl ?_)
   exact AF.le_nil rfl
  rintro i f N hi ⟨rfl, rfl⟩
  obtain rfl : i = 0 := by omega
  repeat' (first | refine DW_VB tabs rfl (by first | exact d1 | exact d2 | exact d3) ?_ | refine DW_VI tabs rfl la ?_ | refine DW_A tabs rfl ?_ | refine DW_nil ?_ | refine W_A rfl ?_)
  exact ⟨rfl, _, rfl, rfl, rfl⟩
 ·have d2 : decide ((l.length : Int) ≤ 20) = true := by simp; omega
  have d3 : decide ((20 : Int) < (l.length : Int)) = false := by simp; omega
  have e : decide (20 < l.length) = false := by simp; omega
  rw [e, Bool.false_or]
  repeat' (first | refine DW_VB tabs rfl d2 ?_ | refine DW_VI tabs rfl la ?_ | refine DW_A tabs rfl ?_ | refine DW_nil ?_ | refine W_A rfl ?_)
  refine W_count l.length (fun i f N => N = M ∧ ((l.take i).any bigLd = false) ∧ f = ⟨[(0, .sl 2 (l.map Ld.av) tg), (3, .int .i64 (i : Int))], []⟩) (Nat.zero_le _) ⟨rfl, by simp, rfl⟩ (Joint.le ?_ (Mem.le_refl _)) ?_
  ·skip
   repeat (refine AF.le_cons rfl ?_)
   exact AF.le_nil rfl
  rintro i f N hi ⟨rfl, hinv, rfl⟩
  by_cases h1 : i < l.length
  ·have d1 : decide ((i : Int) < (l.length : Int)) = true := by simp; omega
   have hx : l[i]? = some l[i] := List.getElem?_eq_getElem h1
   have fi := wrap_succ (i := i) (by omega)
   have ht := take_succ hx
   have hm := List.getElem_mem h1
   generalize l[i] = x at hx ht hm
   have e2 : (l.take (i + 1)).any bigLd = bigLd x := by rw [ht, List.any_append, hinv]; simp
   have hs : bigLd x = true → l.any bigLd = true := fun h => List.any_eq_true.2 ⟨x, List.mem_of_getElem? hx, h⟩
   have lx := len_map Ch.av x.batch
   have kx := bigC_ok x.batch .none (hib x (List.mem_of_getElem? hx))
   unfold bigLd at hs e2
   unfold chA at kx
   cases h5 : bigC x.batch
   ·rw [h5] at kx
    by_cases h6 : 25 < x.batch.length
    ·have d6 : decide ((25 : Int) < (x.batch.length : Int)) = true := by simp; omega
     rw [show l.any bigLd = true from hs (by simp [h6])]
     repeat' (first | refine DW_VB tabs rfl (by first | exact d1 | exact d2 | exact d6) ?_ | refine DW_VI tabs rfl (by first | exact la | exact lx | exact fi) ?_ | refine DW_A tabs rfl ?_ | refine DW_nil ?_ | refine W_A rfl ?_ | refine DW_C rfl kx ?_ | refine DW_ix tabOK rfl (ixN hx) ?_)
     exact ⟨rfl, _, rfl, rfl, rfl⟩
    ·have d6 : decide ((25 : Int) < (x.batch.length : Int)) = false := by simp; omega
     repeat' (first | refine DW_VB tabs rfl (by first | exact d1 | exact d2 | exact d6) ?_ | refine DW_VI tabs rfl (by first | exact la | exact lx | exact fi) ?_ | refine DW_A tabs rfl ?_ | refine DW_nil ?_ | refine W_A rfl ?_ | refine DW_C rfl kx ?_ | refine DW_ix tabOK rfl (ixN hx) ?_)
     refine ⟨h1, _, _, ⟨rfl, by rw [show bigLd = (fun x => bigC x.batch || decide (25 < x.batch.length)) from rfl, e2]; simp [h5, h6], rfl⟩, Joint.le ?_ (Mem.le_refl _)⟩
     repeat (refine AF.le_cons rfl ?_)
     exact AF.le_nil rfl
   ·rw [h5] at kx
    rw [show l.any bigLd = true from hs (by simp [h5])]
    repeat' (first | refine DW_VB tabs rfl (by first | exact d1 | exact d2) ?_ | refine DW_VI tabs rfl (by first | exact la | exact fi) ?_ | refine DW_A tabs rfl ?_ | refine DW_nil ?_ | refine W_A rfl ?_ | refine DW_C rfl kx ?_ | refine DW_ix tabOK rfl (ixN hx) ?_)
    exact ⟨rfl, _, rfl, rfl, rfl⟩
  ·have d1 : decide ((i : Int) < (l.length : Int)) = false := by simp; omega
   obtain rfl : i = l.length := by omega
   rw [take_all] at hinv
   rw [hinv]
   repeat' (first | refine DW_VB tabs rfl (by first | exact d1 | exact d2 | exact d3) ?_ | refine DW_VI tabs rfl la ?_ | refine DW_A tabs rfl ?_ | refine DW_nil ?_ | refine W_A rfl ?_)
   exact ⟨rfl, _, rfl, rfl, rfl⟩

theorem en_eq {a b : En} : a = b ↔ a.path = b.path ∧ a.time = b.time ∧ a.meta_ = b.meta_ := by
 obtain ⟨p, t, m⟩ := a
 obtain ⟨q, u, n⟩ := b
 simp
def shortE (x : En) : Prop := x.meta_.ch.length < 1000000
set_option maxRecDepth 100000 in
set_option maxHeartbeats 8000000 in
theorem sameEn_ok (a b : En) (ha : shortE a) (hb : shortE b) : APure Tryz.prog 50 [a.av, b.av] (.bool (decide (a = b))) := by
 intro M
 refine acalls_of tabOK Tryz.func50 rfl (by decide) (by simp [Tryz.f50]) ?_
 have k := rmSame_ok a.meta_ b.meta_ ha hb
 cases d1 : a.path == b.path
 ·rw [decide_eq_false (p := a = b) (by rintro rfl; simp at d1)]
  repeat' (first | refine DW_VB tabs rfl d1 ?_ | refine DW_A tabs rfl ?_ | refine DW_nil ?_ | refine W_A rfl ?_)
  exact ⟨rfl, _, rfl, rfl, rfl⟩
 ·cases d2 : decide (a.time = b.time)
  ·rw [decide_eq_false (p := a = b) (by rintro rfl; simp at d2)]
   repeat' (first | refine DW_VB tabs rfl (by first | exact d1 | exact d2) ?_ | refine DW_A tabs rfl ?_ | refine DW_nil ?_ | refine W_A rfl ?_)
   exact ⟨rfl, _, rfl, rfl, rfl⟩
  ·have e : decide (a = b) = decide (a.meta_ = b.meta_) := by
    rw [decide_eq_decide, en_eq]
    simp at d1 d2
    simp [d1, d2]
   rw [e]
   repeat' (first | refine DW_VB tabs rfl (by first | exact d1 | exact d2) ?_ | refine DW_A tabs rfl ?_ | refine DW_nil ?_ | refine W_A rfl ?_ | refine DW_C rfl k ?_)
   exact ⟨rfl, _, rfl, rfl, rfl⟩
set_option maxRecDepth 100000 in
set_option maxHeartbeats 8000000 in
theorem sameEs_ok (a b : List En) (ta tb : Tag) (ha : a.length < 1000000) (hb : b.length < 1000000) (sa : ∀ x, x ∈ a → shortE x) (sb : ∀ x, x ∈ b → shortE x) : APure Tryz.prog 49 [ensA a ta, ensA b tb] (.bool (decide (a = b))) := by
 intro M
 refine acalls_of tabOK Tryz.func49 rfl (by decide) (by simp [Tryz.f49]) ?_
 have la := len_map En.av a
 have lb := len_map En.av b
 unfold ensA
 by_cases hl : a.length = b.length
 ·have d0 : (!decide ((a.length : Int) = (b.length : Int))) = false := by simp; omega
  repeat' (first | refine DW_VB tabs rfl d0 ?_ | refine DW_VI tabs rfl (by first | exact la | exact lb) ?_ | refine DW_A tabs rfl ?_ | refine DW_nil ?_ | refine W_A rfl ?_ | refine W_draw mixed [0, 1, 4, 5, 2, 3, 6, 7, 8, 9] [.P, .P, .R, .R, .P, .P, .R, .R, .P, .P] rfl rfl (by kernel_rfl) ?_)
  refine W_count a.length (fun i f N => N = M ∧ (a.take i = b.take i) ∧ f = ⟨[(0, .sl 5 (a.map En.av) ta), (1, .sl 5 (b.map En.av) tb), (5, .int .i64 (i : Int))], []⟩) (Nat.zero_le _) ⟨rfl, by simp, rfl⟩ (Joint.le ?_ (Mem.le_refl _)) ?_
  ·skip
   repeat (refine AF.le_cons rfl ?_)
   exact AF.le_nil rfl
  rintro i f N hi ⟨rfl, hinv, rfl⟩
  by_cases h1 : i < a.length
  ·have d1 : decide ((i : Int) < (a.length : Int)) = true := by simp; omega
   have hx : a[i]? = some a[i] := List.getElem?_eq_getElem h1
   have fi := wrap_succ (i := i) (by omega)
   have ht := take_succ hx
   have hm := List.getElem_mem h1
   generalize a[i] = x at hx ht hm
   have hy : b[i]? = some b[i] := List.getElem?_eq_getElem (by omega)
   have hu := take_succ hy
   generalize b[i] = y at hy hu
   have kx := sameEn_ok x y (sa x (List.mem_of_getElem? hx)) (sb y (List.mem_of_getElem? hy))
   by_cases h3 : x = y
   ·rw [decide_eq_true h3] at kx
    repeat' (first | refine DW_VB tabs rfl d1 ?_ | refine DW_VI tabs rfl (by first | exact fi | exact la | exact lb) ?_ | refine DW_A tabs rfl ?_ | refine DW_nil ?_ | refine W_A rfl ?_ | refine DW_C rfl kx ?_ | refine DW_ix tabOK rfl (ixN hx) ?_ | refine DW_ix tabOK rfl (ixN hy) ?_ | refine W_draw mixed [0, 1, 4, 5, 2, 3, 6, 7, 8, 9] [.P, .P, .R, .R, .P, .P, .R, .R, .P, .P] rfl rfl (by kernel_rfl) ?_)
    refine ⟨h1, _, _, ⟨rfl, by rw [ht, hu, hinv, h3], rfl⟩, Joint.le ?_ (Mem.le_refl _)⟩
    repeat (refine AF.le_cons rfl ?_)
    exact AF.le_nil rfl
   ·rw [decide_eq_false h3] at kx
    have e : decide (a = b) = false := by
     refine decide_eq_false fun e => h3 ?_
     subst e
     rw [hx] at hy
     cases hy
     rfl
    rw [e]
    repeat' (first | refine DW_VB tabs rfl d1 ?_ | refine DW_VI tabs rfl (by first | exact fi | exact la | exact lb) ?_ | refine DW_A tabs rfl ?_ | refine DW_nil ?_ | refine W_A rfl ?_ | refine DW_C rfl kx ?_ | refine DW_ix tabOK rfl (ixN hx) ?_ | refine DW_ix tabOK rfl (ixN hy) ?_ | refine W_draw mixed [0, 1, 4, 5, 2, 3, 6, 7, 8, 9] [.P, .P, .R, .R, .P, .P, .R, .R, .P, .P] rfl rfl (by kernel_rfl) ?_)
    exact ⟨rfl, _, rfl, rfl, rfl⟩
  ·have d1 : decide ((i : Int) < (a.length : Int)) = false := by simp; omega
   obtain rfl : i = a.length := by omega
   rw [take_all, hl, take_all] at hinv
   have e : decide (a = b) = true := by simp [hinv]
   rw [e]
   repeat' (first | refine DW_VB tabs rfl d1 ?_ | refine DW_VI tabs rfl la ?_ | refine DW_A tabs rfl ?_ | refine DW_nil ?_ | refine W_A rfl ?_ | refine W_draw mixed [0, 1, 4, 5, 2, 3, 6, 7, 8, 9] [.P, .P, .R, .R, .P, .P, .R, .R, .P, .P] rfl rfl (by kernel_rfl) ?_)
   exact ⟨rfl, _, rfl, rfl, rfl⟩
 ·have d0 : (!decide ((a.length : Int) = (b.length : Int))) = true := by simp; omega
  have e : decide (a = b) = false := decide_eq_false fun e => hl (by rw [e])
  rw [e]
  repeat' (first | refine DW_VB tabs rfl d0 ?_ | refine DW_VI tabs rfl (by first | exact la | exact lb) ?_ | refine DW_A tabs rfl ?_ | refine DW_nil ?_ | refine W_A rfl ?_ | refine W_draw mixed [0, 1, 4, 5, 2, 3, 6, 7, 8, 9] [.P, .P, .R, .R, .P, .P, .R, .R, .P, .P] rfl rfl (by kernel_rfl) ?_)
  exact ⟨rfl, _, rfl, rfl, rfl⟩
end Go.Proofs.YtmgkebghojhocaaGreatDoor

/- Batches laid one behind the other. No further condition. -/
set_option linter.unusedVariables false
set_option linter.unusedSimpArgs false
namespace Go.Proofs.YtmgkebghojhocaaGreatDoor
open Go.Ab

theorem openE_lit {l : List Pr} : True := trivial
def sizedC (p : Bytes) (n : Int) : Ch := ⟨p, false, ⟨n, 0, []⟩⟩
/-- One that has no row of chunks: a nil one. -/
def sizedA (p : Bytes) (n : Int) : AV := .agg [.str p, .bool false, .int .i64 n, .int .i64 0, .sl 0 [] .full]
theorem closed_sizedA (p : Bytes) (n : Int) : Closed (sizedA p n) := closed_agg (by
 intro x hx
 simp at hx
 rcases hx with rfl | rfl | rfl | rfl | rfl
 ·exact closed_str
 ·exact closed_bool
 ·exact closed_int
 ·exact closed_int
 ·exact closed_sl (.inr rfl) (by simp) (by simp))
theorem sub_sizedA {p : Bytes} {n : Int} : Sub (sizedA p n) (sizedC p n).av := Sub.aggL ⟨Sub.refl, Sub.refl, Sub.refl, Sub.refl, Sub.nil, trivial⟩
/-- A store of batches, and those that were laid. -/
noncomputable def laidS : List Ld → Tr × List Ld
 | l => l.foldl (fun (s : Tr × List Ld) x => if layB s.1.all x.at_ x.batch = true then (layT s.1 x.at_ x.batch, s.2 ++ [x]) else s) (nilT, [])
theorem laidS_step {l : List Ld} {i : Nat} {x : Ld} (ht : l.take (i + 1) = l.take i ++ [x]) : laidS (l.take (i + 1)) = if layB (laidS (l.take i)).1.all x.at_ x.batch = true then (layT (laidS (l.take i)).1 x.at_ x.batch, (laidS (l.take i)).2 ++ [x]) else laidS (l.take i) := by
 unfold laidS
 rw [ht, List.foldl_append]
 rfl
def smallL (l : List Ld) : Prop := ∀ x, x ∈ l → x.batch.length ≤ 25 ∧ ∀ c, c ∈ x.batch → c.path.length ≤ 200 ∧ c.meta_.ch.length ≤ 30
theorem valueM_len (m : Mt) (no : Bool) (h : m.ch.length ≤ 30) : (valueM m no).1.length < 1000 := by
 unfold valueM putM
 split
 ·simp
 ·split
  ·split
   ·have := catN_len (mtL m)
    have hl : (mtL m).length = 3 + m.ch.length := by simp [mtL]; omega
    simp
    omega
   ·simp
  ·simp
theorem foldP_mem {at_ : Int} : ∀ (c : List Ch) (l : List Pr) (p : Pr), p ∈ c.foldl (fun l x => putP l (chP at_ x)) l → p ∈ l ∨ ∃ x, x ∈ c ∧ p = chP at_ x
 | [], l, p, h => .inl h
 | x :: r, l, p, h => by
  rcases foldP_mem r (putP l (chP at_ x)) p h with h | ⟨y, hy, e⟩
  ·rcases putP_mem h with rfl | h
   ·exact .inr ⟨x, by simp, rfl⟩
   ·exact .inl h
  ·exact .inr ⟨y, by simp [hy], e⟩
/-- What is laid in small batches stays small. -/
def okS (t : Tr) (n : Nat) : Prop := t.all.length ≤ n ∧ ∀ p, p ∈ t.all → p.key.path.length ≤ 200 ∧ p.val.length < 1000
theorem okS_lay {t : Tr} {n : Nat} {at_ : Int} {c : List Ch} (h : okS t n) (hn : n < 100000) (hl : c.length ≤ 25) (hc : ∀ x, x ∈ c → x.path.length ≤ 200 ∧ x.meta_.ch.length ≤ 30) : okS (layT t at_ c) (n + 25) := by
 have h1 := layT_len (at_ := at_) c t (by have := h.1; omega)
 refine ⟨by have := h.1; omega, fun p hp => ?_⟩
 rw [h1.2] at hp
 rcases foldP_mem c _ p hp with hp | ⟨x, hx, rfl⟩
 ·exact h.2 p hp
 ·exact ⟨(hc x hx).1, valueM_len _ _ (hc x hx).2⟩
theorem okS.vals {t : Tr} {n : Nat} (h : okS t n) : valsB t.all := fun p hp => by have := h.2 p hp; omega
theorem laidS_ok {l : List Ld} (hs : smallL l) : ∀ i, i ≤ l.length → i ≤ 20 → okS (laidS (l.take i)).1 (25 * i) ∧ (laidS (l.take i)).2.length ≤ i ∧ ∀ x, x ∈ (laidS (l.take i)).2 → x ∈ l
 | 0, _, _ => ⟨⟨Nat.le_refl 0, fun p hp => by cases hp⟩, Nat.le_refl 0, fun x hx => by cases hx⟩
 | i + 1, h, h20 => by
  obtain ⟨h1, h2, h3⟩ := laidS_ok hs i (by omega) (by omega)
  have hx : l[i]? = some l[i] := List.getElem?_eq_getElem (by omega)
  have hm := List.getElem_mem (show i < l.length by omega)
  rw [laidS_step (take_succ hx)]
  split
  ·have hb := hs _ hm
   refine ⟨okS_lay (n := 25 * i) h1 (by omega) hb.1 hb.2, by simp; omega, fun x hx => ?_⟩
   rcases List.mem_append.1 hx with hx | hx
   ·exact h3 x hx
   ·simp at hx
    rw [hx]
    exact hm
  ·exact ⟨⟨by have := h1.1; omega, h1.2⟩, by omega, h3⟩
noncomputable def lwF (l : List Ld) (tg : Tag) (i g : Nat) : AF := ⟨[(0, ldA l tg), (4, (laidS (l.take i)).1.av), (5, ldA (laidS (l.take i)).2 (.tok 0 g)), (6, .int .i64 (i : Int))], []⟩
noncomputable def lwA (l : List Ld) : AV := .tup [(laidS l).1.av, ldA (laidS l).2 .none]
theorem closed_lwA (l : List Ld) : Closed (lwA l) := closed_tup (closed2 (closed_tr _) (closed_lds _ (.inl rfl)))
end Go.Proofs.YtmgkebghojhocaaGreatDoor

/- What is put of metadata is got. No further condition. -/
set_option linter.unusedVariables false
set_option linter.unusedSimpArgs false
namespace Go.Proofs.YtmgkebghojhocaaGreatDoor
open Go.Ab

theorem byteAt_nat (n j : Nat) : (byteAt n j).toNat = n / 256 ^ j % 256 := by
 unfold byteAt
 rw [UInt8.toNat_ofNat']
 omega
theorem num_be4 {n : Nat} (h : n < 4294967296) : num (be4 n) = n := by
 unfold num be4
 simp only [List.foldl_cons, List.foldl_nil, byteAt_nat]
 have e0 : n / 256 ^ 0 = n := by simp
 have e1 : n / 256 ^ 1 = n / 256 := by simp
 have e2 : n / 256 ^ 2 = n / 65536 := rfl
 have e3 : n / 256 ^ 3 = n / 16777216 := rfl
 rw [e0, e1, e2, e3]
 omega
theorem num_drop : ∀ l : Bytes, num (l.dropWhile (· == 0)) = num l
 | [] => rfl
 | b :: r => by
  rw [List.dropWhile_cons]
  by_cases h : (b == 0) = true
  ·rw [if_pos h, num_drop r]
   have : b = 0 := by simpa using h
   subst this
   rfl
  ·rw [if_neg h]
theorem num_nb {n : Nat} (h : n < 4294967296) : num (nb n) = n := by
 unfold nb nbI
 rw [num_drop, show (be4 n).take 4 = be4 n from rfl, num_be4 h]
theorem drop_head : ∀ l : Bytes, (l.dropWhile (· == 0)).head? ≠ some 0
 | [] => by simp
 | b :: r => by
  rw [List.dropWhile_cons]
  by_cases h : (b == 0) = true
  ·rw [if_pos h]
   exact drop_head r
  ·rw [if_neg h]
   simp at h
   simp [h]
theorem getNum_put {n : Nat} (h : n < 4294967296) (r : Bytes) : getNum (putN n ++ r) = some (n, r) := by
 have hl : (nb n).length ≤ 4 := nbI_len n 4
 have hc : (UInt8.ofNat (nb n).length).toNat = (nb n).length := by
  rw [UInt8.toNat_ofNat']
  omega
 unfold putN
 rw [List.cons_append, getNum_some]
 ·rw [hc, List.take_left, List.drop_left, num_nb h]
 ·rw [hc, List.take_left]
  rintro (h1 | h1 | h1)
  ·omega
  ·rw [List.length_append] at h1
   omega
  ·exact drop_head _ h1
theorem nums_cat : ∀ l : List Int, (∀ x, x ∈ l → 0 ≤ x ∧ x ≤ 4294967295) → nums (catN l) = some (l.map Int.toNat)
 | [], _ => nums_nil
 | x :: r, h => by
  have hx := h x (by simp)
  have e : catN (x :: r) = putN x.toNat ++ catN r := by simp [catN]
  rw [e, nums_some (getNum_put (by omega) _), nums_cat r (fun y hy => h y (by simp [hy]))]
  rfl
theorem getM_put {m : Mt} (h : isM m = true) : getM (catN (mtL m)) = (m, 0) := by
 have hin := mtL_in h
 unfold getM
 rw [nums_cat _ hin]
 have e : (mtL m).map Int.toNat = m.size.toNat :: m.mode.toNat :: m.ch.length :: m.ch.map Int.toNat := by
  unfold mtL
  simp
 have e2 : nI (m.ch.map Int.toNat) = m.ch := by
  unfold nI
  rw [List.map_map]
  have : ∀ l : List Int, (∀ x, x ∈ l → 0 ≤ x) → l.map ((fun n : Nat => (n : Int)) ∘ Int.toNat) = l := by
   intro l
   induction l with
   | nil => intro _; rfl
   | cons a r ih =>
    intro hl
    rw [List.map_cons, ih (fun x hx => hl x (by simp [hx]))]
    have := hl a (by simp)
    congr 1
    simp
    omega
  exact this _ (fun x hx => (hin x (by unfold mtL; simp [hx])).1)
 have hs := hin m.size (by unfold mtL; simp)
 have hm := hin m.mode (by unfold mtL; simp)
 have e3 : (⟨(m.size.toNat : Int), (m.mode.toNat : Int), nI (m.ch.map Int.toNat)⟩ : Mt) = m := by
  rw [e2, Int.toNat_of_nonneg hs.1, Int.toNat_of_nonneg hm.1]
 rw [e, getMo_yes (by simp) (by rw [e3]; exact h), e3]
theorem putN_ne (n : Nat) : ∃ c r, putN n = c :: r := ⟨_, _, rfl⟩
theorem readM_there {m : Mt} (h : isM m = true) : readM (valueM m false).1 = (m, false, 0) := by
 have e : (valueM m false).1 = 1 :: catN (mtL m) := by
  unfold valueM putM
  rw [if_neg (by simp), if_pos h, if_pos rfl]
 rw [e]
 show (if (1 : UInt8) = 0 ∧ catN (mtL m) = [] then (zeroMt, true, (0 : Int)) else if (1 : UInt8) = 1 then ((getM (catN (mtL m))).1, false, (getM (catN (mtL m))).2) else (zeroMt, false, 30)) = _
 rw [if_neg (by simp), if_pos rfl, getM_put h]
theorem readM_gone (m : Mt) : readM (valueM m true).1 = (zeroMt, true, 0) := by
 have e : (valueM m true).1 = [0] := by
  unfold valueM
  rw [if_pos rfl]
 rw [e]
 rfl
theorem readM_value {m : Mt} {g : Bool} (h : isM m = true) : (readM (valueM m g).1).2.1 = g ∧ (readM (valueM m g).1).2.2 = 0 := by
 cases g
 ·rw [readM_there h]
  exact ⟨rfl, rfl⟩
 ·rw [readM_gone]
  exact ⟨rfl, rfl⟩
end Go.Proofs.YtmgkebghojhocaaGreatDoor

/- Plain facts of ranges and cursors. No further condition. -/
set_option linter.unusedVariables false
set_option linter.unusedSimpArgs false
namespace Go.Proofs.YtmgkebghojhocaaGreatDoor
open Go.Ab

theorem fromP_ge {l : List Pr} {a b : Ky} (h : ∀ k, rless k a = true → rless k b = true) : fromP l b = (fromP l a).dropWhile fun p => rless p.key b := by
 unfold fromP
 induction l with
 | nil => rfl
 | cons p r ih =>
  cases h1 : rless p.key a
  ·rw [List.dropWhile_cons (xs := r) (p := fun p => rless p.key a), if_neg (by rw [h1]; simp)]
  ·rw [List.dropWhile_cons (xs := r) (p := fun p => rless p.key a), if_pos h1, List.dropWhile_cons, if_pos (h _ h1), ih]
theorem takeW_app {α : Type} {p q : α → Bool} (h : ∀ x, p x = true → q x = true) (l : List α) : l.takeWhile p ++ (l.dropWhile p).takeWhile q = l.takeWhile q := by
 induction l with
 | nil => rfl
 | cons x r ih =>
  cases hx : p x
  ·rw [List.takeWhile_cons (p := p), if_neg (by rw [hx]; simp), List.dropWhile_cons, if_neg (by rw [hx]; simp)]
   rfl
  ·rw [List.takeWhile_cons (p := p), if_pos hx, List.dropWhile_cons, if_pos hx, List.takeWhile_cons, if_pos (h x hx), List.cons_append, ih]
theorem range_len (l : List Pr) (a b : Ky) : (rangeC l a b).length ≤ l.length := ((List.takeWhile_sublist _).trans (List.dropWhile_sublist _)).length_le
/-- A range of two parts. -/
theorem range_two {l : List Pr} {a b c : Ky} (h1 : a = b ∨ rless a b = true) (h2 : b = c ∨ rless b c = true) : rangeC l a b ++ rangeC l b c = rangeC l a c := by
 have k1 : ∀ k, rless k a = true → rless k b = true := fun k hk => h1.elim (fun e => e ▸ hk) (rless_trans hk)
 have k2 : ∀ k, rless k b = true → rless k c = true := fun k hk => h2.elim (fun e => e ▸ hk) (rless_trans hk)
 unfold rangeC
 rw [fromP_ge k1]
 exact takeW_app (fun (x : Pr) => k2 x.key) _
theorem fromP_filter {l : List Pr} (hr : Rise l) (k : Ky) : fromP l k = l.filter fun p => !rless p.key k := by
 induction l with
 | nil => rfl
 | cons p r ih =>
  obtain ⟨h1, h2⟩ := List.pairwise_cons.1 hr
  unfold fromP at ih ⊢
  cases h : rless p.key k
  ·rw [List.dropWhile_cons, if_neg (by rw [h]; simp), List.filter_cons, if_pos (by rw [h]; rfl)]
   congr 1
   refine (List.filter_eq_self.2 fun q hq => ?_).symm
   cases h3 : rless q.key k
   ·rfl
   ·rw [rless_trans (h1 q hq) h3] at h; cases h
  ·rw [List.dropWhile_cons, if_pos h, List.filter_cons, if_neg (by rw [h]; simp), ih h2]
theorem take_filter {l : List Pr} (hr : Rise l) (k : Ky) : (l.takeWhile fun p => rless p.key k) = l.filter fun p => rless p.key k := by
 induction l with
 | nil => rfl
 | cons p r ih =>
  obtain ⟨h1, h2⟩ := List.pairwise_cons.1 hr
  cases h : rless p.key k
  ·rw [List.takeWhile_cons, if_neg (by rw [h]; simp), List.filter_cons, if_neg (by rw [h]; simp)]
   refine (List.filter_eq_nil_iff.2 fun q hq => ?_).symm
   intro h3
   rw [rless_trans (h1 q hq) h3] at h
   cases h
  ·rw [List.takeWhile_cons, if_pos h, List.filter_cons, if_pos h, ih h2]
theorem range_filter {l : List Pr} (hr : Rise l) (a b : Ky) : rangeC l a b = l.filter fun p => !rless p.key a && rless p.key b := by
 unfold rangeC
 rw [fromP_filter hr, take_filter (hr.sublist List.filter_sublist), List.filter_filter]
 congr 1
 funext p
 rw [Bool.and_comm]

theorem same_cut {P : Bytes} : ∀ {s : List Pr}, Rise s → (∀ q, q ∈ s → q.key.path = P ∨ bl P q.key.path = true) → (s.dropWhile fun q => q.key.path == P) = s.filter fun q => !(q.key.path == P)
 | [], _, _ => rfl
 | q :: s, hr, h => by
  obtain ⟨h1, h2⟩ := List.pairwise_cons.1 hr
  cases hq : q.key.path == P
  ·rw [List.dropWhile_cons, if_neg (by rw [hq]; simp)]
   have hq' : q.key.path ≠ P := by simpa using hq
   have hb : bl P q.key.path = true := (h q (by simp)).resolve_left hq'
   refine (List.filter_eq_self.2 fun x hx => ?_).symm
   have hx' : bl P x.key.path = true := by
    rcases List.mem_cons.1 hx with rfl | hx
    ·exact hb
    ·have h3 := h1 x hx
     unfold rless at h3
     simp only [Bool.or_eq_true, Bool.and_eq_true, beq_iff_eq] at h3
     rcases h3 with h3 | ⟨h3, _⟩
     ·exact bl_trans hb h3
     ·rw [← h3]; exact hb
   cases h4 : x.key.path == P
   ·rfl
   ·have h5 : x.key.path = P := by simpa using h4
    rw [h5, bl_irrefl] at hx'
    cases hx'
  ·rw [List.dropWhile_cons, if_pos hq, List.filter_cons, if_neg (by rw [hq]; simp)]
   exact same_cut h2 fun x hx => h x (by simp [hx])
theorem rise_paths {p : Pr} {r : List Pr} (hr : Rise (p :: r)) : ∀ q, q ∈ p :: r → q.key.path = p.key.path ∨ bl p.key.path q.key.path = true := by
 intro q hq
 rcases List.mem_cons.1 hq with rfl | hq
 ·exact .inl rfl
 ·have h3 := (List.pairwise_cons.1 hr).1 q hq
  unfold rless at h3
  simp only [Bool.or_eq_true, Bool.and_eq_true, beq_iff_eq] at h3
  rcases h3 with h3 | ⟨h3, _⟩
  ·exact .inr h3
  ·exact .inl h3.symm
theorem same_filter {u : Pr → Bool} {p : Pr} {r : List Pr} (hr : Rise (p :: r)) : (sameP p.key.path (p :: r)).filter u = ((p :: r).filter u).dropWhile fun q => q.key.path == p.key.path := by
 unfold sameP
 rw [same_cut hr (rise_paths hr), same_cut (hr.sublist List.filter_sublist) (fun q hq => rise_paths hr q (List.mem_filter.1 hq).1), List.filter_filter, List.filter_filter]
 congr 1
 funext q
 rw [Bool.and_comm]
theorem drop_find (l : List Pr) (k : Ky) : l.drop (findP l k) = fromP l k := by
 unfold findP fromP
 induction l with
 | nil => rfl
 | cons p r ih =>
  cases h : rless p.key k
  ·rw [List.takeWhile_cons, if_neg (by rw [h]; simp), List.dropWhile_cons, if_neg (by rw [h]; simp)]
   rfl
  ·rw [List.takeWhile_cons, if_pos h, List.dropWhile_cons, if_pos h, List.length_cons, List.drop_succ_cons, ih]
theorem drop_takeW {α : Type} (p : α → Bool) (l : List α) : l.drop (l.takeWhile p).length = l.dropWhile p := by
 induction l with
 | nil => rfl
 | cons x r ih =>
  cases h : p x
  ·rw [List.takeWhile_cons, if_neg (by rw [h]; simp), List.dropWhile_cons, if_neg (by rw [h]; simp)]
   rfl
  ·rw [List.takeWhile_cons, if_pos h, List.dropWhile_cons, if_pos h, List.length_cons, List.drop_succ_cons, ih]

/-- The program's cursor and the document's stand alike. -/
structure Alike (A : List Pr) (dir : Bytes) (m : List Pr) (i : Nat) : Prop where
 sub : m.Sublist A
 le : i ≤ (A.filter fun p => underB dir p.key.path).length
 eq : (A.filter fun p => underB dir p.key.path).drop i = m.filter fun p => underB dir p.key.path
theorem alike_new (A : List Pr) (dir : Bytes) : Alike A dir A 0 := ⟨List.Sublist.refl _, Nat.zero_le _, rfl⟩
theorem alike_head {A : List Pr} {dir : Bytes} {m : List Pr} {i : Nat} (h : Alike A dir m i) : (A.filter fun p => underB dir p.key.path).drop i = (skipU dir m).filter fun p => underB dir p.key.path := by rw [h.eq, filter_skip]
theorem drop_nil {α : Type} {l : List α} {i : Nat} (h : l.drop i = []) : l.length ≤ i := by
 have := congrArg List.length h
 simp at this
 omega
theorem alike_next {A : List Pr} {dir : Bytes} {m : List Pr} {i : Nat} (h : Alike A dir m i) :
  (nextC ((A.filter fun p => underB dir p.key.path).drop i)).1 = (nextC (skipU dir m)).1 ∧ Alike A dir (nextC (skipU dir m)).2 (rnextI (A.filter fun p => underB dir p.key.path) i) := by
 have hh := alike_head h
 have hs := (skipU_sub dir m).trans h.sub
 have hu := @skipU_head dir m
 unfold rnextI
 generalize skipU dir m = s at hh hs hu
 cases s with
 | nil =>
  have hd : (A.filter fun p => underB dir p.key.path).drop i = [] := hh
  have hl := drop_nil hd
  rw [hd, if_neg (by omega)]
  exact ⟨rfl, List.nil_sublist _, h.le, hd⟩
 | cons p r =>
  rw [List.filter_cons, if_pos (hu rfl)] at hh
  have hlt : i < (A.filter fun p => underB dir p.key.path).length := by
   have := congrArg List.length hh
   simp at this
   omega
  rw [hh, if_pos hlt]
  refine ⟨rfl, (List.sublist_cons_self p r).trans hs, by omega, ?_⟩
  have e : (A.filter fun p => underB dir p.key.path).drop (i + 1) = ((A.filter fun p => underB dir p.key.path).drop i).drop 1 := by rw [List.drop_drop]
  rw [e, hh]
  rfl
theorem alike_skip {A : List Pr} (hA : Rise A) {dir : Bytes} {m : List Pr} {i : Nat} (h : Alike A dir m i) :
  (skipC ((A.filter fun p => underB dir p.key.path).drop i)).1 = (skipC (skipU dir m)).1 ∧ Alike A dir (skipC (skipU dir m)).2 (rskipI (A.filter fun p => underB dir p.key.path) i) := by
 have hh := alike_head h
 have hs := (skipU_sub dir m).trans h.sub
 have hu := @skipU_head dir m
 unfold rskipI
 generalize skipU dir m = s at hh hs hu
 cases s with
 | nil =>
  have hd : (A.filter fun p => underB dir p.key.path).drop i = [] := hh
  rw [hd]
  exact ⟨rfl, List.nil_sublist _, h.le, hd⟩
 | cons p r =>
  have hr := hA.sublist hs
  have hf := same_filter (u := fun p => underB dir p.key.path) hr
  have hd : (A.filter fun p => underB dir p.key.path).drop i = p :: r.filter fun p => underB dir p.key.path := by rw [hh, List.filter_cons, if_pos (hu rfl)]
  have hlen := congrArg List.length hd
  rw [List.length_drop] at hlen
  have htl := (List.takeWhile_sublist (fun q : Pr => q.key.path == p.key.path) (l := p :: r.filter fun p => underB dir p.key.path)).length_le
  rw [hd]
  refine ⟨rfl, (List.dropWhile_sublist _).trans hs, ?_, ?_⟩
  ·show i + ((p :: r.filter fun p => underB dir p.key.path).takeWhile fun q => q.key.path == p.key.path).length ≤ _
   have := h.le
   omega
  ·show (A.filter fun p => underB dir p.key.path).drop (i + ((p :: r.filter fun p => underB dir p.key.path).takeWhile fun q => q.key.path == p.key.path).length) = (sameP p.key.path (p :: r)).filter _
   rw [hf, ← hh, ← List.drop_drop, ← hd, drop_takeW]
theorem alike_seek {A : List Pr} (hA : Rise A) {dir : Bytes} (k : Ky) : Alike A dir (fromP A k) (findP (A.filter fun p => underB dir p.key.path) k) := by
 refine ⟨List.dropWhile_sublist _, findP_le _ _, ?_⟩
 rw [drop_find, fromP_filter (hA.sublist List.filter_sublist), fromP_filter hA, List.filter_filter, List.filter_filter]
 congr 1
 funext q
 rw [Bool.and_comm]
end Go.Proofs.YtmgkebghojhocaaGreatDoor

/- Plain facts on stores: the newest version, lists, batches laid. No further condition. -/
set_option linter.unusedVariables false
set_option linter.unusedSimpArgs false
namespace Go.Proofs.YtmgkebghojhocaaGreatDoor
open Go.Ab

/-! ### The newest version -/
structure IsBest (l : List Pr) (p : Bytes) (w : Int) (x : Pr) : Prop where
 mem : x ∈ l
 path : x.key.path = p
 le : x.key.time ≤ w
 top : ∀ y, y ∈ l → y.key.path = p → y.key.time ≤ w → y.key.time ≤ x.key.time
theorem rless_def (a b : Ky) : rless a b = true ↔ bl a.path b.path = true ∨ (a.path = b.path ∧ b.time < a.time) := by
 unfold rless
 simp
theorem rless_no {a : Ky} {p : Bytes} {w : Int} (h : rless a ⟨p, w⟩ = false) (hp : a.path = p) : a.time ≤ w := by
 by_cases h2 : a.time ≤ w
 ·exact h2
 ·have := (rless_def a ⟨p, w⟩).2 (.inr ⟨hp, by show w < a.time; omega⟩)
  rw [h] at this
  cases this
theorem rless_yes {a : Ky} {p : Bytes} {w : Int} (hp : a.path = p) (h : a.time ≤ w) : rless a ⟨p, w⟩ = false := by
 cases hh : rless a ⟨p, w⟩
 ·rfl
 ·rcases (rless_def _ _).1 hh with h1 | ⟨_, h1⟩
  ·have h1 : bl a.path p = true := h1
   rw [hp, bl_irrefl] at h1
   cases h1
  ·have h1 : w < a.time := h1
   omega
def okT (l : List Pr) : Prop := ∀ y, y ∈ l → y.key.time ≤ 1000000000
theorem at_cases {l : List Pr} (hr : Rise l) (ht : okT l) (p : Bytes) (w : Int) : (∃ x, IsBest l p w x ∧ atL l p w = atP p x) ∨ ((∀ y, y ∈ l → y.key.path = p → ¬ y.key.time ≤ w) ∧ atL l p w = none) := by
 unfold atL
 have hf := fromP_filter hr ⟨p, min w 1000000000⟩
 have hin : ∀ y, y ∈ l → y.key.path = p → y.key.time ≤ w → y ∈ fromP l ⟨p, min w 1000000000⟩ := by
  intro y hy hp hw
  rw [hf, List.mem_filter]
  have := ht y hy
  exact ⟨hy, by rw [rless_yes hp (by omega)]; rfl⟩
 have hout : ∀ y, y ∈ fromP l ⟨p, min w 1000000000⟩ → y ∈ l ∧ rless y.key ⟨p, min w 1000000000⟩ = false := by
  intro y hy
  rw [hf, List.mem_filter] at hy
  exact ⟨hy.1, by simpa using hy.2⟩
 have hrf := fromP_rise (k := ⟨p, min w 1000000000⟩) hr
 generalize fromP l ⟨p, min w 1000000000⟩ = L at hin hout hrf
 cases L with
 | nil => exact .inr ⟨fun y hy hp hw => absurd (hin y hy hp hw) (by simp), rfl⟩
 | cons x r =>
  have hx := hout x (by simp)
  by_cases hp : x.key.path = p
  ·refine .inl ⟨x, ⟨hx.1, hp, by have := rless_no hx.2 hp; omega, fun y hy hyp hyw => ?_⟩, rfl⟩
   rcases List.mem_cons.1 (hin y hy hyp hyw) with rfl | hy2
   ·exact Int.le_refl _
   ·have h3 := (List.pairwise_cons.1 hrf).1 y hy2
    rcases (rless_def _ _).1 h3 with h3 | ⟨_, h3⟩
    ·rw [hp, hyp, bl_irrefl] at h3
     cases h3
    ·omega
  ·refine .inr ⟨fun y hy hyp hyw => ?_, ?_⟩
   ·rcases List.mem_cons.1 (hin y hy hyp hyw) with rfl | hy2
    ·exact hp hyp
    ·have h3 := (List.pairwise_cons.1 hrf).1 y hy2
     rcases (rless_def _ _).1 h3 with h3 | ⟨h3, _⟩
     ·rw [hyp] at h3
      have := (rless_def x.key ⟨p, min w 1000000000⟩).2 (.inl h3)
      rw [hx.2] at this
      cases this
     ·exact hp (h3.trans hyp)
   ·show atP p x = none
    unfold atP
    rw [if_neg (by simp [hp])]
theorem rise_inj {l : List Pr} (hr : Rise l) {x y : Pr} (hx : x ∈ l) (hy : y ∈ l) (h : x.key = y.key) : x = y := by
 induction l with
 | nil => cases hx
 | cons z r ih =>
  obtain ⟨h1, h2⟩ := List.pairwise_cons.1 hr
  rcases List.mem_cons.1 hx with e1 | hx2
  ·rcases List.mem_cons.1 hy with e2 | hy2
   ·rw [e1, e2]
   ·have := h1 y hy2
    rw [← e1, h, rless_irrefl] at this
    cases this
  ·rcases List.mem_cons.1 hy with e2 | hy2
   ·have := h1 x hx2
    rw [← e2, h, rless_irrefl] at this
    cases this
   ·exact ih h2 hx2 hy2
theorem best_eq {l : List Pr} (hr : Rise l) {p : Bytes} {w : Int} {x y : Pr} (hx : IsBest l p w x) (hy : IsBest l p w y) : x = y := by
 refine rise_inj hr hx.mem hy.mem ?_
 have h1 := hx.top y hy.mem hy.path hy.le
 have h2 := hy.top x hx.mem hx.path hx.le
 have h3 : x.key.path = y.key.path := hx.path.trans hy.path.symm
 have h4 : x.key.time = y.key.time := by omega
 cases hkx : x.key
 cases hky : y.key
 rw [hkx, hky] at h3 h4
 simp only at h3 h4
 rw [h3, h4]
theorem at_best {l : List Pr} (hr : Rise l) (ht : okT l) {p : Bytes} {w : Int} {x : Pr} (h : IsBest l p w x) : atL l p w = atP p x := by
 rcases at_cases hr ht p w with ⟨y, hy, e⟩ | ⟨hno, _⟩
 ·rw [e, best_eq hr h hy]
 ·exact absurd h.le (hno x h.mem h.path)
theorem at_none {l : List Pr} (hr : Rise l) (ht : okT l) {p : Bytes} {w : Int} (h : ∀ y, y ∈ l → y.key.path = p → ¬ y.key.time ≤ w) : atL l p w = none := by
 rcases at_cases hr ht p w with ⟨y, hy, e⟩ | ⟨_, e⟩
 ·exact absurd hy.le (h y hy.mem hy.path)
 ·exact e
theorem at_congr {l m : List Pr} (hr : Rise l) (ht : okT l) (hr' : Rise m) (ht' : okT m) {p : Bytes} {w : Int} (h : ∀ y : Pr, y.key.path = p → y.key.time ≤ w → (y ∈ l ↔ y ∈ m)) : atL l p w = atL m p w := by
 rcases at_cases hr ht p w with ⟨y, hy, e⟩ | ⟨hno, e⟩
 ·rw [e]
  refine (at_best hr' ht' ⟨(h y hy.path hy.le).1 hy.mem, hy.path, hy.le, fun z hz hzp hzw => hy.top z ((h z hzp hzw).2 hz) hzp hzw⟩).symm
 ·rw [e]
  exact (at_none hr' ht' fun z hz hzp hzw => hno z ((h z hzp hzw).2 hz) hzp hzw).symm
theorem at_is {l : List Pr} {p : Bytes} {w : Int} {e : En} (hr : Rise l) (ht : okT l) (h : atL l p w = some e) : e.path = p ∧ e.time ≤ w ∧ ∃ x, x ∈ l ∧ x.key.path = p ∧ e.time = x.key.time ∧ e.meta_ = (readM x.val).1 := by
 rcases at_cases hr ht p w with ⟨y, hy, e'⟩ | ⟨_, e'⟩
 ·rw [e'] at h
  unfold atP at h
  split at h
  ·cases h
   exact ⟨rfl, hy.le, y, hy.mem, hy.path, rfl, rfl⟩
  ·cases h
 ·rw [e'] at h
  cases h

/-! ### Lists -/
theorem skipU_mem {dir : Bytes} : ∀ {m : List Pr} {x : Pr}, x ∈ m → underB dir x.key.path = true → x ∈ skipU dir m
 | y :: r, x, hx, hu => by
  cases hy : underB dir y.key.path
  ·rw [skipU_cons hy]
   rcases List.mem_cons.1 hx with rfl | hx
   ·rw [hu] at hy
    cases hy
   ·exact skipU_mem hx hu
  ·rw [skipU_hit hy]
   exact hx
theorem sameP_mem {x : Pr} {r : List Pr} (hr : Rise (x :: r)) (y : Pr) : y ∈ sameP x.key.path (x :: r) ↔ y ∈ x :: r ∧ y.key.path ≠ x.key.path := by
 unfold sameP
 rw [same_cut hr (rise_paths hr), List.mem_filter]
 simp
theorem paths_ok : ∀ (n : Nat) (dir : Bytes) (m : List Pr), m.length ≤ n → Rise m → (pathsU dir m).Pairwise (fun a b => bl a b = true) ∧ ∀ p, p ∈ pathsU dir m ↔ underB dir p = true ∧ ∃ x, x ∈ m ∧ x.key.path = p
 | n, dir, m, hn, hr => by
  have hrs : Rise (skipU dir m) := hr.sublist (skipU_sub dir m)
  have hmem : ∀ p, (underB dir p = true ∧ ∃ x, x ∈ m ∧ x.key.path = p) ↔ (underB dir p = true ∧ ∃ x, x ∈ skipU dir m ∧ x.key.path = p) := by
   intro p
   constructor
   ·rintro ⟨hu, x, hx, rfl⟩
    exact ⟨hu, x, skipU_mem hx hu, rfl⟩
   ·rintro ⟨hu, x, hx, rfl⟩
    exact ⟨hu, x, (skipU_sub dir m).subset hx, rfl⟩
  have hhead := @skipU_head dir m
  have hlen := (skipU_sub dir m).length_le
  cases hs : skipU dir m with
  | nil =>
   rw [pathsU_nil hs]
   refine ⟨List.Pairwise.nil, fun p => ?_⟩
   rw [hmem, hs]
   simp
  | cons x r =>
   rw [hs] at hrs hlen
   have hux := hhead hs
   have hlt := sameP_lt x r
   rw [pathsU_cons hs]
   match n, hn with
   | 0, hn => simp at hlen; omega
   | n + 1, hn =>
    simp at hlen
    obtain ⟨h1, h2⟩ := paths_ok n dir (sameP x.key.path (x :: r)) (by omega) (hrs.sublist (List.dropWhile_sublist _))
    refine ⟨List.pairwise_cons.2 ⟨fun p hp => ?_, h1⟩, fun p => ?_⟩
    ·obtain ⟨_, y, hy, rfl⟩ := (h2 p).1 hp
     obtain ⟨hy1, hy2⟩ := (sameP_mem hrs y).1 hy
     exact (rise_paths hrs y hy1).resolve_left hy2
    ·rw [hmem, hs, List.mem_cons, h2]
     constructor
     ·rintro (rfl | ⟨hu, y, hy, rfl⟩)
      ·exact ⟨hux, x, by simp, rfl⟩
      ·exact ⟨hu, y, ((sameP_mem hrs y).1 hy).1, rfl⟩
     ·rintro ⟨hu, y, hy, rfl⟩
      by_cases he : y.key.path = x.key.path
      ·exact .inl he
      ·exact .inr ⟨hu, y, (sameP_mem hrs y).2 ⟨hy, he⟩, rfl⟩
theorem list_mem {l : List Pr} (hr : Rise l) (ht : okT l) (dir : Bytes) (w : Int) (e : En) : e ∈ listL l dir w ↔ underB dir e.path = true ∧ atL l e.path w = some e := by
 unfold listL
 rw [List.mem_filterMap]
 constructor
 ·rintro ⟨p, hp, he⟩
  have := (at_is hr ht he).1
  subst this
  exact ⟨(((paths_ok _ dir l (Nat.le_refl _) hr).2 _).1 hp).1, he⟩
 ·rintro ⟨hu, he⟩
  obtain ⟨_, _, x, hx, hxp, _⟩ := at_is hr ht he
  exact ⟨e.path, ((paths_ok _ dir l (Nat.le_refl _) hr).2 _).2 ⟨hu, x, hx, hxp⟩, he⟩
abbrev RiseE (l : List En) : Prop := l.Pairwise fun a b => bl a.path b.path = true
theorem rise_fm {f : Bytes → Option En} (hf : ∀ p e, f p = some e → e.path = p) : ∀ {l : List Bytes}, l.Pairwise (fun a b => bl a b = true) → RiseE (l.filterMap f)
 | [], _ => List.Pairwise.nil
 | p :: r, h => by
  obtain ⟨h1, h2⟩ := List.pairwise_cons.1 h
  rw [List.filterMap_cons]
  cases he : f p with
  | none => exact rise_fm hf h2
  | some e =>
   refine List.pairwise_cons.2 ⟨fun y hy => ?_, rise_fm hf h2⟩
   obtain ⟨q, hq, hy⟩ := List.mem_filterMap.1 hy
   rw [hf p e he, hf q y hy]
   exact h1 q hq
theorem list_rise {l : List Pr} (hr : Rise l) (ht : okT l) (dir : Bytes) (w : Int) : RiseE (listL l dir w) :=
 rise_fm (fun p e he => (at_is hr ht he).1) (paths_ok _ dir l (Nat.le_refl _) hr).1
/-- Rows that rise and hold the same are the same. -/
theorem riseE_eq : ∀ {a b : List En}, RiseE a → RiseE b → (∀ e, e ∈ a ↔ e ∈ b) → a = b
 | [], [], _, _, _ => rfl
 | [], y :: s, _, _, h => by have := (h y).2 (by simp); cases this
 | x :: r, [], _, _, h => by have := (h x).1 (by simp); cases this
 | x :: r, y :: s, ha, hb, h => by
  obtain ⟨h1, h2⟩ := List.pairwise_cons.1 ha
  obtain ⟨h3, h4⟩ := List.pairwise_cons.1 hb
  have e : x = y := by
   rcases List.mem_cons.1 ((h x).1 (by simp)) with e | hx
   ·exact e
   ·rcases List.mem_cons.1 ((h y).2 (by simp)) with e | hy
    ·exact e.symm
    ·have := bl_asymm (h3 x hx)
     rw [h1 y hy] at this
     cases this
  subst e
  congr 1
  refine riseE_eq h2 h4 fun z => ?_
  constructor
  ·intro hz
   rcases List.mem_cons.1 ((h z).1 (by simp [hz])) with rfl | hz2
   ·have := h1 z hz
    rw [bl_irrefl] at this
    cases this
   ·exact hz2
  ·intro hz
   rcases List.mem_cons.1 ((h z).2 (by simp [hz])) with rfl | hz2
   ·have := h3 z hz
    rw [bl_irrefl] at this
    cases this
   ·exact hz2
theorem list_congr {l m : List Pr} (hr : Rise l) (ht : okT l) (hr' : Rise m) (ht' : okT m) {w : Int} (h : ∀ p, atL l p w = atL m p w) (dir : Bytes) : listL l dir w = listL m dir w :=
 riseE_eq (list_rise hr ht dir w) (list_rise hr' ht' dir w) fun e => by rw [list_mem hr ht, list_mem hr' ht', h]

/-! ### Batches laid -/
theorem putP_self (l : List Pr) (p : Pr) : p ∈ putP l p := by
 induction l with
 | nil => simp [putP]
 | cons q r ih =>
  simp only [putP]
  split
  ·simp [ih]
  ·split <;> simp
theorem putP_keep {l : List Pr} {p y : Pr} (hy : y ∈ l) (h : y.key ≠ p.key) : y ∈ putP l p := by
 induction l with
 | nil => cases hy
 | cons q r ih =>
  simp only [putP]
  rcases List.mem_cons.1 hy with rfl | hy
  ·split
   ·simp
   ·first
     | (rw [if_neg h]; simp)
     | simp
  ·split
   ·simp [ih hy]
   ·split <;> simp [hy]
theorem putP_new {l : List Pr} {p : Pr} (h : ∀ y, y ∈ l → y.key ≠ p.key) : (putP l p).length = l.length + 1 := by
 induction l with
 | nil => rfl
 | cons q r ih =>
  simp only [putP]
  split
  ·simp [ih (fun y hy => h y (by simp [hy]))]
  ·rw [if_neg (h q (by simp))]
   rfl
noncomputable def layL (l : List Pr) (at_ : Int) (c : List Ch) : List Pr := c.foldl (fun l x => putP l (chP at_ x)) l
theorem layL_ok {at_ : Int} : ∀ {c : List Ch} {l : List Pr}, RiseC c → (∀ y, y ∈ l → ∀ x, x ∈ c → y.key ≠ (chP at_ x).key) → (∀ y, y ∈ layL l at_ c ↔ y ∈ l ∨ ∃ x, x ∈ c ∧ y = chP at_ x) ∧ (layL l at_ c).length = l.length + c.length
 | [], l, _, _ => ⟨fun y => by simp [layL], rfl⟩
 | x :: r, l, hc, hl => by
  obtain ⟨h1, h2⟩ := List.pairwise_cons.1 hc
  have hnew : ∀ y, y ∈ l → y.key ≠ (chP at_ x).key := fun y hy => hl y hy x (by simp)
  have hne : ∀ z, z ∈ r → (chP at_ x).key ≠ (chP at_ z).key := by
   intro z hz he
   have h3 := h1 z hz
   have : x.path = z.path := congrArg Ky.path he
   rw [this, bl_irrefl] at h3
   cases h3
  obtain ⟨h3, h4⟩ := layL_ok (at_ := at_) (c := r) (l := putP l (chP at_ x)) h2 (fun y hy z hz => by
   rcases putP_mem hy with rfl | hy
   ·exact hne z hz
   ·exact hl y hy z (by simp [hz]))
  refine ⟨fun y => ?_, ?_⟩
  ·show y ∈ layL (putP l (chP at_ x)) at_ r ↔ _
   rw [h3]
   constructor
   ·rintro (hy | ⟨z, hz, e⟩)
    ·rcases putP_mem hy with e | hy
     ·exact .inr ⟨x, by simp, e⟩
     ·exact .inl hy
    ·exact .inr ⟨z, by simp [hz], e⟩
   ·rintro (hy | ⟨z, hz, e⟩)
    ·exact .inl (putP_keep hy (hnew y hy))
    ·rcases List.mem_cons.1 hz with rfl | hz
     ·exact .inl (by rw [e]; exact putP_self _ _)
     ·exact .inr ⟨z, hz, e⟩
  ·show (layL (putP l (chP at_ x)) at_ r).length = _
   rw [h4, putP_new hnew, List.length_cons]
   omega
theorem maxAt_from (l : List Pr) : ∀ n : Int, n ≤ l.foldl (fun n p => max n p.key.time) n ∧ (∀ y, y ∈ l → y.key.time ≤ l.foldl (fun n p => max n p.key.time) n) ∧ (l.foldl (fun n p => max n p.key.time) n = n ∨ ∃ y, y ∈ l ∧ l.foldl (fun n p => max n p.key.time) n = y.key.time) := by
 induction l with
 | nil => intro n; exact ⟨Int.le_refl _, fun y hy => (by cases hy), .inl rfl⟩
 | cons x r ih =>
  intro n
  obtain ⟨h1, h2, h3⟩ := ih (max n x.key.time)
  simp only [List.foldl_cons]
  refine ⟨by omega, fun y hy => ?_, ?_⟩
  ·rcases List.mem_cons.1 hy with rfl | hy
   ·omega
   ·exact h2 y hy
  ·rcases h3 with h3 | ⟨y, hy, h3⟩
   ·by_cases hx : n ≤ x.key.time
    ·exact .inr ⟨x, by simp, by omega⟩
    ·exact .inl (by omega)
   ·exact .inr ⟨y, by simp [hy], h3⟩
theorem maxAt_is {l : List Pr} {n : Int} (h0 : 0 ≤ n) (h1 : ∀ y, y ∈ l → y.key.time ≤ n) (h2 : ∃ y, y ∈ l ∧ y.key.time = n) : maxAt l = n := by
 obtain ⟨a, b, c⟩ := maxAt_from l 0
 obtain ⟨y, hy, e⟩ := h2
 have h3 := b y hy
 unfold maxAt
 rcases c with c | ⟨z, hz, c⟩
 ·omega
 ·have := h1 z hz
  omega
theorem okP_parts {p : Pr} (h : okP p = true) : (readM p.val).2.2 = 0 ∧ isPathB p.key.path = true ∧ 0 ≤ p.key.time ∧ p.key.time ≤ 1000000000 ∧ p.key.path ≠ [] := by
 unfold okP isKeyB at h
 simp at h
 exact ⟨h.1.1, h.1.2.1.1, h.1.2.1.2, h.1.2.2, h.2⟩
theorem isSt_mem {l : List Pr} (h : isSt l = true) {p : Pr} (hp : p ∈ l) : okP p = true := by
 unfold isSt at h
 rw [List.all_eq_true] at h
 exact h p hp
theorem isSt_of {l : List Pr} (h : ∀ p, p ∈ l → okP p = true) : isSt l = true := by
 unfold isSt
 rw [List.all_eq_true]
 exact h
theorem isSt_okT {l : List Pr} (h : isSt l = true) : okT l := fun y hy => (okP_parts (isSt_mem h hy)).2.2.2.1
theorem may_parts {c : Ch} (h : mayB c = true) : c.path ≠ [] ∧ isPathB c.path = true ∧ isM c.meta_ = true ∧ (c.gone = true → c.meta_ = zeroMt) := by
 unfold mayB zeroB at h
 simp at h
 refine ⟨h.1.1.1, h.1.1.2, h.1.2, fun hg => ?_⟩
 rcases h.2 with h2 | h2
 ·rw [hg] at h2
  cases h2
 ·obtain ⟨⟨a, b⟩, c'⟩ := h2
  cases hm : c.meta_ with
  | mk s m l =>
   rw [hm] at a b c'
   simp only at a b c'
   rw [a, b, c']
   rfl
structure Lays (l : List Pr) (at_ : Int) (c : List Ch) : Prop where
 st : isSt l = true
 pos : 1 ≤ at_
 le : at_ ≤ 1000000000
 ne : c ≠ []
 may : ∀ x, x ∈ c → mayB x = true
 rise : RiseC c
 new : ∀ y, y ∈ l → y.key.time < at_
 last : lastL l < at_
theorem layB_parts {l : List Pr} {at_ : Int} {c : List Ch} (h : layB l at_ c = true) : Lays l at_ c := by
 unfold layB batchB at h
 simp only [Bool.and_eq_true, decide_eq_true_eq, List.all_eq_true] at h
 obtain ⟨⟨⟨⟨h1, h2⟩, h3⟩, ⟨⟨⟨h4, h5⟩, h6⟩, h7⟩⟩, h8⟩ := h
 refine ⟨h1, h2, h3, ?_, h6, h7, fun y hy => ?_, h8⟩
 ·intro e
  rw [e] at h4
  simp at h4
 ·unfold lastL at h8
  rw [if_pos h1] at h8
  have := (maxAt_from l 0).2.1 y hy
  unfold maxAt at h8
  omega
theorem lays_mem {l : List Pr} {at_ : Int} {c : List Ch} (h : Lays l at_ c) : (∀ y, y ∈ layL l at_ c ↔ y ∈ l ∨ ∃ x, x ∈ c ∧ y = chP at_ x) ∧ (layL l at_ c).length = l.length + c.length :=
 layL_ok h.rise fun y hy x hx e => by
  have := h.new y hy
  have e2 : y.key.time = at_ := congrArg Ky.time e
  omega
theorem chP_ok {l : List Pr} {at_ : Int} {c : List Ch} (h : Lays l at_ c) {x : Ch} (hx : x ∈ c) : okP (chP at_ x) = true := by
 obtain ⟨h1, h2, h3, _⟩ := may_parts (h.may x hx)
 unfold okP isKeyB chP
 simp only [(readM_value (g := x.gone) h3).2, h2]
 have := h.pos
 have := h.le
 simp
 exact ⟨⟨by omega, by omega⟩, h1⟩
theorem lays_st {l : List Pr} {at_ : Int} {c : List Ch} (h : Lays l at_ c) : isSt (layL l at_ c) = true := by
 refine isSt_of fun p hp => ?_
 rcases ((lays_mem h).1 p).1 hp with hp | ⟨x, hx, rfl⟩
 ·exact isSt_mem h.st hp
 ·exact chP_ok h hx
theorem lays_last {l : List Pr} {at_ : Int} {c : List Ch} (h : Lays l at_ c) : lastL (layL l at_ c) = at_ := by
 unfold lastL
 rw [if_pos (lays_st h)]
 obtain ⟨x, r, e⟩ := List.exists_cons_of_ne_nil h.ne
 refine maxAt_is (by have := h.pos; omega) (fun y hy => ?_) ⟨chP at_ x, ((lays_mem h).1 _).2 (.inr ⟨x, by rw [e]; simp, rfl⟩), rfl⟩
 rcases ((lays_mem h).1 y).1 hy with hy | ⟨z, hz, rfl⟩
 ·have := h.new y hy
  omega
 ·exact Int.le_refl _
theorem lays_old {l : List Pr} {at_ : Int} {c : List Ch} (h : Lays l at_ c) (hr : Rise l) (hr' : Rise (layL l at_ c)) {p : Bytes} {w : Int} (hp : w < at_ ∨ ∀ x, x ∈ c → x.path ≠ p) : atL (layL l at_ c) p w = atL l p w := by
 refine at_congr hr' (isSt_okT (lays_st h)) hr (isSt_okT h.st) fun y hyp hyw => ?_
 rw [(lays_mem h).1]
 constructor
 ·rintro (hy | ⟨x, hx, rfl⟩)
  ·exact hy
  ·exfalso
   rcases hp with hp | hp
   ·have : at_ ≤ w := hyw
    omega
   ·exact hp x hx hyp
 ·exact .inl
theorem lays_newest {l : List Pr} {at_ : Int} {c : List Ch} (h : Lays l at_ c) (hr' : Rise (layL l at_ c)) {x : Ch} (hx : x ∈ c) {w : Int} (hw : at_ ≤ w) : atL (layL l at_ c) x.path w = if x.gone = true then none else some ⟨x.path, at_, x.meta_⟩ := by
 have hb : IsBest (layL l at_ c) x.path w (chP at_ x) := by
  refine ⟨((lays_mem h).1 _).2 (.inr ⟨x, hx, rfl⟩), rfl, hw, fun y hy hyp hyw => ?_⟩
  rcases ((lays_mem h).1 y).1 hy with hy | ⟨z, hz, rfl⟩
  ·have := h.new y hy
   show _ ≤ at_
   omega
  ·exact Int.le_refl _
 rw [at_best hr' (isSt_okT (lays_st h)) hb]
 obtain ⟨_, _, h3, _⟩ := may_parts (h.may x hx)
 unfold atP
 cases hg : x.gone
 ·rw [if_pos ⟨rfl, by show (readM (valueM x.meta_ x.gone).1).2.1 = false; rw [(readM_value h3).1, hg]⟩, if_neg (by simp)]
  show some (⟨x.path, at_, (readM (valueM x.meta_ x.gone).1).1⟩ : En) = _
  rw [hg, readM_there h3]
 ·rw [if_neg, if_pos rfl]
  rintro ⟨_, h5⟩
  have h5 : (readM (valueM x.meta_ x.gone).1).2.1 = false := h5
  rw [(readM_value h3).1, hg] at h5
  cases h5
theorem layT_all {t : Tr} {at_ : Int} {c : List Ch} (h : t.all.length + c.length < 10000000) : (layT t at_ c).all = layL t.all at_ c := (layT_len c t h).2
end Go.Proofs.YtmgkebghojhocaaGreatDoor
