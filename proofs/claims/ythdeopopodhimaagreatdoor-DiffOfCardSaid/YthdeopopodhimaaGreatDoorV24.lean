/- Parts of the proof, one behind the other: RStA, SLaw, StoQ, SLawB, StD0. No further condition. -/
import Derived.Test.YthdeopopodhimaaGreatDoorV22
import Derived.Test.YthdeopopodhimaaGreatDoorV23
import Derived.Test.YthdeopopodhimaaGreatDoorV19
set_option linter.unusedVariables false
set_option linter.unusedSimpArgs false
/- Rows of the document's statements: which are more than are looked at, entries that are the same. No further condition. -/
set_option linter.unusedVariables false
set_option linter.unusedSimpArgs false
namespace Go.Proofs.YthdeopopodhimaaGreatDoor
open Go.Ab

def bigCh (c : Ch) : Bool := decide (200 < c.path.length) || decide (30 < c.meta_.ch.length)
def bigC (l : List Ch) : Bool := decide (50 < l.length) || l.any bigCh
theorem bigC_no {l : List Ch} (h : bigC l = false) : l.length ≤ 50 ∧ ∀ c, c ∈ l → c.path.length ≤ 200 ∧ c.meta_.ch.length ≤ 30 := by
  unfold bigC bigCh at h
  simp only [Bool.or_eq_false_iff, decide_eq_false_iff_not, List.any_eq_false, Bool.or_eq_true, decide_eq_true_eq, not_or] at h
  exact ⟨by omega, fun p hp => by have := h.2 p hp; omega⟩
set_option maxRecDepth 100000 in
set_option maxHeartbeats 8000000 in
theorem bigC_ok (l : List Ch) (tg : Tag) (hl : l.length < 4611686018427387904) : APure Tryz.prog 64 [chA l tg] (.bool (bigC l)) := by
  intro M
  refine acalls_of tabOK Tryz.func64 rfl (by decide) (by simp [Tryz.f64]) ?_
  have la := len_map Ch.av l
  unfold bigC chA
  by_cases h80 : 50 < l.length
  · have d1 : decide ((0 : Int) < (l.length : Int)) = true := by simp; omega
    have d2 : decide ((l.length : Int) ≤ 50) = false := by simp; omega
    have d3 : decide ((50 : Int) < (l.length : Int)) = true := by simp; omega
    have e : decide (50 < l.length) = true := by simp [h80]
    rw [e]
    repeat' (first | refine DW_VB tabs rfl (by first | exact d1 | exact d2) ?_ | refine DW_VI tabs rfl la ?_ | refine DW_A tabs rfl ?_ | refine DW_nil ?_ | refine W_A rfl ?_)
    refine W_count 0 (fun i f N => N = M ∧ f = ⟨[(0, .sl 5 (l.map Ch.av) tg), (3, .int .i64 (i : Int))], []⟩) (Nat.zero_le _) ⟨rfl, rfl⟩ (Joint.le ?_ (Mem.le_refl _)) ?_
    · skip
      repeat (refine AF.le_cons rfl ?_)
      exact AF.le_nil rfl
    rintro i f N hi ⟨rfl, rfl⟩
    obtain rfl : i = 0 := by omega
    repeat' (first | refine DW_VB tabs rfl (by first | exact d1 | exact d2 | exact d3) ?_ | refine DW_VI tabs rfl la ?_ | refine DW_A tabs rfl ?_ | refine DW_nil ?_ | refine W_A rfl ?_)
    exact ⟨rfl, _, rfl, rfl, rfl⟩
  · have d2 : decide ((l.length : Int) ≤ 50) = true := by simp; omega
    have d3 : decide ((50 : Int) < (l.length : Int)) = false := by simp; omega
    have e : decide (50 < l.length) = false := by simp; omega
    rw [e, Bool.false_or]
    repeat' (first | refine DW_VB tabs rfl d2 ?_ | refine DW_VI tabs rfl la ?_ | refine DW_A tabs rfl ?_ | refine DW_nil ?_ | refine W_A rfl ?_)
    refine W_count l.length (fun i f N => N = M ∧ ((l.take i).any bigCh = false) ∧ f = ⟨[(0, .sl 5 (l.map Ch.av) tg), (3, .int .i64 (i : Int))], []⟩) (Nat.zero_le _) ⟨rfl, by simp, rfl⟩ (Joint.le ?_ (Mem.le_refl _)) ?_
    · skip
      repeat (refine AF.le_cons rfl ?_)
      exact AF.le_nil rfl
    rintro i f N hi ⟨rfl, hinv, rfl⟩
    by_cases h1 : i < l.length
    · have d1 : decide ((i : Int) < (l.length : Int)) = true := by simp; omega
      have hx : l[i]? = some l[i] := List.getElem?_eq_getElem h1
      have fi := wrap_succ (i := i) (by omega)
      have ht := take_succ hx
      have hm := List.getElem_mem h1
      generalize l[i] = x at hx ht hm
      have e2 : (l.take (i + 1)).any bigCh = bigCh x := by rw [ht, List.any_append, hinv]; simp
      have hs : bigCh x = true → l.any bigCh = true := fun h => List.any_eq_true.2 ⟨x, List.mem_of_getElem? hx, h⟩
      have lx := len_map (fun n => AV.int .i64 n) x.meta_.ch
      unfold bigCh at hs e2
      by_cases h5 : 200 < x.path.length
      · have d5 : decide ((200 : Int) < (x.path.length : Int)) = true := by simp; omega
        rw [show l.any bigCh = true from hs (by simp [h5])]
        repeat' (first | refine DW_VB tabs rfl (by first | exact d1 | exact d2 | exact d5) ?_ | refine DW_VI tabs rfl (by first | exact la | exact fi) ?_ | refine DW_A tabs rfl ?_ | refine DW_nil ?_ | refine W_A rfl ?_ | refine DW_ix tabOK rfl (ixN hx) ?_)
        exact ⟨rfl, _, rfl, rfl, rfl⟩
      · have d5 : decide ((200 : Int) < (x.path.length : Int)) = false := by simp; omega
        by_cases h6 : 30 < x.meta_.ch.length
        · have d6 : decide ((30 : Int) < (x.meta_.ch.length : Int)) = true := by simp; omega
          rw [show l.any bigCh = true from hs (by simp [h6])]
          repeat' (first | refine DW_VB tabs rfl (by first | exact d1 | exact d2 | exact d5 | exact d6) ?_ | refine DW_VI tabs rfl (by first | exact la | exact lx | exact fi) ?_ | refine DW_A tabs rfl ?_ | refine DW_nil ?_ | refine W_A rfl ?_ | refine DW_ix tabOK rfl (ixN hx) ?_)
          exact ⟨rfl, _, rfl, rfl, rfl⟩
        · have d6 : decide ((30 : Int) < (x.meta_.ch.length : Int)) = false := by simp; omega
          repeat' (first | refine DW_VB tabs rfl (by first | exact d1 | exact d2 | exact d5 | exact d6) ?_ | refine DW_VI tabs rfl (by first | exact la | exact lx | exact fi) ?_ | refine DW_A tabs rfl ?_ | refine DW_nil ?_ | refine W_A rfl ?_ | refine DW_ix tabOK rfl (ixN hx) ?_)
          refine ⟨h1, _, _, ⟨rfl, by rw [show bigCh = (fun c => decide (200 < c.path.length) || decide (30 < c.meta_.ch.length)) from rfl, e2]; simp [h5, h6], rfl⟩, Joint.le ?_ (Mem.le_refl _)⟩
          repeat (refine AF.le_cons rfl ?_)
          exact AF.le_nil rfl
    · have d1 : decide ((i : Int) < (l.length : Int)) = false := by simp; omega
      obtain rfl : i = l.length := by omega
      rw [take_all] at hinv
      rw [hinv]
      repeat' (first | refine DW_VB tabs rfl (by first | exact d1 | exact d2 | exact d3) ?_ | refine DW_VI tabs rfl la ?_ | refine DW_A tabs rfl ?_ | refine DW_nil ?_ | refine W_A rfl ?_)
      exact ⟨rfl, _, rfl, rfl, rfl⟩

structure Ld where
  at_ : Int
  batch : List Ch
def Ld.av (x : Ld) : AV := .agg [.int .i64 x.at_, chA x.batch .none]
theorem closed_ldc (x : Ld) : ∀ c, c ∈ x.av.cells → Closed c := by
  intro c hc
  have : c ∈ [AV.int .i64 x.at_, chA x.batch .none] := hc
  exact closed2 closed_int (closed_chs _ (.inl rfl)) c this
theorem closed_ld (x : Ld) : Closed x.av := closed_agg (closed_ldc x)
theorem lds_cells (l : List Ld) : ∀ x, x ∈ l.map Ld.av → ∀ c, c ∈ x.cells → Closed c := by
  intro x hx
  obtain ⟨p, _, rfl⟩ := List.mem_map.1 hx
  exact closed_ldc p
def ldA (l : List Ld) (t : Tag) : AV := .sl 2 (l.map Ld.av) t
theorem closed_lds (l : List Ld) {t : Tag} (ht : t = .none ∨ t = .full) : Closed (ldA l t) := closed_sl ht (fun x hx => by obtain ⟨p, _, rfl⟩ := List.mem_map.1 hx; exact closed_ld p) (lds_cells l)
def ldsB (l : List Ld) : Prop := l.length < 4611686018427387904 ∧ ∀ x, x ∈ l → x.batch.length < 4611686018427387904
def bigLd (x : Ld) : Bool := bigC x.batch || decide (25 < x.batch.length)
def bigL (l : List Ld) : Bool := decide (20 < l.length) || l.any bigLd
theorem bigL_no {l : List Ld} (h : bigL l = false) : l.length ≤ 20 ∧ ∀ x, x ∈ l → x.batch.length ≤ 25 ∧ ∀ c, c ∈ x.batch → c.path.length ≤ 200 ∧ c.meta_.ch.length ≤ 30 := by
  unfold bigL bigLd at h
  simp only [Bool.or_eq_false_iff, decide_eq_false_iff_not, List.any_eq_false, Bool.or_eq_true, decide_eq_true_eq, not_or] at h
  exact ⟨by omega, fun p hp => by
    have := h.2 p hp
    exact ⟨by omega, (bigC_no (by simpa using this.1)).2⟩⟩
set_option maxRecDepth 100000 in
set_option maxHeartbeats 8000000 in
theorem bigL_ok (l : List Ld) (tg : Tag) (hl : l.length < 4611686018427387904) (hib : ∀ x, x ∈ l → x.batch.length < 4611686018427387904) : APure Tryz.prog 30 [ldA l tg] (.bool (bigL l)) := by
  intro M
  refine acalls_of tabOK Tryz.func30 rfl (by decide) (by simp [Tryz.f30]) ?_
  have la := len_map Ld.av l
  unfold bigL ldA
  by_cases h80 : 20 < l.length
  · have d1 : decide ((0 : Int) < (l.length : Int)) = true := by simp; omega
    have d2 : decide ((l.length : Int) ≤ 20) = false := by simp; omega
    have d3 : decide ((20 : Int) < (l.length : Int)) = true := by simp; omega
    have e : decide (20 < l.length) = true := by simp [h80]
    rw [e]
    repeat' (first | refine DW_VB tabs rfl (by first | exact d1 | exact d2) ?_ | refine DW_VI tabs rfl la ?_ | refine DW_A tabs rfl ?_ | refine DW_nil ?_ | refine W_A rfl ?_)
    refine W_count 0 (fun i f N => N = M ∧ f = ⟨[(0, .sl 2 (l.map Ld.av) tg), (3, .int .i64 (i : Int))], []⟩) (Nat.zero_le _) ⟨rfl, rfl⟩ (Joint.le ?_ (Mem.le_refl _)) ?_
    · skip
      repeat (refine AF.le_cons rfl ?_)
      exact AF.le_nil rfl
    rintro i f N hi ⟨rfl, rfl⟩
    obtain rfl : i = 0 := by omega
    repeat' (first | refine DW_VB tabs rfl (by first | exact d1 | exact d2 | exact d3) ?_ | refine DW_VI tabs rfl la ?_ | refine DW_A tabs rfl ?_ | refine DW_nil ?_ | refine W_A rfl ?_)
    exact ⟨rfl, _, rfl, rfl, rfl⟩
  · have d2 : decide ((l.length : Int) ≤ 20) = true := by simp; omega
    have d3 : decide ((20 : Int) < (l.length : Int)) = false := by simp; omega
    have e : decide (20 < l.length) = false := by simp; omega
    rw [e, Bool.false_or]
    repeat' (first | refine DW_VB tabs rfl d2 ?_ | refine DW_VI tabs rfl la ?_ | refine DW_A tabs rfl ?_ | refine DW_nil ?_ | refine W_A rfl ?_)
    refine W_count l.length (fun i f N => N = M ∧ ((l.take i).any bigLd = false) ∧ f = ⟨[(0, .sl 2 (l.map Ld.av) tg), (3, .int .i64 (i : Int))], []⟩) (Nat.zero_le _) ⟨rfl, by simp, rfl⟩ (Joint.le ?_ (Mem.le_refl _)) ?_
    · skip
      repeat (refine AF.le_cons rfl ?_)
      exact AF.le_nil rfl
    rintro i f N hi ⟨rfl, hinv, rfl⟩
    by_cases h1 : i < l.length
    · have d1 : decide ((i : Int) < (l.length : Int)) = true := by simp; omega
      have hx : l[i]? = some l[i] := List.getElem?_eq_getElem h1
      have fi := wrap_succ (i := i) (by omega)
      have ht := take_succ hx
      have hm := List.getElem_mem h1
      generalize l[i] = x at hx ht hm
      have e2 : (l.take (i + 1)).any bigLd = bigLd x := by rw [ht, List.any_append, hinv]; simp
      have hs : bigLd x = true → l.any bigLd = true := fun h => List.any_eq_true.2 ⟨x, List.mem_of_getElem? hx, h⟩
      have lx := len_map Ch.av x.batch
      have kx := bigC_ok x.batch .none (hib x (List.mem_of_getElem? hx))
      unfold bigLd at hs e2
      unfold chA at kx
      cases h5 : bigC x.batch
      · rw [h5] at kx
        by_cases h6 : 25 < x.batch.length
        · have d6 : decide ((25 : Int) < (x.batch.length : Int)) = true := by simp; omega
          rw [show l.any bigLd = true from hs (by simp [h6])]
          repeat' (first | refine DW_VB tabs rfl (by first | exact d1 | exact d2 | exact d6) ?_ | refine DW_VI tabs rfl (by first | exact la | exact lx | exact fi) ?_ | refine DW_A tabs rfl ?_ | refine DW_nil ?_ | refine W_A rfl ?_ | refine DW_C rfl kx ?_ | refine DW_ix tabOK rfl (ixN hx) ?_)
          exact ⟨rfl, _, rfl, rfl, rfl⟩
        · have d6 : decide ((25 : Int) < (x.batch.length : Int)) = false := by simp; omega
          repeat' (first | refine DW_VB tabs rfl (by first | exact d1 | exact d2 | exact d6) ?_ | refine DW_VI tabs rfl (by first | exact la | exact lx | exact fi) ?_ | refine DW_A tabs rfl ?_ | refine DW_nil ?_ | refine W_A rfl ?_ | refine DW_C rfl kx ?_ | refine DW_ix tabOK rfl (ixN hx) ?_)
          refine ⟨h1, _, _, ⟨rfl, by rw [show bigLd = (fun x => bigC x.batch || decide (25 < x.batch.length)) from rfl, e2]; simp [h5, h6], rfl⟩, Joint.le ?_ (Mem.le_refl _)⟩
          repeat (refine AF.le_cons rfl ?_)
          exact AF.le_nil rfl
      · rw [h5] at kx
        rw [show l.any bigLd = true from hs (by simp [h5])]
        repeat' (first | refine DW_VB tabs rfl (by first | exact d1 | exact d2) ?_ | refine DW_VI tabs rfl (by first | exact la | exact fi) ?_ | refine DW_A tabs rfl ?_ | refine DW_nil ?_ | refine W_A rfl ?_ | refine DW_C rfl kx ?_ | refine DW_ix tabOK rfl (ixN hx) ?_)
        exact ⟨rfl, _, rfl, rfl, rfl⟩
    · have d1 : decide ((i : Int) < (l.length : Int)) = false := by simp; omega
      obtain rfl : i = l.length := by omega
      rw [take_all] at hinv
      rw [hinv]
      repeat' (first | refine DW_VB tabs rfl (by first | exact d1 | exact d2 | exact d3) ?_ | refine DW_VI tabs rfl la ?_ | refine DW_A tabs rfl ?_ | refine DW_nil ?_ | refine W_A rfl ?_)
      exact ⟨rfl, _, rfl, rfl, rfl⟩

theorem en_eq {a b : En} : a = b ↔ a.path = b.path ∧ a.time = b.time ∧ a.meta_ = b.meta_ := by
  obtain ⟨p, t, m⟩ := a
  obtain ⟨q, u, n⟩ := b
  simp
def shortE (x : En) : Prop := x.meta_.ch.length < 1000000
set_option maxRecDepth 100000 in
set_option maxHeartbeats 8000000 in
theorem sameEn_ok (a b : En) (ha : shortE a) (hb : shortE b) : APure Tryz.prog 40 [a.av, b.av] (.bool (decide (a = b))) := by
  intro M
  refine acalls_of tabOK Tryz.func40 rfl (by decide) (by simp [Tryz.f40]) ?_
  have k := rmSame_ok a.meta_ b.meta_ ha hb
  cases d1 : a.path == b.path
  · rw [decide_eq_false (p := a = b) (by rintro rfl; simp at d1)]
    repeat' (first | refine DW_VB tabs rfl d1 ?_ | refine DW_A tabs rfl ?_ | refine DW_nil ?_ | refine W_A rfl ?_)
    exact ⟨rfl, _, rfl, rfl, rfl⟩
  · cases d2 : decide (a.time = b.time)
    · rw [decide_eq_false (p := a = b) (by rintro rfl; simp at d2)]
      repeat' (first | refine DW_VB tabs rfl (by first | exact d1 | exact d2) ?_ | refine DW_A tabs rfl ?_ | refine DW_nil ?_ | refine W_A rfl ?_)
      exact ⟨rfl, _, rfl, rfl, rfl⟩
    · have e : decide (a = b) = decide (a.meta_ = b.meta_) := by
        rw [decide_eq_decide, en_eq]
        simp at d1 d2
        simp [d1, d2]
      rw [e]
      repeat' (first | refine DW_VB tabs rfl (by first | exact d1 | exact d2) ?_ | refine DW_A tabs rfl ?_ | refine DW_nil ?_ | refine W_A rfl ?_ | refine DW_C rfl k ?_)
      exact ⟨rfl, _, rfl, rfl, rfl⟩
set_option maxRecDepth 100000 in
set_option maxHeartbeats 8000000 in
theorem sameEs_ok (a b : List En) (ta tb : Tag) (ha : a.length < 1000000) (hb : b.length < 1000000) (sa : ∀ x, x ∈ a → shortE x) (sb : ∀ x, x ∈ b → shortE x) : APure Tryz.prog 41 [ensA a ta, ensA b tb] (.bool (decide (a = b))) := by
  intro M
  refine acalls_of tabOK Tryz.func41 rfl (by decide) (by simp [Tryz.f41]) ?_
  have la := len_map En.av a
  have lb := len_map En.av b
  unfold ensA
  by_cases hl : a.length = b.length
  · have d0 : (!decide ((a.length : Int) = (b.length : Int))) = false := by simp; omega
    repeat' (first | refine DW_VB tabs rfl d0 ?_ | refine DW_VI tabs rfl (by first | exact la | exact lb) ?_ | refine DW_A tabs rfl ?_ | refine DW_nil ?_ | refine W_A rfl ?_ | refine W_draw mixed [0, 1, 4, 5, 2, 3, 6, 7, 8, 9] [.P, .P, .R, .R, .P, .P, .R, .R, .P, .P] rfl rfl (by kernel_rfl) ?_)
    refine W_count a.length (fun i f N => N = M ∧ (a.take i = b.take i) ∧ f = ⟨[(0, .sl 5 (a.map En.av) ta), (1, .sl 5 (b.map En.av) tb), (5, .int .i64 (i : Int))], []⟩) (Nat.zero_le _) ⟨rfl, by simp, rfl⟩ (Joint.le ?_ (Mem.le_refl _)) ?_
    · skip
      repeat (refine AF.le_cons rfl ?_)
      exact AF.le_nil rfl
    rintro i f N hi ⟨rfl, hinv, rfl⟩
    by_cases h1 : i < a.length
    · have d1 : decide ((i : Int) < (a.length : Int)) = true := by simp; omega
      have hx : a[i]? = some a[i] := List.getElem?_eq_getElem h1
      have fi := wrap_succ (i := i) (by omega)
      have ht := take_succ hx
      have hm := List.getElem_mem h1
      generalize a[i] = x at hx ht hm
      have hy : b[i]? = some b[i] := List.getElem?_eq_getElem (by omega)
      have hu := take_succ hy
      generalize b[i] = y at hy hu
      have kx := sameEn_ok x y (sa x (List.mem_of_getElem? hx)) (sb y (List.mem_of_getElem? hy))
      by_cases h3 : x = y
      · rw [decide_eq_true h3] at kx
        repeat' (first | refine DW_VB tabs rfl d1 ?_ | refine DW_VI tabs rfl (by first | exact fi | exact la | exact lb) ?_ | refine DW_A tabs rfl ?_ | refine DW_nil ?_ | refine W_A rfl ?_ | refine DW_C rfl kx ?_ | refine DW_ix tabOK rfl (ixN hx) ?_ | refine DW_ix tabOK rfl (ixN hy) ?_ | refine W_draw mixed [0, 1, 4, 5, 2, 3, 6, 7, 8, 9] [.P, .P, .R, .R, .P, .P, .R, .R, .P, .P] rfl rfl (by kernel_rfl) ?_)
        refine ⟨h1, _, _, ⟨rfl, by rw [ht, hu, hinv, h3], rfl⟩, Joint.le ?_ (Mem.le_refl _)⟩
        repeat (refine AF.le_cons rfl ?_)
        exact AF.le_nil rfl
      · rw [decide_eq_false h3] at kx
        have e : decide (a = b) = false := by
          refine decide_eq_false fun e => h3 ?_
          subst e
          rw [hx] at hy
          cases hy
          rfl
        rw [e]
        repeat' (first | refine DW_VB tabs rfl d1 ?_ | refine DW_VI tabs rfl (by first | exact fi | exact la | exact lb) ?_ | refine DW_A tabs rfl ?_ | refine DW_nil ?_ | refine W_A rfl ?_ | refine DW_C rfl kx ?_ | refine DW_ix tabOK rfl (ixN hx) ?_ | refine DW_ix tabOK rfl (ixN hy) ?_ | refine W_draw mixed [0, 1, 4, 5, 2, 3, 6, 7, 8, 9] [.P, .P, .R, .R, .P, .P, .R, .R, .P, .P] rfl rfl (by kernel_rfl) ?_)
        exact ⟨rfl, _, rfl, rfl, rfl⟩
    · have d1 : decide ((i : Int) < (a.length : Int)) = false := by simp; omega
      obtain rfl : i = a.length := by omega
      rw [take_all, hl, take_all] at hinv
      have e : decide (a = b) = true := by simp [hinv]
      rw [e]
      repeat' (first | refine DW_VB tabs rfl d1 ?_ | refine DW_VI tabs rfl la ?_ | refine DW_A tabs rfl ?_ | refine DW_nil ?_ | refine W_A rfl ?_ | refine W_draw mixed [0, 1, 4, 5, 2, 3, 6, 7, 8, 9] [.P, .P, .R, .R, .P, .P, .R, .R, .P, .P] rfl rfl (by kernel_rfl) ?_)
      exact ⟨rfl, _, rfl, rfl, rfl⟩
  · have d0 : (!decide ((a.length : Int) = (b.length : Int))) = true := by simp; omega
    have e : decide (a = b) = false := decide_eq_false fun e => hl (by rw [e])
    rw [e]
    repeat' (first | refine DW_VB tabs rfl d0 ?_ | refine DW_VI tabs rfl (by first | exact la | exact lb) ?_ | refine DW_A tabs rfl ?_ | refine DW_nil ?_ | refine W_A rfl ?_ | refine W_draw mixed [0, 1, 4, 5, 2, 3, 6, 7, 8, 9] [.P, .P, .R, .R, .P, .P, .R, .R, .P, .P] rfl rfl (by kernel_rfl) ?_)
    exact ⟨rfl, _, rfl, rfl, rfl⟩
end Go.Proofs.YthdeopopodhimaaGreatDoor

/- Batches laid one behind the other. No further condition. -/
set_option linter.unusedVariables false
set_option linter.unusedSimpArgs false
namespace Go.Proofs.YthdeopopodhimaaGreatDoor
open Go.Ab

theorem openE_lit {l : List Pr} : True := trivial
def sizedC (p : Bytes) (n : Int) : Ch := ⟨p, false, ⟨n, 0, []⟩⟩
/-- One that has no row of chunks: a nil one. -/
def sizedA (p : Bytes) (n : Int) : AV := .agg [.str p, .bool false, .int .i64 n, .int .i64 0, .sl 0 [] .full]
theorem closed_sizedA (p : Bytes) (n : Int) : Closed (sizedA p n) := closed_agg (by
  intro x hx
  simp at hx
  rcases hx with rfl | rfl | rfl | rfl | rfl
  · exact closed_str
  · exact closed_bool
  · exact closed_int
  · exact closed_int
  · exact closed_sl (.inr rfl) (by simp) (by simp))
theorem sub_sizedA {p : Bytes} {n : Int} : Sub (sizedA p n) (sizedC p n).av := Sub.aggL ⟨Sub.refl, Sub.refl, Sub.refl, Sub.refl, Sub.nil, trivial⟩
set_option maxRecDepth 100000 in
set_option maxHeartbeats 8000000 in
theorem sized_ok (p : Bytes) (n : Int) : APure Tryz.prog 80 [.str p, .int .i64 n] (sizedC p n).av := by
  refine pure_sub (closed2 closed_str closed_int) (closed_ch _) ?_
  refine acalls_of tabOK Tryz.func80 rfl (by decide) (by simp [Tryz.f80]) ?_
  repeat' (first | refine DW_A tabs rfl ?_ | refine DW_nil ?_ | refine W_A rfl ?_)
  exact ⟨rfl, _, rfl, _, rfl, SubC.pre sub_sizedA (SubC.of_closed (closed_ch _))⟩

/-- A store of batches, and those that were laid. -/
noncomputable def laidS : List Ld → Tr × List Ld
  | l => l.foldl (fun (s : Tr × List Ld) x => if layB s.1.all x.at_ x.batch = true then (layT s.1 x.at_ x.batch, s.2 ++ [x]) else s) (nilT, [])
theorem laidS_step {l : List Ld} {i : Nat} {x : Ld} (ht : l.take (i + 1) = l.take i ++ [x]) : laidS (l.take (i + 1)) = if layB (laidS (l.take i)).1.all x.at_ x.batch = true then (layT (laidS (l.take i)).1 x.at_ x.batch, (laidS (l.take i)).2 ++ [x]) else laidS (l.take i) := by
  unfold laidS
  rw [ht, List.foldl_append]
  rfl
def smallL (l : List Ld) : Prop := ∀ x, x ∈ l → x.batch.length ≤ 25 ∧ ∀ c, c ∈ x.batch → c.path.length ≤ 200 ∧ c.meta_.ch.length ≤ 30
theorem valueM_len (m : Mt) (no : Bool) (h : m.ch.length ≤ 30) : (valueM m no).1.length < 1000 := by
  unfold valueM putM
  split
  · simp
  · split
    · split
      · have := catN_len (mtL m)
        have hl : (mtL m).length = 3 + m.ch.length := by simp [mtL]; omega
        simp
        omega
      · simp
    · simp
theorem foldP_mem {at_ : Int} : ∀ (c : List Ch) (l : List Pr) (p : Pr), p ∈ c.foldl (fun l x => putP l (chP at_ x)) l → p ∈ l ∨ ∃ x, x ∈ c ∧ p = chP at_ x
  | [], l, p, h => .inl h
  | x :: r, l, p, h => by
    rcases foldP_mem r (putP l (chP at_ x)) p h with h | ⟨y, hy, e⟩
    · rcases putP_mem h with rfl | h
      · exact .inr ⟨x, by simp, rfl⟩
      · exact .inl h
    · exact .inr ⟨y, by simp [hy], e⟩
/-- What is laid in small batches stays small. -/
def okS (t : Tr) (n : Nat) : Prop := t.all.length ≤ n ∧ ∀ p, p ∈ t.all → p.key.path.length ≤ 200 ∧ p.val.length < 1000
theorem okS_lay {t : Tr} {n : Nat} {at_ : Int} {c : List Ch} (h : okS t n) (hn : n < 100000) (hl : c.length ≤ 25) (hc : ∀ x, x ∈ c → x.path.length ≤ 200 ∧ x.meta_.ch.length ≤ 30) : okS (layT t at_ c) (n + 25) := by
  have h1 := layT_len (at_ := at_) c t (by have := h.1; omega)
  refine ⟨by have := h.1; omega, fun p hp => ?_⟩
  rw [h1.2] at hp
  rcases foldP_mem c _ p hp with hp | ⟨x, hx, rfl⟩
  · exact h.2 p hp
  · exact ⟨(hc x hx).1, valueM_len _ _ (hc x hx).2⟩
theorem okS.vals {t : Tr} {n : Nat} (h : okS t n) : valsB t.all := fun p hp => by have := h.2 p hp; omega
theorem laidS_ok {l : List Ld} (hs : smallL l) : ∀ i, i ≤ l.length → i ≤ 20 → okS (laidS (l.take i)).1 (25 * i) ∧ (laidS (l.take i)).2.length ≤ i ∧ ∀ x, x ∈ (laidS (l.take i)).2 → x ∈ l
  | 0, _, _ => ⟨⟨Nat.le_refl 0, fun p hp => by cases hp⟩, Nat.le_refl 0, fun x hx => by cases hx⟩
  | i + 1, h, h20 => by
    obtain ⟨h1, h2, h3⟩ := laidS_ok hs i (by omega) (by omega)
    have hx : l[i]? = some l[i] := List.getElem?_eq_getElem (by omega)
    have hm := List.getElem_mem (show i < l.length by omega)
    rw [laidS_step (take_succ hx)]
    split
    · have hb := hs _ hm
      refine ⟨okS_lay (n := 25 * i) h1 (by omega) hb.1 hb.2, by simp; omega, fun x hx => ?_⟩
      rcases List.mem_append.1 hx with hx | hx
      · exact h3 x hx
      · simp at hx
        rw [hx]
        exact hm
    · exact ⟨⟨by have := h1.1; omega, h1.2⟩, by omega, h3⟩
noncomputable def lwF (l : List Ld) (tg : Tag) (i g : Nat) : AF := ⟨[(0, ldA l tg), (4, (laidS (l.take i)).1.av), (5, ldA (laidS (l.take i)).2 (.tok 0 g)), (6, .int .i64 (i : Int))], []⟩
noncomputable def lwA (l : List Ld) : AV := .tup [(laidS l).1.av, ldA (laidS l).2 .none]
theorem closed_lwA (l : List Ld) : Closed (lwA l) := closed_tup (closed2 (closed_tr _) (closed_lds _ (.inl rfl)))
set_option maxRecDepth 100000 in
set_option maxHeartbeats 8000000 in
theorem laid_ok (l : List Ld) (tg : Tag) (htg : tg = .none ∨ tg = .full) (hl : l.length ≤ 20) (hs : smallL l) : APure Tryz.prog 47 [ldA l tg] (lwA l) := by
  refine pure_sub (closed1 (closed_lds l htg)) (closed_lwA l) ?_
  refine acalls_of tabOK Tryz.func47 rfl (by decide) (by simp [Tryz.f47]) ?_
  have kn := new_ok
  have la := len_map Ld.av l
  unfold Tr.av at kn
  unfold ldA
  repeat' (first | refine DW_VI tabs rfl la ?_ | refine DW_A tabs rfl ?_ | refine DW_nil ?_ | refine W_A rfl ?_ | refine DW_C rfl kn ?_ | refine DW_nilc tabOK rfl ?_ | refine DW_row tabOK rfl ?_ | refine DW_app tabOK rfl rfl (by simp; omega) (by simp; omega) ?_ | refine DW_app0 tabOK rfl (by simp; omega) (by simp; omega) ?_ | refine W_draw mixed [0, 1, 2, 6, 7, 3, 4, 5, 8, 9, 10, 11, 12, 13, 14, 15, 16] [.P, .P, .P, .R, .R, .R, .P, .P, .R, .R, .R, .P, .P, .P, .P, .P, .P] rfl rfl (by kernel_rfl) ?_)
  refine W_count l.length (fun i f N => ∃ g, N = tokM g ∧ f = lwF l tg i g) (Nat.zero_le _) ⟨0, rfl, rfl⟩ ((Joint.tok 5 rfl (sz' := 2) (.inr rfl)).trans (Joint.le ?_ (tokM_of rfl rfl))) ?_
  · unfold lwF ldA
    repeat (refine AF.le_cons rfl ?_)
    exact AF.le_nil rfl
  rintro i f N hi ⟨g, rfl, rfl⟩
  unfold lwF ldA
  by_cases h1 : i < l.length
  · have d1 : decide ((i : Int) < (l.length : Int)) = true := by simp; omega
    have hx : l[i]? = some l[i] := List.getElem?_eq_getElem h1
    have fi := wrap_succ (i := i) (by omega)
    have ht := take_succ hx
    have hb := hs _ (List.getElem_mem h1)
    generalize l[i] = x at hx ht hb
    obtain ⟨q1, q2, q3⟩ := laidS_ok hs i (by omega) (by omega)
    have kl := lay_ok (laidS (l.take i)).1 x.at_ x.batch .none (.inl rfl) (by have := q1.1; omega) q1.vals (fun c hc => by have := hb.2 c hc; exact ⟨by omega, by omega⟩)
    have hst := laidS_step ht
    generalize hS : laidS (l.take i) = S at *
    obtain ⟨u, took⟩ := S
    have lt := len_map Ld.av took
    have q2' : took.length ≤ i := q2
    unfold layA at kl
    have hu := closed_tr u
    cases hb2 : layB u.all x.at_ x.batch
    · rw [if_neg (by simp [hb2])] at kl hst
      unfold Tr.av chA at kl
      unfold Tr.av
      repeat' (first | refine DW_VB tabs rfl d1 ?_ | refine DW_VI tabs rfl (by first | exact la | exact fi) ?_ | refine DW_A tabs rfl ?_ | refine DW_nil ?_ | refine W_A rfl ?_ | refine DW_C rfl kl ?_ | refine DW_ix tabOK rfl (ixN hx) ?_ | refine DW_nilc tabOK rfl ?_ | refine DW_row tabOK rfl ?_ | refine DW_app tabOK rfl rfl (by simp; omega) (by simp; omega) ?_ | refine DW_app0 tabOK rfl (by simp; omega) (by simp; omega) ?_ | refine W_draw mixed [0, 1, 2, 6, 7, 3, 4, 5, 8, 9, 10, 11, 12, 13, 14, 15, 16] [.P, .P, .P, .R, .R, .R, .P, .P, .R, .R, .R, .P, .P, .P, .P, .P, .P] rfl rfl (by kernel_rfl) ?_)
      refine ⟨h1, lwF l tg (i + 1) g, tokM g, ⟨g, rfl, rfl⟩, ?_⟩
      unfold lwF
      rw [hst]
      refine Joint.le ?_ (tokM_of rfl rfl)
      unfold Tr.av ldA
      repeat (refine AF.le_cons rfl ?_)
      exact AF.le_nil rfl
    · rw [if_pos hb2] at kl hst
      have hv := closed_tr (layT u x.at_ x.batch)
      unfold chA at kl
      generalize hV : layT u x.at_ x.batch = v at *
      unfold Tr.av at kl ⊢
      repeat' (first | refine DW_VB tabs rfl d1 ?_ | refine DW_VI tabs rfl (by first | exact la | exact lt | exact fi) ?_ | refine DW_A tabs rfl ?_ | refine DW_nil ?_ | refine W_A rfl ?_ | refine DW_C rfl kl ?_ | refine DW_ix tabOK rfl (ixN hx) ?_ | refine DW_nilc tabOK rfl ?_ | refine DW_row tabOK rfl ?_ | refine DW_app tabOK rfl rfl (by simp; omega) (by simp; omega) ?_ | refine DW_app0 tabOK rfl (by simp; omega) (by simp; omega) ?_ | refine W_draw mixed [0, 1, 2, 6, 7, 3, 4, 5, 8, 9, 10, 11, 12, 13, 14, 15, 16] [.P, .P, .P, .R, .R, .R, .P, .P, .R, .R, .R, .P, .P, .P, .P, .P, .P] rfl rfl (by kernel_rfl) ?_)
      refine ⟨h1, lwF l tg (i + 1) (g + 1), tokM (g + 1), ⟨g + 1, rfl, rfl⟩, ?_⟩
      unfold lwF
      rw [hst]
      refine Joint.le ?_ (tokM_of rfl rfl)
      have e : AV.sl 2 ((took ++ [x]).map Ld.av) (.tok 0 (g + 1)) = .sl 2 (took.map Ld.av ++ [x.av]) (.tok 0 (g + 1)) := by simp
      unfold ldA
      rw [e]
      unfold Tr.av
      repeat (refine AF.le_cons rfl ?_)
      exact AF.le_nil rfl
  · have d1 : decide ((i : Int) < (l.length : Int)) = false := by simp; omega
    obtain rfl : i = l.length := by omega
    rw [List.take_length]
    have hu := closed_tr (laidS l).1
    have hw := closed_lds (laidS l).2 (t := .none) (.inl rfl)
    unfold lwA
    generalize laidS l = S at *
    obtain ⟨u, took⟩ := S
    unfold Tr.av
    repeat' (first | refine DW_VB tabs rfl d1 ?_ | refine DW_VI tabs rfl la ?_ | refine DW_A tabs rfl ?_ | refine DW_nil ?_ | refine W_A rfl ?_ | refine DW_nilc tabOK rfl ?_ | refine DW_row tabOK rfl ?_ | refine DW_app tabOK rfl rfl (by simp; omega) (by simp; omega) ?_ | refine DW_app0 tabOK rfl (by simp; omega) (by simp; omega) ?_ | refine W_draw mixed [0, 1, 2, 6, 7, 3, 4, 5, 8, 9, 10, 11, 12, 13, 14, 15, 16] [.P, .P, .P, .R, .R, .R, .P, .P, .R, .R, .R, .P, .P, .P, .P, .P, .P] rfl rfl (by kernel_rfl) ?_)
    exact ⟨rfl, _, rfl, _, rfl, SubC.tup2 (SubC.of_closed hu) (SubC.untag hw)⟩
end Go.Proofs.YthdeopopodhimaaGreatDoor

/- Stores of batches: what was laid last is told. No further condition. -/
set_option linter.unusedVariables false
set_option linter.unusedSimpArgs false
namespace Go.Proofs.YthdeopopodhimaaGreatDoor
open Go.Ab

def lastAt (l : List Ld) : Int := l.foldl (fun _ x => x.at_) 0
theorem lastAt_snoc (l : List Ld) (x : Ld) : lastAt (l ++ [x]) = x.at_ := by simp [lastAt]
def hitL (x : Ld) (p : Bytes) (w : Int) : Option (Ch × Int) := if x.at_ ≤ w then (x.batch.find? fun c => c.path == p).map fun c => (c, x.at_) else none
def lastT (l : List Ld) (p : Bytes) (w : Int) : Option (Ch × Int) := l.foldl (fun r x => (hitL x p w).or r) none
theorem lastT_snoc (l : List Ld) (x : Ld) (p : Bytes) (w : Int) : lastT (l ++ [x]) p w = (hitL x p w).or (lastT l p w) := by simp [lastT]
def entT (p : Bytes) (r : Option (Ch × Int)) : Option En := r.bind fun y => if y.1.gone = true then none else some ⟨p, y.2, y.1.meta_⟩
structure LaidInv (t : Tr) (took : List Ld) : Prop where
  st : isSt t.all = true
  last : lastL t.all = lastAt took
  rises : ∀ (i : Nat) x, took[i]? = some x → lastAt (took.take i) < x.at_
  told : ∀ p w, atL t.all p w = entT p (lastT took p w)
theorem lay_inv {t : Tr} {took : List Ld} {x : Ld} (h : LaidInv t took) (hl : layB t.all x.at_ x.batch = true) (hn : t.all.length + x.batch.length < 10000000) : LaidInv (layT t x.at_ x.batch) (took ++ [x]) := by
  have hL := layB_parts hl
  have he := layT_all (t := t) (at_ := x.at_) (c := x.batch) hn
  have hr' := (layT t x.at_ x.batch).rise
  change Rise (layT t x.at_ x.batch).all at hr'
  rw [he] at hr'
  refine ⟨by rw [he]; exact lays_st hL, by rw [he, lastAt_snoc]; exact lays_last hL, ?_, ?_⟩
  · intro i y hy
    by_cases hi : i < took.length
    · rw [List.getElem?_append_left hi] at hy
      rw [List.take_append_of_le_length (by omega)]
      exact h.rises i y hy
    · have hi2 : i = took.length := by
        have := (List.getElem?_eq_some_iff.1 hy).1
        simp at this
        omega
      subst hi2
      simp at hy
      subst hy
      rw [List.take_left]
      have := hL.last
      rw [h.last] at this
      exact this
  · intro p w
    rw [he, lastT_snoc]
    by_cases hw : x.at_ ≤ w
    · cases hf : x.batch.find? fun c => c.path == p with
      | none =>
        have : hitL x p w = none := by unfold hitL; rw [if_pos hw, hf]; rfl
        rw [this, lays_old hL t.rise hr' (.inr fun c hc e => ?_), h.told]
        · rfl
        · rw [List.find?_eq_none] at hf
          have := hf c hc
          simp [e] at this
      | some c =>
        have hh : hitL x p w = some (c, x.at_) := by unfold hitL; rw [if_pos hw, hf]; rfl
        have hc := List.mem_of_find?_eq_some hf
        have hp : c.path = p := by have := List.find?_some hf; simpa using this
        subst hp
        rw [hh, lays_newest hL hr' hc hw]
        rfl
    · have : hitL x p w = none := by unfold hitL; rw [if_neg hw]
      rw [this, lays_old hL t.rise hr' (.inl (by omega)), h.told]
      rfl
theorem inv_nil : LaidInv nilT [] := ⟨rfl, rfl, fun i x h => by simp at h, fun p w => by
  rcases at_cases (l := nilT.all) List.Pairwise.nil (fun y hy => by cases hy) p w with ⟨y, hy, _⟩ | ⟨_, e⟩
  · cases hy.mem
  · rw [e]
    rfl⟩
theorem laid_inv {l : List Ld} (hs : smallL l) : ∀ i, i ≤ l.length → i ≤ 20 → LaidInv (laidS (l.take i)).1 (laidS (l.take i)).2
  | 0, _, _ => inv_nil
  | i + 1, h, h20 => by
    have ih := laid_inv hs i (by omega) (by omega)
    obtain ⟨h1, _, _⟩ := laidS_ok hs i (by omega) (by omega)
    have hx : l[i]? = some l[i] := List.getElem?_eq_getElem (by omega)
    have hm := hs _ (List.getElem_mem (show i < l.length by omega))
    rw [laidS_step (take_succ hx)]
    split
    · rename_i hb
      exact lay_inv ih hb (by have := h1.1; have := hm.1; omega)
    · exact ih
theorem laid_all_inv {l : List Ld} (hs : smallL l) (hl : l.length ≤ 20) : LaidInv (laidS l).1 (laidS l).2 ∧ okS (laidS l).1 500 ∧ (laidS l).2.length ≤ 20 ∧ ∀ x, x ∈ (laidS l).2 → x ∈ l := by
  have h1 := laid_inv hs l.length (Nat.le_refl _) hl
  obtain ⟨h2, h3, h4⟩ := laidS_ok hs l.length (Nat.le_refl _) hl
  rw [List.take_length] at h1 h2 h3 h4
  exact ⟨h1, ⟨by have := h2.1; omega, h2.2⟩, by omega, h4⟩
theorem openE_st {l : List Pr} (h : isSt l = true) (p : Bytes) (w : Int) : openE l p w = if isPathB p = false then 20 else if w < 0 then 1 else 0 := by
  unfold openE
  rw [if_neg (by simp [h])]
end Go.Proofs.YthdeopopodhimaaGreatDoor

/- The document's rows on stores. No further condition. -/
set_option linter.unusedVariables false
set_option linter.unusedSimpArgs false
namespace Go.Proofs.YthdeopopodhimaaGreatDoor
open Go.Ab

def m1 : Mt := ⟨1, 0, []⟩
def v1 : Bytes := (valueM m1 false).1
theorem read_v1 : readM v1 = (m1, false, 0) := readM_there (by decide)
def sA : Ch := sizedC [97] 1
def sB : Ch := sizedC [98] 1
def gA : Ch := ⟨[97], true, zeroMt⟩
def l1 : List Pr := [⟨⟨[97], 1⟩, v1⟩, ⟨⟨[98], 1⟩, v1⟩]
def l3 : List Pr := [⟨⟨[97], 3⟩, [0]⟩, ⟨⟨[97], 1⟩, v1⟩, ⟨⟨[98], 1⟩, v1⟩]
theorem okP_a1 : okP ⟨⟨[97], 1⟩, v1⟩ = true := by unfold okP; rw [read_v1]; decide
theorem okP_b1 : okP ⟨⟨[98], 1⟩, v1⟩ = true := by unfold okP; rw [read_v1]; decide
theorem okP_a3 : okP ⟨⟨[97], 3⟩, [0]⟩ = true := by decide
theorem st_l1 : isSt l1 = true := by simp [isSt, l1, okP_a1, okP_b1]
theorem st_l3 : isSt l3 = true := by simp [isSt, l3, okP_a1, okP_b1, okP_a3]
theorem last_l1 : lastL l1 = 1 := by unfold lastL; rw [if_pos st_l1]; rfl
theorem last_l3 : lastL l3 = 3 := by unfold lastL; rw [if_pos st_l3]; rfl
theorem lay_0 : layB [] 1 [sA, sB] = true := by decide
theorem lay_1 : layB l1 3 [gA] = true := by unfold layB; rw [st_l1, last_l1]; decide
theorem lay_3 : layB l3 3 [sA] = false := by unfold layB; rw [st_l3, last_l3]; decide
theorem layL_0 : layL [] 1 [sA, sB] = l1 := rfl
theorem layL_1 : layL l1 3 [gA] = l3 := rfl
theorem openE_3 {p : Bytes} {w : Int} (hp : isPathB p = true) (hw : ¬ w < 0) : openE l3 p w = 0 := by
  unfold openE
  rw [if_neg (by rw [st_l3]; simp), if_neg (by rw [hp]; simp), if_neg hw]
theorem at_a2 : atL l3 [97] 2 = some ⟨[97], 1, m1⟩ := by
  show atP [97] ⟨⟨[97], 1⟩, v1⟩ = _
  unfold atP
  rw [read_v1]
  rfl
theorem at_a3 : atL l3 [97] 3 = none := rfl
theorem at_a9 : atL l3 [97] 9 = none := rfl
theorem at_b2 : atL l3 [98] 2 = some ⟨[98], 1, m1⟩ := by
  show atP [98] ⟨⟨[98], 1⟩, v1⟩ = _
  unfold atP
  rw [read_v1]
  rfl
theorem at_b9 : atL l3 [98] 9 = some ⟨[98], 1, m1⟩ := at_b2
theorem paths_3 : pathsU [] l3 = [[97], [98]] := by decide
theorem as_a2 : asOf l3 [97] 2 = (some ⟨[97], 1, m1⟩, 0) := by unfold asOf; rw [if_pos (openE_3 (by decide) (by decide)), at_a2]
theorem as_a3 : asOf l3 [97] 3 = (none, 0) := by unfold asOf; rw [if_pos (openE_3 (by decide) (by decide)), at_a3]
theorem ls_2 : listO l3 [] 2 = ([⟨[97], 1, m1⟩, ⟨[98], 1, m1⟩], 0) := by unfold listO listL; rw [if_pos (openE_3 (by decide) (by decide)), paths_3]; simp [at_a2, at_b2]
theorem ls_9 : listO l3 [] 9 = ([⟨[98], 1, m1⟩], 0) := by unfold listO listL; rw [if_pos (openE_3 (by decide) (by decide)), paths_3]; simp only [List.filterMap_cons, List.filterMap_nil, at_a9, at_b9]
theorem hs_3 : histO l3 [97] = ([⟨⟨[97], 3⟩, [0]⟩, ⟨⟨[97], 1⟩, v1⟩], 0) := by unfold histO; rw [if_pos (openE_3 (by decide) (by decide))]; rfl
noncomputable def tS : Tr := layT nilT 1 [sA, sB]
noncomputable def uS : Tr := layT tS 3 [gA]
theorem tS_all : tS.all = l1 := (layT_all (t := nilT) (by decide)).trans layL_0
theorem uS_all : uS.all = l3 := (layT_all (t := tS) (by rw [tS_all]; decide)).trans (by rw [tS_all]; exact layL_1)
theorem v1_len : v1.length < 1000 := valueM_len _ _ (by decide)
theorem vals_1 : valsB l1 := by
  intro p hp
  have := v1_len
  simp [l1] at hp
  rcases hp with rfl | rfl <;> exact ⟨by show 1 < 1000000; decide, by show v1.length < _; omega⟩
theorem vals_3 : valsB l3 := by
  intro p hp
  have := v1_len
  simp [l3] at hp
  rcases hp with rfl | rfl | rfl
  · exact ⟨by show 1 < 1000000; decide, by show 1 < 1000000; decide⟩
  · exact ⟨by show 1 < 1000000; decide, by show v1.length < _; omega⟩
  · exact ⟨by show 1 < 1000000; decide, by show v1.length < _; omega⟩
theorem slL {sz : Nat} {xs ys : List AV} {t : Tag} (hx : ∀ x, x ∈ xs → x.cells.length = sz) (hy : ∀ y, y ∈ ys → y.cells.length = sz) (hl : xs.length = ys.length) (h : ∀ (i : Nat) (x y : AV) (j : Nat) (a b : AV), xs[i]? = some x → ys[i]? = some y → x.cells[j]? = some a → y.cells[j]? = some b → Ab.Sub a b) : Ab.Sub (.sl sz xs t) (.sl sz ys t) := by
  intro μ F w v hr
  cases hr with
  | sl _ _ _ A cap ad vals hsz hcap hA hone hcell hrep htag =>
    have get : ∀ (i : Nat) (y : AV) (j : Nat) (b : AV), ys[i]? = some y → y.cells[j]? = some b → ∃ x a, xs[i]? = some x ∧ x.cells[j]? = some a := by
      intro i y j b h1 h2
      have hi : i < xs.length := by rw [hl]; exact (List.getElem?_eq_some_iff.1 h1).1
      have hj : j < sz := by rw [← hy y (List.mem_of_getElem? h1)]; exact (List.getElem?_eq_some_iff.1 h2).1
      have hm := hx xs[i] (List.getElem_mem hi)
      exact ⟨xs[i], _, List.getElem?_eq_getElem hi, List.getElem?_eq_getElem (by rw [hm]; exact hj)⟩
    rw [hl] at hcap hA htag ⊢
    refine .sl sz ys t A cap ad vals hy hcap hA ?_ ?_ ?_ htag
    · intro i y j b h1 h2
      obtain ⟨x, a, h3, h4⟩ := get i y j b h1 h2
      exact hone i x j a h3 h4
    · intro i y j b h1 h2
      obtain ⟨x, a, h3, h4⟩ := get i y j b h1 h2
      exact hcell i x j a h3 h4
    · intro i y j b h1 h2
      obtain ⟨x, a, h3, h4⟩ := get i y j b h1 h2
      exact h i x y j a b h3 h1 h4 h2 μ F w _ (hrep i x j a h3 h4)
theorem sub_gA : Ab.Sub (.sl 5 [.agg [.str [97], .bool true, .int .i64 0, .int .i64 0, .sl 0 [] .full]] .full) (chA [gA] .full) := by
  refine slL (by simp [AV.cells]) (by intro y hy; simp [gA] at hy; subst hy; rfl) rfl ?_
  intro i x y j a b h1 h2 h3 h4
  match i, h1, h2 with
  | 0, h1, h2 =>
    simp at h1 h2
    subst h1; subst h2
    match j, h3, h4 with
    | 0, h3, h4 => cases h3; cases h4; exact Sub.refl
    | 1, h3, h4 => cases h3; cases h4; exact Sub.refl
    | 2, h3, h4 => cases h3; cases h4; exact Sub.refl
    | 3, h3, h4 => cases h3; cases h4; exact Sub.refl
    | 4, h3, h4 => cases h3; cases h4; exact Sub.nil
    | j + 5, h3, h4 => simp [AV.cells] at h3
  | i + 1, h1, _ => simp at h1
theorem sh_ch (c : Ch) (h1 : c.path.length < 1000000) (h2 : c.meta_.ch.length < 1000000) : shortCh c := ⟨h1, h2⟩

set_option maxRecDepth 100000 in
set_option maxHeartbeats 8000000 in
theorem stored_ok : APure Tryz.prog 42 [] (.bool true) := by
  refine pure_sub (closedL_nil) (closed_bool) ?_
  refine acalls_of tabOK Tryz.func42 rfl (by decide) (by simp [Tryz.f42]) ?_
  have kn := new_ok
  have k1 := sized_ok [97] 1
  have k2 := sized_ok [98] 1
  have a1 := lay_ok nilT 1 [sA, sB] .full (.inr rfl) (by decide) (fun p hp => by cases hp) (fun c hc => by simp at hc; rcases hc with rfl | rfl <;> exact sh_ch _ (by decide) (by decide))
  have a2 := (lay_ok tS 3 [gA] .full (.inr rfl) (by rw [tS_all]; decide) (by rw [tS_all]; exact vals_1) (fun c hc => by simp at hc; subst hc; exact sh_ch _ (by decide) (by decide))).sub (args := [tS.av, .int .i64 3, .sl 5 [.agg [.str [97], .bool true, .int .i64 0, .int .i64 0, .sl 0 [] .full]] .full]) ⟨Sub.refl, Sub.refl, sub_gA, trivial⟩
  have hu : uS.all.length < 10000000 := by rw [uS_all]; decide
  have hv : valsB uS.all := by rw [uS_all]; exact vals_3
  have a3 := lay_ok uS 3 [sA] .full (.inr rfl) (by rw [uS_all]; decide) hv (fun c hc => by simp at hc; subst hc; exact sh_ch _ (by decide) (by decide))
  have b1 := asOf_ok uS hu hv [97] (by decide) 2
  have b2 := asOf_ok uS hu hv [97] (by decide) 3
  have c1 := list_ok uS hu hv [] (by decide) 2
  have c2 := list_ok uS hu hv [] (by decide) 9
  have d1 := history_ok uS hu hv [97] (by decide)
  have e1 := last_ok uS hu hv
  have f1 := isStore_ok uS hu hv
  unfold layA at a1 a2 a3
  rw [if_pos (show layB nilT.all 1 [sA, sB] = true from lay_0), show layT nilT 1 [sA, sB] = tS from rfl] at a1
  rw [if_pos (by rw [tS_all]; exact lay_1), show layT tS 3 [gA] = uS from rfl] at a2
  rw [if_neg (by rw [uS_all, lay_3]; simp)] at a3
  rw [uS_all, as_a2] at b1
  rw [uS_all, as_a3] at b2
  rw [uS_all, ls_2] at c1
  rw [uS_all, ls_9] at c2
  rw [uS_all, hs_3] at d1
  rw [uS_all, last_l3] at e1
  rw [uS_all, st_l3] at f1
  generalize tS = T at *
  generalize uS = U at *
  unfold Tr.av at *
  unfold chA at a1 a3
  repeat' (first | refine DW_A tabs rfl ?_ | refine DW_nil ?_ | refine W_A rfl ?_ | refine DW_C rfl kn ?_ | refine DW_C rfl k1 ?_ | refine DW_C rfl k2 ?_ | refine DW_C rfl a1 ?_ | refine DW_C rfl a2 ?_ | refine DW_C rfl a3 ?_ | refine DW_C rfl b1 ?_ | refine DW_C rfl b2 ?_ | refine DW_C rfl c1 ?_ | refine DW_C rfl c2 ?_ | refine DW_C rfl d1 ?_ | refine DW_C rfl e1 ?_ | refine DW_C rfl f1 ?_ | refine DW_ix tabOK rfl (⟨Int.le_refl 0, rfl⟩) ?_ | refine DW_row tabOK rfl ?_)
  exact ⟨rfl, _, rfl, _, rfl, SubC.of_closed closed_bool⟩
end Go.Proofs.YthdeopopodhimaaGreatDoor

/- The document on stores of pairs: is it one. No further condition. -/
set_option linter.unusedVariables false
set_option linter.unusedSimpArgs false
namespace Go.Proofs.YthdeopopodhimaaGreatDoor
open Go.Ab

def prA (l : List Pr) : AV := .sl 3 (l.map Pr.av) .none
theorem closed_prA (l : List Pr) : Closed (prA l) := closed_slmap (fun p => closed_pr p) (fun p c hc => by
  have : c ∈ [AV.str p.key.path, .int .i64 p.key.time, .str p.val] := hc
  exact closed3 closed_str closed_int closed_str c this)
def riF1 (l : List Pr) (i : Nat) : AF := ⟨[(0, prA l), (3, .int .i64 (i : Int))], []⟩
set_option maxRecDepth 100000 in
set_option maxHeartbeats 8000000 in
theorem rStIs_ok (l : List Pr) (hl : l.length < 1000000) (hv : valsB l) : APure Tryz.prog 44 [prA l] (.bool (isSt l)) := by
  refine pure_sub (closed1 (closed_prA l)) (closed_bool) ?_
  refine acalls_of tabOK Tryz.func44 rfl (by decide) (by simp [Tryz.f44]) ?_
  have la := len_map Pr.av l
  unfold prA
  repeat' (first | refine DW_VI tabs rfl la ?_ | refine DW_A tabs rfl ?_ | refine DW_nil ?_ | refine W_A rfl ?_)
  refine W_count l.length (fun i f N => N = ⟨0, []⟩ ∧ isSt (l.take i) = true ∧ f = riF1 l i) (Nat.zero_le _) ⟨rfl, rfl, rfl⟩ (Joint.le ?_ (Mem.le_nil rfl)) ?_
  · unfold riF1 prA
    repeat (refine AF.le_cons rfl ?_)
    exact AF.le_nil rfl
  rintro i f N hi ⟨rfl, hinv, rfl⟩
  unfold riF1 prA
  by_cases h1 : i < l.length
  · have d1 : decide ((i : Int) < (l.length : Int)) = true := by simp; omega
    have hx : l[i]? = some l[i] := List.getElem?_eq_getElem h1
    have fi := wrap_succ (i := i) (by omega)
    have ht := take_succ hx
    have hm := List.getElem_mem h1
    have hsx := hv _ hm
    have hno : okP l[i] = false → isSt l = false := fun h => by
      rw [Bool.eq_false_iff]
      intro h2
      rw [isSt_mem h2 hm] at h
      cases h
    have hyes : okP l[i] = true → isSt (l.take (i + 1)) = true := fun h => by
      unfold isSt at hinv ⊢
      rw [ht, List.all_append, hinv]
      simp [h]
    generalize l[i] = x at *
    have kr := rRead_ok x.val hsx.2
    have kk := rIsKey_ok x.key hsx.1
    have hcl := closed_prA l
    unfold okP at hno hyes
    unfold rmA at kr
    cases g1 : isKeyB x.key
    · rw [g1] at kk
      rw [hno (by rw [g1]; simp)]
      repeat' (first | refine DW_VB tabs rfl d1 ?_ | refine DW_VI tabs rfl la ?_ | refine DW_A tabs rfl ?_ | refine DW_nil ?_ | refine W_A rfl ?_ | refine DW_C rfl kr ?_ | refine DW_C rfl kk ?_ | refine DW_ix tabOK rfl (ixN hx) ?_)
      exact ⟨rfl, _, rfl, _, rfl, SubC.of_closed closed_bool⟩
    · rw [g1] at kk
      by_cases g2 : x.key.path = []
      · have d2 : (x.key.path == ([] : Bytes)) = true := by simp [g2]
        rw [hno (by rw [d2]; simp)]
        repeat' (first | refine DW_VB tabs rfl (by first | exact d1 | exact d2) ?_ | refine DW_VI tabs rfl la ?_ | refine DW_A tabs rfl ?_ | refine DW_nil ?_ | refine W_A rfl ?_ | refine DW_C rfl kr ?_ | refine DW_C rfl kk ?_ | refine DW_ix tabOK rfl (ixN hx) ?_)
        exact ⟨rfl, _, rfl, _, rfl, SubC.of_closed closed_bool⟩
      · have d2 : (x.key.path == ([] : Bytes)) = false := by simp [g2]
        by_cases g3 : (readM x.val).2.2 = 0
        · have d3 : (!decide ((readM x.val).2.2 = 0)) = false := by simp [g3]
          repeat' (first | refine DW_VB tabs rfl (by first | exact d1 | exact d2 | exact d3) ?_ | refine DW_VI tabs rfl (by first | exact la | exact fi) ?_ | refine DW_A tabs rfl ?_ | refine DW_nil ?_ | refine W_A rfl ?_ | refine DW_C rfl kr ?_ | refine DW_C rfl kk ?_ | refine DW_ix tabOK rfl (ixN hx) ?_)
          refine ⟨h1, riF1 l (i + 1), ⟨0, []⟩, ⟨rfl, hyes (by rw [g1, d2, decide_eq_true g3]; rfl), rfl⟩, Joint.cut (k := 0) (t := (riF1 l (i + 1)).t) (l := []) (Nat.le_refl _) (Nat.zero_le _) rfl ⟨SubC.of_closed hcl, SubC.of_closed closed_int, trivial⟩ trivial⟩
        · have d3 : (!decide ((readM x.val).2.2 = 0)) = true := by simp [g3]
          rw [hno (by rw [decide_eq_false g3]; rfl)]
          repeat' (first | refine DW_VB tabs rfl (by first | exact d1 | exact d2 | exact d3) ?_ | refine DW_VI tabs rfl la ?_ | refine DW_A tabs rfl ?_ | refine DW_nil ?_ | refine W_A rfl ?_ | refine DW_C rfl kr ?_ | refine DW_C rfl kk ?_ | refine DW_ix tabOK rfl (ixN hx) ?_)
          exact ⟨rfl, _, rfl, _, rfl, SubC.of_closed closed_bool⟩
  · have d1 : decide ((i : Int) < (l.length : Int)) = false := by simp; omega
    obtain rfl : i = l.length := by omega
    rw [List.take_length] at hinv
    rw [hinv]
    repeat' (first | refine DW_VB tabs rfl d1 ?_ | refine DW_VI tabs rfl la ?_ | refine DW_A tabs rfl ?_ | refine DW_nil ?_ | refine W_A rfl ?_)
    exact ⟨rfl, _, rfl, _, rfl, SubC.of_closed closed_bool⟩

theorem rmade_small {l : List Pr} (h : bigB l = false) : (laidT l).all.length ≤ 80 ∧ valsB (laidT l).all := by
  obtain ⟨h1, h2⟩ := bigB_no h
  obtain ⟨h3, h4⟩ := laid_all (l := l) (by omega)
  refine ⟨by rw [h3]; omega, fun p hp => ?_⟩
  rw [h3] at hp
  have := h2 p (laid_mem hp)
  exact ⟨by omega, by omega⟩
theorem rfilt_step {l : List Pr} {i : Nat} {x : Pr} (q : Pr → Bool) (ht : l.take (i + 1) = l.take i ++ [x]) : (l.take (i + 1)).filter q = if q x = true then (l.take i).filter q ++ [x] else (l.take i).filter q := by
  rw [ht, List.filter_append]
  cases h : q x
  · simp [h]
  · simp [h]
end Go.Proofs.YthdeopopodhimaaGreatDoor
