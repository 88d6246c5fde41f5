/- Parts of the proof, one behind the other: RStA, SLaw, MetaR, CurC. No further condition. -/
import Derived.Test.YthdeopopodhimaaGreatDoorM22
import Derived.Test.YthdeopopodhimaaGreatDoorM16
import Derived.Test.YthdeopopodhimaaGreatDoorM21
set_option linter.unusedVariables false
set_option linter.unusedSimpArgs false
/- Rows of the document's statements: which are more than are looked at, entries that are the same. No further condition. -/
set_option linter.unusedVariables false
set_option linter.unusedSimpArgs false
namespace Go.Proofs.YthdeopopodhimaaGreatDoor
open Go.Ab

def bigCh (c : Ch) : Bool := decide (200 < c.path.length) || decide (30 < c.meta_.ch.length)
def bigC (l : List Ch) : Bool := decide (50 < l.length) || l.any bigCh
theorem bigC_no {l : List Ch} (h : bigC l = false) : l.length ≤ 50 ∧ ∀ c, c ∈ l → c.path.length ≤ 200 ∧ c.meta_.ch.length ≤ 30 := by
  unfold bigC bigCh at h
  simp only [Bool.or_eq_false_iff, decide_eq_false_iff_not, List.any_eq_false, Bool.or_eq_true, decide_eq_true_eq, not_or] at h
  exact ⟨by omega, fun p hp => by have := h.2 p hp; omega⟩
set_option maxRecDepth 100000 in
set_option maxHeartbeats 8000000 in
theorem bigC_ok (l : List Ch) (tg : Tag) (hl : l.length < 4611686018427387904) : APure Tryz.prog 64 [chA l tg] (.bool (bigC l)) := by
  intro M
  refine acalls_of tabOK Tryz.func64 rfl (by decide) (by simp [Tryz.f64]) ?_
  have la := len_map Ch.av l
  unfold bigC chA
  by_cases h80 : 50 < l.length
  · have d1 : decide ((0 : Int) < (l.length : Int)) = true := by simp; omega
    have d2 : decide ((l.length : Int) ≤ 50) = false := by simp; omega
    have d3 : decide ((50 : Int) < (l.length : Int)) = true := by simp; omega
    have e : decide (50 < l.length) = true := by simp [h80]
    rw [e]
    repeat' (first | refine DW_VB tabs rfl (by first | exact d1 | exact d2) ?_ | refine DW_VI tabs rfl la ?_ | refine DW_A tabs rfl ?_ | refine DW_nil ?_ | refine W_A rfl ?_)
    refine W_count 0 (fun i f N => N = M ∧ f = ⟨[(0, .sl 5 (l.map Ch.av) tg), (3, .int .i64 (i : Int))], []⟩) (Nat.zero_le _) ⟨rfl, rfl⟩ (Joint.le ?_ (Mem.le_refl _)) ?_
    · skip
      repeat (refine AF.le_cons rfl ?_)
      exact AF.le_nil rfl
    rintro i f N hi ⟨rfl, rfl⟩
    obtain rfl : i = 0 := by omega
    repeat' (first | refine DW_VB tabs rfl (by first | exact d1 | exact d2 | exact d3) ?_ | refine DW_VI tabs rfl la ?_ | refine DW_A tabs rfl ?_ | refine DW_nil ?_ | refine W_A rfl ?_)
    exact ⟨rfl, _, rfl, rfl, rfl⟩
  · have d2 : decide ((l.length : Int) ≤ 50) = true := by simp; omega
    have d3 : decide ((50 : Int) < (l.length : Int)) = false := by simp; omega
    have e : decide (50 < l.length) = false := by simp; omega
    rw [e, Bool.false_or]
    repeat' (first | refine DW_VB tabs rfl d2 ?_ | refine DW_VI tabs rfl la ?_ | refine DW_A tabs rfl ?_ | refine DW_nil ?_ | refine W_A rfl ?_)
    refine W_count l.length (fun i f N => N = M ∧ ((l.take i).any bigCh = false) ∧ f = ⟨[(0, .sl 5 (l.map Ch.av) tg), (3, .int .i64 (i : Int))], []⟩) (Nat.zero_le _) ⟨rfl, by simp, rfl⟩ (Joint.le ?_ (Mem.le_refl _)) ?_
    · skip
      repeat (refine AF.le_cons rfl ?_)
      exact AF.le_nil rfl
    rintro i f N hi ⟨rfl, hinv, rfl⟩
    by_cases h1 : i < l.length
    · have d1 : decide ((i : Int) < (l.length : Int)) = true := by simp; omega
      have hx : l[i]? = some l[i] := List.getElem?_eq_getElem h1
      have fi := wrap_succ (i := i) (by omega)
      have ht := take_succ hx
      have hm := List.getElem_mem h1
      generalize l[i] = x at hx ht hm
      have e2 : (l.take (i + 1)).any bigCh = bigCh x := by rw [ht, List.any_append, hinv]; simp
      have hs : bigCh x = true → l.any bigCh = true := fun h => List.any_eq_true.2 ⟨x, List.mem_of_getElem? hx, h⟩
      have lx := len_map (fun n => AV.int .i64 n) x.meta_.ch
      unfold bigCh at hs e2
      by_cases h5 : 200 < x.path.length
      · have d5 : decide ((200 : Int) < (x.path.length : Int)) = true := by simp; omega
        rw [show l.any bigCh = true from hs (by simp [h5])]
        repeat' (first | refine DW_VB tabs rfl (by first | exact d1 | exact d2 | exact d5) ?_ | refine DW_VI tabs rfl (by first | exact la | exact fi) ?_ | refine DW_A tabs rfl ?_ | refine DW_nil ?_ | refine W_A rfl ?_ | refine DW_ix tabOK rfl (ixN hx) ?_)
        exact ⟨rfl, _, rfl, rfl, rfl⟩
      · have d5 : decide ((200 : Int) < (x.path.length : Int)) = false := by simp; omega
        by_cases h6 : 30 < x.meta_.ch.length
        · have d6 : decide ((30 : Int) < (x.meta_.ch.length : Int)) = true := by simp; omega
          rw [show l.any bigCh = true from hs (by simp [h6])]
          repeat' (first | refine DW_VB tabs rfl (by first | exact d1 | exact d2 | exact d5 | exact d6) ?_ | refine DW_VI tabs rfl (by first | exact la | exact lx | exact fi) ?_ | refine DW_A tabs rfl ?_ | refine DW_nil ?_ | refine W_A rfl ?_ | refine DW_ix tabOK rfl (ixN hx) ?_)
          exact ⟨rfl, _, rfl, rfl, rfl⟩
        · have d6 : decide ((30 : Int) < (x.meta_.ch.length : Int)) = false := by simp; omega
          repeat' (first | refine DW_VB tabs rfl (by first | exact d1 | exact d2 | exact d5 | exact d6) ?_ | refine DW_VI tabs rfl (by first | exact la | exact lx | exact fi) ?_ | refine DW_A tabs rfl ?_ | refine DW_nil ?_ | refine W_A rfl ?_ | refine DW_ix tabOK rfl (ixN hx) ?_)
          refine ⟨h1, _, _, ⟨rfl, by rw [show bigCh = (fun c => decide (200 < c.path.length) || decide (30 < c.meta_.ch.length)) from rfl, e2]; simp [h5, h6], rfl⟩, Joint.le ?_ (Mem.le_refl _)⟩
          repeat (refine AF.le_cons rfl ?_)
          exact AF.le_nil rfl
    · have d1 : decide ((i : Int) < (l.length : Int)) = false := by simp; omega
      obtain rfl : i = l.length := by omega
      rw [take_all] at hinv
      rw [hinv]
      repeat' (first | refine DW_VB tabs rfl (by first | exact d1 | exact d2 | exact d3) ?_ | refine DW_VI tabs rfl la ?_ | refine DW_A tabs rfl ?_ | refine DW_nil ?_ | refine W_A rfl ?_)
      exact ⟨rfl, _, rfl, rfl, rfl⟩

structure Ld where
  at_ : Int
  batch : List Ch
def Ld.av (x : Ld) : AV := .agg [.int .i64 x.at_, chA x.batch .none]
theorem closed_ldc (x : Ld) : ∀ c, c ∈ x.av.cells → Closed c := by
  intro c hc
  have : c ∈ [AV.int .i64 x.at_, chA x.batch .none] := hc
  exact closed2 closed_int (closed_chs _ (.inl rfl)) c this
theorem closed_ld (x : Ld) : Closed x.av := closed_agg (closed_ldc x)
theorem lds_cells (l : List Ld) : ∀ x, x ∈ l.map Ld.av → ∀ c, c ∈ x.cells → Closed c := by
  intro x hx
  obtain ⟨p, _, rfl⟩ := List.mem_map.1 hx
  exact closed_ldc p
def ldA (l : List Ld) (t : Tag) : AV := .sl 2 (l.map Ld.av) t
theorem closed_lds (l : List Ld) {t : Tag} (ht : t = .none ∨ t = .full) : Closed (ldA l t) := closed_sl ht (fun x hx => by obtain ⟨p, _, rfl⟩ := List.mem_map.1 hx; exact closed_ld p) (lds_cells l)
def ldsB (l : List Ld) : Prop := l.length < 4611686018427387904 ∧ ∀ x, x ∈ l → x.batch.length < 4611686018427387904
def bigLd (x : Ld) : Bool := bigC x.batch || decide (25 < x.batch.length)
def bigL (l : List Ld) : Bool := decide (20 < l.length) || l.any bigLd
theorem bigL_no {l : List Ld} (h : bigL l = false) : l.length ≤ 20 ∧ ∀ x, x ∈ l → x.batch.length ≤ 25 ∧ ∀ c, c ∈ x.batch → c.path.length ≤ 200 ∧ c.meta_.ch.length ≤ 30 := by
  unfold bigL bigLd at h
  simp only [Bool.or_eq_false_iff, decide_eq_false_iff_not, List.any_eq_false, Bool.or_eq_true, decide_eq_true_eq, not_or] at h
  exact ⟨by omega, fun p hp => by
    have := h.2 p hp
    exact ⟨by omega, (bigC_no (by simpa using this.1)).2⟩⟩
set_option maxRecDepth 100000 in
set_option maxHeartbeats 8000000 in
theorem bigL_ok (l : List Ld) (tg : Tag) (hl : l.length < 4611686018427387904) (hib : ∀ x, x ∈ l → x.batch.length < 4611686018427387904) : APure Tryz.prog 30 [ldA l tg] (.bool (bigL l)) := by
  intro M
  refine acalls_of tabOK Tryz.func30 rfl (by decide) (by simp [Tryz.f30]) ?_
  have la := len_map Ld.av l
  unfold bigL ldA
  by_cases h80 : 20 < l.length
  · have d1 : decide ((0 : Int) < (l.length : Int)) = true := by simp; omega
    have d2 : decide ((l.length : Int) ≤ 20) = false := by simp; omega
    have d3 : decide ((20 : Int) < (l.length : Int)) = true := by simp; omega
    have e : decide (20 < l.length) = true := by simp [h80]
    rw [e]
    repeat' (first | refine DW_VB tabs rfl (by first | exact d1 | exact d2) ?_ | refine DW_VI tabs rfl la ?_ | refine DW_A tabs rfl ?_ | refine DW_nil ?_ | refine W_A rfl ?_)
    refine W_count 0 (fun i f N => N = M ∧ f = ⟨[(0, .sl 2 (l.map Ld.av) tg), (3, .int .i64 (i : Int))], []⟩) (Nat.zero_le _) ⟨rfl, rfl⟩ (Joint.le ?_ (Mem.le_refl _)) ?_
    · skip
      repeat (refine AF.le_cons rfl ?_)
      exact AF.le_nil rfl
    rintro i f N hi ⟨rfl, rfl⟩
    obtain rfl : i = 0 := by omega
    repeat' (first | refine DW_VB tabs rfl (by first | exact d1 | exact d2 | exact d3) ?_ | refine DW_VI tabs rfl la ?_ | refine DW_A tabs rfl ?_ | refine DW_nil ?_ | refine W_A rfl ?_)
    exact ⟨rfl, _, rfl, rfl, rfl⟩
  · have d2 : decide ((l.length : Int) ≤ 20) = true := by simp; omega
    have d3 : decide ((20 : Int) < (l.length : Int)) = false := by simp; omega
    have e : decide (20 < l.length) = false := by simp; omega
    rw [e, Bool.false_or]
    repeat' (first | refine DW_VB tabs rfl d2 ?_ | refine DW_VI tabs rfl la ?_ | refine DW_A tabs rfl ?_ | refine DW_nil ?_ | refine W_A rfl ?_)
    refine W_count l.length (fun i f N => N = M ∧ ((l.take i).any bigLd = false) ∧ f = ⟨[(0, .sl 2 (l.map Ld.av) tg), (3, .int .i64 (i : Int))], []⟩) (Nat.zero_le _) ⟨rfl, by simp, rfl⟩ (Joint.le ?_ (Mem.le_refl _)) ?_
    · skip
      repeat (refine AF.le_cons rfl ?_)
      exact AF.le_nil rfl
    rintro i f N hi ⟨rfl, hinv, rfl⟩
    by_cases h1 : i < l.length
    · have d1 : decide ((i : Int) < (l.length : Int)) = true := by simp; omega
      have hx : l[i]? = some l[i] := List.getElem?_eq_getElem h1
      have fi := wrap_succ (i := i) (by omega)
      have ht := take_succ hx
      have hm := List.getElem_mem h1
      generalize l[i] = x at hx ht hm
      have e2 : (l.take (i + 1)).any bigLd = bigLd x := by rw [ht, List.any_append, hinv]; simp
      have hs : bigLd x = true → l.any bigLd = true := fun h => List.any_eq_true.2 ⟨x, List.mem_of_getElem? hx, h⟩
      have lx := len_map Ch.av x.batch
      have kx := bigC_ok x.batch .none (hib x (List.mem_of_getElem? hx))
      unfold bigLd at hs e2
      unfold chA at kx
      cases h5 : bigC x.batch
      · rw [h5] at kx
        by_cases h6 : 25 < x.batch.length
        · have d6 : decide ((25 : Int) < (x.batch.length : Int)) = true := by simp; omega
          rw [show l.any bigLd = true from hs (by simp [h6])]
          repeat' (first | refine DW_VB tabs rfl (by first | exact d1 | exact d2 | exact d6) ?_ | refine DW_VI tabs rfl (by first | exact la | exact lx | exact fi) ?_ | refine DW_A tabs rfl ?_ | refine DW_nil ?_ | refine W_A rfl ?_ | refine DW_C rfl kx ?_ | refine DW_ix tabOK rfl (ixN hx) ?_)
          exact ⟨rfl, _, rfl, rfl, rfl⟩
        · have d6 : decide ((25 : Int) < (x.batch.length : Int)) = false := by simp; omega
          repeat' (first | refine DW_VB tabs rfl (by first | exact d1 | exact d2 | exact d6) ?_ | refine DW_VI tabs rfl (by first | exact la | exact lx | exact fi) ?_ | refine DW_A tabs rfl ?_ | refine DW_nil ?_ | refine W_A rfl ?_ | refine DW_C rfl kx ?_ | refine DW_ix tabOK rfl (ixN hx) ?_)
          refine ⟨h1, _, _, ⟨rfl, by rw [show bigLd = (fun x => bigC x.batch || decide (25 < x.batch.length)) from rfl, e2]; simp [h5, h6], rfl⟩, Joint.le ?_ (Mem.le_refl _)⟩
          repeat (refine AF.le_cons rfl ?_)
          exact AF.le_nil rfl
      · rw [h5] at kx
        rw [show l.any bigLd = true from hs (by simp [h5])]
        repeat' (first | refine DW_VB tabs rfl (by first | exact d1 | exact d2) ?_ | refine DW_VI tabs rfl (by first | exact la | exact fi) ?_ | refine DW_A tabs rfl ?_ | refine DW_nil ?_ | refine W_A rfl ?_ | refine DW_C rfl kx ?_ | refine DW_ix tabOK rfl (ixN hx) ?_)
        exact ⟨rfl, _, rfl, rfl, rfl⟩
    · have d1 : decide ((i : Int) < (l.length : Int)) = false := by simp; omega
      obtain rfl : i = l.length := by omega
      rw [take_all] at hinv
      rw [hinv]
      repeat' (first | refine DW_VB tabs rfl (by first | exact d1 | exact d2 | exact d3) ?_ | refine DW_VI tabs rfl la ?_ | refine DW_A tabs rfl ?_ | refine DW_nil ?_ | refine W_A rfl ?_)
      exact ⟨rfl, _, rfl, rfl, rfl⟩

theorem en_eq {a b : En} : a = b ↔ a.path = b.path ∧ a.time = b.time ∧ a.meta_ = b.meta_ := by
  obtain ⟨p, t, m⟩ := a
  obtain ⟨q, u, n⟩ := b
  simp
def shortE (x : En) : Prop := x.meta_.ch.length < 1000000
set_option maxRecDepth 100000 in
set_option maxHeartbeats 8000000 in
theorem sameEn_ok (a b : En) (ha : shortE a) (hb : shortE b) : APure Tryz.prog 40 [a.av, b.av] (.bool (decide (a = b))) := by
  intro M
  refine acalls_of tabOK Tryz.func40 rfl (by decide) (by simp [Tryz.f40]) ?_
  have k := rmSame_ok a.meta_ b.meta_ ha hb
  cases d1 : a.path == b.path
  · rw [decide_eq_false (p := a = b) (by rintro rfl; simp at d1)]
    repeat' (first | refine DW_VB tabs rfl d1 ?_ | refine DW_A tabs rfl ?_ | refine DW_nil ?_ | refine W_A rfl ?_)
    exact ⟨rfl, _, rfl, rfl, rfl⟩
  · cases d2 : decide (a.time = b.time)
    · rw [decide_eq_false (p := a = b) (by rintro rfl; simp at d2)]
      repeat' (first | refine DW_VB tabs rfl (by first | exact d1 | exact d2) ?_ | refine DW_A tabs rfl ?_ | refine DW_nil ?_ | refine W_A rfl ?_)
      exact ⟨rfl, _, rfl, rfl, rfl⟩
    · have e : decide (a = b) = decide (a.meta_ = b.meta_) := by
        rw [decide_eq_decide, en_eq]
        simp at d1 d2
        simp [d1, d2]
      rw [e]
      repeat' (first | refine DW_VB tabs rfl (by first | exact d1 | exact d2) ?_ | refine DW_A tabs rfl ?_ | refine DW_nil ?_ | refine W_A rfl ?_ | refine DW_C rfl k ?_)
      exact ⟨rfl, _, rfl, rfl, rfl⟩
set_option maxRecDepth 100000 in
set_option maxHeartbeats 8000000 in
theorem sameEs_ok (a b : List En) (ta tb : Tag) (ha : a.length < 1000000) (hb : b.length < 1000000) (sa : ∀ x, x ∈ a → shortE x) (sb : ∀ x, x ∈ b → shortE x) : APure Tryz.prog 41 [ensA a ta, ensA b tb] (.bool (decide (a = b))) := by
  intro M
  refine acalls_of tabOK Tryz.func41 rfl (by decide) (by simp [Tryz.f41]) ?_
  have la := len_map En.av a
  have lb := len_map En.av b
  unfold ensA
  by_cases hl : a.length = b.length
  · have d0 : (!decide ((a.length : Int) = (b.length : Int))) = false := by simp; omega
    repeat' (first | refine DW_VB tabs rfl d0 ?_ | refine DW_VI tabs rfl (by first | exact la | exact lb) ?_ | refine DW_A tabs rfl ?_ | refine DW_nil ?_ | refine W_A rfl ?_ | refine W_draw mixed [0, 1, 4, 5, 2, 3, 6, 7, 8, 9] [.P, .P, .R, .R, .P, .P, .R, .R, .P, .P] rfl rfl (by kernel_rfl) ?_)
    refine W_count a.length (fun i f N => N = M ∧ (a.take i = b.take i) ∧ f = ⟨[(0, .sl 5 (a.map En.av) ta), (1, .sl 5 (b.map En.av) tb), (5, .int .i64 (i : Int))], []⟩) (Nat.zero_le _) ⟨rfl, by simp, rfl⟩ (Joint.le ?_ (Mem.le_refl _)) ?_
    · skip
      repeat (refine AF.le_cons rfl ?_)
      exact AF.le_nil rfl
    rintro i f N hi ⟨rfl, hinv, rfl⟩
    by_cases h1 : i < a.length
    · have d1 : decide ((i : Int) < (a.length : Int)) = true := by simp; omega
      have hx : a[i]? = some a[i] := List.getElem?_eq_getElem h1
      have fi := wrap_succ (i := i) (by omega)
      have ht := take_succ hx
      have hm := List.getElem_mem h1
      generalize a[i] = x at hx ht hm
      have hy : b[i]? = some b[i] := List.getElem?_eq_getElem (by omega)
      have hu := take_succ hy
      generalize b[i] = y at hy hu
      have kx := sameEn_ok x y (sa x (List.mem_of_getElem? hx)) (sb y (List.mem_of_getElem? hy))
      by_cases h3 : x = y
      · rw [decide_eq_true h3] at kx
        repeat' (first | refine DW_VB tabs rfl d1 ?_ | refine DW_VI tabs rfl (by first | exact fi | exact la | exact lb) ?_ | refine DW_A tabs rfl ?_ | refine DW_nil ?_ | refine W_A rfl ?_ | refine DW_C rfl kx ?_ | refine DW_ix tabOK rfl (ixN hx) ?_ | refine DW_ix tabOK rfl (ixN hy) ?_ | refine W_draw mixed [0, 1, 4, 5, 2, 3, 6, 7, 8, 9] [.P, .P, .R, .R, .P, .P, .R, .R, .P, .P] rfl rfl (by kernel_rfl) ?_)
        refine ⟨h1, _, _, ⟨rfl, by rw [ht, hu, hinv, h3], rfl⟩, Joint.le ?_ (Mem.le_refl _)⟩
        repeat (refine AF.le_cons rfl ?_)
        exact AF.le_nil rfl
      · rw [decide_eq_false h3] at kx
        have e : decide (a = b) = false := by
          refine decide_eq_false fun e => h3 ?_
          subst e
          rw [hx] at hy
          cases hy
          rfl
        rw [e]
        repeat' (first | refine DW_VB tabs rfl d1 ?_ | refine DW_VI tabs rfl (by first | exact fi | exact la | exact lb) ?_ | refine DW_A tabs rfl ?_ | refine DW_nil ?_ | refine W_A rfl ?_ | refine DW_C rfl kx ?_ | refine DW_ix tabOK rfl (ixN hx) ?_ | refine DW_ix tabOK rfl (ixN hy) ?_ | refine W_draw mixed [0, 1, 4, 5, 2, 3, 6, 7, 8, 9] [.P, .P, .R, .R, .P, .P, .R, .R, .P, .P] rfl rfl (by kernel_rfl) ?_)
        exact ⟨rfl, _, rfl, rfl, rfl⟩
    · have d1 : decide ((i : Int) < (a.length : Int)) = false := by simp; omega
      obtain rfl : i = a.length := by omega
      rw [take_all, hl, take_all] at hinv
      have e : decide (a = b) = true := by simp [hinv]
      rw [e]
      repeat' (first | refine DW_VB tabs rfl d1 ?_ | refine DW_VI tabs rfl la ?_ | refine DW_A tabs rfl ?_ | refine DW_nil ?_ | refine W_A rfl ?_ | refine W_draw mixed [0, 1, 4, 5, 2, 3, 6, 7, 8, 9] [.P, .P, .R, .R, .P, .P, .R, .R, .P, .P] rfl rfl (by kernel_rfl) ?_)
      exact ⟨rfl, _, rfl, rfl, rfl⟩
  · have d0 : (!decide ((a.length : Int) = (b.length : Int))) = true := by simp; omega
    have e : decide (a = b) = false := decide_eq_false fun e => hl (by rw [e])
    rw [e]
    repeat' (first | refine DW_VB tabs rfl d0 ?_ | refine DW_VI tabs rfl (by first | exact la | exact lb) ?_ | refine DW_A tabs rfl ?_ | refine DW_nil ?_ | refine W_A rfl ?_ | refine W_draw mixed [0, 1, 4, 5, 2, 3, 6, 7, 8, 9] [.P, .P, .R, .R, .P, .P, .R, .R, .P, .P] rfl rfl (by kernel_rfl) ?_)
    exact ⟨rfl, _, rfl, rfl, rfl⟩
end Go.Proofs.YthdeopopodhimaaGreatDoor

/- Batches laid one behind the other. No further condition. -/
set_option linter.unusedVariables false
set_option linter.unusedSimpArgs false
namespace Go.Proofs.YthdeopopodhimaaGreatDoor
open Go.Ab

theorem openE_lit {l : List Pr} : True := trivial
def sizedC (p : Bytes) (n : Int) : Ch := ⟨p, false, ⟨n, 0, []⟩⟩
/-- One that has no row of chunks: a nil one. -/
def sizedA (p : Bytes) (n : Int) : AV := .agg [.str p, .bool false, .int .i64 n, .int .i64 0, .sl 0 [] .full]
theorem closed_sizedA (p : Bytes) (n : Int) : Closed (sizedA p n) := closed_agg (by
  intro x hx
  simp at hx
  rcases hx with rfl | rfl | rfl | rfl | rfl
  · exact closed_str
  · exact closed_bool
  · exact closed_int
  · exact closed_int
  · exact closed_sl (.inr rfl) (by simp) (by simp))
theorem sub_sizedA {p : Bytes} {n : Int} : Sub (sizedA p n) (sizedC p n).av := Sub.aggL ⟨Sub.refl, Sub.refl, Sub.refl, Sub.refl, Sub.nil, trivial⟩
set_option maxRecDepth 100000 in
set_option maxHeartbeats 8000000 in
theorem sized_ok (p : Bytes) (n : Int) : APure Tryz.prog 80 [.str p, .int .i64 n] (sizedC p n).av := by
  refine pure_sub (closed2 closed_str closed_int) (closed_ch _) ?_
  refine acalls_of tabOK Tryz.func80 rfl (by decide) (by simp [Tryz.f80]) ?_
  repeat' (first | refine DW_A tabs rfl ?_ | refine DW_nil ?_ | refine W_A rfl ?_)
  exact ⟨rfl, _, rfl, _, rfl, SubC.pre sub_sizedA (SubC.of_closed (closed_ch _))⟩

/-- A store of batches, and those that were laid. -/
noncomputable def laidS : List Ld → Tr × List Ld
  | l => l.foldl (fun (s : Tr × List Ld) x => if layB s.1.all x.at_ x.batch = true then (layT s.1 x.at_ x.batch, s.2 ++ [x]) else s) (nilT, [])
theorem laidS_step {l : List Ld} {i : Nat} {x : Ld} (ht : l.take (i + 1) = l.take i ++ [x]) : laidS (l.take (i + 1)) = if layB (laidS (l.take i)).1.all x.at_ x.batch = true then (layT (laidS (l.take i)).1 x.at_ x.batch, (laidS (l.take i)).2 ++ [x]) else laidS (l.take i) := by
  unfold laidS
  rw [ht, List.foldl_append]
  rfl
def smallL (l : List Ld) : Prop := ∀ x, x ∈ l → x.batch.length ≤ 25 ∧ ∀ c, c ∈ x.batch → c.path.length ≤ 200 ∧ c.meta_.ch.length ≤ 30
theorem valueM_len (m : Mt) (no : Bool) (h : m.ch.length ≤ 30) : (valueM m no).1.length < 1000 := by
  unfold valueM putM
  split
  · simp
  · split
    · split
      · have := catN_len (mtL m)
        have hl : (mtL m).length = 3 + m.ch.length := by simp [mtL]; omega
        simp
        omega
      · simp
    · simp
theorem foldP_mem {at_ : Int} : ∀ (c : List Ch) (l : List Pr) (p : Pr), p ∈ c.foldl (fun l x => putP l (chP at_ x)) l → p ∈ l ∨ ∃ x, x ∈ c ∧ p = chP at_ x
  | [], l, p, h => .inl h
  | x :: r, l, p, h => by
    rcases foldP_mem r (putP l (chP at_ x)) p h with h | ⟨y, hy, e⟩
    · rcases putP_mem h with rfl | h
      · exact .inr ⟨x, by simp, rfl⟩
      · exact .inl h
    · exact .inr ⟨y, by simp [hy], e⟩
/-- What is laid in small batches stays small. -/
def okS (t : Tr) (n : Nat) : Prop := t.all.length ≤ n ∧ ∀ p, p ∈ t.all → p.key.path.length ≤ 200 ∧ p.val.length < 1000
theorem okS_lay {t : Tr} {n : Nat} {at_ : Int} {c : List Ch} (h : okS t n) (hn : n < 100000) (hl : c.length ≤ 25) (hc : ∀ x, x ∈ c → x.path.length ≤ 200 ∧ x.meta_.ch.length ≤ 30) : okS (layT t at_ c) (n + 25) := by
  have h1 := layT_len (at_ := at_) c t (by have := h.1; omega)
  refine ⟨by have := h.1; omega, fun p hp => ?_⟩
  rw [h1.2] at hp
  rcases foldP_mem c _ p hp with hp | ⟨x, hx, rfl⟩
  · exact h.2 p hp
  · exact ⟨(hc x hx).1, valueM_len _ _ (hc x hx).2⟩
theorem okS.vals {t : Tr} {n : Nat} (h : okS t n) : valsB t.all := fun p hp => by have := h.2 p hp; omega
theorem laidS_ok {l : List Ld} (hs : smallL l) : ∀ i, i ≤ l.length → i ≤ 20 → okS (laidS (l.take i)).1 (25 * i) ∧ (laidS (l.take i)).2.length ≤ i ∧ ∀ x, x ∈ (laidS (l.take i)).2 → x ∈ l
  | 0, _, _ => ⟨⟨Nat.le_refl 0, fun p hp => by cases hp⟩, Nat.le_refl 0, fun x hx => by cases hx⟩
  | i + 1, h, h20 => by
    obtain ⟨h1, h2, h3⟩ := laidS_ok hs i (by omega) (by omega)
    have hx : l[i]? = some l[i] := List.getElem?_eq_getElem (by omega)
    have hm := List.getElem_mem (show i < l.length by omega)
    rw [laidS_step (take_succ hx)]
    split
    · have hb := hs _ hm
      refine ⟨okS_lay (n := 25 * i) h1 (by omega) hb.1 hb.2, by simp; omega, fun x hx => ?_⟩
      rcases List.mem_append.1 hx with hx | hx
      · exact h3 x hx
      · simp at hx
        rw [hx]
        exact hm
    · exact ⟨⟨by have := h1.1; omega, h1.2⟩, by omega, h3⟩
noncomputable def lwF (l : List Ld) (tg : Tag) (i g : Nat) : AF := ⟨[(0, ldA l tg), (4, (laidS (l.take i)).1.av), (5, ldA (laidS (l.take i)).2 (.tok 0 g)), (6, .int .i64 (i : Int))], []⟩
noncomputable def lwA (l : List Ld) : AV := .tup [(laidS l).1.av, ldA (laidS l).2 .none]
theorem closed_lwA (l : List Ld) : Closed (lwA l) := closed_tup (closed2 (closed_tr _) (closed_lds _ (.inl rfl)))
set_option maxRecDepth 100000 in
set_option maxHeartbeats 8000000 in
theorem laid_ok (l : List Ld) (tg : Tag) (htg : tg = .none ∨ tg = .full) (hl : l.length ≤ 20) (hs : smallL l) : APure Tryz.prog 47 [ldA l tg] (lwA l) := by
  refine pure_sub (closed1 (closed_lds l htg)) (closed_lwA l) ?_
  refine acalls_of tabOK Tryz.func47 rfl (by decide) (by simp [Tryz.f47]) ?_
  have kn := new_ok
  have la := len_map Ld.av l
  unfold Tr.av at kn
  unfold ldA
  repeat' (first | refine DW_VI tabs rfl la ?_ | refine DW_A tabs rfl ?_ | refine DW_nil ?_ | refine W_A rfl ?_ | refine DW_C rfl kn ?_ | refine DW_nilc tabOK rfl ?_ | refine DW_row tabOK rfl ?_ | refine DW_app tabOK rfl rfl (by simp; omega) (by simp; omega) ?_ | refine DW_app0 tabOK rfl (by simp; omega) (by simp; omega) ?_ | refine W_draw mixed [0, 1, 2, 6, 7, 3, 4, 5, 8, 9, 10, 11, 12, 13, 14, 15, 16] [.P, .P, .P, .R, .R, .R, .P, .P, .R, .R, .R, .P, .P, .P, .P, .P, .P] rfl rfl (by kernel_rfl) ?_)
  refine W_count l.length (fun i f N => ∃ g, N = tokM g ∧ f = lwF l tg i g) (Nat.zero_le _) ⟨0, rfl, rfl⟩ ((Joint.tok 5 rfl (sz' := 2) (.inr rfl)).trans (Joint.le ?_ (tokM_of rfl rfl))) ?_
  · unfold lwF ldA
    repeat (refine AF.le_cons rfl ?_)
    exact AF.le_nil rfl
  rintro i f N hi ⟨g, rfl, rfl⟩
  unfold lwF ldA
  by_cases h1 : i < l.length
  · have d1 : decide ((i : Int) < (l.length : Int)) = true := by simp; omega
    have hx : l[i]? = some l[i] := List.getElem?_eq_getElem h1
    have fi := wrap_succ (i := i) (by omega)
    have ht := take_succ hx
    have hb := hs _ (List.getElem_mem h1)
    generalize l[i] = x at hx ht hb
    obtain ⟨q1, q2, q3⟩ := laidS_ok hs i (by omega) (by omega)
    have kl := lay_ok (laidS (l.take i)).1 x.at_ x.batch .none (.inl rfl) (by have := q1.1; omega) q1.vals (fun c hc => by have := hb.2 c hc; exact ⟨by omega, by omega⟩)
    have hst := laidS_step ht
    generalize hS : laidS (l.take i) = S at *
    obtain ⟨u, took⟩ := S
    have lt := len_map Ld.av took
    have q2' : took.length ≤ i := q2
    unfold layA at kl
    have hu := closed_tr u
    cases hb2 : layB u.all x.at_ x.batch
    · rw [if_neg (by simp [hb2])] at kl hst
      unfold Tr.av chA at kl
      unfold Tr.av
      repeat' (first | refine DW_VB tabs rfl d1 ?_ | refine DW_VI tabs rfl (by first | exact la | exact fi) ?_ | refine DW_A tabs rfl ?_ | refine DW_nil ?_ | refine W_A rfl ?_ | refine DW_C rfl kl ?_ | refine DW_ix tabOK rfl (ixN hx) ?_ | refine DW_nilc tabOK rfl ?_ | refine DW_row tabOK rfl ?_ | refine DW_app tabOK rfl rfl (by simp; omega) (by simp; omega) ?_ | refine DW_app0 tabOK rfl (by simp; omega) (by simp; omega) ?_ | refine W_draw mixed [0, 1, 2, 6, 7, 3, 4, 5, 8, 9, 10, 11, 12, 13, 14, 15, 16] [.P, .P, .P, .R, .R, .R, .P, .P, .R, .R, .R, .P, .P, .P, .P, .P, .P] rfl rfl (by kernel_rfl) ?_)
      refine ⟨h1, lwF l tg (i + 1) g, tokM g, ⟨g, rfl, rfl⟩, ?_⟩
      unfold lwF
      rw [hst]
      refine Joint.le ?_ (tokM_of rfl rfl)
      unfold Tr.av ldA
      repeat (refine AF.le_cons rfl ?_)
      exact AF.le_nil rfl
    · rw [if_pos hb2] at kl hst
      have hv := closed_tr (layT u x.at_ x.batch)
      unfold chA at kl
      generalize hV : layT u x.at_ x.batch = v at *
      unfold Tr.av at kl ⊢
      repeat' (first | refine DW_VB tabs rfl d1 ?_ | refine DW_VI tabs rfl (by first | exact la | exact lt | exact fi) ?_ | refine DW_A tabs rfl ?_ | refine DW_nil ?_ | refine W_A rfl ?_ | refine DW_C rfl kl ?_ | refine DW_ix tabOK rfl (ixN hx) ?_ | refine DW_nilc tabOK rfl ?_ | refine DW_row tabOK rfl ?_ | refine DW_app tabOK rfl rfl (by simp; omega) (by simp; omega) ?_ | refine DW_app0 tabOK rfl (by simp; omega) (by simp; omega) ?_ | refine W_draw mixed [0, 1, 2, 6, 7, 3, 4, 5, 8, 9, 10, 11, 12, 13, 14, 15, 16] [.P, .P, .P, .R, .R, .R, .P, .P, .R, .R, .R, .P, .P, .P, .P, .P, .P] rfl rfl (by kernel_rfl) ?_)
      refine ⟨h1, lwF l tg (i + 1) (g + 1), tokM (g + 1), ⟨g + 1, rfl, rfl⟩, ?_⟩
      unfold lwF
      rw [hst]
      refine Joint.le ?_ (tokM_of rfl rfl)
      have e : AV.sl 2 ((took ++ [x]).map Ld.av) (.tok 0 (g + 1)) = .sl 2 (took.map Ld.av ++ [x.av]) (.tok 0 (g + 1)) := by simp
      unfold ldA
      rw [e]
      unfold Tr.av
      repeat (refine AF.le_cons rfl ?_)
      exact AF.le_nil rfl
  · have d1 : decide ((i : Int) < (l.length : Int)) = false := by simp; omega
    obtain rfl : i = l.length := by omega
    rw [List.take_length]
    have hu := closed_tr (laidS l).1
    have hw := closed_lds (laidS l).2 (t := .none) (.inl rfl)
    unfold lwA
    generalize laidS l = S at *
    obtain ⟨u, took⟩ := S
    unfold Tr.av
    repeat' (first | refine DW_VB tabs rfl d1 ?_ | refine DW_VI tabs rfl la ?_ | refine DW_A tabs rfl ?_ | refine DW_nil ?_ | refine W_A rfl ?_ | refine DW_nilc tabOK rfl ?_ | refine DW_row tabOK rfl ?_ | refine DW_app tabOK rfl rfl (by simp; omega) (by simp; omega) ?_ | refine DW_app0 tabOK rfl (by simp; omega) (by simp; omega) ?_ | refine W_draw mixed [0, 1, 2, 6, 7, 3, 4, 5, 8, 9, 10, 11, 12, 13, 14, 15, 16] [.P, .P, .P, .R, .R, .R, .P, .P, .R, .R, .R, .P, .P, .P, .P, .P, .P] rfl rfl (by kernel_rfl) ?_)
    exact ⟨rfl, _, rfl, _, rfl, SubC.tup2 (SubC.of_closed hu) (SubC.untag hw)⟩
end Go.Proofs.YthdeopopodhimaaGreatDoor

/- What is put of metadata is got. No further condition. -/
set_option linter.unusedVariables false
set_option linter.unusedSimpArgs false
namespace Go.Proofs.YthdeopopodhimaaGreatDoor
open Go.Ab

theorem byteAt_nat (n j : Nat) : (byteAt n j).toNat = n / 256 ^ j % 256 := by
  unfold byteAt
  rw [UInt8.toNat_ofNat']
  omega
theorem num_be4 {n : Nat} (h : n < 4294967296) : num (be4 n) = n := by
  unfold num be4
  simp only [List.foldl_cons, List.foldl_nil, byteAt_nat]
  have e0 : n / 256 ^ 0 = n := by simp
  have e1 : n / 256 ^ 1 = n / 256 := by simp
  have e2 : n / 256 ^ 2 = n / 65536 := rfl
  have e3 : n / 256 ^ 3 = n / 16777216 := rfl
  rw [e0, e1, e2, e3]
  omega
theorem num_drop : ∀ l : Bytes, num (l.dropWhile (· == 0)) = num l
  | [] => rfl
  | b :: r => by
    rw [List.dropWhile_cons]
    by_cases h : (b == 0) = true
    · rw [if_pos h, num_drop r]
      have : b = 0 := by simpa using h
      subst this
      rfl
    · rw [if_neg h]
theorem num_nb {n : Nat} (h : n < 4294967296) : num (nb n) = n := by
  unfold nb nbI
  rw [num_drop, show (be4 n).take 4 = be4 n from rfl, num_be4 h]
theorem drop_head : ∀ l : Bytes, (l.dropWhile (· == 0)).head? ≠ some 0
  | [] => by simp
  | b :: r => by
    rw [List.dropWhile_cons]
    by_cases h : (b == 0) = true
    · rw [if_pos h]
      exact drop_head r
    · rw [if_neg h]
      simp at h
      simp [h]
theorem getNum_put {n : Nat} (h : n < 4294967296) (r : Bytes) : getNum (putN n ++ r) = some (n, r) := by
  have hl : (nb n).length ≤ 4 := nbI_len n 4
  have hc : (UInt8.ofNat (nb n).length).toNat = (nb n).length := by
    rw [UInt8.toNat_ofNat']
    omega
  unfold putN
  rw [List.cons_append, getNum_some]
  · rw [hc, List.take_left, List.drop_left, num_nb h]
  · rw [hc, List.take_left]
    rintro (h1 | h1 | h1)
    · omega
    · rw [List.length_append] at h1
      omega
    · exact drop_head _ h1
theorem nums_cat : ∀ l : List Int, (∀ x, x ∈ l → 0 ≤ x ∧ x ≤ 4294967295) → nums (catN l) = some (l.map Int.toNat)
  | [], _ => nums_nil
  | x :: r, h => by
    have hx := h x (by simp)
    have e : catN (x :: r) = putN x.toNat ++ catN r := by simp [catN]
    rw [e, nums_some (getNum_put (by omega) _), nums_cat r (fun y hy => h y (by simp [hy]))]
    rfl
theorem getM_put {m : Mt} (h : isM m = true) : getM (catN (mtL m)) = (m, 0) := by
  have hin := mtL_in h
  unfold getM
  rw [nums_cat _ hin]
  have e : (mtL m).map Int.toNat = m.size.toNat :: m.mode.toNat :: m.ch.length :: m.ch.map Int.toNat := by
    unfold mtL
    simp
  have e2 : nI (m.ch.map Int.toNat) = m.ch := by
    unfold nI
    rw [List.map_map]
    have : ∀ l : List Int, (∀ x, x ∈ l → 0 ≤ x) → l.map ((fun n : Nat => (n : Int)) ∘ Int.toNat) = l := by
      intro l
      induction l with
      | nil => intro _; rfl
      | cons a r ih =>
        intro hl
        rw [List.map_cons, ih (fun x hx => hl x (by simp [hx]))]
        have := hl a (by simp)
        congr 1
        simp
        omega
    exact this _ (fun x hx => (hin x (by unfold mtL; simp [hx])).1)
  have hs := hin m.size (by unfold mtL; simp)
  have hm := hin m.mode (by unfold mtL; simp)
  have e3 : (⟨(m.size.toNat : Int), (m.mode.toNat : Int), nI (m.ch.map Int.toNat)⟩ : Mt) = m := by
    rw [e2, Int.toNat_of_nonneg hs.1, Int.toNat_of_nonneg hm.1]
  rw [e, getMo_yes (by simp) (by rw [e3]; exact h), e3]
theorem putN_ne (n : Nat) : ∃ c r, putN n = c :: r := ⟨_, _, rfl⟩
theorem readM_there {m : Mt} (h : isM m = true) : readM (valueM m false).1 = (m, false, 0) := by
  have e : (valueM m false).1 = 1 :: catN (mtL m) := by
    unfold valueM putM
    rw [if_neg (by simp), if_pos h, if_pos rfl]
  rw [e]
  show (if (1 : UInt8) = 0 ∧ catN (mtL m) = [] then (zeroMt, true, (0 : Int)) else if (1 : UInt8) = 1 then ((getM (catN (mtL m))).1, false, (getM (catN (mtL m))).2) else (zeroMt, false, 30)) = _
  rw [if_neg (by simp), if_pos rfl, getM_put h]
theorem readM_gone (m : Mt) : readM (valueM m true).1 = (zeroMt, true, 0) := by
  have e : (valueM m true).1 = [0] := by
    unfold valueM
    rw [if_pos rfl]
  rw [e]
  rfl
theorem readM_value {m : Mt} {g : Bool} (h : isM m = true) : (readM (valueM m g).1).2.1 = g ∧ (readM (valueM m g).1).2.2 = 0 := by
  cases g
  · rw [readM_there h]
    exact ⟨rfl, rfl⟩
  · rw [readM_gone]
    exact ⟨rfl, rfl⟩
end Go.Proofs.YthdeopopodhimaaGreatDoor

/- Plain facts of ranges and cursors. No further condition. -/
set_option linter.unusedVariables false
set_option linter.unusedSimpArgs false
namespace Go.Proofs.YthdeopopodhimaaGreatDoor
open Go.Ab

theorem fromP_ge {l : List Pr} {a b : Ky} (h : ∀ k, rless k a = true → rless k b = true) : fromP l b = (fromP l a).dropWhile fun p => rless p.key b := by
  unfold fromP
  induction l with
  | nil => rfl
  | cons p r ih =>
    cases h1 : rless p.key a
    · rw [List.dropWhile_cons (xs := r) (p := fun p => rless p.key a), if_neg (by rw [h1]; simp)]
    · rw [List.dropWhile_cons (xs := r) (p := fun p => rless p.key a), if_pos h1, List.dropWhile_cons, if_pos (h _ h1), ih]
theorem takeW_app {α : Type} {p q : α → Bool} (h : ∀ x, p x = true → q x = true) (l : List α) : l.takeWhile p ++ (l.dropWhile p).takeWhile q = l.takeWhile q := by
  induction l with
  | nil => rfl
  | cons x r ih =>
    cases hx : p x
    · rw [List.takeWhile_cons (p := p), if_neg (by rw [hx]; simp), List.dropWhile_cons, if_neg (by rw [hx]; simp)]
      rfl
    · rw [List.takeWhile_cons (p := p), if_pos hx, List.dropWhile_cons, if_pos hx, List.takeWhile_cons, if_pos (h x hx), List.cons_append, ih]
theorem range_len (l : List Pr) (a b : Ky) : (rangeC l a b).length ≤ l.length := ((List.takeWhile_sublist _).trans (List.dropWhile_sublist _)).length_le
/-- A range of two parts. -/
theorem range_two {l : List Pr} {a b c : Ky} (h1 : a = b ∨ rless a b = true) (h2 : b = c ∨ rless b c = true) : rangeC l a b ++ rangeC l b c = rangeC l a c := by
  have k1 : ∀ k, rless k a = true → rless k b = true := fun k hk => h1.elim (fun e => e ▸ hk) (rless_trans hk)
  have k2 : ∀ k, rless k b = true → rless k c = true := fun k hk => h2.elim (fun e => e ▸ hk) (rless_trans hk)
  unfold rangeC
  rw [fromP_ge k1]
  exact takeW_app (fun (x : Pr) => k2 x.key) _
theorem fromP_filter {l : List Pr} (hr : Rise l) (k : Ky) : fromP l k = l.filter fun p => !rless p.key k := by
  induction l with
  | nil => rfl
  | cons p r ih =>
    obtain ⟨h1, h2⟩ := List.pairwise_cons.1 hr
    unfold fromP at ih ⊢
    cases h : rless p.key k
    · rw [List.dropWhile_cons, if_neg (by rw [h]; simp), List.filter_cons, if_pos (by rw [h]; rfl)]
      congr 1
      refine (List.filter_eq_self.2 fun q hq => ?_).symm
      cases h3 : rless q.key k
      · rfl
      · rw [rless_trans (h1 q hq) h3] at h; cases h
    · rw [List.dropWhile_cons, if_pos h, List.filter_cons, if_neg (by rw [h]; simp), ih h2]
theorem take_filter {l : List Pr} (hr : Rise l) (k : Ky) : (l.takeWhile fun p => rless p.key k) = l.filter fun p => rless p.key k := by
  induction l with
  | nil => rfl
  | cons p r ih =>
    obtain ⟨h1, h2⟩ := List.pairwise_cons.1 hr
    cases h : rless p.key k
    · rw [List.takeWhile_cons, if_neg (by rw [h]; simp), List.filter_cons, if_neg (by rw [h]; simp)]
      refine (List.filter_eq_nil_iff.2 fun q hq => ?_).symm
      intro h3
      rw [rless_trans (h1 q hq) h3] at h
      cases h
    · rw [List.takeWhile_cons, if_pos h, List.filter_cons, if_pos h, ih h2]
theorem range_filter {l : List Pr} (hr : Rise l) (a b : Ky) : rangeC l a b = l.filter fun p => !rless p.key a && rless p.key b := by
  unfold rangeC
  rw [fromP_filter hr, take_filter (hr.sublist List.filter_sublist), List.filter_filter]
  congr 1
  funext p
  rw [Bool.and_comm]

theorem same_cut {P : Bytes} : ∀ {s : List Pr}, Rise s → (∀ q, q ∈ s → q.key.path = P ∨ bl P q.key.path = true) → (s.dropWhile fun q => q.key.path == P) = s.filter fun q => !(q.key.path == P)
  | [], _, _ => rfl
  | q :: s, hr, h => by
    obtain ⟨h1, h2⟩ := List.pairwise_cons.1 hr
    cases hq : q.key.path == P
    · rw [List.dropWhile_cons, if_neg (by rw [hq]; simp)]
      have hq' : q.key.path ≠ P := by simpa using hq
      have hb : bl P q.key.path = true := (h q (by simp)).resolve_left hq'
      refine (List.filter_eq_self.2 fun x hx => ?_).symm
      have hx' : bl P x.key.path = true := by
        rcases List.mem_cons.1 hx with rfl | hx
        · exact hb
        · have h3 := h1 x hx
          unfold rless at h3
          simp only [Bool.or_eq_true, Bool.and_eq_true, beq_iff_eq] at h3
          rcases h3 with h3 | ⟨h3, _⟩
          · exact bl_trans hb h3
          · rw [← h3]; exact hb
      cases h4 : x.key.path == P
      · rfl
      · have h5 : x.key.path = P := by simpa using h4
        rw [h5, bl_irrefl] at hx'
        cases hx'
    · rw [List.dropWhile_cons, if_pos hq, List.filter_cons, if_neg (by rw [hq]; simp)]
      exact same_cut h2 fun x hx => h x (by simp [hx])
theorem rise_paths {p : Pr} {r : List Pr} (hr : Rise (p :: r)) : ∀ q, q ∈ p :: r → q.key.path = p.key.path ∨ bl p.key.path q.key.path = true := by
  intro q hq
  rcases List.mem_cons.1 hq with rfl | hq
  · exact .inl rfl
  · have h3 := (List.pairwise_cons.1 hr).1 q hq
    unfold rless at h3
    simp only [Bool.or_eq_true, Bool.and_eq_true, beq_iff_eq] at h3
    rcases h3 with h3 | ⟨h3, _⟩
    · exact .inr h3
    · exact .inl h3.symm
theorem same_filter {u : Pr → Bool} {p : Pr} {r : List Pr} (hr : Rise (p :: r)) : (sameP p.key.path (p :: r)).filter u = ((p :: r).filter u).dropWhile fun q => q.key.path == p.key.path := by
  unfold sameP
  rw [same_cut hr (rise_paths hr), same_cut (hr.sublist List.filter_sublist) (fun q hq => rise_paths hr q (List.mem_filter.1 hq).1), List.filter_filter, List.filter_filter]
  congr 1
  funext q
  rw [Bool.and_comm]
theorem drop_find (l : List Pr) (k : Ky) : l.drop (findP l k) = fromP l k := by
  unfold findP fromP
  induction l with
  | nil => rfl
  | cons p r ih =>
    cases h : rless p.key k
    · rw [List.takeWhile_cons, if_neg (by rw [h]; simp), List.dropWhile_cons, if_neg (by rw [h]; simp)]
      rfl
    · rw [List.takeWhile_cons, if_pos h, List.dropWhile_cons, if_pos h, List.length_cons, List.drop_succ_cons, ih]
theorem drop_takeW {α : Type} (p : α → Bool) (l : List α) : l.drop (l.takeWhile p).length = l.dropWhile p := by
  induction l with
  | nil => rfl
  | cons x r ih =>
    cases h : p x
    · rw [List.takeWhile_cons, if_neg (by rw [h]; simp), List.dropWhile_cons, if_neg (by rw [h]; simp)]
      rfl
    · rw [List.takeWhile_cons, if_pos h, List.dropWhile_cons, if_pos h, List.length_cons, List.drop_succ_cons, ih]

/-- The program's cursor and the document's stand alike. -/
structure Alike (A : List Pr) (dir : Bytes) (m : List Pr) (i : Nat) : Prop where
  sub : m.Sublist A
  le : i ≤ (A.filter fun p => underB dir p.key.path).length
  eq : (A.filter fun p => underB dir p.key.path).drop i = m.filter fun p => underB dir p.key.path
theorem alike_new (A : List Pr) (dir : Bytes) : Alike A dir A 0 := ⟨List.Sublist.refl _, Nat.zero_le _, rfl⟩
theorem alike_head {A : List Pr} {dir : Bytes} {m : List Pr} {i : Nat} (h : Alike A dir m i) : (A.filter fun p => underB dir p.key.path).drop i = (skipU dir m).filter fun p => underB dir p.key.path := by rw [h.eq, filter_skip]
theorem drop_nil {α : Type} {l : List α} {i : Nat} (h : l.drop i = []) : l.length ≤ i := by
  have := congrArg List.length h
  simp at this
  omega
theorem alike_next {A : List Pr} {dir : Bytes} {m : List Pr} {i : Nat} (h : Alike A dir m i) :
    (nextC ((A.filter fun p => underB dir p.key.path).drop i)).1 = (nextC (skipU dir m)).1 ∧ Alike A dir (nextC (skipU dir m)).2 (rnextI (A.filter fun p => underB dir p.key.path) i) := by
  have hh := alike_head h
  have hs := (skipU_sub dir m).trans h.sub
  have hu := @skipU_head dir m
  unfold rnextI
  generalize skipU dir m = s at hh hs hu
  cases s with
  | nil =>
    have hd : (A.filter fun p => underB dir p.key.path).drop i = [] := hh
    have hl := drop_nil hd
    rw [hd, if_neg (by omega)]
    exact ⟨rfl, List.nil_sublist _, h.le, hd⟩
  | cons p r =>
    rw [List.filter_cons, if_pos (hu rfl)] at hh
    have hlt : i < (A.filter fun p => underB dir p.key.path).length := by
      have := congrArg List.length hh
      simp at this
      omega
    rw [hh, if_pos hlt]
    refine ⟨rfl, (List.sublist_cons_self p r).trans hs, by omega, ?_⟩
    have e : (A.filter fun p => underB dir p.key.path).drop (i + 1) = ((A.filter fun p => underB dir p.key.path).drop i).drop 1 := by rw [List.drop_drop]
    rw [e, hh]
    rfl
theorem alike_skip {A : List Pr} (hA : Rise A) {dir : Bytes} {m : List Pr} {i : Nat} (h : Alike A dir m i) :
    (skipC ((A.filter fun p => underB dir p.key.path).drop i)).1 = (skipC (skipU dir m)).1 ∧ Alike A dir (skipC (skipU dir m)).2 (rskipI (A.filter fun p => underB dir p.key.path) i) := by
  have hh := alike_head h
  have hs := (skipU_sub dir m).trans h.sub
  have hu := @skipU_head dir m
  unfold rskipI
  generalize skipU dir m = s at hh hs hu
  cases s with
  | nil =>
    have hd : (A.filter fun p => underB dir p.key.path).drop i = [] := hh
    rw [hd]
    exact ⟨rfl, List.nil_sublist _, h.le, hd⟩
  | cons p r =>
    have hr := hA.sublist hs
    have hf := same_filter (u := fun p => underB dir p.key.path) hr
    have hd : (A.filter fun p => underB dir p.key.path).drop i = p :: r.filter fun p => underB dir p.key.path := by rw [hh, List.filter_cons, if_pos (hu rfl)]
    have hlen := congrArg List.length hd
    rw [List.length_drop] at hlen
    have htl := (List.takeWhile_sublist (fun q : Pr => q.key.path == p.key.path) (l := p :: r.filter fun p => underB dir p.key.path)).length_le
    rw [hd]
    refine ⟨rfl, (List.dropWhile_sublist _).trans hs, ?_, ?_⟩
    · show i + ((p :: r.filter fun p => underB dir p.key.path).takeWhile fun q => q.key.path == p.key.path).length ≤ _
      have := h.le
      omega
    · show (A.filter fun p => underB dir p.key.path).drop (i + ((p :: r.filter fun p => underB dir p.key.path).takeWhile fun q => q.key.path == p.key.path).length) = (sameP p.key.path (p :: r)).filter _
      rw [hf, ← hh, ← List.drop_drop, ← hd, drop_takeW]
theorem alike_seek {A : List Pr} (hA : Rise A) {dir : Bytes} (k : Ky) : Alike A dir (fromP A k) (findP (A.filter fun p => underB dir p.key.path) k) := by
  refine ⟨List.dropWhile_sublist _, findP_le _ _, ?_⟩
  rw [drop_find, fromP_filter (hA.sublist List.filter_sublist), fromP_filter hA, List.filter_filter, List.filter_filter]
  congr 1
  funext q
  rw [Bool.and_comm]
end Go.Proofs.YthdeopopodhimaaGreatDoor
