/- Parts of the proof, one behind the other: VacP, VacD, VLawA, VLawB, RStA. No further condition. -/
import Derived.Test.YthdeopopodhimaaGreatDoorV24
import Derived.Test.YthdeopopodhimaaGreatDoorV19
import Derived.Test.YthdeopopodhimaaGreatDoorV23
import Derived.Test.YthdeopopodhimaaGreatDoorV22
set_option linter.unusedVariables false
set_option linter.unusedSimpArgs false
/- Plain facts on dead versions. No further condition. -/
set_option linter.unusedVariables false
set_option linter.unusedSimpArgs false
namespace Go.Proofs.YthdeopopodhimaaGreatDoor
open Go.Ab

/-- Is a version dead at w? -/
def newer (l : List Pr) (w : Int) (x : Pr) : Prop := ∃ y, y ∈ l ∧ y.key.path = x.key.path ∧ x.key.time < y.key.time ∧ y.key.time ≤ w
def isGone (x : Pr) : Bool := (readM x.val).2.1
def Dead (l : List Pr) (w : Int) (x : Pr) : Prop := x.key.time ≤ w ∧ (newer l w x ∨ isGone x = true)
noncomputable def deadB (l : List Pr) (w : Int) (x : Pr) : Bool := @decide (Dead l w x) (Classical.propDecidable _)
theorem deadB_iff {l : List Pr} {w : Int} {x : Pr} : deadB l w x = true ↔ Dead l w x := by
  unfold deadB
  exact @decide_eq_true_iff _ (Classical.propDecidable _)
/-- The path that the scan has kept: that of a version up to w. -/
def Seen (a : List Pr) (w : Int) (s : Option Bytes) : Prop := ∀ p, (∀ y, y ∈ a → y.key.path = p ∨ bl y.key.path p = true) → (s = some p ↔ ∃ y, y ∈ a ∧ y.key.path = p ∧ y.key.time ≤ w)
theorem scan_app (w : Int) (a b : List Pr) : scanD w (a ++ b) = b.foldl (stepD w) (scanD w a) := by
  unfold scanD
  rw [List.foldl_append]
theorem rise_le {a b : List Pr} {x y : Pr} (hr : Rise (a ++ b)) (hx : x ∈ a) (hy : y ∈ b) : x.key.path = y.key.path ∨ bl x.key.path y.key.path = true := by
  have := (List.pairwise_append.1 hr).2.2 x hx y hy
  rcases (rless_def _ _).1 this with h | ⟨h, _⟩
  · exact .inr h
  · exact .inl h
theorem seen_step {a : List Pr} {w : Int} {s : Option Bytes} {x : Pr} (hr : Rise (a ++ [x])) (h : Seen a w s) : Seen (a ++ [x]) w (keptS s x w).2 := by
  intro p hp
  unfold keptS
  have hxp := hp x (by simp)
  by_cases hx : w < x.key.time
  · rw [if_pos hx]
    rw [h p (fun y hy => hp y (by simp [hy]))]
    constructor
    · rintro ⟨y, hy, h1, h2⟩
      exact ⟨y, by simp [hy], h1, h2⟩
    · rintro ⟨y, hy, h1, h2⟩
      rcases List.mem_append.1 hy with hy | hy
      · exact ⟨y, hy, h1, h2⟩
      · simp at hy
        subst hy
        omega
  · rw [if_neg hx]
    constructor
    · intro e
      have e : x.key.path = p := Option.some.inj e
      exact ⟨x, by simp, e, by omega⟩
    · rintro ⟨y, hy, h1, h2⟩
      show some x.key.path = some p
      congr 1
      rcases List.mem_append.1 hy with hy | hy
      · rcases rise_le hr hy (y := x) (by simp) with h3 | h3
        · rw [← h3, h1]
        · rw [h1] at h3
          rcases hxp with h4 | h4
          · exact h4
          · have := bl_asymm h3
            rw [h4] at this
            cases this
      · simp at hy
        rw [← hy]
        exact h1
theorem scan_ok (w : Int) : ∀ (b a : List Pr), Rise (a ++ b) → Seen a w (scanD w a).1 → (scanD w a).2 = (a.filter (deadB (a ++ b) w)).map (·.key) → Seen (a ++ b) w (scanD w (a ++ b)).1 ∧ (scanD w (a ++ b)).2 = ((a ++ b).filter (deadB (a ++ b) w)).map (·.key)
  | [], a, hr, hs, he => by
    rw [List.append_nil] at *
    exact ⟨hs, he⟩
  | x :: b, a, hr, hs, he => by
    have e : a ++ x :: b = (a ++ [x]) ++ b := by simp
    have hr1 : Rise (a ++ [x]) := by
      rw [e] at hr
      exact (List.pairwise_append.1 hr).1
    have h1 : scanD w (a ++ [x]) = stepD w (scanD w a) x := by rw [scan_app]; rfl
    have hs1 := seen_step hr1 hs
    have hk : (keptS (scanD w a).1 x w).1 = !deadB (a ++ x :: b) w x := by
      rw [Bool.eq_iff_iff]
      simp only [Bool.not_eq_true', ← Bool.not_eq_true, deadB_iff]
      unfold keptS
      by_cases hx : w < x.key.time
      · rw [if_pos hx]
        simp only [true_iff]
        rintro ⟨h2, _⟩
        omega
      · rw [if_neg hx]
        have hq := hs x.key.path (fun y hy => rise_le hr1 hy (by simp))
        simp only [Bool.and_eq_true, Bool.not_eq_true', decide_eq_false_iff_not, hq]
        have hn : newer (a ++ x :: b) w x ↔ ∃ y, y ∈ a ∧ y.key.path = x.key.path ∧ y.key.time ≤ w := by
          constructor
          · rintro ⟨y, hy, h2, h3, h4⟩
            rcases List.mem_append.1 hy with hy | hy
            · exact ⟨y, hy, h2, h4⟩
            · exfalso
              rcases List.mem_cons.1 hy with rfl | hy
              · omega
              · have := (List.pairwise_cons.1 (List.pairwise_append.1 hr).2.1).1 y hy
                rcases (rless_def _ _).1 this with h5 | ⟨_, h5⟩
                · rw [h2, bl_irrefl] at h5
                  cases h5
                · omega
          · rintro ⟨y, hy, h2, h4⟩
            refine ⟨y, by simp [hy], h2, ?_, h4⟩
            have := (List.pairwise_append.1 hr1).2.2 y hy x (by simp)
            rcases (rless_def _ _).1 this with h5 | ⟨_, h5⟩
            · rw [h2, bl_irrefl] at h5
              cases h5
            · exact h5
        unfold Dead
        rw [hn]
        unfold isGone
        constructor
        · rintro ⟨h2, h3⟩ ⟨_, h4 | h4⟩
          · exact h2 h4
          · rw [h3] at h4
            cases h4
        · intro h2
          refine ⟨fun h3 => h2 ⟨by omega, .inl h3⟩, ?_⟩
          cases hg : (readM x.val).2.1
          · rfl
          · exact absurd ⟨by omega, .inr hg⟩ h2
    rw [e] at hr ⊢
    refine scan_ok w b (a ++ [x]) hr (by rw [h1]; exact hs1) ?_
    rw [h1, ← e]
    unfold stepD
    rw [hk, List.filter_append, List.map_append, ← he]
    cases hd : deadB (a ++ x :: b) w x
    · simp [hd]
    · simp [hd]
theorem scan_dead {l : List Pr} (hr : Rise l) (w : Int) : (scanD w l).2 = (l.filter (deadB l w)).map (·.key) :=
  (scan_ok w l [] hr (fun p _ => by simp [scanD]) rfl).2

/-! ### What is left -/
noncomputable def runL (l : List Pr) (w : Int) : List Pr := l.filter fun x => !deadB l w x
theorem dropP_filter {l : List Pr} (hr : Rise l) (k : Ky) : dropP l k = l.filter fun x => !decide (x.key = k) := by
  induction l with
  | nil => rfl
  | cons q r ih =>
    obtain ⟨h1, h2⟩ := List.pairwise_cons.1 hr
    simp only [dropP]
    by_cases hq : rless q.key k = true
    · rw [if_pos hq, ih h2, List.filter_cons, if_pos]
      have : q.key ≠ k := by
        rintro rfl
        rw [rless_irrefl] at hq
        cases hq
      simp [this]
    · rw [if_neg hq]
      have hrest : r.filter (fun x => !decide (x.key = k)) = r := by
        refine List.filter_eq_self.2 fun x hx => ?_
        have : x.key ≠ k := by
          rintro rfl
          exact hq (h1 x hx)
        simp [this]
      by_cases he : q.key = k
      · rw [if_pos he, List.filter_cons, if_neg (by simp [he]), hrest]
      · rw [if_neg he, List.filter_cons, if_pos (by simp [he]), hrest]
theorem drops_filter : ∀ (ks : List Ky) {l : List Pr}, Rise l → ks.foldl dropP l = l.filter fun x => !decide (x.key ∈ ks)
  | [], l, _ => by
    show l = _
    exact (List.filter_eq_self.2 (by simp)).symm
  | k :: ks, l, hr => by
    rw [List.foldl_cons, drops_filter ks (dropP_rise hr), dropP_filter hr, List.filter_filter]
    congr 1
    funext x
    by_cases h1 : x.key = k <;> by_cases h2 : x.key ∈ ks <;> simp [h1, h2]
    all_goals (first | (subst h1; simp [h2]) | simp_all)
theorem run_drops {l : List Pr} (hr : Rise l) (w : Int) : (scanD w l).2.foldl dropP l = runL l w := by
  rw [drops_filter _ hr, scan_dead hr]
  unfold runL
  refine List.filter_congr fun x hx => ?_
  congr 1
  rw [Bool.eq_iff_iff, decide_eq_true_iff]
  constructor
  · intro h
    obtain ⟨y, hy, he⟩ := List.mem_map.1 h
    rw [List.mem_filter] at hy
    have := rise_inj hr hy.1 hx he
    rw [← this]
    exact hy.2
  · intro h
    exact List.mem_map.2 ⟨x, List.mem_filter.2 ⟨hx, h⟩, rfl⟩
theorem dead_mono {l : List Pr} {w v : Int} {x : Pr} (h : w ≤ v) (hd : Dead l w x) : Dead l v x := by
  obtain ⟨h1, h2⟩ := hd
  refine ⟨by omega, ?_⟩
  rcases h2 with ⟨y, hy, a, b, c⟩ | h2
  · exact .inl ⟨y, hy, a, b, by omega⟩
  · exact .inr h2
theorem run_mem {l : List Pr} {w : Int} {x : Pr} : x ∈ runL l w ↔ x ∈ l ∧ ¬ Dead l w x := by
  unfold runL
  rw [List.mem_filter]
  simp only [Bool.not_eq_true', ← Bool.not_eq_true, deadB_iff]
theorem run_sub (l : List Pr) (w : Int) : (runL l w).Sublist l := List.filter_sublist
theorem run_rise {l : List Pr} (hr : Rise l) (w : Int) : Rise (runL l w) := hr.sublist (run_sub l w)
theorem run_none {l : List Pr} {w : Int} {x : Pr} (hx : x ∈ runL l w) : ¬ Dead (runL l w) w x := by
  obtain ⟨h1, h2⟩ := run_mem.1 hx
  rintro ⟨h3, ⟨y, hy, a⟩ | h4⟩
  · exact h2 ⟨h3, .inl ⟨y, (run_mem.1 hy).1, a⟩⟩
  · exact h2 ⟨h3, .inr h4⟩
theorem run_scan {l : List Pr} (hr : Rise l) (w : Int) : (scanD w (runL l w)).2 = [] := by
  rw [scan_dead (run_rise hr w)]
  have : (runL l w).filter (deadB (runL l w) w) = [] := by
    refine List.filter_eq_nil_iff.2 fun x hx => ?_
    rw [deadB_iff]
    exact run_none hx
  rw [this]
  rfl
theorem filter_len {α : Type} (q : α → Bool) (l : List α) : (l.filter fun x => !q x).length + (l.filter q).length = l.length := by
  induction l with
  | nil => rfl
  | cons x r ih =>
    rw [List.filter_cons, List.filter_cons]
    cases q x
    · simp
      omega
    · simp
      omega
theorem run_len {l : List Pr} (hr : Rise l) (w : Int) : (runL l w).length + (scanD w l).2.length = l.length := by
  rw [scan_dead hr, List.length_map]
  exact filter_len _ l
theorem scan_mono {l : List Pr} (hr : Rise l) {w v : Int} (h : w ≤ v) : (scanD w l).2.length ≤ (scanD v l).2.length := by
  have h1 := run_len hr w
  have h2 := run_len hr v
  have h3 : (runL l v).length ≤ (runL l w).length := by
    unfold runL
    have e : (l.filter fun x => !deadB l v x) = (l.filter fun x => !deadB l w x).filter fun x => !deadB l v x := by
      rw [List.filter_filter]
      refine List.filter_congr fun x _ => ?_
      cases hv : deadB l v x
      · cases hw : deadB l w x
        · rfl
        · have := dead_mono h (deadB_iff.1 hw)
          rw [← deadB_iff, hv] at this
          cases this
      · rfl
    rw [e]
    exact List.length_filter_le _ _
  omega
/-- The newest one of the versions that are newer, up to v. -/
theorem newest {l : List Pr} (v : Int) (p : Bytes) : ∀ (n : Nat) (y : Pr), y ∈ l → y.key.path = p → y.key.time ≤ v → v - y.key.time ≤ (n : Int) → ∃ z, z ∈ l ∧ z.key.path = p ∧ y.key.time ≤ z.key.time ∧ z.key.time ≤ v ∧ ∀ u, u ∈ l → u.key.path = p → u.key.time ≤ v → u.key.time ≤ z.key.time
  | 0, y, hy, hp, hv, hn => ⟨y, hy, hp, Int.le_refl _, hv, fun u _ _ hu => by omega⟩
  | n + 1, y, hy, hp, hv, hn => by
    by_cases h : ∃ u, u ∈ l ∧ u.key.path = p ∧ u.key.time ≤ v ∧ y.key.time < u.key.time
    · obtain ⟨u, h1, h2, h3, h4⟩ := h
      obtain ⟨z, a, b, c, d, e⟩ := newest v p n u h1 h2 h3 (by omega)
      exact ⟨z, a, b, by omega, d, e⟩
    · refine ⟨y, hy, hp, Int.le_refl _, hv, fun u h1 h2 h3 => ?_⟩
      by_cases h4 : u.key.time ≤ y.key.time
      · exact h4
      · exact absurd ⟨u, h1, h2, h3, by omega⟩ h
theorem run_run {l : List Pr} {w v : Int} (h : w ≤ v) : runL (runL l w) v = runL l v := by
  have key : ∀ x, x ∈ l → (¬ Dead l w x ∧ ¬ Dead (runL l w) v x ↔ ¬ Dead l v x) := by
    intro x hx
    constructor
    · rintro ⟨h1, h2⟩ ⟨h3, h4 | h4⟩
      · obtain ⟨y, hy, a, b, c⟩ := h4
        obtain ⟨z, q1, q2, q3, q4, q5⟩ := newest v x.key.path (v - y.key.time).toNat y hy a c (by omega)
        by_cases hz : Dead l w z
        · obtain ⟨r1, r2⟩ := hz
          exact h1 ⟨by omega, .inl ⟨z, q1, q2, by omega, r1⟩⟩
        · exact h2 ⟨h3, .inl ⟨z, run_mem.2 ⟨q1, hz⟩, q2, by omega, q4⟩⟩
      · exact h2 ⟨h3, .inr h4⟩
    · intro h1
      refine ⟨fun h2 => h1 (dead_mono h h2), ?_⟩
      rintro ⟨h3, ⟨y, hy, a⟩ | h4⟩
      · exact h1 ⟨h3, .inl ⟨y, (run_mem.1 hy).1, a⟩⟩
      · exact h1 ⟨h3, .inr h4⟩
  show (runL l w).filter (fun x => !deadB (runL l w) v x) = _
  unfold runL
  rw [List.filter_filter]
  refine List.filter_congr fun x hx => ?_
  have hk := key x hx
  rw [Bool.eq_iff_iff]
  simp only [Bool.and_eq_true, Bool.not_eq_true', ← Bool.not_eq_true, deadB_iff]
  rw [← hk]
  exact ⟨fun h => ⟨h.2, h.1⟩, fun h => ⟨h.2, h.1⟩⟩
theorem run_st {l : List Pr} (h : isSt l = true) (w : Int) : isSt (runL l w) = true := isSt_of fun p hp => isSt_mem h (run_mem.1 hp).1
theorem run_vals {l : List Pr} (h : valsB l) (w : Int) : valsB (runL l w) := fun p hp => h p (run_mem.1 hp).1
end Go.Proofs.YthdeopopodhimaaGreatDoor

/- Versions that are dead: Run and Live. No further condition. -/
set_option linter.unusedVariables false
set_option linter.unusedSimpArgs false
namespace Go.Proofs.YthdeopopodhimaaGreatDoor
open Go.Ab

noncomputable def dropsT (t : Tr) (ks : List Ky) : Tr := ks.foldl dropT t
theorem drops_all : ∀ (ks : List Ky) (t : Tr), t.all.length < 10000000 → (dropsT t ks).all = ks.foldl dropP t.all ∧ (dropsT t ks).all.length ≤ t.all.length
  | [], t, h => ⟨rfl, Nat.le_refl _⟩
  | k :: r, t, h => by
    have h1 : (dropT t k).all = dropP t.all k := dropT_all h
    have h2 := (dropP_sub t.all k).length_le
    obtain ⟨h3, h4⟩ := drops_all r (dropT t k) (by rw [h1]; omega)
    unfold dropsT at h3 h4 ⊢
    rw [h1] at h3 h4
    exact ⟨h3, by simp only [List.foldl_cons]; omega⟩
theorem dropsT_step {t : Tr} {l : List Ky} {i : Nat} {x : Ky} (ht : l.take (i + 1) = l.take i ++ [x]) : dropsT t (l.take (i + 1)) = dropT (dropsT t (l.take i)) x := by
  unfold dropsT
  rw [ht, List.foldl_append]
  rfl
noncomputable def runT (t : Tr) (w : Int) : Tr := dropsT t (scanD w t.all).2
theorem runT_all {t : Tr} (h : t.all.length < 10000000) (w : Int) : (runT t w).all = runL t.all w := by
  unfold runT
  rw [(drops_all _ t h).1]
  exact run_drops (l := t.all) t.rise w
def vOk (l : List Pr) (w : Int) : Bool := isSt l && !decide (w < 0)
theorem ofO_yes {l : List Pr} {w : Int} (h : vOk l w = true) : ofO l w = ((scanD w l).2, 0) := by
  unfold vOk at h
  simp at h
  unfold ofO
  rw [if_pos ⟨h.1, by omega⟩]
theorem ofO_no {l : List Pr} {w : Int} (h : vOk l w = false) : ofO l w = ([], 1) := by
  unfold vOk at h
  unfold ofO
  rw [if_neg]
  rintro ⟨h1, h2⟩
  rw [h1] at h
  simp at h
  omega
noncomputable def runA (t : Tr) (w : Int) : AV := if vOk t.all w = true then .tup [(runT t w).av, .int .i64 ((scanD w t.all).2.length : Int), .int .i64 0] else .tup [.nilptr, .int .i64 0, .int .i64 1]
theorem closed_runA (t : Tr) (w : Int) : Closed (runA t w) := by
  unfold runA
  split
  · exact closed_tup (closed3 (closed_tr _) closed_int closed_int)
  · exact closed_tup (closed3 closed_nilptr closed_int closed_int)
noncomputable def runF (t : Tr) (w : Int) (l : List Ky) (i : Nat) : AF := ⟨[(0, t.av), (7, .sl 2 (l.map Ky.av) .none), (20, .sl 2 (l.map Ky.av) .none), (21, .int .i64 (l.length : Int)), (22, .int .i64 (i : Int))], []⟩
theorem scan_len (w : Int) (l : List Pr) (hr : Rise l) : (scanD w l).2.length ≤ l.length := by
  have := run_len hr w
  omega
set_option maxRecDepth 100000 in
set_option maxHeartbeats 8000000 in
theorem run_ok (t : Tr) (hs : t.all.length < 1000000) (hv : valsB t.all) (w : Int) : APure Tryz.prog 17 [t.av, .int .i64 w] (runA t w) := by
  refine pure_sub (closed2 (closed_tr t) closed_int) (closed_runA _ _) ?_
  refine acalls_of tabOK Tryz.func17 rfl (by decide) (by simp [Tryz.f17]) ?_
  have ko := of_ok t (by omega) hv w
  unfold runA
  cases h : vOk t.all w
  · rw [ofO_no h] at ko
    rw [if_neg (by simp)]
    unfold ofA at ko
    unfold Tr.av at ko ⊢
    repeat' (first | refine DW_A tabs rfl ?_ | refine DW_nil ?_ | refine W_A rfl ?_ | refine DW_C rfl ko ?_ | refine DW_nilc tabOK rfl ?_)
    exact ⟨rfl, _, rfl, _, rfl, SubC.of_closed (closed_tup (closed3 closed_nilptr closed_int closed_int))⟩
  · rw [ofO_yes h] at ko
    rw [if_pos rfl]
    have hl := scan_len w t.all t.rise
    unfold runT
    generalize (scanD w t.all).2 = l at ko hl ⊢
    have la := len_map Ky.av l
    have hR := closed_tr (dropsT t l)
    have hcl := closed_kys l
    unfold ofA at ko
    unfold Tr.av at ko ⊢
    repeat' (first | refine DW_VI tabs rfl la ?_ | refine DW_A tabs rfl ?_ | refine DW_nil ?_ | refine W_A rfl ?_ | refine DW_C rfl ko ?_ | refine DW_nilc tabOK rfl ?_)
    refine W_count l.length (fun i f N => N = ⟨0, []⟩ ∧ f = runF (dropsT t (l.take i)) w l i) (Nat.zero_le _) ⟨rfl, rfl⟩ (Joint.le ?_ (Mem.le_nil rfl)) ?_
    · unfold runF Tr.av
      repeat (refine AF.le_cons rfl ?_)
      exact AF.le_nil rfl
    rintro i f N hi ⟨rfl, rfl⟩
    unfold runF
    by_cases g1 : i < l.length
    · have d1 : decide ((i : Int) < (l.length : Int)) = true := by simp; omega
      have hx : l[i]? = some l[i] := List.getElem?_eq_getElem g1
      have fi := wrap_succ (i := i) (by omega)
      have ht := take_succ hx
      generalize l[i] = x at hx ht
      have hl2 := (drops_all (l.take i) t (by omega)).2
      have kp := dropT_ok (t := dropsT t (l.take i)) (k := x) (by omega)
      rw [← dropsT_step ht] at kp
      generalize dropsT t (l.take i) = u at kp
      generalize hU : dropsT t (l.take (i + 1)) = U at kp
      have hUc := closed_tr U
      unfold Tr.av at kp ⊢
      repeat' (first | refine DW_VB tabs rfl d1 ?_ | refine DW_VI tabs rfl fi ?_ | refine DW_A tabs rfl ?_ | refine DW_nil ?_ | refine W_A rfl ?_ | refine DW_C rfl kp ?_ | refine DW_ix tabOK rfl (ixN hx) ?_ | refine DW_nilc tabOK rfl ?_)
      refine ⟨g1, runF U w l (i + 1), ⟨0, []⟩, ⟨rfl, by rw [← hU]; rfl⟩, Joint.cut (k := 0) (t := (runF U w l (i + 1)).t) (l := []) (Nat.le_refl _) (Nat.zero_le _) rfl ⟨?_, ?_, ?_, ?_, ?_, trivial⟩ trivial⟩
      · exact SubC.of_closed hUc
      · exact SubC.of_closed hcl
      · exact SubC.of_closed hcl
      · exact SubC.of_closed closed_int
      · exact SubC.of_closed closed_int
    · have d1 : decide ((i : Int) < (l.length : Int)) = false := by simp; omega
      obtain rfl : i = l.length := by omega
      rw [List.take_length]
      unfold Tr.av at hR ⊢
      repeat' (first | refine DW_VB tabs rfl d1 ?_ | refine DW_VI tabs rfl la ?_ | refine DW_A tabs rfl ?_ | refine DW_nil ?_ | refine W_A rfl ?_ | refine DW_nilc tabOK rfl ?_)
      exact ⟨rfl, _, rfl, _, rfl, SubC.of_closed (closed_tup (closed3 hR closed_int closed_int))⟩

def liveA (l : List Pr) (w : Int) : AV := if vOk l w = true then .tup [.int .i64 ((l.length : Int) - ((scanD w l).2.length : Int)), .int .i64 0] else .tup [.int .i64 0, .int .i64 1]
set_option maxRecDepth 100000 in
set_option maxHeartbeats 8000000 in
theorem live_ok (t : Tr) (hs : t.all.length < 1000000) (hv : valsB t.all) (w : Int) : APure Tryz.prog 19 [t.av, .int .i64 w] (liveA t.all w) := by
  intro M
  refine acalls_of tabOK Tryz.func19 rfl (by decide) (by simp [Tryz.f19]) ?_
  have ko := of_ok t (by omega) hv w
  have kl := len_ok t
  unfold liveA
  cases h : vOk t.all w
  · rw [ofO_no h] at ko
    rw [if_neg (by simp)]
    unfold ofA at ko
    unfold Tr.av at ko ⊢
    repeat' (first | refine DW_A tabs rfl ?_ | refine DW_nil ?_ | refine W_A rfl ?_ | refine DW_C rfl ko ?_)
    exact ⟨rfl, _, rfl, rfl, rfl⟩
  · rw [ofO_yes h] at ko
    rw [if_pos rfl]
    have hl := scan_len w t.all t.rise
    generalize (scanD w t.all).2 = l at ko hl ⊢
    have la := len_map Ky.av l
    have f1 : IntKind.wrap .i64 ((t.all.length : Int) - (l.length : Int)) = (t.all.length : Int) - (l.length : Int) := Go.Ab.wrap_small (by omega) (by omega)
    generalize t.all.length = n at *
    unfold ofA at ko
    unfold Tr.av at ko kl ⊢
    repeat' (first | refine DW_VI tabs rfl (by first | exact la | exact f1) ?_ | refine DW_A tabs rfl ?_ | refine DW_nil ?_ | refine W_A rfl ?_ | refine DW_C rfl ko ?_ | refine DW_C rfl kl ?_)
    exact ⟨rfl, _, rfl, rfl, rfl⟩
end Go.Proofs.YthdeopopodhimaaGreatDoor

/- The document's rows on dead versions. No further condition. -/
set_option linter.unusedVariables false
set_option linter.unusedSimpArgs false
namespace Go.Proofs.YthdeopopodhimaaGreatDoor
open Go.Ab

theorem ky_neB (p q : Ky) : (!((p.path == q.path) && ((decide (p.time = q.time)) && true))) = !decide (p = q) := by
  obtain ⟨a, b⟩ := p
  obtain ⟨d, e⟩ := q
  congr 1
  rw [Bool.eq_iff_iff]
  simp
set_option maxRecDepth 100000 in
set_option maxHeartbeats 8000000 in
theorem keys_ok (a b : List Ky) (ta tb : Tag) (ha : a.length < 1000000) (hb : b.length < 1000000) : APure Tryz.prog 22 [.sl 2 (a.map Ky.av) ta, .sl 2 (b.map Ky.av) tb] (.bool (decide (a = b))) := by
  intro M
  refine acalls_of tabOK Tryz.func22 rfl (by decide) (by simp [Tryz.f22]) ?_
  have la := len_map Ky.av a
  have lb := len_map Ky.av b
  by_cases hl : a.length = b.length
  · have d0 : (!decide ((a.length : Int) = (b.length : Int))) = false := by simp; omega
    repeat' (first | refine DW_VB tabs rfl d0 ?_ | refine DW_VI tabs rfl (by first | exact la | exact lb) ?_ | refine DW_A tabs rfl ?_ | refine DW_nil ?_ | refine W_A rfl ?_ | refine W_draw mixed [0, 1, 4, 5, 2, 3, 6, 7, 8] [.P, .P, .R, .R, .P, .P, .R, .R, .P] rfl rfl (by kernel_rfl) ?_)
    refine W_count a.length (fun i f N => N = M ∧ (a.take i = b.take i) ∧ f = ⟨[(0, .sl 2 (a.map Ky.av) ta), (1, .sl 2 (b.map Ky.av) tb), (5, .int .i64 (i : Int))], []⟩) (Nat.zero_le _) ⟨rfl, by simp, rfl⟩ (Joint.le ?_ (Mem.le_refl _)) ?_
    · skip
      repeat (refine AF.le_cons rfl ?_)
      exact AF.le_nil rfl
    rintro i f N hi ⟨rfl, hinv, rfl⟩
    by_cases h1 : i < a.length
    · have d1 : decide ((i : Int) < (a.length : Int)) = true := by simp; omega
      have hx : a[i]? = some a[i] := List.getElem?_eq_getElem h1
      have fi := wrap_succ (i := i) (by omega)
      have ht := take_succ hx
      have hm := List.getElem_mem h1
      generalize a[i] = x at hx ht hm
      have hy : b[i]? = some b[i] := List.getElem?_eq_getElem (by omega)
      have hu := take_succ hy
      generalize b[i] = y at hy hu
      by_cases h3 : x = y
      · have d3 := (ky_neB x y).trans (show (!decide (x = y)) = false by simp [h3])
        repeat' (first | refine DW_VB tabs rfl (by first | exact d1 | exact d3) ?_ | refine DW_VI tabs rfl (by first | exact fi | exact la | exact lb) ?_ | refine DW_A tabs rfl ?_ | refine DW_nil ?_ | refine W_A rfl ?_ | refine DW_ix tabOK rfl (ixN hx) ?_ | refine DW_ix tabOK rfl (ixN hy) ?_ | refine W_draw mixed [0, 1, 4, 5, 2, 3, 6, 7, 8] [.P, .P, .R, .R, .P, .P, .R, .R, .P] rfl rfl (by kernel_rfl) ?_)
        refine ⟨h1, _, _, ⟨rfl, by rw [ht, hu, hinv, h3], rfl⟩, Joint.le ?_ (Mem.le_refl _)⟩
        repeat (refine AF.le_cons rfl ?_)
        exact AF.le_nil rfl
      · have d3 := (ky_neB x y).trans (show (!decide (x = y)) = true by simp [h3])
        have e : decide (a = b) = false := by
          refine decide_eq_false fun e => h3 ?_
          subst e
          rw [hx] at hy
          cases hy
          rfl
        rw [e]
        repeat' (first | refine DW_VB tabs rfl (by first | exact d1 | exact d3) ?_ | refine DW_VI tabs rfl (by first | exact fi | exact la | exact lb) ?_ | refine DW_A tabs rfl ?_ | refine DW_nil ?_ | refine W_A rfl ?_ | refine DW_ix tabOK rfl (ixN hx) ?_ | refine DW_ix tabOK rfl (ixN hy) ?_ | refine W_draw mixed [0, 1, 4, 5, 2, 3, 6, 7, 8] [.P, .P, .R, .R, .P, .P, .R, .R, .P] rfl rfl (by kernel_rfl) ?_)
        exact ⟨rfl, _, rfl, rfl, rfl⟩
    · have d1 : decide ((i : Int) < (a.length : Int)) = false := by simp; omega
      obtain rfl : i = a.length := by omega
      rw [take_all, hl, take_all] at hinv
      have e : decide (a = b) = true := by simp [hinv]
      rw [e]
      repeat' (first | refine DW_VB tabs rfl d1 ?_ | refine DW_VI tabs rfl la ?_ | refine DW_A tabs rfl ?_ | refine DW_nil ?_ | refine W_A rfl ?_ | refine W_draw mixed [0, 1, 4, 5, 2, 3, 6, 7, 8] [.P, .P, .R, .R, .P, .P, .R, .R, .P] rfl rfl (by kernel_rfl) ?_)
      exact ⟨rfl, _, rfl, rfl, rfl⟩
  · have d0 : (!decide ((a.length : Int) = (b.length : Int))) = true := by simp; omega
    have e : decide (a = b) = false := decide_eq_false fun e => hl (by rw [e])
    rw [e]
    repeat' (first | refine DW_VB tabs rfl d0 ?_ | refine DW_VI tabs rfl (by first | exact la | exact lb) ?_ | refine DW_A tabs rfl ?_ | refine DW_nil ?_ | refine W_A rfl ?_ | refine W_draw mixed [0, 1, 4, 5, 2, 3, 6, 7, 8] [.P, .P, .R, .R, .P, .P, .R, .R, .P] rfl rfl (by kernel_rfl) ?_)
    exact ⟨rfl, _, rfl, rfl, rfl⟩
set_option maxRecDepth 100000 in
set_option maxHeartbeats 8000000 in
theorem vkey_ok (p : Bytes) (n : Int) : APure Tryz.prog 59 [.str p, .int .i64 n] (Ky.av ⟨p, n⟩) := by
  refine pure_sub (closed2 closed_str closed_int) (closed_ky _) ?_
  refine acalls_of tabOK Tryz.func59 rfl (by decide) (by simp [Tryz.f59]) ?_
  repeat' (first | refine DW_A tabs rfl ?_ | refine DW_nil ?_ | refine W_A rfl ?_)
  exact ⟨rfl, _, rfl, _, rfl, SubC.of_closed (closed_ky ⟨p, n⟩)⟩
set_option maxRecDepth 100000 in
set_option maxHeartbeats 8000000 in
theorem made_ok (l : List Pr) (tg : Tag) (hl : l.length < 1000) : APure Tryz.prog 13 [.sl 3 (l.map Pr.av) tg] (laidT l).av := by
  intro M
  refine acalls_of tabOK Tryz.func13 rfl (by decide) (by simp [Tryz.f13]) ?_
  have la := len_map Pr.av l
  have k0 := new_ok
  repeat' (first | refine DW_A tabs rfl ?_ | refine DW_nil ?_ | refine W_A rfl ?_ | refine DW_C rfl k0 ?_ | refine DW_nilc tabOK rfl ?_)
  refine W_count l.length (fun i f N => N = M ∧ (True) ∧ f = ⟨[(0, .sl 3 (l.map Pr.av) tg), (3, (laidT (l.take i)).av), (4, .int .i64 (i : Int))], []⟩) (Nat.zero_le _) ⟨rfl, trivial, rfl⟩ (Joint.le ?_ (Mem.le_refl _)) ?_
  · skip
    repeat (refine AF.le_cons rfl ?_)
    exact AF.le_nil rfl
  rintro i f N hi ⟨rfl, hinv, rfl⟩
  by_cases h1 : i < l.length
  · have d1 : decide ((i : Int) < (l.length : Int)) = true := by simp; omega
    have hx : l[i]? = some l[i] := List.getElem?_eq_getElem h1
    have fi := wrap_succ (i := i) (by omega)
    have ht := take_succ hx
    have hm := List.getElem_mem h1
    generalize l[i] = x at hx ht hm
    have hall := (laid_all (l := l.take i) (by simp; omega))
    have kp := putT_ok (t := laidT (l.take i)) (p := x) (by rw [hall.1]; have := hall.2; simp at this; omega)
    rw [← laidT_step ht] at kp
    unfold Tr.av at kp ⊢
    repeat' (first | refine DW_VB tabs rfl d1 ?_ | refine DW_VI tabs rfl (by first | exact fi | exact la) ?_ | refine DW_A tabs rfl ?_ | refine DW_nil ?_ | refine W_A rfl ?_ | refine DW_C rfl kp ?_ | refine DW_ix tabOK rfl (ixN hx) ?_ | refine DW_nilc tabOK rfl ?_)
    refine ⟨h1, _, _, ⟨rfl, trivial, rfl⟩, Joint.le ?_ (Mem.le_refl _)⟩
    repeat (refine AF.le_cons rfl ?_)
    exact AF.le_nil rfl
  · have d1 : decide ((i : Int) < (l.length : Int)) = false := by simp; omega
    obtain rfl : i = l.length := by omega
    rw [take_all]
    repeat' (first | refine DW_VB tabs rfl d1 ?_ | refine DW_VI tabs rfl la ?_ | refine DW_A tabs rfl ?_ | refine DW_nil ?_ | refine W_A rfl ?_ | refine DW_nilc tabOK rfl ?_)
    exact ⟨rfl, _, rfl, rfl, rfl⟩

/-! ### The rows -/
def wv : Bytes := (valueM zeroMt false).1
theorem read_wv : readM wv = (zeroMt, false, 0) := readM_there (by decide)
theorem wv_len : wv.length < 100 := by decide
def wk (p : UInt8) (n : Int) : Ky := ⟨[p], n⟩
def wIn : List Pr := [⟨wk 97 1, wv⟩, ⟨wk 97 2, wv⟩, ⟨wk 97 5, wv⟩, ⟨wk 98 1, wv⟩, ⟨wk 98 2, [0]⟩]
def wAll : List Pr := [⟨wk 97 5, wv⟩, ⟨wk 97 2, wv⟩, ⟨wk 97 1, wv⟩, ⟨wk 98 2, [0]⟩, ⟨wk 98 1, wv⟩]
theorem wIn_all : (laidT wIn).all = wAll := (laid_all (by decide)).1.trans rfl
theorem w_ok : ∀ (p : UInt8) (n : Int), p = 97 ∨ p = 98 → 0 ≤ n → n ≤ 1000000000 → okP ⟨wk p n, wv⟩ = true := by
  intro p n hp h1 h2
  unfold okP
  rw [read_wv]
  have h3 : isPathB [p] = true := by rcases hp with rfl | rfl <;> decide
  simp [wk, isKeyB, h1, h2, h3]
theorem w_st : isSt wAll = true := by
  have h0 : okP ⟨wk 98 2, [0]⟩ = true := by decide
  simp only [isSt, wAll, List.all_cons, List.all_nil, Bool.and_true, w_ok 97 1 (.inl rfl) (by decide) (by decide), w_ok 97 2 (.inl rfl) (by decide) (by decide), w_ok 97 5 (.inl rfl) (by decide) (by decide), w_ok 98 1 (.inr rfl) (by decide) (by decide), h0]
theorem w_vals : valsB wAll := by
  intro p hp
  have := wv_len
  simp [wAll] at hp
  rcases hp with rfl | rfl | rfl | rfl | rfl
  all_goals exact ⟨by show 1 < 1000000; decide, by first | (show 1 < 1000000; decide) | (show wv.length < _; omega)⟩
theorem read_w0 : readM [0] = (zeroMt, true, 0) := rfl
theorem w_scan3 : (scanD 3 wAll).2 = [wk 97 1, wk 98 2, wk 98 1] := by simp [scanD, stepD, keptS, wAll, wk, read_wv, read_w0]
theorem w_scan1 : (scanD 1 wAll).2 = [] := by simp [scanD, stepD, keptS, wAll, wk, read_wv, read_w0]
theorem w_scan9 : (scanD 9 wAll).2 = [wk 97 2, wk 97 1, wk 98 2, wk 98 1] := by simp [scanD, stepD, keptS, wAll, wk, read_wv, read_w0]
theorem w_run3 : (runT (laidT wIn) 3).all.length = 2 := by
  have h0 : wAll.length = 5 := rfl
  have h1 := run_len (l := (laidT wIn).all) (laidT wIn).rise 3
  rw [runT_all (by rw [wIn_all]; decide)]
  rw [wIn_all, w_scan3, h0] at h1
  rw [wIn_all]
  have h2 : [wk 97 1, wk 98 2, wk 98 1].length = 3 := rfl
  omega
set_option maxRecDepth 100000 in
set_option maxHeartbeats 8000000 in
theorem swept_ok : APure Tryz.prog 21 [] (.bool true) := by
  refine pure_sub (closedL_nil) (closed_bool) ?_
  refine acalls_of tabOK Tryz.func21 rfl (by decide) (by simp [Tryz.f21]) ?_
  have v1 := (value_ok zeroMt false (by decide)).sub (args := [.agg [.int .i64 0, .int .i64 0, .sl 0 [] .full], .bool false]) ⟨Sub.aggL ⟨Sub.refl, Sub.refl, Sub.nil, trivial⟩, Sub.refl, trivial⟩
  have v2 := (value_ok zeroMt true (by decide)).sub (args := [.agg [.int .i64 0, .int .i64 0, .sl 0 [] .full], .bool true]) ⟨Sub.aggL ⟨Sub.refl, Sub.refl, Sub.nil, trivial⟩, Sub.refl, trivial⟩
  rw [show strA (valueM zeroMt false) = .tup [.str wv, .int .i64 0] from rfl] at v1
  rw [show strA (valueM zeroMt true) = .tup [.str [0], .int .i64 0] from rfl] at v2
  have q1 := vkey_ok [97] 1
  have q2 := vkey_ok [97] 2
  have q3 := vkey_ok [97] 5
  have q4 := vkey_ok [98] 1
  have q5 := vkey_ok [98] 2
  have km := made_ok wIn .full (by decide)
  have hs : (laidT wIn).all.length < 1000000 := by rw [wIn_all]; decide
  have hv : valsB (laidT wIn).all := by rw [wIn_all]; exact w_vals
  have o3 := of_ok (laidT wIn) (by omega) hv 3
  have o1 := of_ok (laidT wIn) (by omega) hv 1
  have o9 := of_ok (laidT wIn) (by omega) hv 9
  have oo := of_ok (laidT wIn) (by omega) hv (-1)
  have r3 := run_ok (laidT wIn) hs hv 3
  have l3 := live_ok (laidT wIn) hs hv 3
  have kl := len_ok (runT (laidT wIn) 3)
  rw [w_run3] at kl
  have e3 : vOk (laidT wIn).all 3 = true := by unfold vOk; rw [wIn_all, w_st]; rfl
  have e1 : vOk (laidT wIn).all 1 = true := by unfold vOk; rw [wIn_all, w_st]; rfl
  have e9 : vOk (laidT wIn).all 9 = true := by unfold vOk; rw [wIn_all, w_st]; rfl
  have eo : vOk (laidT wIn).all (-1) = false := by unfold vOk; rw [wIn_all, w_st]; rfl
  rw [ofO_yes e3, wIn_all, w_scan3] at o3
  rw [ofO_yes e1, wIn_all, w_scan1] at o1
  rw [ofO_yes e9, wIn_all, w_scan9] at o9
  rw [ofO_no eo] at oo
  unfold runA at r3
  rw [if_pos e3, wIn_all, w_scan3] at r3
  unfold liveA at l3
  rw [if_pos e3, wIn_all, w_scan3] at l3
  have k3 := keys_ok [wk 97 1, wk 98 2, wk 98 1] [wk 97 1, wk 98 2, wk 98 1] .none .full (by decide) (by decide)
  have k9 := keys_ok [wk 97 2, wk 97 1, wk 98 2, wk 98 1] [wk 97 2, wk 97 1, wk 98 2, wk 98 1] .none .full (by decide) (by decide)
  rw [decide_eq_true rfl] at k3 k9
  generalize runT (laidT wIn) 3 = U at *
  generalize laidT wIn = T at *
  unfold Tr.av at *
  unfold ofA at *
  repeat' (first | refine DW_A tabs rfl ?_ | refine DW_nil ?_ | refine W_A rfl ?_ | refine DW_C rfl v1 ?_ | refine DW_C rfl v2 ?_ | refine DW_C rfl q1 ?_ | refine DW_C rfl q2 ?_ | refine DW_C rfl q3 ?_ | refine DW_C rfl q4 ?_ | refine DW_C rfl q5 ?_ | refine DW_C rfl km ?_ | refine DW_C rfl o3 ?_ | refine DW_C rfl o1 ?_ | refine DW_C rfl o9 ?_ | refine DW_C rfl r3 ?_ | refine DW_C rfl l3 ?_ | refine DW_C rfl oo ?_ | refine DW_C rfl k3 ?_ | refine DW_C rfl k9 ?_ | refine DW_C rfl kl ?_ | refine DW_row tabOK rfl ?_)
  exact ⟨rfl, _, rfl, _, rfl, SubC.of_closed closed_bool⟩
end Go.Proofs.YthdeopopodhimaaGreatDoor

/- What lives. No further condition. -/
set_option linter.unusedVariables false
set_option linter.unusedSimpArgs false
namespace Go.Proofs.YthdeopopodhimaaGreatDoor
open Go.Ab

theorem vOk_run {l : List Pr} {w v : Int} (h : vOk l w = true) (hm : w ≤ v) : vOk (runL l w) v = true := by
  unfold vOk at h ⊢
  simp at h ⊢
  exact ⟨run_st h.1 w, by omega⟩
theorem vOk_mono {l : List Pr} {w v : Int} (h : vOk l w = true) (hm : w ≤ v) : vOk l v = true := by
  unfold vOk at h ⊢
  simp at h ⊢
  exact ⟨h.1, by omega⟩
theorem made_small {l : List Pr} (h : bigB l = false) : (laidT l).all.length ≤ 80 ∧ valsB (laidT l).all := by
  obtain ⟨h1, h2⟩ := bigB_no h
  obtain ⟨h3, h4⟩ := laid_all (l := l) (by omega)
  refine ⟨by rw [h3]; omega, fun p hp => ?_⟩
  rw [h3] at hp
  have := h2 p (laid_mem hp)
  exact ⟨by omega, by omega⟩
set_option maxRecDepth 100000 in
set_option maxHeartbeats 8000000 in
theorem vacuumLive_ok (l : List Pr) (w v : Int) (hl : l.length < 4611686018427387904) : APure Tryz.prog 4 [.sl 3 (l.map Pr.av) .none, .int .i64 w, .int .i64 v] (.bool true) := by
  intro M
  refine acalls_of tabOK Tryz.func4 rfl (by decide) (by simp [Tryz.f4]) ?_
  have kb := big_ok l .none hl
  cases h : bigB l
  · rw [h] at kb
    by_cases hm : v < w
    · have d0 : decide (v < w) = true := by simp [hm]
      repeat' (first | refine DW_VB tabs rfl d0 ?_ | refine DW_A tabs rfl ?_ | refine DW_nil ?_ | refine W_A rfl ?_ | refine DW_C rfl kb ?_)
      exact ⟨rfl, _, rfl, rfl, rfl⟩
    · have d0 : decide (v < w) = false := by simp; omega
      have hl2 := (bigB_no h).1
      have ks := made_small h
      have km := made_ok l .none (by omega)
      have kw := swept_ok
      generalize laidT l = T at *
      have hr := T.rise
      change Rise T.all at hr
      have o1 := of_ok T (by omega) ks.2 w
      have l1 := live_ok T (by omega) ks.2 w
      unfold liveA at l1
      cases hv : vOk T.all w
      · rw [ofO_no hv] at o1
        rw [if_neg (by simp [hv])] at l1
        unfold ofA at o1
        unfold Tr.av at km o1 l1
        repeat' (first | refine DW_VB tabs rfl d0 ?_ | refine DW_A tabs rfl ?_ | refine DW_nil ?_ | refine W_A rfl ?_ | refine DW_C rfl kb ?_ | refine DW_C rfl km ?_ | refine DW_C rfl o1 ?_ | refine DW_C rfl l1 ?_ | refine DW_C rfl kw ?_)
        exact ⟨rfl, _, rfl, rfl, rfl⟩
      · rw [ofO_yes hv] at o1
        rw [if_pos hv] at l1
        have r1 := run_ok T (by omega) ks.2 w
        unfold runA at r1
        rw [if_pos hv] at r1
        have hU := runT_all (t := T) (by omega) w
        have hn := run_len hr w
        have hk := vOk_run hv (Int.le_refl w)
        have hz := run_scan hr w
        have hUv := run_vals ks.2 w
        rw [← hU] at hn hk hz hUv
        generalize runT T w = U at *
        have o2 := of_ok U (by omega) hUv w
        have l2 := live_ok U (by omega) hUv w
        unfold liveA at l2
        rw [if_pos hk, hz] at l2
        rw [ofO_yes hk, hz] at o2
        have hv2 := vOk_mono (v := v) hv (by omega)
        have o3 := of_ok T (by omega) ks.2 v
        rw [ofO_yes hv2] at o3
        have hmono := scan_mono hr (w := w) (v := v) (by omega)
        have kl := len_ok T
        have hks := ks.1
        generalize (scanD w T.all).2 = D at *
        generalize (scanD v T.all).2 = E at *
        have la := len_map Ky.av D
        have lb := len_map Ky.av E
        have hE : E.length < 1000000 → True := fun _ => trivial
        have f1 : IntKind.wrap .i64 (((T.all.length : Int) - (D.length : Int)) + (D.length : Int)) = (T.all.length : Int) := by
          rw [Int.sub_add_cancel]
          exact Go.Ab.wrap_small (by omega) (by omega)
        have d1 : decide ((U.all.length : Int) - (([] : List Ky).length : Int) = (T.all.length : Int) - (D.length : Int)) = true := by simp; omega
        have d2 : decide ((D.length : Int) ≤ (E.length : Int)) = true := by simp; omega
        have d3 : decide ((T.all.length : Int) = (T.all.length : Int)) = true := by simp
        unfold ofA at o1 o2 o3
        unfold Tr.av at km o1 o2 o3 l1 l2 r1 kl
        generalize T.all.length = n at *
        generalize U.all.length = m at *
        repeat' (first | refine DW_VB tabs rfl (by first | exact d0 | exact d1 | exact d2 | exact d3) ?_ | refine DW_VI tabs rfl (by first | exact la | exact lb | exact f1) ?_ | refine DW_A tabs rfl ?_ | refine DW_nil ?_ | refine W_A rfl ?_ | refine DW_C rfl kb ?_ | refine DW_C rfl km ?_ | refine DW_C rfl o1 ?_ | refine DW_C rfl l1 ?_ | refine DW_C rfl r1 ?_ | refine DW_C rfl o2 ?_ | refine DW_C rfl l2 ?_ | refine DW_C rfl o3 ?_ | refine DW_C rfl kw ?_ | refine DW_C rfl kl ?_)
        exact ⟨rfl, _, rfl, rfl, rfl⟩
  · rw [h] at kb
    repeat' (first | refine DW_A tabs rfl ?_ | refine DW_nil ?_ | refine W_A rfl ?_ | refine DW_C rfl kb ?_)
    exact ⟨rfl, _, rfl, rfl, rfl⟩
end Go.Proofs.YthdeopopodhimaaGreatDoor

/- Rows of the document's statements: which are more than are looked at, entries that are the same. No further condition. -/
set_option linter.unusedVariables false
set_option linter.unusedSimpArgs false
namespace Go.Proofs.YthdeopopodhimaaGreatDoor
open Go.Ab

def bigCh (c : Ch) : Bool := decide (200 < c.path.length) || decide (30 < c.meta_.ch.length)
def bigC (l : List Ch) : Bool := decide (50 < l.length) || l.any bigCh
theorem bigC_no {l : List Ch} (h : bigC l = false) : l.length ≤ 50 ∧ ∀ c, c ∈ l → c.path.length ≤ 200 ∧ c.meta_.ch.length ≤ 30 := by
  unfold bigC bigCh at h
  simp only [Bool.or_eq_false_iff, decide_eq_false_iff_not, List.any_eq_false, Bool.or_eq_true, decide_eq_true_eq, not_or] at h
  exact ⟨by omega, fun p hp => by have := h.2 p hp; omega⟩
set_option maxRecDepth 100000 in
set_option maxHeartbeats 8000000 in
theorem bigC_ok (l : List Ch) (tg : Tag) (hl : l.length < 4611686018427387904) : APure Tryz.prog 64 [chA l tg] (.bool (bigC l)) := by
  intro M
  refine acalls_of tabOK Tryz.func64 rfl (by decide) (by simp [Tryz.f64]) ?_
  have la := len_map Ch.av l
  unfold bigC chA
  by_cases h80 : 50 < l.length
  · have d1 : decide ((0 : Int) < (l.length : Int)) = true := by simp; omega
    have d2 : decide ((l.length : Int) ≤ 50) = false := by simp; omega
    have d3 : decide ((50 : Int) < (l.length : Int)) = true := by simp; omega
    have e : decide (50 < l.length) = true := by simp [h80]
    rw [e]
    repeat' (first | refine DW_VB tabs rfl (by first | exact d1 | exact d2) ?_ | refine DW_VI tabs rfl la ?_ | refine DW_A tabs rfl ?_ | refine DW_nil ?_ | refine W_A rfl ?_)
    refine W_count 0 (fun i f N => N = M ∧ f = ⟨[(0, .sl 5 (l.map Ch.av) tg), (3, .int .i64 (i : Int))], []⟩) (Nat.zero_le _) ⟨rfl, rfl⟩ (Joint.le ?_ (Mem.le_refl _)) ?_
    · skip
      repeat (refine AF.le_cons rfl ?_)
      exact AF.le_nil rfl
    rintro i f N hi ⟨rfl, rfl⟩
    obtain rfl : i = 0 := by omega
    repeat' (first | refine DW_VB tabs rfl (by first | exact d1 | exact d2 | exact d3) ?_ | refine DW_VI tabs rfl la ?_ | refine DW_A tabs rfl ?_ | refine DW_nil ?_ | refine W_A rfl ?_)
    exact ⟨rfl, _, rfl, rfl, rfl⟩
  · have d2 : decide ((l.length : Int) ≤ 50) = true := by simp; omega
    have d3 : decide ((50 : Int) < (l.length : Int)) = false := by simp; omega
    have e : decide (50 < l.length) = false := by simp; omega
    rw [e, Bool.false_or]
    repeat' (first | refine DW_VB tabs rfl d2 ?_ | refine DW_VI tabs rfl la ?_ | refine DW_A tabs rfl ?_ | refine DW_nil ?_ | refine W_A rfl ?_)
    refine W_count l.length (fun i f N => N = M ∧ ((l.take i).any bigCh = false) ∧ f = ⟨[(0, .sl 5 (l.map Ch.av) tg), (3, .int .i64 (i : Int))], []⟩) (Nat.zero_le _) ⟨rfl, by simp, rfl⟩ (Joint.le ?_ (Mem.le_refl _)) ?_
    · skip
      repeat (refine AF.le_cons rfl ?_)
      exact AF.le_nil rfl
    rintro i f N hi ⟨rfl, hinv, rfl⟩
    by_cases h1 : i < l.length
    · have d1 : decide ((i : Int) < (l.length : Int)) = true := by simp; omega
      have hx : l[i]? = some l[i] := List.getElem?_eq_getElem h1
      have fi := wrap_succ (i := i) (by omega)
      have ht := take_succ hx
      have hm := List.getElem_mem h1
      generalize l[i] = x at hx ht hm
      have e2 : (l.take (i + 1)).any bigCh = bigCh x := by rw [ht, List.any_append, hinv]; simp
      have hs : bigCh x = true → l.any bigCh = true := fun h => List.any_eq_true.2 ⟨x, List.mem_of_getElem? hx, h⟩
      have lx := len_map (fun n => AV.int .i64 n) x.meta_.ch
      unfold bigCh at hs e2
      by_cases h5 : 200 < x.path.length
      · have d5 : decide ((200 : Int) < (x.path.length : Int)) = true := by simp; omega
        rw [show l.any bigCh = true from hs (by simp [h5])]
        repeat' (first | refine DW_VB tabs rfl (by first | exact d1 | exact d2 | exact d5) ?_ | refine DW_VI tabs rfl (by first | exact la | exact fi) ?_ | refine DW_A tabs rfl ?_ | refine DW_nil ?_ | refine W_A rfl ?_ | refine DW_ix tabOK rfl (ixN hx) ?_)
        exact ⟨rfl, _, rfl, rfl, rfl⟩
      · have d5 : decide ((200 : Int) < (x.path.length : Int)) = false := by simp; omega
        by_cases h6 : 30 < x.meta_.ch.length
        · have d6 : decide ((30 : Int) < (x.meta_.ch.length : Int)) = true := by simp; omega
          rw [show l.any bigCh = true from hs (by simp [h6])]
          repeat' (first | refine DW_VB tabs rfl (by first | exact d1 | exact d2 | exact d5 | exact d6) ?_ | refine DW_VI tabs rfl (by first | exact la | exact lx | exact fi) ?_ | refine DW_A tabs rfl ?_ | refine DW_nil ?_ | refine W_A rfl ?_ | refine DW_ix tabOK rfl (ixN hx) ?_)
          exact ⟨rfl, _, rfl, rfl, rfl⟩
        · have d6 : decide ((30 : Int) < (x.meta_.ch.length : Int)) = false := by simp; omega
          repeat' (first | refine DW_VB tabs rfl (by first | exact d1 | exact d2 | exact d5 | exact d6) ?_ | refine DW_VI tabs rfl (by first | exact la | exact lx | exact fi) ?_ | refine DW_A tabs rfl ?_ | refine DW_nil ?_ | refine W_A rfl ?_ | refine DW_ix tabOK rfl (ixN hx) ?_)
          refine ⟨h1, _, _, ⟨rfl, by rw [show bigCh = (fun c => decide (200 < c.path.length) || decide (30 < c.meta_.ch.length)) from rfl, e2]; simp [h5, h6], rfl⟩, Joint.le ?_ (Mem.le_refl _)⟩
          repeat (refine AF.le_cons rfl ?_)
          exact AF.le_nil rfl
    · have d1 : decide ((i : Int) < (l.length : Int)) = false := by simp; omega
      obtain rfl : i = l.length := by omega
      rw [take_all] at hinv
      rw [hinv]
      repeat' (first | refine DW_VB tabs rfl (by first | exact d1 | exact d2 | exact d3) ?_ | refine DW_VI tabs rfl la ?_ | refine DW_A tabs rfl ?_ | refine DW_nil ?_ | refine W_A rfl ?_)
      exact ⟨rfl, _, rfl, rfl, rfl⟩

structure Ld where
  at_ : Int
  batch : List Ch
def Ld.av (x : Ld) : AV := .agg [.int .i64 x.at_, chA x.batch .none]
theorem closed_ldc (x : Ld) : ∀ c, c ∈ x.av.cells → Closed c := by
  intro c hc
  have : c ∈ [AV.int .i64 x.at_, chA x.batch .none] := hc
  exact closed2 closed_int (closed_chs _ (.inl rfl)) c this
theorem closed_ld (x : Ld) : Closed x.av := closed_agg (closed_ldc x)
theorem lds_cells (l : List Ld) : ∀ x, x ∈ l.map Ld.av → ∀ c, c ∈ x.cells → Closed c := by
  intro x hx
  obtain ⟨p, _, rfl⟩ := List.mem_map.1 hx
  exact closed_ldc p
def ldA (l : List Ld) (t : Tag) : AV := .sl 2 (l.map Ld.av) t
theorem closed_lds (l : List Ld) {t : Tag} (ht : t = .none ∨ t = .full) : Closed (ldA l t) := closed_sl ht (fun x hx => by obtain ⟨p, _, rfl⟩ := List.mem_map.1 hx; exact closed_ld p) (lds_cells l)
def ldsB (l : List Ld) : Prop := l.length < 4611686018427387904 ∧ ∀ x, x ∈ l → x.batch.length < 4611686018427387904
def bigLd (x : Ld) : Bool := bigC x.batch || decide (25 < x.batch.length)
def bigL (l : List Ld) : Bool := decide (20 < l.length) || l.any bigLd
theorem bigL_no {l : List Ld} (h : bigL l = false) : l.length ≤ 20 ∧ ∀ x, x ∈ l → x.batch.length ≤ 25 ∧ ∀ c, c ∈ x.batch → c.path.length ≤ 200 ∧ c.meta_.ch.length ≤ 30 := by
  unfold bigL bigLd at h
  simp only [Bool.or_eq_false_iff, decide_eq_false_iff_not, List.any_eq_false, Bool.or_eq_true, decide_eq_true_eq, not_or] at h
  exact ⟨by omega, fun p hp => by
    have := h.2 p hp
    exact ⟨by omega, (bigC_no (by simpa using this.1)).2⟩⟩
set_option maxRecDepth 100000 in
set_option maxHeartbeats 8000000 in
theorem bigL_ok (l : List Ld) (tg : Tag) (hl : l.length < 4611686018427387904) (hib : ∀ x, x ∈ l → x.batch.length < 4611686018427387904) : APure Tryz.prog 30 [ldA l tg] (.bool (bigL l)) := by
  intro M
  refine acalls_of tabOK Tryz.func30 rfl (by decide) (by simp [Tryz.f30]) ?_
  have la := len_map Ld.av l
  unfold bigL ldA
  by_cases h80 : 20 < l.length
  · have d1 : decide ((0 : Int) < (l.length : Int)) = true := by simp; omega
    have d2 : decide ((l.length : Int) ≤ 20) = false := by simp; omega
    have d3 : decide ((20 : Int) < (l.length : Int)) = true := by simp; omega
    have e : decide (20 < l.length) = true := by simp [h80]
    rw [e]
    repeat' (first | refine DW_VB tabs rfl (by first | exact d1 | exact d2) ?_ | refine DW_VI tabs rfl la ?_ | refine DW_A tabs rfl ?_ | refine DW_nil ?_ | refine W_A rfl ?_)
    refine W_count 0 (fun i f N => N = M ∧ f = ⟨[(0, .sl 2 (l.map Ld.av) tg), (3, .int .i64 (i : Int))], []⟩) (Nat.zero_le _) ⟨rfl, rfl⟩ (Joint.le ?_ (Mem.le_refl _)) ?_
    · skip
      repeat (refine AF.le_cons rfl ?_)
      exact AF.le_nil rfl
    rintro i f N hi ⟨rfl, rfl⟩
    obtain rfl : i = 0 := by omega
    repeat' (first | refine DW_VB tabs rfl (by first | exact d1 | exact d2 | exact d3) ?_ | refine DW_VI tabs rfl la ?_ | refine DW_A tabs rfl ?_ | refine DW_nil ?_ | refine W_A rfl ?_)
    exact ⟨rfl, _, rfl, rfl, rfl⟩
  · have d2 : decide ((l.length : Int) ≤ 20) = true := by simp; omega
    have d3 : decide ((20 : Int) < (l.length : Int)) = false := by simp; omega
    have e : decide (20 < l.length) = false := by simp; omega
    rw [e, Bool.false_or]
    repeat' (first | refine DW_VB tabs rfl d2 ?_ | refine DW_VI tabs rfl la ?_ | refine DW_A tabs rfl ?_ | refine DW_nil ?_ | refine W_A rfl ?_)
    refine W_count l.length (fun i f N => N = M ∧ ((l.take i).any bigLd = false) ∧ f = ⟨[(0, .sl 2 (l.map Ld.av) tg), (3, .int .i64 (i : Int))], []⟩) (Nat.zero_le _) ⟨rfl, by simp, rfl⟩ (Joint.le ?_ (Mem.le_refl _)) ?_
    · skip
      repeat (refine AF.le_cons rfl ?_)
      exact AF.le_nil rfl
    rintro i f N hi ⟨rfl, hinv, rfl⟩
    by_cases h1 : i < l.length
    · have d1 : decide ((i : Int) < (l.length : Int)) = true := by simp; omega
      have hx : l[i]? = some l[i] := List.getElem?_eq_getElem h1
      have fi := wrap_succ (i := i) (by omega)
      have ht := take_succ hx
      have hm := List.getElem_mem h1
      generalize l[i] = x at hx ht hm
      have e2 : (l.take (i + 1)).any bigLd = bigLd x := by rw [ht, List.any_append, hinv]; simp
      have hs : bigLd x = true → l.any bigLd = true := fun h => List.any_eq_true.2 ⟨x, List.mem_of_getElem? hx, h⟩
      have lx := len_map Ch.av x.batch
      have kx := bigC_ok x.batch .none (hib x (List.mem_of_getElem? hx))
      unfold bigLd at hs e2
      unfold chA at kx
      cases h5 : bigC x.batch
      · rw [h5] at kx
        by_cases h6 : 25 < x.batch.length
        · have d6 : decide ((25 : Int) < (x.batch.length : Int)) = true := by simp; omega
          rw [show l.any bigLd = true from hs (by simp [h6])]
          repeat' (first | refine DW_VB tabs rfl (by first | exact d1 | exact d2 | exact d6) ?_ | refine DW_VI tabs rfl (by first | exact la | exact lx | exact fi) ?_ | refine DW_A tabs rfl ?_ | refine DW_nil ?_ | refine W_A rfl ?_ | refine DW_C rfl kx ?_ | refine DW_ix tabOK rfl (ixN hx) ?_)
          exact ⟨rfl, _, rfl, rfl, rfl⟩
        · have d6 : decide ((25 : Int) < (x.batch.length : Int)) = false := by simp; omega
          repeat' (first | refine DW_VB tabs rfl (by first | exact d1 | exact d2 | exact d6) ?_ | refine DW_VI tabs rfl (by first | exact la | exact lx | exact fi) ?_ | refine DW_A tabs rfl ?_ | refine DW_nil ?_ | refine W_A rfl ?_ | refine DW_C rfl kx ?_ | refine DW_ix tabOK rfl (ixN hx) ?_)
          refine ⟨h1, _, _, ⟨rfl, by rw [show bigLd = (fun x => bigC x.batch || decide (25 < x.batch.length)) from rfl, e2]; simp [h5, h6], rfl⟩, Joint.le ?_ (Mem.le_refl _)⟩
          repeat (refine AF.le_cons rfl ?_)
          exact AF.le_nil rfl
      · rw [h5] at kx
        rw [show l.any bigLd = true from hs (by simp [h5])]
        repeat' (first | refine DW_VB tabs rfl (by first | exact d1 | exact d2) ?_ | refine DW_VI tabs rfl (by first | exact la | exact fi) ?_ | refine DW_A tabs rfl ?_ | refine DW_nil ?_ | refine W_A rfl ?_ | refine DW_C rfl kx ?_ | refine DW_ix tabOK rfl (ixN hx) ?_)
        exact ⟨rfl, _, rfl, rfl, rfl⟩
    · have d1 : decide ((i : Int) < (l.length : Int)) = false := by simp; omega
      obtain rfl : i = l.length := by omega
      rw [take_all] at hinv
      rw [hinv]
      repeat' (first | refine DW_VB tabs rfl (by first | exact d1 | exact d2 | exact d3) ?_ | refine DW_VI tabs rfl la ?_ | refine DW_A tabs rfl ?_ | refine DW_nil ?_ | refine W_A rfl ?_)
      exact ⟨rfl, _, rfl, rfl, rfl⟩

theorem en_eq {a b : En} : a = b ↔ a.path = b.path ∧ a.time = b.time ∧ a.meta_ = b.meta_ := by
  obtain ⟨p, t, m⟩ := a
  obtain ⟨q, u, n⟩ := b
  simp
def shortE (x : En) : Prop := x.meta_.ch.length < 1000000
set_option maxRecDepth 100000 in
set_option maxHeartbeats 8000000 in
theorem sameEn_ok (a b : En) (ha : shortE a) (hb : shortE b) : APure Tryz.prog 40 [a.av, b.av] (.bool (decide (a = b))) := by
  intro M
  refine acalls_of tabOK Tryz.func40 rfl (by decide) (by simp [Tryz.f40]) ?_
  have k := rmSame_ok a.meta_ b.meta_ ha hb
  cases d1 : a.path == b.path
  · rw [decide_eq_false (p := a = b) (by rintro rfl; simp at d1)]
    repeat' (first | refine DW_VB tabs rfl d1 ?_ | refine DW_A tabs rfl ?_ | refine DW_nil ?_ | refine W_A rfl ?_)
    exact ⟨rfl, _, rfl, rfl, rfl⟩
  · cases d2 : decide (a.time = b.time)
    · rw [decide_eq_false (p := a = b) (by rintro rfl; simp at d2)]
      repeat' (first | refine DW_VB tabs rfl (by first | exact d1 | exact d2) ?_ | refine DW_A tabs rfl ?_ | refine DW_nil ?_ | refine W_A rfl ?_)
      exact ⟨rfl, _, rfl, rfl, rfl⟩
    · have e : decide (a = b) = decide (a.meta_ = b.meta_) := by
        rw [decide_eq_decide, en_eq]
        simp at d1 d2
        simp [d1, d2]
      rw [e]
      repeat' (first | refine DW_VB tabs rfl (by first | exact d1 | exact d2) ?_ | refine DW_A tabs rfl ?_ | refine DW_nil ?_ | refine W_A rfl ?_ | refine DW_C rfl k ?_)
      exact ⟨rfl, _, rfl, rfl, rfl⟩
set_option maxRecDepth 100000 in
set_option maxHeartbeats 8000000 in
theorem sameEs_ok (a b : List En) (ta tb : Tag) (ha : a.length < 1000000) (hb : b.length < 1000000) (sa : ∀ x, x ∈ a → shortE x) (sb : ∀ x, x ∈ b → shortE x) : APure Tryz.prog 41 [ensA a ta, ensA b tb] (.bool (decide (a = b))) := by
  intro M
  refine acalls_of tabOK Tryz.func41 rfl (by decide) (by simp [Tryz.f41]) ?_
  have la := len_map En.av a
  have lb := len_map En.av b
  unfold ensA
  by_cases hl : a.length = b.length
  · have d0 : (!decide ((a.length : Int) = (b.length : Int))) = false := by simp; omega
    repeat' (first | refine DW_VB tabs rfl d0 ?_ | refine DW_VI tabs rfl (by first | exact la | exact lb) ?_ | refine DW_A tabs rfl ?_ | refine DW_nil ?_ | refine W_A rfl ?_ | refine W_draw mixed [0, 1, 4, 5, 2, 3, 6, 7, 8, 9] [.P, .P, .R, .R, .P, .P, .R, .R, .P, .P] rfl rfl (by kernel_rfl) ?_)
    refine W_count a.length (fun i f N => N = M ∧ (a.take i = b.take i) ∧ f = ⟨[(0, .sl 5 (a.map En.av) ta), (1, .sl 5 (b.map En.av) tb), (5, .int .i64 (i : Int))], []⟩) (Nat.zero_le _) ⟨rfl, by simp, rfl⟩ (Joint.le ?_ (Mem.le_refl _)) ?_
    · skip
      repeat (refine AF.le_cons rfl ?_)
      exact AF.le_nil rfl
    rintro i f N hi ⟨rfl, hinv, rfl⟩
    by_cases h1 : i < a.length
    · have d1 : decide ((i : Int) < (a.length : Int)) = true := by simp; omega
      have hx : a[i]? = some a[i] := List.getElem?_eq_getElem h1
      have fi := wrap_succ (i := i) (by omega)
      have ht := take_succ hx
      have hm := List.getElem_mem h1
      generalize a[i] = x at hx ht hm
      have hy : b[i]? = some b[i] := List.getElem?_eq_getElem (by omega)
      have hu := take_succ hy
      generalize b[i] = y at hy hu
      have kx := sameEn_ok x y (sa x (List.mem_of_getElem? hx)) (sb y (List.mem_of_getElem? hy))
      by_cases h3 : x = y
      · rw [decide_eq_true h3] at kx
        repeat' (first | refine DW_VB tabs rfl d1 ?_ | refine DW_VI tabs rfl (by first | exact fi | exact la | exact lb) ?_ | refine DW_A tabs rfl ?_ | refine DW_nil ?_ | refine W_A rfl ?_ | refine DW_C rfl kx ?_ | refine DW_ix tabOK rfl (ixN hx) ?_ | refine DW_ix tabOK rfl (ixN hy) ?_ | refine W_draw mixed [0, 1, 4, 5, 2, 3, 6, 7, 8, 9] [.P, .P, .R, .R, .P, .P, .R, .R, .P, .P] rfl rfl (by kernel_rfl) ?_)
        refine ⟨h1, _, _, ⟨rfl, by rw [ht, hu, hinv, h3], rfl⟩, Joint.le ?_ (Mem.le_refl _)⟩
        repeat (refine AF.le_cons rfl ?_)
        exact AF.le_nil rfl
      · rw [decide_eq_false h3] at kx
        have e : decide (a = b) = false := by
          refine decide_eq_false fun e => h3 ?_
          subst e
          rw [hx] at hy
          cases hy
          rfl
        rw [e]
        repeat' (first | refine DW_VB tabs rfl d1 ?_ | refine DW_VI tabs rfl (by first | exact fi | exact la | exact lb) ?_ | refine DW_A tabs rfl ?_ | refine DW_nil ?_ | refine W_A rfl ?_ | refine DW_C rfl kx ?_ | refine DW_ix tabOK rfl (ixN hx) ?_ | refine DW_ix tabOK rfl (ixN hy) ?_ | refine W_draw mixed [0, 1, 4, 5, 2, 3, 6, 7, 8, 9] [.P, .P, .R, .R, .P, .P, .R, .R, .P, .P] rfl rfl (by kernel_rfl) ?_)
        exact ⟨rfl, _, rfl, rfl, rfl⟩
    · have d1 : decide ((i : Int) < (a.length : Int)) = false := by simp; omega
      obtain rfl : i = a.length := by omega
      rw [take_all, hl, take_all] at hinv
      have e : decide (a = b) = true := by simp [hinv]
      rw [e]
      repeat' (first | refine DW_VB tabs rfl d1 ?_ | refine DW_VI tabs rfl la ?_ | refine DW_A tabs rfl ?_ | refine DW_nil ?_ | refine W_A rfl ?_ | refine W_draw mixed [0, 1, 4, 5, 2, 3, 6, 7, 8, 9] [.P, .P, .R, .R, .P, .P, .R, .R, .P, .P] rfl rfl (by kernel_rfl) ?_)
      exact ⟨rfl, _, rfl, rfl, rfl⟩
  · have d0 : (!decide ((a.length : Int) = (b.length : Int))) = true := by simp; omega
    have e : decide (a = b) = false := decide_eq_false fun e => hl (by rw [e])
    rw [e]
    repeat' (first | refine DW_VB tabs rfl d0 ?_ | refine DW_VI tabs rfl (by first | exact la | exact lb) ?_ | refine DW_A tabs rfl ?_ | refine DW_nil ?_ | refine W_A rfl ?_ | refine W_draw mixed [0, 1, 4, 5, 2, 3, 6, 7, 8, 9] [.P, .P, .R, .R, .P, .P, .R, .R, .P, .P] rfl rfl (by kernel_rfl) ?_)
    exact ⟨rfl, _, rfl, rfl, rfl⟩
end Go.Proofs.YthdeopopodhimaaGreatDoor
