/- Parts of the proof, one behind the other: StoP, StoQ, SLawB, SLawC, SLawD, SLawE. No further condition. -/
import Derived.Test.YthdeopopodhimaaGreatDoorM22
import Derived.Test.YthdeopopodhimaaGreatDoorM23
set_option linter.unusedVariables false
set_option linter.unusedSimpArgs false
/- Plain facts on stores: the newest version, lists, batches laid. No further condition. -/
set_option linter.unusedVariables false
set_option linter.unusedSimpArgs false
namespace Go.Proofs.YthdeopopodhimaaGreatDoor
open Go.Ab

/-! ### The newest version -/
structure IsBest (l : List Pr) (p : Bytes) (w : Int) (x : Pr) : Prop where
  mem : x ∈ l
  path : x.key.path = p
  le : x.key.time ≤ w
  top : ∀ y, y ∈ l → y.key.path = p → y.key.time ≤ w → y.key.time ≤ x.key.time
theorem rless_def (a b : Ky) : rless a b = true ↔ bl a.path b.path = true ∨ (a.path = b.path ∧ b.time < a.time) := by
  unfold rless
  simp
theorem rless_no {a : Ky} {p : Bytes} {w : Int} (h : rless a ⟨p, w⟩ = false) (hp : a.path = p) : a.time ≤ w := by
  by_cases h2 : a.time ≤ w
  · exact h2
  · have := (rless_def a ⟨p, w⟩).2 (.inr ⟨hp, by show w < a.time; omega⟩)
    rw [h] at this
    cases this
theorem rless_yes {a : Ky} {p : Bytes} {w : Int} (hp : a.path = p) (h : a.time ≤ w) : rless a ⟨p, w⟩ = false := by
  cases hh : rless a ⟨p, w⟩
  · rfl
  · rcases (rless_def _ _).1 hh with h1 | ⟨_, h1⟩
    · have h1 : bl a.path p = true := h1
      rw [hp, bl_irrefl] at h1
      cases h1
    · have h1 : w < a.time := h1
      omega
def okT (l : List Pr) : Prop := ∀ y, y ∈ l → y.key.time ≤ 1000000000
theorem at_cases {l : List Pr} (hr : Rise l) (ht : okT l) (p : Bytes) (w : Int) : (∃ x, IsBest l p w x ∧ atL l p w = atP p x) ∨ ((∀ y, y ∈ l → y.key.path = p → ¬ y.key.time ≤ w) ∧ atL l p w = none) := by
  unfold atL
  have hf := fromP_filter hr ⟨p, min w 1000000000⟩
  have hin : ∀ y, y ∈ l → y.key.path = p → y.key.time ≤ w → y ∈ fromP l ⟨p, min w 1000000000⟩ := by
    intro y hy hp hw
    rw [hf, List.mem_filter]
    have := ht y hy
    exact ⟨hy, by rw [rless_yes hp (by omega)]; rfl⟩
  have hout : ∀ y, y ∈ fromP l ⟨p, min w 1000000000⟩ → y ∈ l ∧ rless y.key ⟨p, min w 1000000000⟩ = false := by
    intro y hy
    rw [hf, List.mem_filter] at hy
    exact ⟨hy.1, by simpa using hy.2⟩
  have hrf := fromP_rise (k := ⟨p, min w 1000000000⟩) hr
  generalize fromP l ⟨p, min w 1000000000⟩ = L at hin hout hrf
  cases L with
  | nil => exact .inr ⟨fun y hy hp hw => absurd (hin y hy hp hw) (by simp), rfl⟩
  | cons x r =>
    have hx := hout x (by simp)
    by_cases hp : x.key.path = p
    · refine .inl ⟨x, ⟨hx.1, hp, by have := rless_no hx.2 hp; omega, fun y hy hyp hyw => ?_⟩, rfl⟩
      rcases List.mem_cons.1 (hin y hy hyp hyw) with rfl | hy2
      · exact Int.le_refl _
      · have h3 := (List.pairwise_cons.1 hrf).1 y hy2
        rcases (rless_def _ _).1 h3 with h3 | ⟨_, h3⟩
        · rw [hp, hyp, bl_irrefl] at h3
          cases h3
        · omega
    · refine .inr ⟨fun y hy hyp hyw => ?_, ?_⟩
      · rcases List.mem_cons.1 (hin y hy hyp hyw) with rfl | hy2
        · exact hp hyp
        · have h3 := (List.pairwise_cons.1 hrf).1 y hy2
          rcases (rless_def _ _).1 h3 with h3 | ⟨h3, _⟩
          · rw [hyp] at h3
            have := (rless_def x.key ⟨p, min w 1000000000⟩).2 (.inl h3)
            rw [hx.2] at this
            cases this
          · exact hp (h3.trans hyp)
      · show atP p x = none
        unfold atP
        rw [if_neg (by simp [hp])]
theorem rise_inj {l : List Pr} (hr : Rise l) {x y : Pr} (hx : x ∈ l) (hy : y ∈ l) (h : x.key = y.key) : x = y := by
  induction l with
  | nil => cases hx
  | cons z r ih =>
    obtain ⟨h1, h2⟩ := List.pairwise_cons.1 hr
    rcases List.mem_cons.1 hx with e1 | hx2
    · rcases List.mem_cons.1 hy with e2 | hy2
      · rw [e1, e2]
      · have := h1 y hy2
        rw [← e1, h, rless_irrefl] at this
        cases this
    · rcases List.mem_cons.1 hy with e2 | hy2
      · have := h1 x hx2
        rw [← e2, h, rless_irrefl] at this
        cases this
      · exact ih h2 hx2 hy2
theorem best_eq {l : List Pr} (hr : Rise l) {p : Bytes} {w : Int} {x y : Pr} (hx : IsBest l p w x) (hy : IsBest l p w y) : x = y := by
  refine rise_inj hr hx.mem hy.mem ?_
  have h1 := hx.top y hy.mem hy.path hy.le
  have h2 := hy.top x hx.mem hx.path hx.le
  have h3 : x.key.path = y.key.path := hx.path.trans hy.path.symm
  have h4 : x.key.time = y.key.time := by omega
  cases hkx : x.key
  cases hky : y.key
  rw [hkx, hky] at h3 h4
  simp only at h3 h4
  rw [h3, h4]
theorem at_best {l : List Pr} (hr : Rise l) (ht : okT l) {p : Bytes} {w : Int} {x : Pr} (h : IsBest l p w x) : atL l p w = atP p x := by
  rcases at_cases hr ht p w with ⟨y, hy, e⟩ | ⟨hno, _⟩
  · rw [e, best_eq hr h hy]
  · exact absurd h.le (hno x h.mem h.path)
theorem at_none {l : List Pr} (hr : Rise l) (ht : okT l) {p : Bytes} {w : Int} (h : ∀ y, y ∈ l → y.key.path = p → ¬ y.key.time ≤ w) : atL l p w = none := by
  rcases at_cases hr ht p w with ⟨y, hy, e⟩ | ⟨_, e⟩
  · exact absurd hy.le (h y hy.mem hy.path)
  · exact e
theorem at_congr {l m : List Pr} (hr : Rise l) (ht : okT l) (hr' : Rise m) (ht' : okT m) {p : Bytes} {w : Int} (h : ∀ y : Pr, y.key.path = p → y.key.time ≤ w → (y ∈ l ↔ y ∈ m)) : atL l p w = atL m p w := by
  rcases at_cases hr ht p w with ⟨y, hy, e⟩ | ⟨hno, e⟩
  · rw [e]
    refine (at_best hr' ht' ⟨(h y hy.path hy.le).1 hy.mem, hy.path, hy.le, fun z hz hzp hzw => hy.top z ((h z hzp hzw).2 hz) hzp hzw⟩).symm
  · rw [e]
    exact (at_none hr' ht' fun z hz hzp hzw => hno z ((h z hzp hzw).2 hz) hzp hzw).symm
theorem at_is {l : List Pr} {p : Bytes} {w : Int} {e : En} (hr : Rise l) (ht : okT l) (h : atL l p w = some e) : e.path = p ∧ e.time ≤ w ∧ ∃ x, x ∈ l ∧ x.key.path = p ∧ e.time = x.key.time ∧ e.meta_ = (readM x.val).1 := by
  rcases at_cases hr ht p w with ⟨y, hy, e'⟩ | ⟨_, e'⟩
  · rw [e'] at h
    unfold atP at h
    split at h
    · cases h
      exact ⟨rfl, hy.le, y, hy.mem, hy.path, rfl, rfl⟩
    · cases h
  · rw [e'] at h
    cases h

/-! ### Lists -/
theorem skipU_mem {dir : Bytes} : ∀ {m : List Pr} {x : Pr}, x ∈ m → underB dir x.key.path = true → x ∈ skipU dir m
  | y :: r, x, hx, hu => by
    cases hy : underB dir y.key.path
    · rw [skipU_cons hy]
      rcases List.mem_cons.1 hx with rfl | hx
      · rw [hu] at hy
        cases hy
      · exact skipU_mem hx hu
    · rw [skipU_hit hy]
      exact hx
theorem sameP_mem {x : Pr} {r : List Pr} (hr : Rise (x :: r)) (y : Pr) : y ∈ sameP x.key.path (x :: r) ↔ y ∈ x :: r ∧ y.key.path ≠ x.key.path := by
  unfold sameP
  rw [same_cut hr (rise_paths hr), List.mem_filter]
  simp
theorem paths_ok : ∀ (n : Nat) (dir : Bytes) (m : List Pr), m.length ≤ n → Rise m → (pathsU dir m).Pairwise (fun a b => bl a b = true) ∧ ∀ p, p ∈ pathsU dir m ↔ underB dir p = true ∧ ∃ x, x ∈ m ∧ x.key.path = p
  | n, dir, m, hn, hr => by
    have hrs : Rise (skipU dir m) := hr.sublist (skipU_sub dir m)
    have hmem : ∀ p, (underB dir p = true ∧ ∃ x, x ∈ m ∧ x.key.path = p) ↔ (underB dir p = true ∧ ∃ x, x ∈ skipU dir m ∧ x.key.path = p) := by
      intro p
      constructor
      · rintro ⟨hu, x, hx, rfl⟩
        exact ⟨hu, x, skipU_mem hx hu, rfl⟩
      · rintro ⟨hu, x, hx, rfl⟩
        exact ⟨hu, x, (skipU_sub dir m).subset hx, rfl⟩
    have hhead := @skipU_head dir m
    have hlen := (skipU_sub dir m).length_le
    cases hs : skipU dir m with
    | nil =>
      rw [pathsU_nil hs]
      refine ⟨List.Pairwise.nil, fun p => ?_⟩
      rw [hmem, hs]
      simp
    | cons x r =>
      rw [hs] at hrs hlen
      have hux := hhead hs
      have hlt := sameP_lt x r
      rw [pathsU_cons hs]
      match n, hn with
      | 0, hn => simp at hlen; omega
      | n + 1, hn =>
        simp at hlen
        obtain ⟨h1, h2⟩ := paths_ok n dir (sameP x.key.path (x :: r)) (by omega) (hrs.sublist (List.dropWhile_sublist _))
        refine ⟨List.pairwise_cons.2 ⟨fun p hp => ?_, h1⟩, fun p => ?_⟩
        · obtain ⟨_, y, hy, rfl⟩ := (h2 p).1 hp
          obtain ⟨hy1, hy2⟩ := (sameP_mem hrs y).1 hy
          exact (rise_paths hrs y hy1).resolve_left hy2
        · rw [hmem, hs, List.mem_cons, h2]
          constructor
          · rintro (rfl | ⟨hu, y, hy, rfl⟩)
            · exact ⟨hux, x, by simp, rfl⟩
            · exact ⟨hu, y, ((sameP_mem hrs y).1 hy).1, rfl⟩
          · rintro ⟨hu, y, hy, rfl⟩
            by_cases he : y.key.path = x.key.path
            · exact .inl he
            · exact .inr ⟨hu, y, (sameP_mem hrs y).2 ⟨hy, he⟩, rfl⟩
theorem list_mem {l : List Pr} (hr : Rise l) (ht : okT l) (dir : Bytes) (w : Int) (e : En) : e ∈ listL l dir w ↔ underB dir e.path = true ∧ atL l e.path w = some e := by
  unfold listL
  rw [List.mem_filterMap]
  constructor
  · rintro ⟨p, hp, he⟩
    have := (at_is hr ht he).1
    subst this
    exact ⟨(((paths_ok _ dir l (Nat.le_refl _) hr).2 _).1 hp).1, he⟩
  · rintro ⟨hu, he⟩
    obtain ⟨_, _, x, hx, hxp, _⟩ := at_is hr ht he
    exact ⟨e.path, ((paths_ok _ dir l (Nat.le_refl _) hr).2 _).2 ⟨hu, x, hx, hxp⟩, he⟩
abbrev RiseE (l : List En) : Prop := l.Pairwise fun a b => bl a.path b.path = true
theorem rise_fm {f : Bytes → Option En} (hf : ∀ p e, f p = some e → e.path = p) : ∀ {l : List Bytes}, l.Pairwise (fun a b => bl a b = true) → RiseE (l.filterMap f)
  | [], _ => List.Pairwise.nil
  | p :: r, h => by
    obtain ⟨h1, h2⟩ := List.pairwise_cons.1 h
    rw [List.filterMap_cons]
    cases he : f p with
    | none => exact rise_fm hf h2
    | some e =>
      refine List.pairwise_cons.2 ⟨fun y hy => ?_, rise_fm hf h2⟩
      obtain ⟨q, hq, hy⟩ := List.mem_filterMap.1 hy
      rw [hf p e he, hf q y hy]
      exact h1 q hq
theorem list_rise {l : List Pr} (hr : Rise l) (ht : okT l) (dir : Bytes) (w : Int) : RiseE (listL l dir w) :=
  rise_fm (fun p e he => (at_is hr ht he).1) (paths_ok _ dir l (Nat.le_refl _) hr).1
/-- Rows that rise and hold the same are the same. -/
theorem riseE_eq : ∀ {a b : List En}, RiseE a → RiseE b → (∀ e, e ∈ a ↔ e ∈ b) → a = b
  | [], [], _, _, _ => rfl
  | [], y :: s, _, _, h => by have := (h y).2 (by simp); cases this
  | x :: r, [], _, _, h => by have := (h x).1 (by simp); cases this
  | x :: r, y :: s, ha, hb, h => by
    obtain ⟨h1, h2⟩ := List.pairwise_cons.1 ha
    obtain ⟨h3, h4⟩ := List.pairwise_cons.1 hb
    have e : x = y := by
      rcases List.mem_cons.1 ((h x).1 (by simp)) with e | hx
      · exact e
      · rcases List.mem_cons.1 ((h y).2 (by simp)) with e | hy
        · exact e.symm
        · have := bl_asymm (h3 x hx)
          rw [h1 y hy] at this
          cases this
    subst e
    congr 1
    refine riseE_eq h2 h4 fun z => ?_
    constructor
    · intro hz
      rcases List.mem_cons.1 ((h z).1 (by simp [hz])) with rfl | hz2
      · have := h1 z hz
        rw [bl_irrefl] at this
        cases this
      · exact hz2
    · intro hz
      rcases List.mem_cons.1 ((h z).2 (by simp [hz])) with rfl | hz2
      · have := h3 z hz
        rw [bl_irrefl] at this
        cases this
      · exact hz2
theorem list_congr {l m : List Pr} (hr : Rise l) (ht : okT l) (hr' : Rise m) (ht' : okT m) {w : Int} (h : ∀ p, atL l p w = atL m p w) (dir : Bytes) : listL l dir w = listL m dir w :=
  riseE_eq (list_rise hr ht dir w) (list_rise hr' ht' dir w) fun e => by rw [list_mem hr ht, list_mem hr' ht', h]

/-! ### Batches laid -/
theorem putP_self (l : List Pr) (p : Pr) : p ∈ putP l p := by
  induction l with
  | nil => simp [putP]
  | cons q r ih =>
    simp only [putP]
    split
    · simp [ih]
    · split <;> simp
theorem putP_keep {l : List Pr} {p y : Pr} (hy : y ∈ l) (h : y.key ≠ p.key) : y ∈ putP l p := by
  induction l with
  | nil => cases hy
  | cons q r ih =>
    simp only [putP]
    rcases List.mem_cons.1 hy with rfl | hy
    · split
      · simp
      · first
          | (rw [if_neg h]; simp)
          | simp
    · split
      · simp [ih hy]
      · split <;> simp [hy]
theorem putP_new {l : List Pr} {p : Pr} (h : ∀ y, y ∈ l → y.key ≠ p.key) : (putP l p).length = l.length + 1 := by
  induction l with
  | nil => rfl
  | cons q r ih =>
    simp only [putP]
    split
    · simp [ih (fun y hy => h y (by simp [hy]))]
    · rw [if_neg (h q (by simp))]
      rfl
noncomputable def layL (l : List Pr) (at_ : Int) (c : List Ch) : List Pr := c.foldl (fun l x => putP l (chP at_ x)) l
theorem layL_ok {at_ : Int} : ∀ {c : List Ch} {l : List Pr}, RiseC c → (∀ y, y ∈ l → ∀ x, x ∈ c → y.key ≠ (chP at_ x).key) → (∀ y, y ∈ layL l at_ c ↔ y ∈ l ∨ ∃ x, x ∈ c ∧ y = chP at_ x) ∧ (layL l at_ c).length = l.length + c.length
  | [], l, _, _ => ⟨fun y => by simp [layL], rfl⟩
  | x :: r, l, hc, hl => by
    obtain ⟨h1, h2⟩ := List.pairwise_cons.1 hc
    have hnew : ∀ y, y ∈ l → y.key ≠ (chP at_ x).key := fun y hy => hl y hy x (by simp)
    have hne : ∀ z, z ∈ r → (chP at_ x).key ≠ (chP at_ z).key := by
      intro z hz he
      have h3 := h1 z hz
      have : x.path = z.path := congrArg Ky.path he
      rw [this, bl_irrefl] at h3
      cases h3
    obtain ⟨h3, h4⟩ := layL_ok (at_ := at_) (c := r) (l := putP l (chP at_ x)) h2 (fun y hy z hz => by
      rcases putP_mem hy with rfl | hy
      · exact hne z hz
      · exact hl y hy z (by simp [hz]))
    refine ⟨fun y => ?_, ?_⟩
    · show y ∈ layL (putP l (chP at_ x)) at_ r ↔ _
      rw [h3]
      constructor
      · rintro (hy | ⟨z, hz, e⟩)
        · rcases putP_mem hy with e | hy
          · exact .inr ⟨x, by simp, e⟩
          · exact .inl hy
        · exact .inr ⟨z, by simp [hz], e⟩
      · rintro (hy | ⟨z, hz, e⟩)
        · exact .inl (putP_keep hy (hnew y hy))
        · rcases List.mem_cons.1 hz with rfl | hz
          · exact .inl (by rw [e]; exact putP_self _ _)
          · exact .inr ⟨z, hz, e⟩
    · show (layL (putP l (chP at_ x)) at_ r).length = _
      rw [h4, putP_new hnew, List.length_cons]
      omega
theorem maxAt_from (l : List Pr) : ∀ n : Int, n ≤ l.foldl (fun n p => max n p.key.time) n ∧ (∀ y, y ∈ l → y.key.time ≤ l.foldl (fun n p => max n p.key.time) n) ∧ (l.foldl (fun n p => max n p.key.time) n = n ∨ ∃ y, y ∈ l ∧ l.foldl (fun n p => max n p.key.time) n = y.key.time) := by
  induction l with
  | nil => intro n; exact ⟨Int.le_refl _, fun y hy => (by cases hy), .inl rfl⟩
  | cons x r ih =>
    intro n
    obtain ⟨h1, h2, h3⟩ := ih (max n x.key.time)
    simp only [List.foldl_cons]
    refine ⟨by omega, fun y hy => ?_, ?_⟩
    · rcases List.mem_cons.1 hy with rfl | hy
      · omega
      · exact h2 y hy
    · rcases h3 with h3 | ⟨y, hy, h3⟩
      · by_cases hx : n ≤ x.key.time
        · exact .inr ⟨x, by simp, by omega⟩
        · exact .inl (by omega)
      · exact .inr ⟨y, by simp [hy], h3⟩
theorem maxAt_is {l : List Pr} {n : Int} (h0 : 0 ≤ n) (h1 : ∀ y, y ∈ l → y.key.time ≤ n) (h2 : ∃ y, y ∈ l ∧ y.key.time = n) : maxAt l = n := by
  obtain ⟨a, b, c⟩ := maxAt_from l 0
  obtain ⟨y, hy, e⟩ := h2
  have h3 := b y hy
  unfold maxAt
  rcases c with c | ⟨z, hz, c⟩
  · omega
  · have := h1 z hz
    omega
theorem okP_parts {p : Pr} (h : okP p = true) : (readM p.val).2.2 = 0 ∧ isPathB p.key.path = true ∧ 0 ≤ p.key.time ∧ p.key.time ≤ 1000000000 ∧ p.key.path ≠ [] := by
  unfold okP isKeyB at h
  simp at h
  exact ⟨h.1.1, h.1.2.1.1, h.1.2.1.2, h.1.2.2, h.2⟩
theorem isSt_mem {l : List Pr} (h : isSt l = true) {p : Pr} (hp : p ∈ l) : okP p = true := by
  unfold isSt at h
  rw [List.all_eq_true] at h
  exact h p hp
theorem isSt_of {l : List Pr} (h : ∀ p, p ∈ l → okP p = true) : isSt l = true := by
  unfold isSt
  rw [List.all_eq_true]
  exact h
theorem isSt_okT {l : List Pr} (h : isSt l = true) : okT l := fun y hy => (okP_parts (isSt_mem h hy)).2.2.2.1
theorem may_parts {c : Ch} (h : mayB c = true) : c.path ≠ [] ∧ isPathB c.path = true ∧ isM c.meta_ = true ∧ (c.gone = true → c.meta_ = zeroMt) := by
  unfold mayB zeroB at h
  simp at h
  refine ⟨h.1.1.1, h.1.1.2, h.1.2, fun hg => ?_⟩
  rcases h.2 with h2 | h2
  · rw [hg] at h2
    cases h2
  · obtain ⟨⟨a, b⟩, c'⟩ := h2
    cases hm : c.meta_ with
    | mk s m l =>
      rw [hm] at a b c'
      simp only at a b c'
      rw [a, b, c']
      rfl
structure Lays (l : List Pr) (at_ : Int) (c : List Ch) : Prop where
  st : isSt l = true
  pos : 1 ≤ at_
  le : at_ ≤ 1000000000
  ne : c ≠ []
  may : ∀ x, x ∈ c → mayB x = true
  rise : RiseC c
  new : ∀ y, y ∈ l → y.key.time < at_
  last : lastL l < at_
theorem layB_parts {l : List Pr} {at_ : Int} {c : List Ch} (h : layB l at_ c = true) : Lays l at_ c := by
  unfold layB batchB at h
  simp only [Bool.and_eq_true, decide_eq_true_eq, List.all_eq_true] at h
  obtain ⟨⟨⟨⟨h1, h2⟩, h3⟩, ⟨⟨⟨h4, h5⟩, h6⟩, h7⟩⟩, h8⟩ := h
  refine ⟨h1, h2, h3, ?_, h6, h7, fun y hy => ?_, h8⟩
  · intro e
    rw [e] at h4
    simp at h4
  · unfold lastL at h8
    rw [if_pos h1] at h8
    have := (maxAt_from l 0).2.1 y hy
    unfold maxAt at h8
    omega
theorem lays_mem {l : List Pr} {at_ : Int} {c : List Ch} (h : Lays l at_ c) : (∀ y, y ∈ layL l at_ c ↔ y ∈ l ∨ ∃ x, x ∈ c ∧ y = chP at_ x) ∧ (layL l at_ c).length = l.length + c.length :=
  layL_ok h.rise fun y hy x hx e => by
    have := h.new y hy
    have e2 : y.key.time = at_ := congrArg Ky.time e
    omega
theorem chP_ok {l : List Pr} {at_ : Int} {c : List Ch} (h : Lays l at_ c) {x : Ch} (hx : x ∈ c) : okP (chP at_ x) = true := by
  obtain ⟨h1, h2, h3, _⟩ := may_parts (h.may x hx)
  unfold okP isKeyB chP
  simp only [(readM_value (g := x.gone) h3).2, h2]
  have := h.pos
  have := h.le
  simp
  exact ⟨⟨by omega, by omega⟩, h1⟩
theorem lays_st {l : List Pr} {at_ : Int} {c : List Ch} (h : Lays l at_ c) : isSt (layL l at_ c) = true := by
  refine isSt_of fun p hp => ?_
  rcases ((lays_mem h).1 p).1 hp with hp | ⟨x, hx, rfl⟩
  · exact isSt_mem h.st hp
  · exact chP_ok h hx
theorem lays_last {l : List Pr} {at_ : Int} {c : List Ch} (h : Lays l at_ c) : lastL (layL l at_ c) = at_ := by
  unfold lastL
  rw [if_pos (lays_st h)]
  obtain ⟨x, r, e⟩ := List.exists_cons_of_ne_nil h.ne
  refine maxAt_is (by have := h.pos; omega) (fun y hy => ?_) ⟨chP at_ x, ((lays_mem h).1 _).2 (.inr ⟨x, by rw [e]; simp, rfl⟩), rfl⟩
  rcases ((lays_mem h).1 y).1 hy with hy | ⟨z, hz, rfl⟩
  · have := h.new y hy
    omega
  · exact Int.le_refl _
theorem lays_old {l : List Pr} {at_ : Int} {c : List Ch} (h : Lays l at_ c) (hr : Rise l) (hr' : Rise (layL l at_ c)) {p : Bytes} {w : Int} (hp : w < at_ ∨ ∀ x, x ∈ c → x.path ≠ p) : atL (layL l at_ c) p w = atL l p w := by
  refine at_congr hr' (isSt_okT (lays_st h)) hr (isSt_okT h.st) fun y hyp hyw => ?_
  rw [(lays_mem h).1]
  constructor
  · rintro (hy | ⟨x, hx, rfl⟩)
    · exact hy
    · exfalso
      rcases hp with hp | hp
      · have : at_ ≤ w := hyw
        omega
      · exact hp x hx hyp
  · exact .inl
theorem lays_newest {l : List Pr} {at_ : Int} {c : List Ch} (h : Lays l at_ c) (hr' : Rise (layL l at_ c)) {x : Ch} (hx : x ∈ c) {w : Int} (hw : at_ ≤ w) : atL (layL l at_ c) x.path w = if x.gone = true then none else some ⟨x.path, at_, x.meta_⟩ := by
  have hb : IsBest (layL l at_ c) x.path w (chP at_ x) := by
    refine ⟨((lays_mem h).1 _).2 (.inr ⟨x, hx, rfl⟩), rfl, hw, fun y hy hyp hyw => ?_⟩
    rcases ((lays_mem h).1 y).1 hy with hy | ⟨z, hz, rfl⟩
    · have := h.new y hy
      show _ ≤ at_
      omega
    · exact Int.le_refl _
  rw [at_best hr' (isSt_okT (lays_st h)) hb]
  obtain ⟨_, _, h3, _⟩ := may_parts (h.may x hx)
  unfold atP
  cases hg : x.gone
  · rw [if_pos ⟨rfl, by show (readM (valueM x.meta_ x.gone).1).2.1 = false; rw [(readM_value h3).1, hg]⟩, if_neg (by simp)]
    show some (⟨x.path, at_, (readM (valueM x.meta_ x.gone).1).1⟩ : En) = _
    rw [hg, readM_there h3]
  · rw [if_neg, if_pos rfl]
    rintro ⟨_, h5⟩
    have h5 : (readM (valueM x.meta_ x.gone).1).2.1 = false := h5
    rw [(readM_value h3).1, hg] at h5
    cases h5
theorem layT_all {t : Tr} {at_ : Int} {c : List Ch} (h : t.all.length + c.length < 10000000) : (layT t at_ c).all = layL t.all at_ c := (layT_len c t h).2
end Go.Proofs.YthdeopopodhimaaGreatDoor

/- Stores of batches: what was laid last is told. No further condition. -/
set_option linter.unusedVariables false
set_option linter.unusedSimpArgs false
namespace Go.Proofs.YthdeopopodhimaaGreatDoor
open Go.Ab

def lastAt (l : List Ld) : Int := l.foldl (fun _ x => x.at_) 0
theorem lastAt_snoc (l : List Ld) (x : Ld) : lastAt (l ++ [x]) = x.at_ := by simp [lastAt]
def hitL (x : Ld) (p : Bytes) (w : Int) : Option (Ch × Int) := if x.at_ ≤ w then (x.batch.find? fun c => c.path == p).map fun c => (c, x.at_) else none
def lastT (l : List Ld) (p : Bytes) (w : Int) : Option (Ch × Int) := l.foldl (fun r x => (hitL x p w).or r) none
theorem lastT_snoc (l : List Ld) (x : Ld) (p : Bytes) (w : Int) : lastT (l ++ [x]) p w = (hitL x p w).or (lastT l p w) := by simp [lastT]
def entT (p : Bytes) (r : Option (Ch × Int)) : Option En := r.bind fun y => if y.1.gone = true then none else some ⟨p, y.2, y.1.meta_⟩
structure LaidInv (t : Tr) (took : List Ld) : Prop where
  st : isSt t.all = true
  last : lastL t.all = lastAt took
  rises : ∀ (i : Nat) x, took[i]? = some x → lastAt (took.take i) < x.at_
  told : ∀ p w, atL t.all p w = entT p (lastT took p w)
theorem lay_inv {t : Tr} {took : List Ld} {x : Ld} (h : LaidInv t took) (hl : layB t.all x.at_ x.batch = true) (hn : t.all.length + x.batch.length < 10000000) : LaidInv (layT t x.at_ x.batch) (took ++ [x]) := by
  have hL := layB_parts hl
  have he := layT_all (t := t) (at_ := x.at_) (c := x.batch) hn
  have hr' := (layT t x.at_ x.batch).rise
  change Rise (layT t x.at_ x.batch).all at hr'
  rw [he] at hr'
  refine ⟨by rw [he]; exact lays_st hL, by rw [he, lastAt_snoc]; exact lays_last hL, ?_, ?_⟩
  · intro i y hy
    by_cases hi : i < took.length
    · rw [List.getElem?_append_left hi] at hy
      rw [List.take_append_of_le_length (by omega)]
      exact h.rises i y hy
    · have hi2 : i = took.length := by
        have := (List.getElem?_eq_some_iff.1 hy).1
        simp at this
        omega
      subst hi2
      simp at hy
      subst hy
      rw [List.take_left]
      have := hL.last
      rw [h.last] at this
      exact this
  · intro p w
    rw [he, lastT_snoc]
    by_cases hw : x.at_ ≤ w
    · cases hf : x.batch.find? fun c => c.path == p with
      | none =>
        have : hitL x p w = none := by unfold hitL; rw [if_pos hw, hf]; rfl
        rw [this, lays_old hL t.rise hr' (.inr fun c hc e => ?_), h.told]
        · rfl
        · rw [List.find?_eq_none] at hf
          have := hf c hc
          simp [e] at this
      | some c =>
        have hh : hitL x p w = some (c, x.at_) := by unfold hitL; rw [if_pos hw, hf]; rfl
        have hc := List.mem_of_find?_eq_some hf
        have hp : c.path = p := by have := List.find?_some hf; simpa using this
        subst hp
        rw [hh, lays_newest hL hr' hc hw]
        rfl
    · have : hitL x p w = none := by unfold hitL; rw [if_neg hw]
      rw [this, lays_old hL t.rise hr' (.inl (by omega)), h.told]
      rfl
theorem inv_nil : LaidInv nilT [] := ⟨rfl, rfl, fun i x h => by simp at h, fun p w => by
  rcases at_cases (l := nilT.all) List.Pairwise.nil (fun y hy => by cases hy) p w with ⟨y, hy, _⟩ | ⟨_, e⟩
  · cases hy.mem
  · rw [e]
    rfl⟩
theorem laid_inv {l : List Ld} (hs : smallL l) : ∀ i, i ≤ l.length → i ≤ 20 → LaidInv (laidS (l.take i)).1 (laidS (l.take i)).2
  | 0, _, _ => inv_nil
  | i + 1, h, h20 => by
    have ih := laid_inv hs i (by omega) (by omega)
    obtain ⟨h1, _, _⟩ := laidS_ok hs i (by omega) (by omega)
    have hx : l[i]? = some l[i] := List.getElem?_eq_getElem (by omega)
    have hm := hs _ (List.getElem_mem (show i < l.length by omega))
    rw [laidS_step (take_succ hx)]
    split
    · rename_i hb
      exact lay_inv ih hb (by have := h1.1; have := hm.1; omega)
    · exact ih
theorem laid_all_inv {l : List Ld} (hs : smallL l) (hl : l.length ≤ 20) : LaidInv (laidS l).1 (laidS l).2 ∧ okS (laidS l).1 500 ∧ (laidS l).2.length ≤ 20 ∧ ∀ x, x ∈ (laidS l).2 → x ∈ l := by
  have h1 := laid_inv hs l.length (Nat.le_refl _) hl
  obtain ⟨h2, h3, h4⟩ := laidS_ok hs l.length (Nat.le_refl _) hl
  rw [List.take_length] at h1 h2 h3 h4
  exact ⟨h1, ⟨by have := h2.1; omega, h2.2⟩, by omega, h4⟩
theorem openE_st {l : List Pr} (h : isSt l = true) (p : Bytes) (w : Int) : openE l p w = if isPathB p = false then 20 else if w < 0 then 1 else 0 := by
  unfold openE
  rw [if_neg (by simp [h])]
end Go.Proofs.YthdeopopodhimaaGreatDoor

/- The document's rows on stores. No further condition. -/
set_option linter.unusedVariables false
set_option linter.unusedSimpArgs false
namespace Go.Proofs.YthdeopopodhimaaGreatDoor
open Go.Ab

def m1 : Mt := ⟨1, 0, []⟩
def v1 : Bytes := (valueM m1 false).1
theorem read_v1 : readM v1 = (m1, false, 0) := readM_there (by decide)
def sA : Ch := sizedC [97] 1
def sB : Ch := sizedC [98] 1
def gA : Ch := ⟨[97], true, zeroMt⟩
def l1 : List Pr := [⟨⟨[97], 1⟩, v1⟩, ⟨⟨[98], 1⟩, v1⟩]
def l3 : List Pr := [⟨⟨[97], 3⟩, [0]⟩, ⟨⟨[97], 1⟩, v1⟩, ⟨⟨[98], 1⟩, v1⟩]
theorem okP_a1 : okP ⟨⟨[97], 1⟩, v1⟩ = true := by unfold okP; rw [read_v1]; decide
theorem okP_b1 : okP ⟨⟨[98], 1⟩, v1⟩ = true := by unfold okP; rw [read_v1]; decide
theorem okP_a3 : okP ⟨⟨[97], 3⟩, [0]⟩ = true := by decide
theorem st_l1 : isSt l1 = true := by simp [isSt, l1, okP_a1, okP_b1]
theorem st_l3 : isSt l3 = true := by simp [isSt, l3, okP_a1, okP_b1, okP_a3]
theorem last_l1 : lastL l1 = 1 := by unfold lastL; rw [if_pos st_l1]; rfl
theorem last_l3 : lastL l3 = 3 := by unfold lastL; rw [if_pos st_l3]; rfl
theorem lay_0 : layB [] 1 [sA, sB] = true := by decide
theorem lay_1 : layB l1 3 [gA] = true := by unfold layB; rw [st_l1, last_l1]; decide
theorem lay_3 : layB l3 3 [sA] = false := by unfold layB; rw [st_l3, last_l3]; decide
theorem layL_0 : layL [] 1 [sA, sB] = l1 := rfl
theorem layL_1 : layL l1 3 [gA] = l3 := rfl
theorem openE_3 {p : Bytes} {w : Int} (hp : isPathB p = true) (hw : ¬ w < 0) : openE l3 p w = 0 := by
  unfold openE
  rw [if_neg (by rw [st_l3]; simp), if_neg (by rw [hp]; simp), if_neg hw]
theorem at_a2 : atL l3 [97] 2 = some ⟨[97], 1, m1⟩ := by
  show atP [97] ⟨⟨[97], 1⟩, v1⟩ = _
  unfold atP
  rw [read_v1]
  rfl
theorem at_a3 : atL l3 [97] 3 = none := rfl
theorem at_a9 : atL l3 [97] 9 = none := rfl
theorem at_b2 : atL l3 [98] 2 = some ⟨[98], 1, m1⟩ := by
  show atP [98] ⟨⟨[98], 1⟩, v1⟩ = _
  unfold atP
  rw [read_v1]
  rfl
theorem at_b9 : atL l3 [98] 9 = some ⟨[98], 1, m1⟩ := at_b2
theorem paths_3 : pathsU [] l3 = [[97], [98]] := by decide
theorem as_a2 : asOf l3 [97] 2 = (some ⟨[97], 1, m1⟩, 0) := by unfold asOf; rw [if_pos (openE_3 (by decide) (by decide)), at_a2]
theorem as_a3 : asOf l3 [97] 3 = (none, 0) := by unfold asOf; rw [if_pos (openE_3 (by decide) (by decide)), at_a3]
theorem ls_2 : listO l3 [] 2 = ([⟨[97], 1, m1⟩, ⟨[98], 1, m1⟩], 0) := by unfold listO listL; rw [if_pos (openE_3 (by decide) (by decide)), paths_3]; simp [at_a2, at_b2]
theorem ls_9 : listO l3 [] 9 = ([⟨[98], 1, m1⟩], 0) := by unfold listO listL; rw [if_pos (openE_3 (by decide) (by decide)), paths_3]; simp only [List.filterMap_cons, List.filterMap_nil, at_a9, at_b9]
theorem hs_3 : histO l3 [97] = ([⟨⟨[97], 3⟩, [0]⟩, ⟨⟨[97], 1⟩, v1⟩], 0) := by unfold histO; rw [if_pos (openE_3 (by decide) (by decide))]; rfl
noncomputable def tS : Tr := layT nilT 1 [sA, sB]
noncomputable def uS : Tr := layT tS 3 [gA]
theorem tS_all : tS.all = l1 := (layT_all (t := nilT) (by decide)).trans layL_0
theorem uS_all : uS.all = l3 := (layT_all (t := tS) (by rw [tS_all]; decide)).trans (by rw [tS_all]; exact layL_1)
theorem v1_len : v1.length < 1000 := valueM_len _ _ (by decide)
theorem vals_1 : valsB l1 := by
  intro p hp
  have := v1_len
  simp [l1] at hp
  rcases hp with rfl | rfl <;> exact ⟨by show 1 < 1000000; decide, by show v1.length < _; omega⟩
theorem vals_3 : valsB l3 := by
  intro p hp
  have := v1_len
  simp [l3] at hp
  rcases hp with rfl | rfl | rfl
  · exact ⟨by show 1 < 1000000; decide, by show 1 < 1000000; decide⟩
  · exact ⟨by show 1 < 1000000; decide, by show v1.length < _; omega⟩
  · exact ⟨by show 1 < 1000000; decide, by show v1.length < _; omega⟩
theorem slL {sz : Nat} {xs ys : List AV} {t : Tag} (hx : ∀ x, x ∈ xs → x.cells.length = sz) (hy : ∀ y, y ∈ ys → y.cells.length = sz) (hl : xs.length = ys.length) (h : ∀ (i : Nat) (x y : AV) (j : Nat) (a b : AV), xs[i]? = some x → ys[i]? = some y → x.cells[j]? = some a → y.cells[j]? = some b → Ab.Sub a b) : Ab.Sub (.sl sz xs t) (.sl sz ys t) := by
  intro μ F w v hr
  cases hr with
  | sl _ _ _ A cap ad vals hsz hcap hA hone hcell hrep htag =>
    have get : ∀ (i : Nat) (y : AV) (j : Nat) (b : AV), ys[i]? = some y → y.cells[j]? = some b → ∃ x a, xs[i]? = some x ∧ x.cells[j]? = some a := by
      intro i y j b h1 h2
      have hi : i < xs.length := by rw [hl]; exact (List.getElem?_eq_some_iff.1 h1).1
      have hj : j < sz := by rw [← hy y (List.mem_of_getElem? h1)]; exact (List.getElem?_eq_some_iff.1 h2).1
      have hm := hx xs[i] (List.getElem_mem hi)
      exact ⟨xs[i], _, List.getElem?_eq_getElem hi, List.getElem?_eq_getElem (by rw [hm]; exact hj)⟩
    rw [hl] at hcap hA htag ⊢
    refine .sl sz ys t A cap ad vals hy hcap hA ?_ ?_ ?_ htag
    · intro i y j b h1 h2
      obtain ⟨x, a, h3, h4⟩ := get i y j b h1 h2
      exact hone i x j a h3 h4
    · intro i y j b h1 h2
      obtain ⟨x, a, h3, h4⟩ := get i y j b h1 h2
      exact hcell i x j a h3 h4
    · intro i y j b h1 h2
      obtain ⟨x, a, h3, h4⟩ := get i y j b h1 h2
      exact h i x y j a b h3 h1 h4 h2 μ F w _ (hrep i x j a h3 h4)
theorem sub_gA : Ab.Sub (.sl 5 [.agg [.str [97], .bool true, .int .i64 0, .int .i64 0, .sl 0 [] .full]] .full) (chA [gA] .full) := by
  refine slL (by simp [AV.cells]) (by intro y hy; simp [gA] at hy; subst hy; rfl) rfl ?_
  intro i x y j a b h1 h2 h3 h4
  match i, h1, h2 with
  | 0, h1, h2 =>
    simp at h1 h2
    subst h1; subst h2
    match j, h3, h4 with
    | 0, h3, h4 => cases h3; cases h4; exact Sub.refl
    | 1, h3, h4 => cases h3; cases h4; exact Sub.refl
    | 2, h3, h4 => cases h3; cases h4; exact Sub.refl
    | 3, h3, h4 => cases h3; cases h4; exact Sub.refl
    | 4, h3, h4 => cases h3; cases h4; exact Sub.nil
    | j + 5, h3, h4 => simp [AV.cells] at h3
  | i + 1, h1, _ => simp at h1
theorem sh_ch (c : Ch) (h1 : c.path.length < 1000000) (h2 : c.meta_.ch.length < 1000000) : shortCh c := ⟨h1, h2⟩

set_option maxRecDepth 100000 in
set_option maxHeartbeats 8000000 in
theorem stored_ok : APure Tryz.prog 42 [] (.bool true) := by
  refine pure_sub (closedL_nil) (closed_bool) ?_
  refine acalls_of tabOK Tryz.func42 rfl (by decide) (by simp [Tryz.f42]) ?_
  have kn := new_ok
  have k1 := sized_ok [97] 1
  have k2 := sized_ok [98] 1
  have a1 := lay_ok nilT 1 [sA, sB] .full (.inr rfl) (by decide) (fun p hp => by cases hp) (fun c hc => by simp at hc; rcases hc with rfl | rfl <;> exact sh_ch _ (by decide) (by decide))
  have a2 := (lay_ok tS 3 [gA] .full (.inr rfl) (by rw [tS_all]; decide) (by rw [tS_all]; exact vals_1) (fun c hc => by simp at hc; subst hc; exact sh_ch _ (by decide) (by decide))).sub (args := [tS.av, .int .i64 3, .sl 5 [.agg [.str [97], .bool true, .int .i64 0, .int .i64 0, .sl 0 [] .full]] .full]) ⟨Sub.refl, Sub.refl, sub_gA, trivial⟩
  have hu : uS.all.length < 10000000 := by rw [uS_all]; decide
  have hv : valsB uS.all := by rw [uS_all]; exact vals_3
  have a3 := lay_ok uS 3 [sA] .full (.inr rfl) (by rw [uS_all]; decide) hv (fun c hc => by simp at hc; subst hc; exact sh_ch _ (by decide) (by decide))
  have b1 := asOf_ok uS hu hv [97] (by decide) 2
  have b2 := asOf_ok uS hu hv [97] (by decide) 3
  have c1 := list_ok uS hu hv [] (by decide) 2
  have c2 := list_ok uS hu hv [] (by decide) 9
  have d1 := history_ok uS hu hv [97] (by decide)
  have e1 := last_ok uS hu hv
  have f1 := isStore_ok uS hu hv
  unfold layA at a1 a2 a3
  rw [if_pos (show layB nilT.all 1 [sA, sB] = true from lay_0), show layT nilT 1 [sA, sB] = tS from rfl] at a1
  rw [if_pos (by rw [tS_all]; exact lay_1), show layT tS 3 [gA] = uS from rfl] at a2
  rw [if_neg (by rw [uS_all, lay_3]; simp)] at a3
  rw [uS_all, as_a2] at b1
  rw [uS_all, as_a3] at b2
  rw [uS_all, ls_2] at c1
  rw [uS_all, ls_9] at c2
  rw [uS_all, hs_3] at d1
  rw [uS_all, last_l3] at e1
  rw [uS_all, st_l3] at f1
  generalize tS = T at *
  generalize uS = U at *
  unfold Tr.av at *
  unfold chA at a1 a3
  repeat' (first | refine DW_A tabs rfl ?_ | refine DW_nil ?_ | refine W_A rfl ?_ | refine DW_C rfl kn ?_ | refine DW_C rfl k1 ?_ | refine DW_C rfl k2 ?_ | refine DW_C rfl a1 ?_ | refine DW_C rfl a2 ?_ | refine DW_C rfl a3 ?_ | refine DW_C rfl b1 ?_ | refine DW_C rfl b2 ?_ | refine DW_C rfl c1 ?_ | refine DW_C rfl c2 ?_ | refine DW_C rfl d1 ?_ | refine DW_C rfl e1 ?_ | refine DW_C rfl f1 ?_ | refine DW_ix tabOK rfl (⟨Int.le_refl 0, rfl⟩) ?_ | refine DW_row tabOK rfl ?_)
  exact ⟨rfl, _, rfl, _, rfl, SubC.of_closed closed_bool⟩
end Go.Proofs.YthdeopopodhimaaGreatDoor

/- What was laid last of a path, found in the batches. No further condition. -/
set_option linter.unusedVariables false
set_option linter.unusedSimpArgs false
namespace Go.Proofs.YthdeopopodhimaaGreatDoor
open Go.Ab

def zeroCh : Ch := ⟨[], false, zeroMt⟩
def lastA (r : Option (Ch × Int)) : AV := match r with
  | some y => .tup [y.1.av, .int .i64 y.2, .bool (!y.1.gone)]
  | none => .tup [zeroCh.av, .int .i64 0, .bool false]
theorem closed_lastA (r : Option (Ch × Int)) : Closed (lastA r) := by
  cases r with
  | none => exact closed_tup (closed3 (closed_ch _) closed_int closed_bool)
  | some y => exact closed_tup (closed3 (closed_ch _) closed_int closed_bool)
theorem sub_zeroCh {k sz : Nat} {t : Tag} : SubC k (.agg [.str [], .bool false, .int .i64 0, .int .i64 0, .sl sz [] t]) zeroCh.av :=
  SubC.aggL ⟨SubC.of_closed closed_str, SubC.of_closed closed_bool, SubC.of_closed closed_int, SubC.of_closed closed_int, SubC.nil, trivial⟩
def lstM : Mem := ⟨1, [(0, .cells [.str [], .bool false, .int .i64 0, .int .i64 0, .sl 0 [] .full])]⟩
theorem hitL_none {x : Ld} {p : Bytes} {w : Int} (h : ∀ c, c ∈ x.batch → (x.at_ ≤ w → c.path ≠ p)) : hitL x p w = none := by
  unfold hitL
  split
  · rename_i hw
    rw [List.find?_eq_none.2]
    · rfl
    · intro c hc
      simp [h c hc hw]
  · rfl
theorem hitL_some {x : Ld} {p : Bytes} {w : Int} {j : Nat} {c : Ch} (hj : x.batch[j]? = some c) (h : ∀ c', c' ∈ x.batch.take j → (x.at_ ≤ w → c'.path ≠ p)) (hw : x.at_ ≤ w) (hp : c.path = p) : hitL x p w = some (c, x.at_) := by
  unfold hitL
  rw [if_pos hw]
  have hs : x.batch = x.batch.take j ++ c :: x.batch.drop (j + 1) := by
    obtain ⟨hlt, rfl⟩ := List.getElem?_eq_some_iff.1 hj
    rw [List.getElem_cons_drop, List.take_append_drop]
  rw [hs, List.find?_append, List.find?_eq_none.2 (fun d hd => by simp [h d hd hw])]
  simp [hp]
set_option maxRecDepth 100000 in
set_option maxHeartbeats 8000000 in
theorem lastW_ok (took : List Ld) (tg : Tag) (htg : tg = .none ∨ tg = .full) (hl : took.length < 1000) (hs : ∀ x, x ∈ took → x.batch.length < 1000) (p : Bytes) (w : Int) : APure Tryz.prog 48 [ldA took tg, .str p, .int .i64 w] (lastA (lastT took p w)) := by
  refine pure_sub (closed3 (closed_lds took htg) closed_str closed_int) (closed_lastA _) ?_
  refine acalls_of tabOK Tryz.func48 rfl (by decide) (by simp [Tryz.f48]) ?_
  have la := len_map Ld.av took
  have w0 : IntKind.wrap .i64 ((took.length : Int) - 1) = (took.length : Int) - 1 := Go.Ab.wrap_small (by omega) (by omega)
  unfold ldA
  repeat' (first | refine DW_VI tabs rfl (by first | exact la | exact w0) ?_ | refine DW_A tabs rfl ?_ | refine DW_nil ?_ | refine W_A rfl ?_ | refine W_draw mixed [0, 1, 2, 3, 4, 5, 6, 7, 8, 9, 10, 11, 12, 13, 14, 15, 16, 17, 18, 19, 20, 21, 22, 23, 24, 25] [.P, .P, .P, .P, .P, .P, .P, .P, .P, .P, .P, .P, .P, .P, .P, .P, .P, .P, .P, .P, .P, .P, .P, .E, .P, .P] rfl rfl (by kernel_rfl) ?_)
  refine W_loop (fun k f N => ∃ n : Int, n = (k : Int) - 1 ∧ k ≤ took.length ∧ lastT took p w = lastT (took.take k) p w ∧ N = lstM ∧ f = ⟨[(0, .sl 2 (took.map Ld.av) tg), (1, .str p), (2, .int .i64 w), (6, .ptr 0 0), (9, .int .i64 n)], []⟩) (k := took.length) ⟨_, rfl, Nat.le_refl _, by rw [List.take_length], rfl, rfl⟩ (Joint.le ?_ (Mem.le_cons rfl (Mem.le_nil rfl))) ?_
  · skip
    repeat (refine AF.le_cons rfl ?_)
    exact AF.le_nil rfl
  rintro k f N ⟨n, hn, hk, hinv, rfl, rfl⟩
  unfold lstM
  cases k with
  | zero =>
    have d1 : decide (0 ≤ n) = false := by simp; omega
    rw [hinv]
    repeat' (first | refine DW_VB tabs rfl d1 ?_ | refine DW_A tabs rfl ?_ | refine DW_nil ?_ | refine W_A rfl ?_ | refine W_draw mixed [0, 1, 2, 3, 4, 5, 6, 7, 8, 9, 10, 11, 12, 13, 14, 15, 16, 17, 18, 19, 20, 21, 22, 23, 24, 25] [.P, .P, .P, .P, .P, .P, .P, .P, .P, .P, .P, .P, .P, .P, .P, .P, .P, .P, .P, .P, .P, .P, .P, .E, .P, .P] rfl rfl (by kernel_rfl) ?_)
    exact ⟨rfl, _, rfl, _, rfl, SubC.tup3 sub_zeroCh (SubC.of_closed closed_int) (SubC.of_closed closed_bool)⟩
  | succ k =>
    obtain rfl : n = (k : Int) := by omega
    have d1 : decide (0 ≤ (k : Int)) = true := by simp
    have hx : took[k]? = some took[k] := List.getElem?_eq_getElem (by omega)
    have hb := hs _ (List.getElem_mem (show k < took.length by omega))
    rw [take_succ hx, lastT_snoc] at hinv
    have fk : IntKind.wrap .i64 ((k : Int) - 1) = (k : Int) - 1 := Go.Ab.wrap_small (by omega) (by omega)
    generalize took[k] = x at hx hb hinv
    have lb := len_map Ch.av x.batch
    repeat' (first | refine DW_VB tabs rfl d1 ?_ | refine DW_VI tabs rfl la ?_ | refine DW_A tabs rfl ?_ | refine DW_nil ?_ | refine W_A rfl ?_ | refine DW_ix tabOK rfl (ixN hx) ?_ | refine W_draw mixed [0, 1, 2, 3, 4, 5, 6, 7, 8, 9, 10, 11, 12, 13, 14, 15, 16, 17, 18, 19, 20, 21, 22, 23, 24, 25] [.P, .P, .P, .P, .P, .P, .P, .P, .P, .P, .P, .P, .P, .P, .P, .P, .P, .P, .P, .P, .P, .P, .P, .E, .P, .P] rfl rfl (by kernel_rfl) ?_)
    refine W_count x.batch.length (fun j f N => N = lstM ∧ (∀ c, c ∈ x.batch.take j → (x.at_ ≤ w → c.path ≠ p)) ∧ f = ⟨[(0, .sl 2 (took.map Ld.av) tg), (1, .str p), (2, .int .i64 w), (6, .ptr 0 0), (9, .int .i64 (k : Int)), (10, .int .i64 (j : Int))], []⟩) (Nat.zero_le _) ⟨rfl, by simp, rfl⟩ (Joint.le ?_ (Mem.le_cons rfl (Mem.le_nil rfl))) ?_
    · skip
      repeat (refine AF.le_cons rfl ?_)
      exact AF.le_nil rfl
    rintro j f N hj ⟨rfl, hno, rfl⟩
    unfold lstM
    by_cases h1 : j < x.batch.length
    · have d2 : decide ((j : Int) < (x.batch.length : Int)) = true := by simp; omega
      have hc : x.batch[j]? = some x.batch[j] := List.getElem?_eq_getElem h1
      have fj := wrap_succ (i := j) (by omega)
      have ht := take_succ hc
      generalize x.batch[j] = c at hc ht
      by_cases h2 : x.at_ ≤ w
      · have d3 : decide (x.at_ ≤ w) = true := by simp [h2]
        cases hp : c.path == p
        · have hp' : c.path ≠ p := by simpa using hp
          repeat' (first | refine DW_VB tabs rfl (by first | exact d2 | exact d3 | exact hp) ?_ | refine DW_VI tabs rfl (by first | exact lb | exact fj) ?_ | refine DW_A tabs rfl ?_ | refine DW_nil ?_ | refine W_A rfl ?_ | refine DW_ix tabOK rfl (ixN hx) ?_ | refine DW_ix tabOK rfl (ixN hc) ?_ | refine W_draw mixed [0, 1, 2, 3, 4, 5, 6, 7, 8, 9, 10, 11, 12, 13, 14, 15, 16, 17, 18, 19, 20, 21, 22, 23, 24, 25] [.P, .P, .P, .P, .P, .P, .P, .P, .P, .P, .P, .P, .P, .P, .P, .P, .P, .P, .P, .P, .P, .P, .P, .E, .P, .P] rfl rfl (by kernel_rfl) ?_)
          refine ⟨h1, _, _, ⟨rfl, ?_, rfl⟩, Joint.le ?_ (Mem.le_cons rfl (Mem.le_nil rfl))⟩
          · intro d hd hw
            rw [ht] at hd
            rcases List.mem_append.1 hd with hd | hd
            · exact hno d hd hw
            · simp at hd
              rw [hd]
              exact hp'
          · skip
            repeat (refine AF.le_cons rfl ?_)
            exact AF.le_nil rfl
        · have hp' : c.path = p := by simpa using hp
          rw [hinv, hitL_some hc hno h2 hp']
          repeat' (first | refine DW_VB tabs rfl (by first | exact d2 | exact d3 | exact hp) ?_ | refine DW_VI tabs rfl (by first | exact lb | exact fj) ?_ | refine DW_A tabs rfl ?_ | refine DW_nil ?_ | refine W_A rfl ?_ | refine DW_ix tabOK rfl (ixN hx) ?_ | refine DW_ix tabOK rfl (ixN hc) ?_ | refine W_draw mixed [0, 1, 2, 3, 4, 5, 6, 7, 8, 9, 10, 11, 12, 13, 14, 15, 16, 17, 18, 19, 20, 21, 22, 23, 24, 25] [.P, .P, .P, .P, .P, .P, .P, .P, .P, .P, .P, .P, .P, .P, .P, .P, .P, .P, .P, .P, .P, .P, .P, .E, .P, .P] rfl rfl (by kernel_rfl) ?_)
          exact ⟨rfl, _, rfl, _, rfl, SubC.of_closed (closed_lastA (some (c, x.at_)))⟩
      · have d3 : decide (x.at_ ≤ w) = false := by simp [h2]
        repeat' (first | refine DW_VB tabs rfl (by first | exact d2 | exact d3) ?_ | refine DW_VI tabs rfl (by first | exact lb | exact fj) ?_ | refine DW_A tabs rfl ?_ | refine DW_nil ?_ | refine W_A rfl ?_ | refine DW_ix tabOK rfl (ixN hx) ?_ | refine DW_ix tabOK rfl (ixN hc) ?_ | refine W_draw mixed [0, 1, 2, 3, 4, 5, 6, 7, 8, 9, 10, 11, 12, 13, 14, 15, 16, 17, 18, 19, 20, 21, 22, 23, 24, 25] [.P, .P, .P, .P, .P, .P, .P, .P, .P, .P, .P, .P, .P, .P, .P, .P, .P, .P, .P, .P, .P, .P, .P, .E, .P, .P] rfl rfl (by kernel_rfl) ?_)
        refine ⟨h1, _, _, ⟨rfl, fun d hd hw => absurd hw h2, rfl⟩, Joint.le ?_ (Mem.le_cons rfl (Mem.le_nil rfl))⟩
        repeat (refine AF.le_cons rfl ?_)
        exact AF.le_nil rfl
    · have d2 : decide ((j : Int) < (x.batch.length : Int)) = false := by simp; omega
      obtain rfl : j = x.batch.length := by omega
      rw [List.take_length] at hno
      rw [hitL_none hno] at hinv
      repeat' (first | refine DW_VB tabs rfl d2 ?_ | refine DW_VI tabs rfl (by first | exact lb | exact fk) ?_ | refine DW_A tabs rfl ?_ | refine DW_nil ?_ | refine W_A rfl ?_ | refine DW_ix tabOK rfl (ixN hx) ?_ | refine W_draw mixed [0, 1, 2, 3, 4, 5, 6, 7, 8, 9, 10, 11, 12, 13, 14, 15, 16, 17, 18, 19, 20, 21, 22, 23, 24, 25] [.P, .P, .P, .P, .P, .P, .P, .P, .P, .P, .P, .P, .P, .P, .P, .P, .P, .P, .P, .P, .P, .P, .P, .E, .P, .P] rfl rfl (by kernel_rfl) ?_)
      refine ⟨k, _, _, Nat.lt_succ_self k, ⟨_, rfl, by omega, hinv, rfl, rfl⟩, Joint.le ?_ (Mem.le_cons rfl (Mem.le_nil rfl))⟩
      repeat (refine AF.le_cons rfl ?_)
      exact AF.le_nil rfl
end Go.Proofs.YthdeopopodhimaaGreatDoor

/- Whatever batches are laid, AsOf tells what was laid last. No further condition. -/
set_option linter.unusedVariables false
set_option linter.unusedSimpArgs false
namespace Go.Proofs.YthdeopopodhimaaGreatDoor
open Go.Ab

theorem hitL_mem {x : Ld} {p : Bytes} {w : Int} {c : Ch} {a : Int} (h : hitL x p w = some (c, a)) : c ∈ x.batch := by
  unfold hitL at h
  split at h
  · cases hf : x.batch.find? fun c => c.path == p with
    | none => rw [hf] at h; cases h
    | some d =>
      rw [hf] at h
      cases h
      exact List.mem_of_find?_eq_some hf
  · cases h
theorem lastT_mem {p : Bytes} {w : Int} {c : Ch} {a : Int} : ∀ (k : Nat) {l : List Ld}, l.length = k → lastT l p w = some (c, a) → ∃ x, x ∈ l ∧ c ∈ x.batch
  | 0, l, hk, h => by
    have : l = [] := List.length_eq_zero_iff.1 hk
    subst this
    cases h
  | k + 1, l, hk, h => by
    have hx : l[k]? = some l[k] := List.getElem?_eq_getElem (by omega)
    have ht := take_succ hx
    rw [← hk, List.take_length] at ht
    rw [ht, lastT_snoc] at h
    cases hh : hitL l[k] p w with
    | some y =>
      rw [hh] at h
      cases h
      exact ⟨l[k], List.getElem_mem _, hitL_mem hh⟩
    | none =>
      rw [hh] at h
      obtain ⟨x, hx, hc⟩ := lastT_mem k (l := l.take k) (by rw [List.length_take]; omega) h
      exact ⟨x, (List.take_sublist _ _).subset hx, hc⟩
theorem small_of' {l : List Ld} (h : bigL l = false) : smallL l ∧ l.length ≤ 20 := by
  obtain ⟨h1, h2⟩ := bigL_no h
  exact ⟨h2, h1⟩
def zeroEnA : AV := .agg [.str [], .int .i64 0, .int .i64 0, .int .i64 0, .sl 0 [] .full]
theorem sub_zeroEnA : Ab.Sub zeroEnA zeroEn.av := Sub.aggL ⟨Sub.refl, Sub.refl, Sub.refl, Sub.refl, Sub.nil, trivial⟩
theorem sameZero : APure Tryz.prog 40 [zeroEn.av, zeroEnA] (.bool true) :=
  (sameEn_ok zeroEn zeroEn (by unfold shortE; decide) (by unfold shortE; decide)).sub ⟨Sub.refl, sub_zeroEnA, trivial⟩
set_option maxRecDepth 100000 in
set_option maxHeartbeats 8000000 in
theorem storeModel_ok (l : List Ld) (p : Bytes) (w : Int) (hl : ldsB l) : APure Tryz.prog 7 [ldA l .none, .str p, .int .i64 w] (.bool true) := by
  refine pure_sub (closed3 (closed_lds l (.inl rfl)) closed_str closed_int) (closed_bool) ?_
  refine acalls_of tabOK Tryz.func7 rfl (by decide) (by simp [Tryz.f7]) ?_
  have kb := bigL_ok l .none hl.1 hl.2
  cases hb : bigL l
  · rw [hb] at kb
    obtain ⟨hs, h20⟩ := small_of' hb
    by_cases hp : 300 < p.length
    · have d1 : decide ((300 : Int) < (p.length : Int)) = true := by simp; omega
      unfold ldA at *
      repeat' (first | refine DW_VB tabs rfl d1 ?_ | refine DW_A tabs rfl ?_ | refine DW_nil ?_ | refine W_A rfl ?_ | refine DW_C rfl kb ?_)
      exact ⟨rfl, _, rfl, _, rfl, SubC.of_closed closed_bool⟩
    · have d1 : decide ((300 : Int) < (p.length : Int)) = false := by simp; omega
      have kl := laid_ok l .none (.inl rfl) h20 hs
      obtain ⟨hi, ho, ht20, htm⟩ := laid_all_inv hs h20
      have ka := asOf_ok (laidS l).1 (by have := ho.1; omega) ho.vals p (by omega) w
      have kw := lastW_ok (laidS l).2 .none (.inl rfl) (by omega) (fun x hx => by have := (hs x (htm x hx)).1; omega) p w
      have kst := stored_ok
      have htold := hi.told p w
      have hop := openE_st hi.st p w
      unfold lwA at kl
      unfold asOf at ka
      have hmem : ∀ c a, lastT (laidS l).2 p w = some (c, a) → c.meta_.ch.length < 1000000 := fun c a h => by
        obtain ⟨x, hx, hc⟩ := lastT_mem _ rfl h
        have := ((hs x (htm x hx)).2 c hc).2
        omega
      generalize hS : laidS l = S at *
      obtain ⟨u, took⟩ := S
      simp only at kl ka kw htold hop hmem
      rw [htold] at ka
      clear hi ho htm htold
      unfold Tr.av ldA at *
      cases hpp : isPathB p
      · rw [hpp, if_pos rfl] at hop
        rw [hop, if_neg (by decide)] at ka
        by_cases hw : w < 0
        · have d2 : decide (w < 0) = true := by simp [hw]
          repeat' (first | refine DW_VB tabs rfl (by first | exact d1 | exact d2) ?_ | refine DW_A tabs rfl ?_ | refine DW_nil ?_ | refine W_A rfl ?_ | refine DW_C rfl kb ?_ | refine DW_C rfl kl ?_ | refine DW_C rfl ka ?_ | refine DW_C rfl kst ?_)
          exact ⟨rfl, _, rfl, _, rfl, SubC.of_closed closed_bool⟩
        · have d2 : decide (w < 0) = false := by simp [hw]
          repeat' (first | refine DW_VB tabs rfl (by first | exact d1 | exact d2) ?_ | refine DW_A tabs rfl ?_ | refine DW_nil ?_ | refine W_A rfl ?_ | refine DW_C rfl kb ?_ | refine DW_C rfl kl ?_ | refine DW_C rfl ka ?_ | refine DW_C rfl kst ?_)
          exact ⟨rfl, _, rfl, _, rfl, SubC.of_closed closed_bool⟩
      · rw [hpp, if_neg (by simp)] at hop
        by_cases hw : w < 0
        · have d2 : decide (w < 0) = true := by simp [hw]
          rw [if_pos hw] at hop
          rw [hop, if_neg (by decide)] at ka
          repeat' (first | refine DW_VB tabs rfl (by first | exact d1 | exact d2) ?_ | refine DW_A tabs rfl ?_ | refine DW_nil ?_ | refine W_A rfl ?_ | refine DW_C rfl kb ?_ | refine DW_C rfl kl ?_ | refine DW_C rfl ka ?_ | refine DW_C rfl kst ?_)
          exact ⟨rfl, _, rfl, _, rfl, SubC.of_closed closed_bool⟩
        · rw [if_neg hw] at hop
          rw [hop, if_pos rfl] at ka
          cases hT : lastT took p w with
          | none =>
            rw [hT] at ka kw
            have k0 := sameZero
            unfold zeroEnA at k0
            repeat' (first | refine DW_VB tabs rfl d1 ?_ | refine DW_A tabs rfl ?_ | refine DW_nil ?_ | refine W_A rfl ?_ | refine DW_C rfl kb ?_ | refine DW_C rfl kl ?_ | refine DW_C rfl ka ?_ | refine DW_C rfl kw ?_ | refine DW_C rfl kst ?_ | refine DW_C rfl k0 ?_)
            exact ⟨rfl, _, rfl, _, rfl, SubC.of_closed closed_bool⟩
          | some y =>
            obtain ⟨c, a⟩ := y
            rw [hT] at ka kw
            have hcm := hmem c a hT
            unfold lastA at kw
            unfold entT at ka
            cases hg : c.gone
            · have kk := rmSame_ok c.meta_ c.meta_ hcm hcm
              rw [decide_eq_true (rfl : c.meta_ = c.meta_)] at kk
              have e1 : (p == p) = true := by simp
              have e2 : decide (a = a) = true := by simp
              simp only [hg, Option.bind_some, Bool.false_eq_true, if_false, Bool.not_false] at ka kw
              repeat' (first | refine DW_VB tabs rfl (by first | exact d1 | exact e1 | exact e2) ?_ | refine DW_A tabs rfl ?_ | refine DW_nil ?_ | refine W_A rfl ?_ | refine DW_C rfl kb ?_ | refine DW_C rfl kl ?_ | refine DW_C rfl ka ?_ | refine DW_C rfl kw ?_ | refine DW_C rfl kst ?_ | refine DW_C rfl kk ?_)
              exact ⟨rfl, _, rfl, _, rfl, SubC.of_closed closed_bool⟩
            · have k0 := sameZero
              unfold zeroEnA at k0
              simp only [hg, Option.bind_some, if_true, Bool.not_true] at ka kw
              repeat' (first | refine DW_VB tabs rfl d1 ?_ | refine DW_A tabs rfl ?_ | refine DW_nil ?_ | refine W_A rfl ?_ | refine DW_C rfl kb ?_ | refine DW_C rfl kl ?_ | refine DW_C rfl ka ?_ | refine DW_C rfl kw ?_ | refine DW_C rfl kst ?_ | refine DW_C rfl k0 ?_)
              exact ⟨rfl, _, rfl, _, rfl, SubC.of_closed closed_bool⟩
  · rw [hb] at kb
    unfold ldA at *
    repeat' (first | refine DW_A tabs rfl ?_ | refine DW_nil ?_ | refine W_A rfl ?_ | refine DW_C rfl kb ?_)
    exact ⟨rfl, _, rfl, _, rfl, SubC.of_closed closed_bool⟩
end Go.Proofs.YthdeopopodhimaaGreatDoor

/- Last rises with the batches laid; what is told of an earlier time stays. No further condition. -/
set_option linter.unusedVariables false
set_option linter.unusedSimpArgs false
namespace Go.Proofs.YthdeopopodhimaaGreatDoor
open Go.Ab

set_option maxRecDepth 100000 in
set_option maxHeartbeats 8000000 in
theorem topNil_ok : APure Tryz.prog 53 [.nilptr] (.iface (tyV 0) (.sl 0 [] .full)) := by
  intro M
  refine acalls_of tabOK Tryz.func53 rfl (by decide) (by simp [Tryz.f53]) ?_
  repeat' (first | refine DW_A tabs rfl ?_ | refine DW_nil ?_ | refine W_A rfl ?_ | refine DW_nilc tabOK rfl ?_)
  exact ⟨rfl, _, rfl, rfl, rfl⟩
set_option maxRecDepth 100000 in
set_option maxHeartbeats 8000000 in
theorem leafNil_ok : APure Tryz.prog 193 [.sl 0 [] .full] (.int .i64 0) := by
  intro M
  refine acalls_of tabOK Tryz.func193 rfl (by decide) (by simp [Tryz.f193]) ?_
  repeat' (first | refine DW_A tabs rfl ?_ | refine DW_nil ?_ | refine W_A rfl ?_)
  exact ⟨rfl, _, rfl, rfl, rfl⟩
set_option maxRecDepth 100000 in
set_option maxHeartbeats 8000000 in
theorem lenNil_ok : APure Tryz.prog 24 [.nilptr] (.int .i64 0) := by
  intro M
  refine acalls_of tabOK Tryz.func24 rfl (by decide) (by simp [Tryz.f24]) ?_
  have kt := topNil_ok
  have my := mAll 0
  have ka := leafNil_ok
  repeat' (first | refine DW_A tabs rfl ?_ | refine DW_nil ?_ | refine W_A rfl ?_ | refine DW_C rfl kt ?_)
  refine DW_invoke rfl rfl rfl rfl rfl my ka ?_
  repeat' (first | refine DW_A tabs rfl ?_ | refine DW_nil ?_ | refine W_A rfl ?_)
  exact ⟨rfl, _, rfl, rfl, rfl⟩
theorem bigOne (c : List Ch) : bigL [⟨0, c⟩] = bigLd ⟨0, c⟩ := by simp [bigL]
theorem layB_len {t : Tr} {a : Int} {c : List Ch} (h : layB t.all a c = true) (hn : t.all.length + c.length < 10000000) : (layT t a c).all.length = t.all.length + c.length ∧ lastL (layT t a c).all = a ∧ isSt (layT t a c).all = true := by
  have hL := layB_parts h
  rw [layT_all hn]
  exact ⟨(lays_mem hL).2, lays_last hL, lays_st hL⟩
def riF (u : Tr) (took : List Ld) (a : Int) (c : List Ch) (i : Nat) : AF := ⟨[(1, .int .i64 a), (2, chA c .none), (7, u.av), (8, ldA took .none), (9, .int .i64 (lastAt (took.take i))), (10, .int .i64 (i : Int))], []⟩
set_option maxRecDepth 100000 in
set_option maxHeartbeats 8000000 in
theorem storeRises_ok (l : List Ld) (a : Int) (c : List Ch) (hl : ldsB l) (hc : c.length < 4611686018427387904) : APure Tryz.prog 10 [ldA l .none, .int .i64 a, chA c .none] (.bool true) := by
  refine pure_sub (closed3 (closed_lds l (.inl rfl)) closed_int (closed_chs c (.inl rfl))) (closed_bool) ?_
  refine acalls_of tabOK Tryz.func10 rfl (by decide) (by simp [Tryz.f10]) ?_
  have kb := bigL_ok l .none hl.1 hl.2
  have kc := bigL_ok [⟨0, c⟩] .full (by simp) (by simp; exact hc)
  cases hb : bigL l
  · rw [hb] at kb
    cases hb2 : bigL [⟨0, c⟩]
    · rw [hb2] at kc
      obtain ⟨hs, h20⟩ := small_of' hb
      obtain ⟨hcs, _⟩ := small_of' hb2
      have hcs := hcs ⟨0, c⟩ (by simp)
      have kl := laid_ok l .none (.inl rfl) h20 hs
      obtain ⟨hi, ho, ht20, htm⟩ := laid_all_inv hs h20
      have kst := stored_ok
      have kt := last_ok (laidS l).1 (by have := ho.1; omega) ho.vals
      have klt := len_ok (laidS l).1
      rw [hi.last] at kt
      have hcl : c.length ≤ 25 := hcs.1
      have ky := lay_ok (laidS l).1 a c .none (.inl rfl) (by have := ho.1; omega) ho.vals (fun x hx => by have := hcs.2 x hx; exact ⟨by omega, by omega⟩)
      have hus : okS (layT (laidS l).1 a c) 525 := okS_lay ho (by omega) hcl hcs.2
      have ku := last_ok (layT (laidS l).1 a c) (by have := hus.1; omega) hus.vals
      have klu := len_ok (layT (laidS l).1 a c)
      have hyes := fun h : layB (laidS l).1.all a c = true => layB_len h (by have := ho.1; omega)
      have hgt : layB (laidS l).1.all a c = true → lastAt (laidS l).2 < a := fun h => by have := (layB_parts h).last; rw [hi.last] at this; exact this
      have hri := hi.rises
      have hsz := ho.1
      unfold lwA at kl
      unfold layA at ky
      generalize hS : laidS l = S at *
      obtain ⟨u, took⟩ := S
      simp only at kl kt klt ky ku klu hyes hgt hri ht20 hsz
      have lt := len_map Ld.av took
      have lc := len_map Ch.av c
      clear hi ho htm hus
      unfold Tr.av ldA at kl
      unfold ldA at kb kc
      unfold ldA chA
      repeat' (first | refine DW_A tabs rfl ?_ | refine DW_nil ?_ | refine W_A rfl ?_ | refine DW_C rfl kb ?_ | refine DW_C rfl kc ?_ | refine DW_C rfl kl ?_ | refine DW_row tabOK rfl ?_)
      refine W_count took.length (fun i f N => N = ⟨0, []⟩ ∧ f = riF u took a c i) (Nat.zero_le _) ⟨rfl, rfl⟩ (Joint.cut (k := 0) (t := (riF u took a c 0).t) (l := []) (Nat.le_refl _) (Nat.zero_le _) rfl ⟨?_, ?_, ?_, ?_, ?_, ?_, trivial⟩ trivial) ?_
      · exact SubC.of_closed closed_int
      · exact SubC.of_closed (closed_chs c (.inl rfl))
      · exact SubC.of_closed (closed_tr u)
      · exact SubC.of_closed (closed_lds took (.inl rfl))
      · exact SubC.of_closed closed_int
      · exact SubC.of_closed closed_int
      rintro i f N hi ⟨rfl, rfl⟩
      unfold riF ldA chA
      by_cases h1 : i < took.length
      · have d1 : decide ((i : Int) < (took.length : Int)) = true := by simp; omega
        have hx : took[i]? = some took[i] := List.getElem?_eq_getElem h1
        have fi := wrap_succ (i := i) (by omega)
        have ht := take_succ hx
        have hr := hri i _ hx
        generalize took[i] = x at hx ht hr
        have d2 : decide (x.at_ ≤ lastAt (took.take i)) = false := by simp; omega
        unfold Tr.av
        repeat' (first | refine DW_VB tabs rfl (by first | exact d1 | exact d2) ?_ | refine DW_VI tabs rfl (by first | exact lt | exact fi) ?_ | refine DW_A tabs rfl ?_ | refine DW_nil ?_ | refine W_A rfl ?_ | refine DW_ix tabOK rfl (ixN hx) ?_ | refine DW_row tabOK rfl ?_)
        rw [ht, lastAt_snoc]
        refine ⟨h1, _, _, ⟨rfl, rfl⟩, Joint.le ?_ (Mem.le_nil rfl)⟩
        repeat (refine AF.le_cons rfl ?_)
        exact AF.le_nil rfl
      · have d1 : decide ((i : Int) < (took.length : Int)) = false := by simp; omega
        obtain rfl : i = took.length := by omega
        rw [List.take_length]
        cases hy : layB u.all a c
        · rw [if_neg (by simp [hy])] at ky
          have kn := lenNil_ok
          have d5 : decide (lastAt took = lastAt took) = true := by simp
          unfold Tr.av chA at *
          repeat' (first | refine DW_VB tabs rfl (by first | exact d1 | exact d5) ?_ | refine DW_VI tabs rfl (by first | exact lt | exact lc) ?_ | refine DW_A tabs rfl ?_ | refine DW_nil ?_ | refine W_A rfl ?_ | refine DW_C rfl ky ?_ | refine DW_C rfl kst ?_ | refine DW_C rfl kn ?_ | refine DW_C rfl kt ?_ | refine DW_row tabOK rfl ?_)
          exact ⟨rfl, _, rfl, _, rfl, SubC.of_closed closed_bool⟩
        · rw [if_pos hy] at ky
          obtain ⟨q1, q2, q3⟩ := hyes hy
          rw [q2] at ku
          rw [q1] at klu
          have q4 := hgt hy
          have d5 : decide (lastAt took < a) = true := by simp; omega
          have d6 : decide (lastAt took = lastAt took) = true := by simp
          have d7 : decide (a = a) = true := by simp
          have w1 : IntKind.wrap .i64 ((u.all.length : Int) + (c.length : Int)) = ((u.all.length + c.length : Nat) : Int) := (Go.Ab.wrap_small (by omega) (by omega)).trans (by omega)
          have d8 : decide (((u.all.length + c.length : Nat) : Int) = ((u.all.length + c.length : Nat) : Int)) = true := by simp
          generalize layT u a c = v at *
          clear hyes hgt q1 q2 q3
          unfold Tr.av chA at *
          repeat' (first | refine DW_VB tabs rfl (by first | exact d1 | exact d5 | exact d6 | exact d7 | exact d8) ?_ | refine DW_VI tabs rfl (by first | exact lt | exact lc | exact w1) ?_ | refine DW_A tabs rfl ?_ | refine DW_nil ?_ | refine W_A rfl ?_ | refine DW_C rfl ky ?_ | refine DW_C rfl kst ?_ | refine DW_C rfl kt ?_ | refine DW_C rfl ku ?_ | refine DW_C rfl klt ?_ | refine DW_C rfl klu ?_ | refine DW_row tabOK rfl ?_)
          exact ⟨rfl, _, rfl, _, rfl, SubC.of_closed closed_bool⟩
    · rw [hb2] at kc
      unfold ldA chA at *
      repeat' (first | refine DW_A tabs rfl ?_ | refine DW_nil ?_ | refine W_A rfl ?_ | refine DW_C rfl kb ?_ | refine DW_C rfl kc ?_ | refine DW_row tabOK rfl ?_)
      exact ⟨rfl, _, rfl, _, rfl, SubC.of_closed closed_bool⟩
  · rw [hb] at kb
    unfold ldA at *
    repeat' (first | refine DW_A tabs rfl ?_ | refine DW_nil ?_ | refine W_A rfl ?_ | refine DW_C rfl kb ?_ | refine DW_row tabOK rfl ?_)
    exact ⟨rfl, _, rfl, _, rfl, SubC.of_closed closed_bool⟩
end Go.Proofs.YthdeopopodhimaaGreatDoor
