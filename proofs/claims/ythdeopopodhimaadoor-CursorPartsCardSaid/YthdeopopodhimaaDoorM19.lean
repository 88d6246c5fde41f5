/- Parts of the proof, one behind the other: CurC, LaidA, CurL, CurR, RowC. No further condition. -/
import Derived.Test.YthdeopopodhimaaDoorM18
import Derived.Test.YthdeopopodhimaaDoorM14
set_option linter.unusedVariables false
set_option linter.unusedSimpArgs false
/- Plain facts of ranges and cursors. No further condition. -/
set_option linter.unusedVariables false
set_option linter.unusedSimpArgs false
namespace Go.Proofs.YthdeopopodhimaaDoor
open Go.Ab

theorem fromP_ge {l : List Pr} {a b : Ky} (h : ∀ k, rless k a = true → rless k b = true) : fromP l b = (fromP l a).dropWhile fun p => rless p.key b := by
  unfold fromP
  induction l with
  | nil => rfl
  | cons p r ih =>
    cases h1 : rless p.key a
    · rw [List.dropWhile_cons (xs := r) (p := fun p => rless p.key a), if_neg (by rw [h1]; simp)]
    · rw [List.dropWhile_cons (xs := r) (p := fun p => rless p.key a), if_pos h1, List.dropWhile_cons, if_pos (h _ h1), ih]
theorem takeW_app {α : Type} {p q : α → Bool} (h : ∀ x, p x = true → q x = true) (l : List α) : l.takeWhile p ++ (l.dropWhile p).takeWhile q = l.takeWhile q := by
  induction l with
  | nil => rfl
  | cons x r ih =>
    cases hx : p x
    · rw [List.takeWhile_cons (p := p), if_neg (by rw [hx]; simp), List.dropWhile_cons, if_neg (by rw [hx]; simp)]
      rfl
    · rw [List.takeWhile_cons (p := p), if_pos hx, List.dropWhile_cons, if_pos hx, List.takeWhile_cons, if_pos (h x hx), List.cons_append, ih]
theorem range_len (l : List Pr) (a b : Ky) : (rangeC l a b).length ≤ l.length := ((List.takeWhile_sublist _).trans (List.dropWhile_sublist _)).length_le
/-- A range of two parts. -/
theorem range_two {l : List Pr} {a b c : Ky} (h1 : a = b ∨ rless a b = true) (h2 : b = c ∨ rless b c = true) : rangeC l a b ++ rangeC l b c = rangeC l a c := by
  have k1 : ∀ k, rless k a = true → rless k b = true := fun k hk => h1.elim (fun e => e ▸ hk) (rless_trans hk)
  have k2 : ∀ k, rless k b = true → rless k c = true := fun k hk => h2.elim (fun e => e ▸ hk) (rless_trans hk)
  unfold rangeC
  rw [fromP_ge k1]
  exact takeW_app (fun (x : Pr) => k2 x.key) _
theorem fromP_filter {l : List Pr} (hr : Rise l) (k : Ky) : fromP l k = l.filter fun p => !rless p.key k := by
  induction l with
  | nil => rfl
  | cons p r ih =>
    obtain ⟨h1, h2⟩ := List.pairwise_cons.1 hr
    unfold fromP at ih ⊢
    cases h : rless p.key k
    · rw [List.dropWhile_cons, if_neg (by rw [h]; simp), List.filter_cons, if_pos (by rw [h]; rfl)]
      congr 1
      refine (List.filter_eq_self.2 fun q hq => ?_).symm
      cases h3 : rless q.key k
      · rfl
      · rw [rless_trans (h1 q hq) h3] at h; cases h
    · rw [List.dropWhile_cons, if_pos h, List.filter_cons, if_neg (by rw [h]; simp), ih h2]
theorem take_filter {l : List Pr} (hr : Rise l) (k : Ky) : (l.takeWhile fun p => rless p.key k) = l.filter fun p => rless p.key k := by
  induction l with
  | nil => rfl
  | cons p r ih =>
    obtain ⟨h1, h2⟩ := List.pairwise_cons.1 hr
    cases h : rless p.key k
    · rw [List.takeWhile_cons, if_neg (by rw [h]; simp), List.filter_cons, if_neg (by rw [h]; simp)]
      refine (List.filter_eq_nil_iff.2 fun q hq => ?_).symm
      intro h3
      rw [rless_trans (h1 q hq) h3] at h
      cases h
    · rw [List.takeWhile_cons, if_pos h, List.filter_cons, if_pos h, ih h2]
theorem range_filter {l : List Pr} (hr : Rise l) (a b : Ky) : rangeC l a b = l.filter fun p => !rless p.key a && rless p.key b := by
  unfold rangeC
  rw [fromP_filter hr, take_filter (hr.sublist List.filter_sublist), List.filter_filter]
  congr 1
  funext p
  rw [Bool.and_comm]

theorem same_cut {P : Bytes} : ∀ {s : List Pr}, Rise s → (∀ q, q ∈ s → q.key.path = P ∨ bl P q.key.path = true) → (s.dropWhile fun q => q.key.path == P) = s.filter fun q => !(q.key.path == P)
  | [], _, _ => rfl
  | q :: s, hr, h => by
    obtain ⟨h1, h2⟩ := List.pairwise_cons.1 hr
    cases hq : q.key.path == P
    · rw [List.dropWhile_cons, if_neg (by rw [hq]; simp)]
      have hq' : q.key.path ≠ P := by simpa using hq
      have hb : bl P q.key.path = true := (h q (by simp)).resolve_left hq'
      refine (List.filter_eq_self.2 fun x hx => ?_).symm
      have hx' : bl P x.key.path = true := by
        rcases List.mem_cons.1 hx with rfl | hx
        · exact hb
        · have h3 := h1 x hx
          unfold rless at h3
          simp only [Bool.or_eq_true, Bool.and_eq_true, beq_iff_eq] at h3
          rcases h3 with h3 | ⟨h3, _⟩
          · exact bl_trans hb h3
          · rw [← h3]; exact hb
      cases h4 : x.key.path == P
      · rfl
      · have h5 : x.key.path = P := by simpa using h4
        rw [h5, bl_irrefl] at hx'
        cases hx'
    · rw [List.dropWhile_cons, if_pos hq, List.filter_cons, if_neg (by rw [hq]; simp)]
      exact same_cut h2 fun x hx => h x (by simp [hx])
theorem rise_paths {p : Pr} {r : List Pr} (hr : Rise (p :: r)) : ∀ q, q ∈ p :: r → q.key.path = p.key.path ∨ bl p.key.path q.key.path = true := by
  intro q hq
  rcases List.mem_cons.1 hq with rfl | hq
  · exact .inl rfl
  · have h3 := (List.pairwise_cons.1 hr).1 q hq
    unfold rless at h3
    simp only [Bool.or_eq_true, Bool.and_eq_true, beq_iff_eq] at h3
    rcases h3 with h3 | ⟨h3, _⟩
    · exact .inr h3
    · exact .inl h3.symm
theorem same_filter {u : Pr → Bool} {p : Pr} {r : List Pr} (hr : Rise (p :: r)) : (sameP p.key.path (p :: r)).filter u = ((p :: r).filter u).dropWhile fun q => q.key.path == p.key.path := by
  unfold sameP
  rw [same_cut hr (rise_paths hr), same_cut (hr.sublist List.filter_sublist) (fun q hq => rise_paths hr q (List.mem_filter.1 hq).1), List.filter_filter, List.filter_filter]
  congr 1
  funext q
  rw [Bool.and_comm]
theorem drop_find (l : List Pr) (k : Ky) : l.drop (findP l k) = fromP l k := by
  unfold findP fromP
  induction l with
  | nil => rfl
  | cons p r ih =>
    cases h : rless p.key k
    · rw [List.takeWhile_cons, if_neg (by rw [h]; simp), List.dropWhile_cons, if_neg (by rw [h]; simp)]
      rfl
    · rw [List.takeWhile_cons, if_pos h, List.dropWhile_cons, if_pos h, List.length_cons, List.drop_succ_cons, ih]
theorem drop_takeW {α : Type} (p : α → Bool) (l : List α) : l.drop (l.takeWhile p).length = l.dropWhile p := by
  induction l with
  | nil => rfl
  | cons x r ih =>
    cases h : p x
    · rw [List.takeWhile_cons, if_neg (by rw [h]; simp), List.dropWhile_cons, if_neg (by rw [h]; simp)]
      rfl
    · rw [List.takeWhile_cons, if_pos h, List.dropWhile_cons, if_pos h, List.length_cons, List.drop_succ_cons, ih]

/-- The program's cursor and the document's stand alike. -/
structure Alike (A : List Pr) (dir : Bytes) (m : List Pr) (i : Nat) : Prop where
  sub : m.Sublist A
  le : i ≤ (A.filter fun p => underB dir p.key.path).length
  eq : (A.filter fun p => underB dir p.key.path).drop i = m.filter fun p => underB dir p.key.path
theorem alike_new (A : List Pr) (dir : Bytes) : Alike A dir A 0 := ⟨List.Sublist.refl _, Nat.zero_le _, rfl⟩
theorem alike_head {A : List Pr} {dir : Bytes} {m : List Pr} {i : Nat} (h : Alike A dir m i) : (A.filter fun p => underB dir p.key.path).drop i = (skipU dir m).filter fun p => underB dir p.key.path := by rw [h.eq, filter_skip]
theorem drop_nil {α : Type} {l : List α} {i : Nat} (h : l.drop i = []) : l.length ≤ i := by
  have := congrArg List.length h
  simp at this
  omega
theorem alike_next {A : List Pr} {dir : Bytes} {m : List Pr} {i : Nat} (h : Alike A dir m i) :
    (nextC ((A.filter fun p => underB dir p.key.path).drop i)).1 = (nextC (skipU dir m)).1 ∧ Alike A dir (nextC (skipU dir m)).2 (rnextI (A.filter fun p => underB dir p.key.path) i) := by
  have hh := alike_head h
  have hs := (skipU_sub dir m).trans h.sub
  have hu := @skipU_head dir m
  unfold rnextI
  generalize skipU dir m = s at hh hs hu
  cases s with
  | nil =>
    have hd : (A.filter fun p => underB dir p.key.path).drop i = [] := hh
    have hl := drop_nil hd
    rw [hd, if_neg (by omega)]
    exact ⟨rfl, List.nil_sublist _, h.le, hd⟩
  | cons p r =>
    rw [List.filter_cons, if_pos (hu rfl)] at hh
    have hlt : i < (A.filter fun p => underB dir p.key.path).length := by
      have := congrArg List.length hh
      simp at this
      omega
    rw [hh, if_pos hlt]
    refine ⟨rfl, (List.sublist_cons_self p r).trans hs, by omega, ?_⟩
    have e : (A.filter fun p => underB dir p.key.path).drop (i + 1) = ((A.filter fun p => underB dir p.key.path).drop i).drop 1 := by rw [List.drop_drop]
    rw [e, hh]
    rfl
theorem alike_skip {A : List Pr} (hA : Rise A) {dir : Bytes} {m : List Pr} {i : Nat} (h : Alike A dir m i) :
    (skipC ((A.filter fun p => underB dir p.key.path).drop i)).1 = (skipC (skipU dir m)).1 ∧ Alike A dir (skipC (skipU dir m)).2 (rskipI (A.filter fun p => underB dir p.key.path) i) := by
  have hh := alike_head h
  have hs := (skipU_sub dir m).trans h.sub
  have hu := @skipU_head dir m
  unfold rskipI
  generalize skipU dir m = s at hh hs hu
  cases s with
  | nil =>
    have hd : (A.filter fun p => underB dir p.key.path).drop i = [] := hh
    rw [hd]
    exact ⟨rfl, List.nil_sublist _, h.le, hd⟩
  | cons p r =>
    have hr := hA.sublist hs
    have hf := same_filter (u := fun p => underB dir p.key.path) hr
    have hd : (A.filter fun p => underB dir p.key.path).drop i = p :: r.filter fun p => underB dir p.key.path := by rw [hh, List.filter_cons, if_pos (hu rfl)]
    have hlen := congrArg List.length hd
    rw [List.length_drop] at hlen
    have htl := (List.takeWhile_sublist (fun q : Pr => q.key.path == p.key.path) (l := p :: r.filter fun p => underB dir p.key.path)).length_le
    rw [hd]
    refine ⟨rfl, (List.dropWhile_sublist _).trans hs, ?_, ?_⟩
    · show i + ((p :: r.filter fun p => underB dir p.key.path).takeWhile fun q => q.key.path == p.key.path).length ≤ _
      have := h.le
      omega
    · show (A.filter fun p => underB dir p.key.path).drop (i + ((p :: r.filter fun p => underB dir p.key.path).takeWhile fun q => q.key.path == p.key.path).length) = (sameP p.key.path (p :: r)).filter _
      rw [hf, ← hh, ← List.drop_drop, ← hd, drop_takeW]
theorem alike_seek {A : List Pr} (hA : Rise A) {dir : Bytes} (k : Ky) : Alike A dir (fromP A k) (findP (A.filter fun p => underB dir p.key.path) k) := by
  refine ⟨List.dropWhile_sublist _, findP_le _ _, ?_⟩
  rw [drop_find, fromP_filter (hA.sublist List.filter_sublist), fromP_filter hA, List.filter_filter, List.filter_filter]
  congr 1
  funext q
  rw [Bool.and_comm]
end Go.Proofs.YthdeopopodhimaaDoor

/- Trees of rows of pairs. No further condition. -/
set_option linter.unusedVariables false
set_option linter.unusedSimpArgs false
namespace Go.Proofs.YthdeopopodhimaaDoor
open Go.Ab

noncomputable def putT (t : Tr) (p : Pr) : Tr := if h : t.all.length < 10000000 then Classical.choose (tPut_ok t p h) else t
theorem putT_all {t : Tr} {p : Pr} (h : t.all.length < 10000000) : (putT t p).all = putP t.all p := by
  unfold putT
  rw [dif_pos h]
  exact (Classical.choose_spec (tPut_ok t p h)).1
theorem putT_ok {t : Tr} {p : Pr} (h : t.all.length < 10000000) : APure Tryd.prog 25 [t.av, p.av] (putT t p).av := by
  unfold putT
  rw [dif_pos h]
  exact (Classical.choose_spec (tPut_ok t p h)).2
noncomputable def laidT (l : List Pr) : Tr := l.foldl putT nilT
def laidL (l : List Pr) : List Pr := l.foldl putP []
theorem fold_all : ∀ (l : List Pr) (t : Tr), t.all.length + l.length < 10000000 → (l.foldl putT t).all = l.foldl putP t.all ∧ (l.foldl putT t).all.length ≤ t.all.length + l.length
  | [], t, _ => ⟨rfl, Nat.le_refl _⟩
  | p :: r, t, h => by
    simp only [List.length_cons] at h
    have h1 : (putT t p).all = putP t.all p := putT_all (by omega)
    have h2 := (putP_len t.all p).2.1
    obtain ⟨h3, h4⟩ := fold_all r (putT t p) (by rw [h1]; omega)
    refine ⟨?_, ?_⟩
    · show (r.foldl putT (putT t p)).all = r.foldl putP (putP t.all p)
      rw [h3, h1]
    · show (r.foldl putT (putT t p)).all.length ≤ _
      rw [h1] at h4
      simp only [List.length_cons]
      omega
theorem laid_all {l : List Pr} (h : l.length < 1000000) : (laidT l).all = laidL l ∧ (laidL l).length ≤ l.length := by
  obtain ⟨h1, h2⟩ := fold_all l nilT (by show 0 + l.length < _; omega)
  have h1 : (laidT l).all = laidL l := h1
  refine ⟨h1, ?_⟩
  rw [← h1]
  have h2 : (laidT l).all.length ≤ 0 + l.length := h2
  omega
theorem fold_mem : ∀ (l m : List Pr) (p : Pr), p ∈ l.foldl putP m → p ∈ m ∨ p ∈ l
  | [], m, p, h => .inl h
  | q :: r, m, p, h => by
    rcases fold_mem r (putP m q) p h with h | h
    · rcases putP_mem h with rfl | h
      · exact .inr (by simp)
      · exact .inl h
    · exact .inr (by simp [h])
theorem laid_mem {l : List Pr} {p : Pr} (h : p ∈ laidL l) : p ∈ l := (fold_mem l [] p h).resolve_left (by simp)
theorem laid_rise {l : List Pr} (h : l.length < 1000000) : Rise (laidL l) := by
  rw [← (laid_all h).1]
  exact (laidT l).rise
theorem laidT_step {l : List Pr} {i : Nat} {x : Pr} (ht : l.take (i + 1) = l.take i ++ [x]) : laidT (l.take (i + 1)) = putT (laidT (l.take i)) x := by
  unfold laidT
  rw [ht, List.foldl_append]
  rfl
end Go.Proofs.YthdeopopodhimaaDoor

/- The statements on cursors: the document's rows, and the three laws' functions walked. No further condition. -/
set_option linter.unusedVariables false
set_option linter.unusedSimpArgs false
namespace Go.Proofs.YthdeopopodhimaaDoor
open Go.Ab

set_option maxRecDepth 100000 in
set_option maxHeartbeats 8000000 in
theorem laid_ok (l : List Pr) (tg : Tag) (hl : l.length < 1000) : APure Tryd.prog 7 [.sl 3 (l.map Pr.av) tg] (laidT l).av := by
  intro M
  refine acalls_of tabOK Tryd.func7 rfl (by decide) (by simp [Tryd.f7]) ?_
  have la := len_map Pr.av l
  have k0 := new_ok
  repeat' (first | refine DW_A tabs rfl ?_ | refine DW_nil ?_ | refine W_A rfl ?_ | refine DW_C rfl k0 ?_ | refine DW_nilc tabOK rfl ?_)
  refine W_count l.length (fun i f N => N = M ∧ (True) ∧ f = ⟨[(0, .sl 3 (l.map Pr.av) tg), (3, (laidT (l.take i)).av), (4, .int .i64 (i : Int))], []⟩) (Nat.zero_le _) ⟨rfl, trivial, rfl⟩ (Joint.le ?_ (Mem.le_refl _)) ?_
  · skip
    repeat (refine AF.le_cons rfl ?_)
    exact AF.le_nil rfl
  rintro i f N hi ⟨rfl, hinv, rfl⟩
  by_cases h1 : i < l.length
  · have d1 : decide ((i : Int) < (l.length : Int)) = true := by simp; omega
    have hx : l[i]? = some l[i] := List.getElem?_eq_getElem h1
    have fi := wrap_succ (i := i) (by omega)
    have ht := take_succ hx
    have hm := List.getElem_mem h1
    generalize l[i] = x at hx ht hm
    have hall := (laid_all (l := l.take i) (by simp; omega))
    have kp := putT_ok (t := laidT (l.take i)) (p := x) (by rw [hall.1]; have := hall.2; simp at this; omega)
    rw [← laidT_step ht] at kp
    unfold Tr.av at kp ⊢
    repeat' (first | refine DW_VB tabs rfl d1 ?_ | refine DW_VI tabs rfl (by first | exact fi | exact la) ?_ | refine DW_A tabs rfl ?_ | refine DW_nil ?_ | refine W_A rfl ?_ | refine DW_C rfl kp ?_ | refine DW_ix tabOK rfl (ixN hx) ?_ | refine DW_nilc tabOK rfl ?_)
    refine ⟨h1, _, _, ⟨rfl, trivial, rfl⟩, Joint.le ?_ (Mem.le_refl _)⟩
    repeat (refine AF.le_cons rfl ?_)
    exact AF.le_nil rfl
  · have d1 : decide ((i : Int) < (l.length : Int)) = false := by simp; omega
    obtain rfl : i = l.length := by omega
    rw [take_all]
    repeat' (first | refine DW_VB tabs rfl d1 ?_ | refine DW_VI tabs rfl la ?_ | refine DW_A tabs rfl ?_ | refine DW_nil ?_ | refine W_A rfl ?_ | refine DW_nilc tabOK rfl ?_)
    exact ⟨rfl, _, rfl, rfl, rfl⟩

def farB (l : List Pr) (dir : Bytes) : Bool := bigB l || decide (300 < dir.length)
set_option maxRecDepth 100000 in
set_option maxHeartbeats 8000000 in
theorem far_ok (l : List Pr) (tg : Tag) (hl : l.length < 4611686018427387904) (dir : Bytes) : APure Tryd.prog 6 [.sl 3 (l.map Pr.av) tg, .str dir] (.bool (farB l dir)) := by
  intro M
  refine acalls_of tabOK Tryd.func6 rfl (by decide) (by simp [Tryd.f6]) ?_
  have kb := big_ok l tg hl
  unfold farB
  cases h : bigB l
  · rw [h] at kb
    repeat' (first | refine DW_A tabs rfl ?_ | refine DW_nil ?_ | refine W_A rfl ?_ | refine DW_C rfl kb ?_)
    exact ⟨rfl, _, rfl, ret_bool (by rw [Bool.false_or]; exact decide_eq_decide.2 (by omega)), rfl⟩
  · rw [h] at kb
    repeat' (first | refine DW_A tabs rfl ?_ | refine DW_nil ?_ | refine W_A rfl ?_ | refine DW_C rfl kb ?_)
    exact ⟨rfl, _, rfl, rfl, rfl⟩

def wl : List Pr := [⟨⟨[97], 5⟩, []⟩, ⟨⟨[97], 3⟩, []⟩, ⟨⟨[97, 47, 98], 1⟩, []⟩, ⟨⟨[97, 98], 2⟩, []⟩]
theorem wl_all : (laidT wl).all = wl := (laid_all (by decide)).1.trans (by decide)
theorem wl_short : shortL wl := by unfold shortL wl; simp
set_option maxRecDepth 100000 in
set_option maxHeartbeats 8000000 in
theorem walked_ok : APure Tryd.prog 10 [] (.bool true) := by
  refine pure_sub (closedL_nil) (closed_bool) ?_
  refine acalls_of tabOK Tryd.func10 rfl (by decide) (by simp [Tryd.f10]) ?_
  have kl := laid_ok wl .full (by decide)
  have kn := new_ok' (laidT wl) (by rw [wl_all]; decide) [97] (by decide) (by decide)
  have kb := newBad_ok (laidT wl) [47] (by decide) (by decide)
  have kr := range_ok (laidT wl) (by rw [wl_all]; decide) ⟨[97], 3⟩ ⟨[97, 98], 2⟩
  have ks := same_ok (wl.drop 1 |>.take 2) (wl.take 3 |>.drop 1) .none .none (by decide) (by decide)
  rw [wl_all] at kn kr
  have kx := fun l (h : shortL l) => next_ok (laidT wl) [97] (by decide) l h
  have kk := skip_ok (laidT wl) [97] (by decide) wl wl_short
  have e1 : skipC (skipU [97] wl) = (([97], true), wl.drop 2) := by decide
  have e2 : nextC (skipU [97] (wl.drop 2)) = ((⟨⟨[97, 47, 98], 1⟩, []⟩, true), wl.drop 3) := by decide
  have e3 : nextC (skipU [97] (wl.drop 3)) = ((zeroPr, false), []) := by decide
  have e4 : rangeC wl ⟨[97], 3⟩ ⟨[97, 98], 2⟩ = (wl.drop 1).take 2 := by decide
  have e5 : decide ((wl.drop 1).take 2 = (wl.take 3).drop 1) = true := by decide
  have k2 := kx (wl.drop 2) (fun p hp => wl_short p (List.mem_of_mem_drop hp))
  have k3 := kx (wl.drop 3) (fun p hp => wl_short p (List.mem_of_mem_drop hp))
  rw [e1] at kk
  rw [e2] at k2
  rw [e3] at k3
  rw [e4] at kr
  rw [e5] at ks
  unfold Tr.av at kl kn kb kr
  repeat' (first | refine DW_A tabs rfl ?_ | refine DW_nil ?_ | refine W_A rfl ?_ | refine DW_C rfl kl ?_ | refine DW_nilc tabOK rfl ?_ | refine DW_row tabOK rfl ?_ | refine W_draw mixed [0, 1, 2, 3, 4, 5, 6, 7, 8, 10, 9, 11, 12, 13, 14, 15, 16, 17, 18, 19, 20, 21, 22, 23, 24, 25, 29, 34, 35, 26, 27, 28, 30, 31, 32, 33, 36, 37, 38] [.P, .P, .P, .P, .P, .P, .P, .P, .P, .R, .P, .R, .R, .P, .P, .P, .P, .P, .P, .P, .P, .P, .P, .P, .P, .P, .R, .R, .R, .P, .R, .R, .R, .P, .P, .P, .P, .P, .P] rfl rfl (by kernel_rfl) ?_)
  refine DW_CM rfl rfl kn ?_ (fun u M' h => by cases h.1)
  rintro u N ⟨e, rfl⟩
  cases e
  repeat' (first | refine DW_A tabs rfl ?_ | refine DW_nil ?_ | refine W_A rfl ?_ | refine DW_nilc tabOK rfl ?_ | refine DW_row tabOK rfl ?_ | refine W_draw mixed [0, 1, 2, 3, 4, 5, 6, 7, 8, 10, 9, 11, 12, 13, 14, 15, 16, 17, 18, 19, 20, 21, 22, 23, 24, 25, 29, 34, 35, 26, 27, 28, 30, 31, 32, 33, 36, 37, 38] [.P, .P, .P, .P, .P, .P, .P, .P, .P, .R, .P, .R, .R, .P, .P, .P, .P, .P, .P, .P, .P, .P, .P, .P, .P, .P, .R, .R, .R, .P, .R, .R, .R, .P, .P, .P, .P, .P, .P] rfl rfl (by kernel_rfl) ?_)
  refine DW_CM rfl rfl (cur_frame (R := fun e N => e = .ret (sb ([97], true)) ∧ N = _) 0 rfl (Nat.zero_lt_succ _) kk (closed_sb _) ⟨InV.ptr rfl, trivial⟩ ⟨rfl, rfl⟩) ?_ (fun u M' h => by cases h.1)
  rintro u N ⟨e, rfl⟩
  cases e
  unfold sb
  repeat' (first | refine DW_A tabs rfl ?_ | refine DW_nil ?_ | refine W_A rfl ?_ | refine DW_nilc tabOK rfl ?_ | refine DW_row tabOK rfl ?_ | refine W_draw mixed [0, 1, 2, 3, 4, 5, 6, 7, 8, 10, 9, 11, 12, 13, 14, 15, 16, 17, 18, 19, 20, 21, 22, 23, 24, 25, 29, 34, 35, 26, 27, 28, 30, 31, 32, 33, 36, 37, 38] [.P, .P, .P, .P, .P, .P, .P, .P, .P, .R, .P, .R, .R, .P, .P, .P, .P, .P, .P, .P, .P, .P, .P, .P, .P, .P, .R, .R, .R, .P, .R, .R, .R, .P, .P, .P, .P, .P, .P] rfl rfl (by kernel_rfl) ?_)
  refine DW_CM rfl rfl (cur_frame (R := fun e N => e = .ret (pb (⟨⟨[97, 47, 98], 1⟩, []⟩, true)) ∧ N = _) 0 rfl (Nat.zero_lt_succ _) k2 (closed_pb _) ⟨InV.ptr rfl, trivial⟩ ⟨rfl, rfl⟩) ?_ (fun u M' h => by cases h.1)
  rintro u N ⟨e, rfl⟩
  cases e
  unfold pb
  repeat' (first | refine DW_A tabs rfl ?_ | refine DW_nil ?_ | refine W_A rfl ?_ | refine DW_nilc tabOK rfl ?_ | refine DW_row tabOK rfl ?_ | refine W_draw mixed [0, 1, 2, 3, 4, 5, 6, 7, 8, 10, 9, 11, 12, 13, 14, 15, 16, 17, 18, 19, 20, 21, 22, 23, 24, 25, 29, 34, 35, 26, 27, 28, 30, 31, 32, 33, 36, 37, 38] [.P, .P, .P, .P, .P, .P, .P, .P, .P, .R, .P, .R, .R, .P, .P, .P, .P, .P, .P, .P, .P, .P, .P, .P, .P, .P, .R, .R, .R, .P, .R, .R, .R, .P, .P, .P, .P, .P, .P] rfl rfl (by kernel_rfl) ?_)
  refine DW_CM rfl rfl (cur_frame (R := fun e N => e = .ret (pb (zeroPr, false)) ∧ N = _) 0 rfl (Nat.zero_lt_succ _) k3 (closed_pb _) ⟨InV.ptr rfl, trivial⟩ ⟨rfl, rfl⟩) ?_ (fun u M' h => by cases h.1)
  rintro u N ⟨e, rfl⟩
  cases e
  unfold pb
  repeat' (first | refine DW_A tabs rfl ?_ | refine DW_nil ?_ | refine W_A rfl ?_ | refine DW_C rfl kb ?_ | refine DW_C rfl kr ?_ | refine DW_C rfl ks ?_ | refine DW_ix tabOK rfl (⟨by decide, rfl⟩) ?_ | refine DW_nilc tabOK rfl ?_ | refine DW_row tabOK rfl ?_ | refine W_draw mixed [0, 1, 2, 3, 4, 5, 6, 7, 8, 10, 9, 11, 12, 13, 14, 15, 16, 17, 18, 19, 20, 21, 22, 23, 24, 25, 29, 34, 35, 26, 27, 28, 30, 31, 32, 33, 36, 37, 38] [.P, .P, .P, .P, .P, .P, .P, .P, .P, .R, .P, .R, .R, .P, .P, .P, .P, .P, .P, .P, .P, .P, .P, .P, .P, .P, .R, .R, .R, .P, .R, .R, .R, .P, .P, .P, .P, .P, .P] rfl rfl (by kernel_rfl) ?_)
  refine DW_mid tabOK rfl rfl rfl rfl (lo := 1) (n := 3) (l := wl) (f := Pr.av) rfl rfl rfl rfl rfl rfl rfl (by decide) (by decide) ?_
  repeat' (first | refine DW_A tabs rfl ?_ | refine DW_nil ?_ | refine W_A rfl ?_ | refine DW_C rfl kr ?_ | refine DW_C rfl ks ?_ | refine DW_ix tabOK rfl (⟨by decide, rfl⟩) ?_ | refine DW_nilc tabOK rfl ?_ | refine DW_row tabOK rfl ?_ | refine W_draw mixed [0, 1, 2, 3, 4, 5, 6, 7, 8, 10, 9, 11, 12, 13, 14, 15, 16, 17, 18, 19, 20, 21, 22, 23, 24, 25, 29, 34, 35, 26, 27, 28, 30, 31, 32, 33, 36, 37, 38] [.P, .P, .P, .P, .P, .P, .P, .P, .P, .R, .P, .R, .R, .P, .P, .P, .P, .P, .P, .P, .P, .P, .P, .P, .P, .P, .R, .R, .R, .P, .R, .R, .R, .P, .P, .P, .P, .P, .P] rfl rfl (by kernel_rfl) ?_)
  exact ⟨rfl, _, rfl, _, rfl, SubC.of_closed closed_bool⟩

/-! ### The laws -/
theorem short_of {l : List Pr} (h : bigB l = false) : shortL (laidL l) := fun p hp => by have := (bigB_no h).2 p (laid_mem hp); omega
theorem small_of {l : List Pr} (h : bigB l = false) : l.length < 1000 ∧ (laidT l).all = laidL l ∧ (laidL l).length ≤ 80 ∧ Rise (laidL l) ∧ shortL (laidL l) := by
  have h1 := (bigB_no h).1
  obtain ⟨h2, h3⟩ := laid_all (l := l) (by omega)
  exact ⟨by omega, h2, by omega, laid_rise (by omega), short_of h⟩
theorem wrap_len {n : Nat} (h : n < 9223372036854775808) : IntKind.wrap .i64 (n : Int) = (n : Int) := Go.Ab.wrap_small (by omega) (by omega)

set_option maxRecDepth 100000 in
set_option maxHeartbeats 8000000 in
theorem cursorRanges_ok (l : List Pr) (a b : Ky) (dir : Bytes) (hl : l.length < 4611686018427387904) (ha : a.path.length < 1000000000000000) (hb : b.path.length < 1000000000000000) : APure Tryd.prog 5 [.sl 3 (l.map Pr.av) .none, a.av, b.av, .str dir] (.bool true) := by
  refine pure_sub (closedL_cons (closed_prs l) (closed3 (closed_ky a) (closed_ky b) closed_str)) (closed_bool) ?_
  refine acalls_of tabOK Tryd.func5 rfl (by decide) (by simp [Tryd.f5]) ?_
  have kf := far_ok l .none hl dir
  have w1 : IntKind.wrap .i64 ((a.path.length : Int) + (b.path.length : Int)) = ((a.path.length + b.path.length : Nat) : Int) := by rw [← Int.natCast_add]; exact wrap_len (by omega)
  cases hf : farB l dir
  · rw [hf] at kf
    unfold farB at hf
    obtain ⟨hf1, hf2⟩ := Bool.or_eq_false_iff.1 hf
    have hf2 := of_decide_eq_false hf2
    obtain ⟨hl1, hall, hl2, hr, hsh⟩ := small_of hf1
    by_cases h5 : 500 < a.path.length + b.path.length
    · have d5 : decide ((500 : Int) < ((a.path.length + b.path.length : Nat) : Int)) = true := decide_eq_true (by omega)
      repeat' (first | refine DW_VB tabs rfl d5 ?_ | refine DW_VI tabs rfl w1 ?_ | refine DW_A tabs rfl ?_ | refine DW_nil ?_ | refine W_A rfl ?_ | refine DW_C rfl kf ?_ | refine W_draw mixed [0, 1, 2, 3, 4, 5, 6, 7, 8, 9, 10, 11, 12, 16, 13, 14, 15, 17, 18, 19, 20, 21, 22, 23] [.P, .P, .P, .P, .P, .P, .P, .P, .P, .P, .P, .P, .P, .R, .R, .P, .P, .P, .R, .R, .P, .P, .P, .P] rfl rfl (by kernel_rfl) ?_)
      exact ⟨rfl, _, rfl, _, rfl, SubC.of_closed closed_bool⟩
    · have d5 : decide ((500 : Int) < ((a.path.length + b.path.length : Nat) : Int)) = false := decide_eq_false (by omega)
      have kl := laid_ok l .none hl1
      have kw := walked_ok
      have ka := tAll_ok (laidT l) (by rw [hall]; omega)
      have kr := range_ok (laidT l) (by rw [hall]; omega) a b
      have ku := rcUnder_ok (laidL l) (by omega) (fun p hp => by have := (bigB_no hf1).2 p (laid_mem hp); omega) .none (.inl rfl) dir (by omega)
      have kq := rcRange_ok (laidL l) (by omega) .none (.inl rfl) a b
      have k1 := same_ok (rangeC (laidL l) a b) (rangeC (laidL l) a b) .none .none (by have := range_len (laidL l) a b; omega) (by have := range_len (laidL l) a b; omega)
      rw [hall] at ka kr
      rw [← range_filter hr] at kq
      rw [decide_eq_true rfl] at k1
      have hsub : ((laidL l).filter fun p => underB dir p.key.path).length ≤ 80 := Nat.le_trans List.filter_sublist.length_le hl2
      have k2 := same_ok ((laidL l).filter fun p => underB dir p.key.path) ((laidL l).filter fun p => underB dir p.key.path) .none .none (by omega) (by omega)
      rw [decide_eq_true rfl] at k2
      have k0 : APure Tryd.prog 11 [.sl 0 [] .full, .sl 3 ([].map Pr.av) .none] (.bool true) := (same_ok [] [] .full .none (by decide) (by decide)).sub ⟨Sub.empty (.inr rfl), Sub.refl, trivial⟩
      cases hp : isPathB dir
      · have kb := cUnderBad_ok (laidT l) dir (by omega) hp
        unfold underR unA at ku
        rw [hp] at ku
        unfold Tr.av at kl ka kr kb
        repeat' (first | refine DW_VB tabs rfl d5 ?_ | refine DW_VI tabs rfl w1 ?_ | refine DW_A tabs rfl ?_ | refine DW_nil ?_ | refine W_A rfl ?_ | refine DW_C rfl kf ?_ | refine DW_C rfl kl ?_ | refine DW_C rfl ka ?_ | refine DW_C rfl kr ?_ | refine DW_C rfl kb ?_ | refine DW_C rfl ku ?_ | refine DW_C rfl kq ?_ | refine DW_C rfl kw ?_ | refine DW_C rfl k1 ?_ | refine DW_C rfl k0 ?_ | refine W_draw mixed [0, 1, 2, 3, 4, 5, 6, 7, 8, 9, 10, 11, 12, 16, 13, 14, 15, 17, 18, 19, 20, 21, 22, 23] [.P, .P, .P, .P, .P, .P, .P, .P, .P, .P, .P, .P, .P, .R, .R, .P, .P, .P, .R, .R, .P, .P, .P, .P] rfl rfl (by kernel_rfl) ?_)
        exact ⟨rfl, _, rfl, _, rfl, SubC.of_closed closed_bool⟩
      · have kg := cUnderGood_ok (laidT l) (by rw [hall]; omega) (by rw [hall]; exact hsh) dir (by omega) hp
        unfold underR at ku
        rw [hp, if_pos rfl] at ku
        rw [hall] at kg
        unfold unA at kg ku
        unfold Tr.av at kl ka kr kg
        repeat' (first | refine DW_VB tabs rfl d5 ?_ | refine DW_VI tabs rfl w1 ?_ | refine DW_A tabs rfl ?_ | refine DW_nil ?_ | refine W_A rfl ?_ | refine DW_C rfl kf ?_ | refine DW_C rfl kl ?_ | refine DW_C rfl ka ?_ | refine DW_C rfl kr ?_ | refine DW_C rfl kg ?_ | refine DW_C rfl ku ?_ | refine DW_C rfl kq ?_ | refine DW_C rfl kw ?_ | refine DW_C rfl k1 ?_ | refine DW_C rfl k2 ?_ | refine W_draw mixed [0, 1, 2, 3, 4, 5, 6, 7, 8, 9, 10, 11, 12, 16, 13, 14, 15, 17, 18, 19, 20, 21, 22, 23] [.P, .P, .P, .P, .P, .P, .P, .P, .P, .P, .P, .P, .P, .R, .R, .P, .P, .P, .R, .R, .P, .P, .P, .P] rfl rfl (by kernel_rfl) ?_)
        exact ⟨rfl, _, rfl, _, rfl, SubC.of_closed closed_bool⟩
  · rw [hf] at kf
    repeat' (first | refine DW_VI tabs rfl w1 ?_ | refine DW_A tabs rfl ?_ | refine DW_nil ?_ | refine W_A rfl ?_ | refine DW_C rfl kf ?_ | refine W_draw mixed [0, 1, 2, 3, 4, 5, 6, 7, 8, 9, 10, 11, 12, 16, 13, 14, 15, 17, 18, 19, 20, 21, 22, 23] [.P, .P, .P, .P, .P, .P, .P, .P, .P, .P, .P, .P, .P, .R, .R, .P, .P, .P, .R, .R, .P, .P, .P, .P] rfl rfl (by kernel_rfl) ?_)
    exact ⟨rfl, _, rfl, _, rfl, SubC.of_closed closed_bool⟩

theorem key_ne (a b : Ky) : (!((a.path == b.path) && ((decide (a.time = b.time)) && true))) = !decide (a = b) := by rw [key_eqB]
theorem two_rise {a b : Ky} : decide (Rise [⟨a, []⟩, ⟨b, []⟩]) = rless a b := by
  rw [Bool.eq_iff_iff]
  simp [Rise]

set_option maxRecDepth 100000 in
set_option maxHeartbeats 8000000 in
theorem cursorParts_ok (l : List Pr) (a b c : Ky) (hl : l.length < 4611686018427387904) (ha : a.path.length < 1000000000000000) (hb : b.path.length < 1000000000000000) (hc : c.path.length < 1000000000000000) : APure Tryd.prog 3 [.sl 3 (l.map Pr.av) .none, a.av, b.av, c.av] (.bool true) := by
  refine pure_sub (closedL_cons (closed_prs l) (closed3 (closed_ky a) (closed_ky b) (closed_ky c))) (closed_bool) ?_
  refine acalls_of tabOK Tryd.func3 rfl (by decide) (by simp [Tryd.f3]) ?_
  have kf := far_ok l .none hl []
  have w1 : IntKind.wrap .i64 ((a.path.length : Int) + (b.path.length : Int)) = ((a.path.length + b.path.length : Nat) : Int) := by rw [← Int.natCast_add]; exact wrap_len (by omega)
  have w2 : IntKind.wrap .i64 (((a.path.length + b.path.length : Nat) : Int) + (c.path.length : Int)) = ((a.path.length + b.path.length + c.path.length : Nat) : Int) := by rw [← Int.natCast_add]; exact wrap_len (by omega)
  have kw := walked_ok
  cases hf : farB l []
  · rw [hf] at kf
    unfold farB at hf
    obtain ⟨hf1, hf2⟩ := Bool.or_eq_false_iff.1 hf
    obtain ⟨hl1, hall, hl2, hr, hsh⟩ := small_of hf1
    by_cases h5 : 600 < a.path.length + b.path.length + c.path.length
    · have d5 : decide ((600 : Int) < ((a.path.length + b.path.length + c.path.length : Nat) : Int)) = true := decide_eq_true (by omega)
      repeat' (first | refine DW_VB tabs rfl d5 ?_ | refine DW_VI tabs rfl (by first | exact w1 | exact w2) ?_ | refine DW_A tabs rfl ?_ | refine DW_nil ?_ | refine W_A rfl ?_ | refine DW_C rfl kf ?_ | refine DW_row tabOK rfl ?_ | refine DW_app tabOK rfl rfl (by simp; omega) (by simp; omega) ?_ | refine DW_app0 tabOK rfl (by simp; omega) (by simp; omega) ?_)
      exact ⟨rfl, _, rfl, _, rfl, SubC.of_closed closed_bool⟩
    · have d5 : decide ((600 : Int) < ((a.path.length + b.path.length + c.path.length : Nat) : Int)) = false := decide_eq_false (by omega)
      have kl := laid_ok l .none hl1
      have k1 := range_ok (laidT l) (by rw [hall]; omega) a b
      have k2 := range_ok (laidT l) (by rw [hall]; omega) b c
      have k3 := range_ok (laidT l) (by rw [hall]; omega) a c
      rw [hall] at k1 k2 k3
      have r1 := isRise_ok [⟨a, []⟩, ⟨b, []⟩] .full (by show 2 < 1000000; omega)
      have r2 := isRise_ok [⟨b, []⟩, ⟨c, []⟩] .full (by show 2 < 1000000; omega)
      rw [two_rise] at r1 r2
      have n1 := key_ne a b
      have n2 := key_ne b c
      have l1 := range_len (laidL l) a b
      have l2 := range_len (laidL l) b c
      have l3 := range_len (laidL l) a c
      have hgo : (a = b ∨ rless a b = true) → (b = c ∨ rless b c = true) → decide (rangeC (laidL l) a b ++ rangeC (laidL l) b c = rangeC (laidL l) a c) = true := fun h1 h2 => decide_eq_true (range_two h1 h2)
      have ks : ∀ g, APure Tryd.prog 11 [.sl 3 ((rangeC (laidL l) a b).map Pr.av ++ (rangeC (laidL l) b c).map Pr.av) (.tok 0 g), .sl 3 ((rangeC (laidL l) a c).map Pr.av) .none] (.bool (decide (rangeC (laidL l) a b ++ rangeC (laidL l) b c = rangeC (laidL l) a c))) := fun g => by rw [← List.map_append]; exact same_ok _ _ _ _ (by simp; omega) (by omega)
      unfold Tr.av at kl k1 k2 k3
      have c1 : ((!((a.path == b.path) && ((decide (a.time = b.time)) && true))) = false ∧ (a = b ∨ rless a b = true)) ∨ ((!((a.path == b.path) && ((decide (a.time = b.time)) && true))) = true ∧ rless a b = true ∧ (a = b ∨ rless a b = true)) ∨ ((!((a.path == b.path) && ((decide (a.time = b.time)) && true))) = true ∧ rless a b = false) := by
        rw [n1]
        by_cases e : a = b
        · exact .inl ⟨by simp [e], .inl e⟩
        · cases h : rless a b
          · exact .inr (.inr ⟨by simp [e], rfl⟩)
          · exact .inr (.inl ⟨by simp [e], rfl, .inr rfl⟩)
      have c2 : ((!((b.path == c.path) && ((decide (b.time = c.time)) && true))) = false ∧ (b = c ∨ rless b c = true)) ∨ ((!((b.path == c.path) && ((decide (b.time = c.time)) && true))) = true ∧ rless b c = true ∧ (b = c ∨ rless b c = true)) ∨ ((!((b.path == c.path) && ((decide (b.time = c.time)) && true))) = true ∧ rless b c = false) := by
        rw [n2]
        by_cases e : b = c
        · exact .inl ⟨by simp [e], .inl e⟩
        · cases h : rless b c
          · exact .inr (.inr ⟨by simp [e], rfl⟩)
          · exact .inr (.inl ⟨by simp [e], rfl, .inr rfl⟩)
      rcases c1 with ⟨d1, g1⟩ | ⟨d1, q1, g1⟩ | ⟨d1, q1⟩
      · rcases c2 with ⟨d2, g2⟩ | ⟨d2, q2, g2⟩ | ⟨d2, q2⟩
        · rw [hgo g1 g2] at ks
          repeat' (first | refine DW_VB tabs rfl (by first | exact d5 | exact d1 | exact d2) ?_ | refine DW_VI tabs rfl (by first | exact w1 | exact w2) ?_ | refine DW_A tabs rfl ?_ | refine DW_nil ?_ | refine W_A rfl ?_ | refine DW_C rfl kf ?_ | refine DW_C rfl kl ?_ | refine DW_C rfl k1 ?_ | refine DW_C rfl k2 ?_ | refine DW_C rfl k3 ?_ | refine DW_C rfl kw ?_ | refine DW_C rfl (ks _) ?_ | refine DW_row tabOK rfl ?_ | refine DW_app tabOK rfl rfl (by simp; omega) (by simp; omega) ?_ | refine DW_app0 tabOK rfl (by simp; omega) (by simp; omega) ?_)
          exact ⟨rfl, _, rfl, _, rfl, SubC.of_closed closed_bool⟩
        · rw [hgo g1 g2] at ks
          rw [q2] at r2
          repeat' (first | refine DW_VB tabs rfl (by first | exact d5 | exact d1 | exact d2) ?_ | refine DW_VI tabs rfl (by first | exact w1 | exact w2) ?_ | refine DW_A tabs rfl ?_ | refine DW_nil ?_ | refine W_A rfl ?_ | refine DW_C rfl kf ?_ | refine DW_C rfl kl ?_ | refine DW_C rfl k1 ?_ | refine DW_C rfl k2 ?_ | refine DW_C rfl k3 ?_ | refine DW_C rfl kw ?_ | refine DW_C rfl r2 ?_ | refine DW_C rfl (ks _) ?_ | refine DW_row tabOK rfl ?_ | refine DW_app tabOK rfl rfl (by simp; omega) (by simp; omega) ?_ | refine DW_app0 tabOK rfl (by simp; omega) (by simp; omega) ?_)
          exact ⟨rfl, _, rfl, _, rfl, SubC.of_closed closed_bool⟩
        · rw [q2] at r2
          repeat' (first | refine DW_VB tabs rfl (by first | exact d5 | exact d1 | exact d2) ?_ | refine DW_VI tabs rfl (by first | exact w1 | exact w2) ?_ | refine DW_A tabs rfl ?_ | refine DW_nil ?_ | refine W_A rfl ?_ | refine DW_C rfl kf ?_ | refine DW_C rfl kl ?_ | refine DW_C rfl k1 ?_ | refine DW_C rfl k2 ?_ | refine DW_C rfl k3 ?_ | refine DW_C rfl kw ?_ | refine DW_C rfl r2 ?_ | refine DW_row tabOK rfl ?_ | refine DW_app tabOK rfl rfl (by simp; omega) (by simp; omega) ?_ | refine DW_app0 tabOK rfl (by simp; omega) (by simp; omega) ?_)
          exact ⟨rfl, _, rfl, _, rfl, SubC.of_closed closed_bool⟩
      · rw [q1] at r1
        rcases c2 with ⟨d2, g2⟩ | ⟨d2, q2, g2⟩ | ⟨d2, q2⟩
        · rw [hgo g1 g2] at ks
          repeat' (first | refine DW_VB tabs rfl (by first | exact d5 | exact d1 | exact d2) ?_ | refine DW_VI tabs rfl (by first | exact w1 | exact w2) ?_ | refine DW_A tabs rfl ?_ | refine DW_nil ?_ | refine W_A rfl ?_ | refine DW_C rfl kf ?_ | refine DW_C rfl kl ?_ | refine DW_C rfl k1 ?_ | refine DW_C rfl k2 ?_ | refine DW_C rfl k3 ?_ | refine DW_C rfl kw ?_ | refine DW_C rfl r1 ?_ | refine DW_C rfl (ks _) ?_ | refine DW_row tabOK rfl ?_ | refine DW_app tabOK rfl rfl (by simp; omega) (by simp; omega) ?_ | refine DW_app0 tabOK rfl (by simp; omega) (by simp; omega) ?_)
          exact ⟨rfl, _, rfl, _, rfl, SubC.of_closed closed_bool⟩
        · rw [hgo g1 g2] at ks
          rw [q2] at r2
          repeat' (first | refine DW_VB tabs rfl (by first | exact d5 | exact d1 | exact d2) ?_ | refine DW_VI tabs rfl (by first | exact w1 | exact w2) ?_ | refine DW_A tabs rfl ?_ | refine DW_nil ?_ | refine W_A rfl ?_ | refine DW_C rfl kf ?_ | refine DW_C rfl kl ?_ | refine DW_C rfl k1 ?_ | refine DW_C rfl k2 ?_ | refine DW_C rfl k3 ?_ | refine DW_C rfl kw ?_ | refine DW_C rfl r1 ?_ | refine DW_C rfl r2 ?_ | refine DW_C rfl (ks _) ?_ | refine DW_row tabOK rfl ?_ | refine DW_app tabOK rfl rfl (by simp; omega) (by simp; omega) ?_ | refine DW_app0 tabOK rfl (by simp; omega) (by simp; omega) ?_)
          exact ⟨rfl, _, rfl, _, rfl, SubC.of_closed closed_bool⟩
        · rw [q2] at r2
          repeat' (first | refine DW_VB tabs rfl (by first | exact d5 | exact d1 | exact d2) ?_ | refine DW_VI tabs rfl (by first | exact w1 | exact w2) ?_ | refine DW_A tabs rfl ?_ | refine DW_nil ?_ | refine W_A rfl ?_ | refine DW_C rfl kf ?_ | refine DW_C rfl kl ?_ | refine DW_C rfl k1 ?_ | refine DW_C rfl k2 ?_ | refine DW_C rfl k3 ?_ | refine DW_C rfl kw ?_ | refine DW_C rfl r1 ?_ | refine DW_C rfl r2 ?_ | refine DW_row tabOK rfl ?_ | refine DW_app tabOK rfl rfl (by simp; omega) (by simp; omega) ?_ | refine DW_app0 tabOK rfl (by simp; omega) (by simp; omega) ?_)
          exact ⟨rfl, _, rfl, _, rfl, SubC.of_closed closed_bool⟩
      · rw [q1] at r1
        repeat' (first | refine DW_VB tabs rfl (by first | exact d5 | exact d1) ?_ | refine DW_VI tabs rfl (by first | exact w1 | exact w2) ?_ | refine DW_A tabs rfl ?_ | refine DW_nil ?_ | refine W_A rfl ?_ | refine DW_C rfl kf ?_ | refine DW_C rfl kl ?_ | refine DW_C rfl k1 ?_ | refine DW_C rfl k2 ?_ | refine DW_C rfl k3 ?_ | refine DW_C rfl kw ?_ | refine DW_C rfl r1 ?_ | refine DW_row tabOK rfl ?_ | refine DW_app tabOK rfl rfl (by simp; omega) (by simp; omega) ?_ | refine DW_app0 tabOK rfl (by simp; omega) (by simp; omega) ?_)
        exact ⟨rfl, _, rfl, _, rfl, SubC.of_closed closed_bool⟩
  · rw [hf] at kf
    repeat' (first | refine DW_VI tabs rfl w1 ?_ | refine DW_A tabs rfl ?_ | refine DW_nil ?_ | refine W_A rfl ?_ | refine DW_C rfl kf ?_ | refine DW_row tabOK rfl ?_ | refine DW_app tabOK rfl rfl (by simp; omega) (by simp; omega) ?_ | refine DW_app0 tabOK rfl (by simp; omega) (by simp; omega) ?_)
    exact ⟨rfl, _, rfl, _, rfl, SubC.of_closed closed_bool⟩
end Go.Proofs.YthdeopopodhimaaDoor

/- The statement on whole runs of a cursor: its function walked. No further condition. -/
set_option linter.unusedVariables false
set_option linter.unusedSimpArgs false
namespace Go.Proofs.YthdeopopodhimaaDoor
open Go.Ab

structure Opc where
  kind : Int
  key : Ky
def Opc.av (o : Opc) : AV := .agg [.int .i64 o.kind, .str o.key.path, .int .i64 o.key.time]
theorem closed_ops (l : List Opc) : Closed (.sl 3 (l.map Opc.av) .none) := closed_slmap (fun o => closed_agg (closed3 closed_int closed_str closed_int)) (fun o c hc => by
  have : c ∈ [AV.int .i64 o.kind, .str o.key.path, .int .i64 o.key.time] := hc
  exact closed3 closed_int closed_str closed_int c this)
def runM (T : Tr) (dir : Bytes) (m L : List Pr) (i : Nat) : Mem := ⟨2, [(0, .cells (curC T dir m)), (1, .cells (rcC L i))]⟩
def runF (ops : List Opc) (j : Nat) : AF := ⟨[(2, .sl 3 (ops.map Opc.av) .none), (8, .ptr 0 0), (12, .ptr 1 0), (13, .int .i64 (j : Int))], []⟩
theorem run_end {T : Tr} {dir : Bytes} {m L : List Pr} {i j n0 : Nat} {ops : List Opc} {f : AF} {M : Mem} (hn0 : n0 ≤ 2) (hd : f.d = []) (hn : 2 ≤ M.next) (h0 : M.get 0 = some (.cells (curC T dir m))) (h1 : M.get 1 = some (.cells (rcC L i)))
    (f2 : f.get 2 = .sl 3 (ops.map Opc.av) .none) (f8 : f.get 8 = .ptr 0 0) (f12 : f.get 12 = .ptr 1 0) (f13 : f.get 13 = .int .i64 (j : Int)) : Joint n0 f M (runF ops j) (runM T dir m L i) := by
  refine Joint.cut (k := 2) hn0 hn hd ⟨?_, ?_, ?_, ?_, trivial⟩ (objsC_closed (by omega) h0 (closed_curC T dir m) (objsC_closed (by omega) h1 (closed_rcC L i) trivial))
  · rw [f2]; exact SubC.of_closed (closed_ops ops)
  · rw [f8]; exact SubC.ptr rfl
  · rw [f12]; exact SubC.ptr rfl
  · rw [f13]; exact SubC.of_closed closed_int

set_option maxRecDepth 100000 in
set_option maxHeartbeats 8000000 in
theorem cursorRuns_ok (l : List Pr) (dir : Bytes) (ops : List Opc) (hl : l.length < 4611686018427387904) : APure Tryd.prog 4 [.sl 3 (l.map Pr.av) .none, .str dir, .sl 3 (ops.map Opc.av) .none] (.bool true) := by
  refine pure_sub (closed3 (closed_prs l) closed_str (closed_ops ops)) (closed_bool) ?_
  refine acalls_of tabOK Tryd.func4 rfl (by decide) (by simp [Tryd.f4]) ?_
  have kf := far_ok l .none hl dir
  have lo := len_map Opc.av ops
  cases hf : farB l dir
  · rw [hf] at kf
    unfold farB at hf
    obtain ⟨hf1, hf2⟩ := Bool.or_eq_false_iff.1 hf
    have hf2 := of_decide_eq_false hf2
    obtain ⟨hl1, hall, hl2, hr, hsh⟩ := small_of hf1
    by_cases h5 : 100 < ops.length
    · have d5 : decide ((100 : Int) < (ops.length : Int)) = true := decide_eq_true (by omega)
      repeat' (first | refine DW_VB tabs rfl d5 ?_ | refine DW_VI tabs rfl lo ?_ | refine DW_box 60 tabOK rfl ?_ | refine DW_A tabs rfl ?_ | refine DW_nil ?_ | refine W_A rfl ?_ | refine DW_C rfl kf ?_ | refine DW_nilc tabOK rfl ?_)
      exact ⟨rfl, _, rfl, _, rfl, SubC.of_closed closed_bool⟩
    · have d5 : decide ((100 : Int) < (ops.length : Int)) = false := decide_eq_false (by omega)
      have kl := laid_ok l .none hl1
      have kw := walked_ok
      have ka := tAll_ok (laidT l) (by rw [hall]; omega)
      have ku := rcUnder_ok (laidL l) (by omega) (fun p hp => by have := (bigB_no hf1).2 p (laid_mem hp); omega) .none (.inl rfl) dir (by omega)
      rw [hall] at ka
      cases hp : isPathB dir
      · have kb := newBad_ok (laidT l) dir (by omega) hp
        unfold underR unA at ku
        rw [hp] at ku
        unfold Tr.av at kl ka kb
        repeat' (first | refine DW_VB tabs rfl d5 ?_ | refine DW_VI tabs rfl lo ?_ | refine DW_box 60 tabOK rfl ?_ | refine DW_A tabs rfl ?_ | refine DW_nil ?_ | refine W_A rfl ?_ | refine DW_C rfl kf ?_ | refine DW_C rfl kl ?_ | refine DW_C rfl ka ?_ | refine DW_C rfl kb ?_ | refine DW_C rfl ku ?_ | refine DW_C rfl kw ?_ | refine DW_nilc tabOK rfl ?_)
        exact ⟨rfl, _, rfl, _, rfl, SubC.of_closed closed_bool⟩
      · have kn := new_ok' (laidT l) (by rw [hall]; omega) dir (by omega) hp
        rw [hall] at kn
        unfold underR at ku
        rw [hp, if_pos rfl] at ku
        unfold unA at ku
        have hnx := fun (m : List Pr) (hm : m.Sublist (laidL l)) => next_ok (laidT l) dir (by omega) m (fun p hp => hsh p (hm.subset hp))
        have hsk := fun (m : List Pr) (hm : m.Sublist (laidL l)) => skip_ok (laidT l) dir (by omega) m (fun p hp => hsh p (hm.subset hp))
        have hse := fun (m : List Pr) (k : Ky) => cur_cut (closed_tup (by simp)) (seek_raw (laidT l) (by rw [hall]; omega) dir m k)
        rw [hall] at hse
        have hLl : ((laidL l).filter fun p => underB dir p.key.path).length ≤ 80 := Nat.le_trans List.filter_sublist.length_le hl2
        have hal0 := alike_new (laidL l) dir
        have haln := @alike_next (laidL l) dir
        have hals := @alike_skip (laidL l) hr dir
        have halk := @alike_seek (laidL l) hr dir
        generalize hLe : ((laidL l).filter fun p => underB dir p.key.path) = L at *
        have hrn := fun (i : Nat) (hi : i ≤ L.length) => rc_cut (closed_pb _) (rcNext_raw L (by omega) i (by omega))
        have hrs := fun (i : Nat) (hi : i ≤ L.length) => rc_cut (closed_sb _) (rcSkip_raw L (by omega) i (by omega))
        have hrk := fun (i : Nat) (k : Ky) => rc_cut (closed_tup (by simp)) (rcSeek_raw L (by omega) i k)
        generalize laidL l = A at *
        unfold Tr.av at kl ka kn
        repeat' (first | refine DW_VB tabs rfl d5 ?_ | refine DW_VI tabs rfl lo ?_ | refine DW_box 60 tabOK rfl ?_ | refine DW_A tabs rfl ?_ | refine DW_nil ?_ | refine W_A rfl ?_ | refine DW_C rfl kf ?_ | refine DW_C rfl kl ?_ | refine DW_C rfl ka ?_ | refine DW_C rfl ku ?_ | refine DW_nilc tabOK rfl ?_)
        refine DW_CM rfl rfl kn ?_ (fun u M' h => by cases h.1)
        rintro u N ⟨e, rfl⟩
        cases e
        repeat' (first | refine DW_VB tabs rfl d5 ?_ | refine DW_VI tabs rfl lo ?_ | refine DW_box 60 tabOK rfl ?_ | refine DW_A tabs rfl ?_ | refine DW_nil ?_ | refine W_A rfl ?_ | refine DW_C rfl kf ?_ | refine DW_C rfl kl ?_ | refine DW_C rfl ka ?_ | refine DW_C rfl ku ?_ | refine DW_nilc tabOK rfl ?_)
        refine W_count ops.length (fun j f N => ∃ (m : List Pr) (i : Nat), Alike A dir m i ∧ N = runM (laidT l) dir m L i ∧ f = runF ops j) (Nat.zero_le _) ⟨A, 0, hal0, rfl, rfl⟩ (Joint.le ?_ (Mem.le_cons rfl (Mem.le_cons rfl (Mem.le_nil rfl)))) ?_
        · unfold runF
          repeat (refine AF.le_cons rfl ?_)
          exact AF.le_nil rfl
        rintro j f N hj ⟨m, i, hal, rfl, rfl⟩
        unfold runM runF
        have hms := hal.sub
        have hil : i ≤ L.length := hLe ▸ hal.le
        by_cases h1 : j < ops.length
        · have d1 : decide ((j : Int) < (ops.length : Int)) = true := decide_eq_true (by omega)
          have hx : ops[j]? = some ops[j] := List.getElem?_eq_getElem h1
          have fi := wrap_succ (i := j) (by omega)
          generalize ops[j] = o at hx
          by_cases o1 : o.kind = 1
          · have g1 : decide (o.kind = 1) = true := decide_eq_true o1
            obtain ⟨ha1, ha2⟩ := haln hal
            have k1 := hnx m hms
            have k2 := hrn i hil
            rw [ha1] at k2
            generalize (nextC (skipU dir m)).2 = m' at k1 ha2
            generalize (nextC (skipU dir m)).1 = z at k1 k2
            obtain ⟨x, b⟩ := z
            have g2 := (pr_neB x x).trans (show (!decide (x = x)) = false by simp)
            have g3 : (b != b) = false := by cases b <;> rfl
            repeat' (first | refine DW_VB tabs rfl (by first | exact d1 | exact g1) ?_ | refine DW_VI tabs rfl (by first | exact lo | exact fi) ?_ | refine DW_box 60 tabOK rfl ?_ | refine DW_A tabs rfl ?_ | refine DW_nil ?_ | refine W_A rfl ?_ | refine DW_ix tabOK rfl (ixN hx) ?_ | refine DW_nilc tabOK rfl ?_)
            refine DW_CM rfl rfl (cur_frame (R := fun e N => e = .ret (pb (x, b)) ∧ N = _) 0 rfl (Nat.zero_lt_succ _) k1 (closed_pb _) ⟨InV.ptr rfl, trivial⟩ ⟨rfl, rfl⟩) ?_ (fun u M' h => by cases h.1)
            rintro u N ⟨e, rfl⟩
            cases e
            unfold pb
            repeat' (first | refine DW_box 60 tabOK rfl ?_ | refine DW_A tabs rfl ?_ | refine DW_nil ?_ | refine W_A rfl ?_ | refine DW_nilc tabOK rfl ?_)
            refine DW_CM rfl rfl (rc_frame (R := fun e N => e = .ret (pb (x, b)) ∧ N = _) 1 rfl (Nat.succ_lt_succ (Nat.zero_lt_succ _)) k2 (closed_pb _) ⟨InV.ptr rfl, trivial⟩ ⟨rfl, rfl⟩) ?_ (fun u M' h => by cases h.1)
            rintro u N ⟨e, rfl⟩
            cases e
            unfold pb
            repeat' (first | refine DW_VB tabs rfl (by first | exact g2 | exact g3) ?_ | refine DW_VI tabs rfl fi ?_ | refine DW_box 60 tabOK rfl ?_ | refine DW_A tabs rfl ?_ | refine DW_nil ?_ | refine W_A rfl ?_ | refine DW_nilc tabOK rfl ?_)
            exact ⟨h1, runF ops (j + 1), runM (laidT l) dir m' L (rnextI L i), ⟨m', _, ha2, rfl, rfl⟩, run_end (Nat.le_refl 2) rfl (Nat.le_add_left 2 _) rfl rfl rfl rfl rfl rfl⟩
          · have g1 : decide (o.kind = 1) = false := decide_eq_false o1
            by_cases o2 : o.kind = 2
            · have g2 : decide (o.kind = 2) = true := decide_eq_true o2
              obtain ⟨ha1, ha2⟩ := hals hal
              have k1 := hsk m hms
              have k2 := hrs i hil
              rw [ha1] at k2
              generalize (skipC (skipU dir m)).2 = m' at k1 ha2
              generalize (skipC (skipU dir m)).1 = z at k1 k2
              obtain ⟨x, b⟩ := z
              have g3 : (b != b) = false := by cases b <;> rfl
              have g4 : (!(x == x)) = false := by simp
              repeat' (first | refine DW_VB tabs rfl (by first | exact d1 | exact g1 | exact g2) ?_ | refine DW_VI tabs rfl (by first | exact lo | exact fi) ?_ | refine DW_box 60 tabOK rfl ?_ | refine DW_A tabs rfl ?_ | refine DW_nil ?_ | refine W_A rfl ?_ | refine DW_ix tabOK rfl (ixN hx) ?_ | refine DW_nilc tabOK rfl ?_)
              refine DW_CM rfl rfl (cur_frame (R := fun e N => e = .ret (sb (x, b)) ∧ N = _) 0 rfl (Nat.zero_lt_succ _) k1 (closed_sb _) ⟨InV.ptr rfl, trivial⟩ ⟨rfl, rfl⟩) ?_ (fun u M' h => by cases h.1)
              rintro u N ⟨e, rfl⟩
              cases e
              unfold sb
              repeat' (first | refine DW_box 60 tabOK rfl ?_ | refine DW_A tabs rfl ?_ | refine DW_nil ?_ | refine W_A rfl ?_ | refine DW_nilc tabOK rfl ?_)
              refine DW_CM rfl rfl (rc_frame (R := fun e N => e = .ret (sb (x, b)) ∧ N = _) 1 rfl (Nat.succ_lt_succ (Nat.zero_lt_succ _)) k2 (closed_sb _) ⟨InV.ptr rfl, trivial⟩ ⟨rfl, rfl⟩) ?_ (fun u M' h => by cases h.1)
              rintro u N ⟨e, rfl⟩
              cases e
              unfold sb
              repeat' (first | refine DW_VB tabs rfl (by first | exact g3 | exact g4) ?_ | refine DW_VI tabs rfl fi ?_ | refine DW_box 60 tabOK rfl ?_ | refine DW_A tabs rfl ?_ | refine DW_nil ?_ | refine W_A rfl ?_ | refine DW_nilc tabOK rfl ?_)
              exact ⟨h1, runF ops (j + 1), runM (laidT l) dir m' L (rskipI L i), ⟨m', _, ha2, rfl, rfl⟩, run_end (Nat.le_refl 2) rfl (Nat.le_add_left 2 _) rfl rfl rfl rfl rfl rfl⟩
            · have g2 : decide (o.kind = 2) = false := decide_eq_false o2
              by_cases o3 : o.kind = 3
              · have g3 : decide (o.kind = 3) = true := decide_eq_true o3
                have ha2 := halk o.key
                have k1 := hse m o.key
                have k2 := hrk i o.key
                repeat' (first | refine DW_VB tabs rfl (by first | exact d1 | exact g1 | exact g2 | exact g3) ?_ | refine DW_VI tabs rfl (by first | exact lo | exact fi) ?_ | refine DW_box 60 tabOK rfl ?_ | refine DW_A tabs rfl ?_ | refine DW_nil ?_ | refine W_A rfl ?_ | refine DW_ix tabOK rfl (ixN hx) ?_ | refine DW_nilc tabOK rfl ?_)
                refine DW_CM rfl rfl (cur_frame (R := fun e N => e = .ret (.tup []) ∧ N = _) 0 rfl (Nat.zero_lt_succ _) k1 (closed_tup (by simp)) ⟨InV.ptr rfl, .closed (closed_ky _), trivial⟩ ⟨rfl, rfl⟩) ?_ (fun u M' h => by cases h.1)
                rintro u N ⟨e, rfl⟩
                cases e
                repeat' (first | refine DW_box 60 tabOK rfl ?_ | refine DW_A tabs rfl ?_ | refine DW_nil ?_ | refine W_A rfl ?_ | refine DW_ix tabOK rfl (ixN hx) ?_ | refine DW_nilc tabOK rfl ?_)
                refine DW_CM rfl rfl (rc_frame (R := fun e N => e = .ret (.tup []) ∧ N = _) 1 rfl (Nat.succ_lt_succ (Nat.zero_lt_succ _)) k2 (closed_tup (by simp)) ⟨InV.ptr rfl, .closed (closed_ky _), trivial⟩ ⟨rfl, rfl⟩) ?_ (fun u M' h => by cases h.1)
                rintro u N ⟨e, rfl⟩
                cases e
                repeat' (first | refine DW_VI tabs rfl fi ?_ | refine DW_box 60 tabOK rfl ?_ | refine DW_A tabs rfl ?_ | refine DW_nil ?_ | refine W_A rfl ?_ | refine DW_nilc tabOK rfl ?_)
                exact ⟨h1, runF ops (j + 1), runM (laidT l) dir (fromP A o.key) L (findP L o.key), ⟨_, _, ha2, rfl, rfl⟩, run_end (Nat.le_refl 2) rfl (Nat.le_add_left 2 _) rfl rfl rfl rfl rfl rfl⟩
              · have g3 : decide (o.kind = 3) = false := decide_eq_false o3
                repeat' (first | refine DW_VB tabs rfl (by first | exact d1 | exact g1 | exact g2 | exact g3) ?_ | refine DW_VI tabs rfl (by first | exact lo | exact fi) ?_ | refine DW_box 60 tabOK rfl ?_ | refine DW_A tabs rfl ?_ | refine DW_nil ?_ | refine W_A rfl ?_ | refine DW_ix tabOK rfl (ixN hx) ?_ | refine DW_nilc tabOK rfl ?_)
                exact ⟨h1, runF ops (j + 1), runM (laidT l) dir m L i, ⟨m, i, hal, rfl, rfl⟩, run_end (Nat.le_refl 2) rfl (Nat.le_refl 2) rfl rfl rfl rfl rfl rfl⟩
        · have d1 : decide ((j : Int) < (ops.length : Int)) = false := decide_eq_false (by omega)
          repeat' (first | refine DW_VB tabs rfl d1 ?_ | refine DW_VI tabs rfl lo ?_ | refine DW_box 60 tabOK rfl ?_ | refine DW_A tabs rfl ?_ | refine DW_nil ?_ | refine W_A rfl ?_ | refine DW_C rfl kw ?_ | refine DW_nilc tabOK rfl ?_)
          exact ⟨rfl, _, rfl, _, rfl, SubC.of_closed closed_bool⟩
  · rw [hf] at kf
    repeat' (first | refine DW_VI tabs rfl lo ?_ | refine DW_box 60 tabOK rfl ?_ | refine DW_A tabs rfl ?_ | refine DW_nil ?_ | refine W_A rfl ?_ | refine DW_C rfl kf ?_ | refine DW_nilc tabOK rfl ?_)
    exact ⟨rfl, _, rfl, _, rfl, SubC.of_closed closed_bool⟩
end Go.Proofs.YthdeopopodhimaaDoor

/- Steps of a cursor's script, read as values. No further condition. -/
set_option linter.unusedVariables false
set_option linter.unusedSimpArgs false
namespace Go.Proofs.YthdeopopodhimaaDoor
open Go.Ab Go.RowKit Go.ChangeShapes Go.WideShapes Go.ChangeAt
theorem ops_of {x : AV} (h : Go.Ab.shape tab 8 35 [x]) : ∃ l : List Opc, x = .sl 3 (l.map Opc.av) .none ∧ l.length ≤ reachBytes := by
  obtain ⟨xs, hx, hb, hall⟩ := h
  cases hx
  obtain ⟨l, rfl⟩ := list_of (f := Opc.av) (xs := xs) fun y hy => by
    obtain ⟨c, rfl, a, b, rfl, ⟨k, rfl, _⟩, a2, b2, rfl, ⟨c1, d1, rfl, ⟨p, rfl, _⟩, c2, d2, rfl, ⟨t, rfl, _⟩, rfl⟩, rfl⟩ := hall y hy
    exact ⟨⟨k, ⟨p, t⟩⟩, rfl⟩
  exact ⟨l, rfl, by simpa using hb⟩
end Go.Proofs.YthdeopopodhimaaDoor
