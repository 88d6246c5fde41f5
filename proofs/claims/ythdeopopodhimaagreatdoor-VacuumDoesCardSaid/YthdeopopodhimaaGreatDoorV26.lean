/- Parts of the proof, one behind the other: SLaw, StoQ, SLawB, VLawC, VLawD, AbR1, AbR2. No further condition. -/
import Derived.Test.YthdeopopodhimaaGreatDoorV25
import Derived.Test.YthdeopopodhimaaGreatDoorV23
import Derived.Test.YthdeopopodhimaaGreatDoorV07
import Derived.ProofKit
import Derived.ReadAgain
set_option linter.unusedVariables false
set_option linter.unusedSimpArgs false
/- Batches laid one behind the other. No further condition. -/
set_option linter.unusedVariables false
set_option linter.unusedSimpArgs false
namespace Go.Proofs.YthdeopopodhimaaGreatDoor
open Go.Ab

theorem openE_lit {l : List Pr} : True := trivial
def sizedC (p : Bytes) (n : Int) : Ch := ⟨p, false, ⟨n, 0, []⟩⟩
/-- One that has no row of chunks: a nil one. -/
def sizedA (p : Bytes) (n : Int) : AV := .agg [.str p, .bool false, .int .i64 n, .int .i64 0, .sl 0 [] .full]
theorem closed_sizedA (p : Bytes) (n : Int) : Closed (sizedA p n) := closed_agg (by
  intro x hx
  simp at hx
  rcases hx with rfl | rfl | rfl | rfl | rfl
  · exact closed_str
  · exact closed_bool
  · exact closed_int
  · exact closed_int
  · exact closed_sl (.inr rfl) (by simp) (by simp))
theorem sub_sizedA {p : Bytes} {n : Int} : Sub (sizedA p n) (sizedC p n).av := Sub.aggL ⟨Sub.refl, Sub.refl, Sub.refl, Sub.refl, Sub.nil, trivial⟩
set_option maxRecDepth 100000 in
set_option maxHeartbeats 8000000 in
theorem sized_ok (p : Bytes) (n : Int) : APure Tryz.prog 80 [.str p, .int .i64 n] (sizedC p n).av := by
  refine pure_sub (closed2 closed_str closed_int) (closed_ch _) ?_
  refine acalls_of tabOK Tryz.func80 rfl (by decide) (by simp [Tryz.f80]) ?_
  repeat' (first | refine DW_A tabs rfl ?_ | refine DW_nil ?_ | refine W_A rfl ?_)
  exact ⟨rfl, _, rfl, _, rfl, SubC.pre sub_sizedA (SubC.of_closed (closed_ch _))⟩

/-- A store of batches, and those that were laid. -/
noncomputable def laidS : List Ld → Tr × List Ld
  | l => l.foldl (fun (s : Tr × List Ld) x => if layB s.1.all x.at_ x.batch = true then (layT s.1 x.at_ x.batch, s.2 ++ [x]) else s) (nilT, [])
theorem laidS_step {l : List Ld} {i : Nat} {x : Ld} (ht : l.take (i + 1) = l.take i ++ [x]) : laidS (l.take (i + 1)) = if layB (laidS (l.take i)).1.all x.at_ x.batch = true then (layT (laidS (l.take i)).1 x.at_ x.batch, (laidS (l.take i)).2 ++ [x]) else laidS (l.take i) := by
  unfold laidS
  rw [ht, List.foldl_append]
  rfl
def smallL (l : List Ld) : Prop := ∀ x, x ∈ l → x.batch.length ≤ 25 ∧ ∀ c, c ∈ x.batch → c.path.length ≤ 200 ∧ c.meta_.ch.length ≤ 30
theorem valueM_len (m : Mt) (no : Bool) (h : m.ch.length ≤ 30) : (valueM m no).1.length < 1000 := by
  unfold valueM putM
  split
  · simp
  · split
    · split
      · have := catN_len (mtL m)
        have hl : (mtL m).length = 3 + m.ch.length := by simp [mtL]; omega
        simp
        omega
      · simp
    · simp
theorem foldP_mem {at_ : Int} : ∀ (c : List Ch) (l : List Pr) (p : Pr), p ∈ c.foldl (fun l x => putP l (chP at_ x)) l → p ∈ l ∨ ∃ x, x ∈ c ∧ p = chP at_ x
  | [], l, p, h => .inl h
  | x :: r, l, p, h => by
    rcases foldP_mem r (putP l (chP at_ x)) p h with h | ⟨y, hy, e⟩
    · rcases putP_mem h with rfl | h
      · exact .inr ⟨x, by simp, rfl⟩
      · exact .inl h
    · exact .inr ⟨y, by simp [hy], e⟩
/-- What is laid in small batches stays small. -/
def okS (t : Tr) (n : Nat) : Prop := t.all.length ≤ n ∧ ∀ p, p ∈ t.all → p.key.path.length ≤ 200 ∧ p.val.length < 1000
theorem okS_lay {t : Tr} {n : Nat} {at_ : Int} {c : List Ch} (h : okS t n) (hn : n < 100000) (hl : c.length ≤ 25) (hc : ∀ x, x ∈ c → x.path.length ≤ 200 ∧ x.meta_.ch.length ≤ 30) : okS (layT t at_ c) (n + 25) := by
  have h1 := layT_len (at_ := at_) c t (by have := h.1; omega)
  refine ⟨by have := h.1; omega, fun p hp => ?_⟩
  rw [h1.2] at hp
  rcases foldP_mem c _ p hp with hp | ⟨x, hx, rfl⟩
  · exact h.2 p hp
  · exact ⟨(hc x hx).1, valueM_len _ _ (hc x hx).2⟩
theorem okS.vals {t : Tr} {n : Nat} (h : okS t n) : valsB t.all := fun p hp => by have := h.2 p hp; omega
theorem laidS_ok {l : List Ld} (hs : smallL l) : ∀ i, i ≤ l.length → i ≤ 20 → okS (laidS (l.take i)).1 (25 * i) ∧ (laidS (l.take i)).2.length ≤ i ∧ ∀ x, x ∈ (laidS (l.take i)).2 → x ∈ l
  | 0, _, _ => ⟨⟨Nat.le_refl 0, fun p hp => by cases hp⟩, Nat.le_refl 0, fun x hx => by cases hx⟩
  | i + 1, h, h20 => by
    obtain ⟨h1, h2, h3⟩ := laidS_ok hs i (by omega) (by omega)
    have hx : l[i]? = some l[i] := List.getElem?_eq_getElem (by omega)
    have hm := List.getElem_mem (show i < l.length by omega)
    rw [laidS_step (take_succ hx)]
    split
    · have hb := hs _ hm
      refine ⟨okS_lay (n := 25 * i) h1 (by omega) hb.1 hb.2, by simp; omega, fun x hx => ?_⟩
      rcases List.mem_append.1 hx with hx | hx
      · exact h3 x hx
      · simp at hx
        rw [hx]
        exact hm
    · exact ⟨⟨by have := h1.1; omega, h1.2⟩, by omega, h3⟩
noncomputable def lwF (l : List Ld) (tg : Tag) (i g : Nat) : AF := ⟨[(0, ldA l tg), (4, (laidS (l.take i)).1.av), (5, ldA (laidS (l.take i)).2 (.tok 0 g)), (6, .int .i64 (i : Int))], []⟩
noncomputable def lwA (l : List Ld) : AV := .tup [(laidS l).1.av, ldA (laidS l).2 .none]
theorem closed_lwA (l : List Ld) : Closed (lwA l) := closed_tup (closed2 (closed_tr _) (closed_lds _ (.inl rfl)))
set_option maxRecDepth 100000 in
set_option maxHeartbeats 8000000 in
theorem laid_ok (l : List Ld) (tg : Tag) (htg : tg = .none ∨ tg = .full) (hl : l.length ≤ 20) (hs : smallL l) : APure Tryz.prog 47 [ldA l tg] (lwA l) := by
  refine pure_sub (closed1 (closed_lds l htg)) (closed_lwA l) ?_
  refine acalls_of tabOK Tryz.func47 rfl (by decide) (by simp [Tryz.f47]) ?_
  have kn := new_ok
  have la := len_map Ld.av l
  unfold Tr.av at kn
  unfold ldA
  repeat' (first | refine DW_VI tabs rfl la ?_ | refine DW_A tabs rfl ?_ | refine DW_nil ?_ | refine W_A rfl ?_ | refine DW_C rfl kn ?_ | refine DW_nilc tabOK rfl ?_ | refine DW_row tabOK rfl ?_ | refine DW_app tabOK rfl rfl (by simp; omega) (by simp; omega) ?_ | refine DW_app0 tabOK rfl (by simp; omega) (by simp; omega) ?_ | refine W_draw mixed [0, 1, 2, 6, 7, 3, 4, 5, 8, 9, 10, 11, 12, 13, 14, 15, 16] [.P, .P, .P, .R, .R, .R, .P, .P, .R, .R, .R, .P, .P, .P, .P, .P, .P] rfl rfl (by kernel_rfl) ?_)
  refine W_count l.length (fun i f N => ∃ g, N = tokM g ∧ f = lwF l tg i g) (Nat.zero_le _) ⟨0, rfl, rfl⟩ ((Joint.tok 5 rfl (sz' := 2) (.inr rfl)).trans (Joint.le ?_ (tokM_of rfl rfl))) ?_
  · unfold lwF ldA
    repeat (refine AF.le_cons rfl ?_)
    exact AF.le_nil rfl
  rintro i f N hi ⟨g, rfl, rfl⟩
  unfold lwF ldA
  by_cases h1 : i < l.length
  · have d1 : decide ((i : Int) < (l.length : Int)) = true := by simp; omega
    have hx : l[i]? = some l[i] := List.getElem?_eq_getElem h1
    have fi := wrap_succ (i := i) (by omega)
    have ht := take_succ hx
    have hb := hs _ (List.getElem_mem h1)
    generalize l[i] = x at hx ht hb
    obtain ⟨q1, q2, q3⟩ := laidS_ok hs i (by omega) (by omega)
    have kl := lay_ok (laidS (l.take i)).1 x.at_ x.batch .none (.inl rfl) (by have := q1.1; omega) q1.vals (fun c hc => by have := hb.2 c hc; exact ⟨by omega, by omega⟩)
    have hst := laidS_step ht
    generalize hS : laidS (l.take i) = S at *
    obtain ⟨u, took⟩ := S
    have lt := len_map Ld.av took
    have q2' : took.length ≤ i := q2
    unfold layA at kl
    have hu := closed_tr u
    cases hb2 : layB u.all x.at_ x.batch
    · rw [if_neg (by simp [hb2])] at kl hst
      unfold Tr.av chA at kl
      unfold Tr.av
      repeat' (first | refine DW_VB tabs rfl d1 ?_ | refine DW_VI tabs rfl (by first | exact la | exact fi) ?_ | refine DW_A tabs rfl ?_ | refine DW_nil ?_ | refine W_A rfl ?_ | refine DW_C rfl kl ?_ | refine DW_ix tabOK rfl (ixN hx) ?_ | refine DW_nilc tabOK rfl ?_ | refine DW_row tabOK rfl ?_ | refine DW_app tabOK rfl rfl (by simp; omega) (by simp; omega) ?_ | refine DW_app0 tabOK rfl (by simp; omega) (by simp; omega) ?_ | refine W_draw mixed [0, 1, 2, 6, 7, 3, 4, 5, 8, 9, 10, 11, 12, 13, 14, 15, 16] [.P, .P, .P, .R, .R, .R, .P, .P, .R, .R, .R, .P, .P, .P, .P, .P, .P] rfl rfl (by kernel_rfl) ?_)
      refine ⟨h1, lwF l tg (i + 1) g, tokM g, ⟨g, rfl, rfl⟩, ?_⟩
      unfold lwF
      rw [hst]
      refine Joint.le ?_ (tokM_of rfl rfl)
      unfold Tr.av ldA
      repeat (refine AF.le_cons rfl ?_)
      exact AF.le_nil rfl
    · rw [if_pos hb2] at kl hst
      have hv := closed_tr (layT u x.at_ x.batch)
      unfold chA at kl
      generalize hV : layT u x.at_ x.batch = v at *
      unfold Tr.av at kl ⊢
      repeat' (first | refine DW_VB tabs rfl d1 ?_ | refine DW_VI tabs rfl (by first | exact la | exact lt | exact fi) ?_ | refine DW_A tabs rfl ?_ | refine DW_nil ?_ | refine W_A rfl ?_ | refine DW_C rfl kl ?_ | refine DW_ix tabOK rfl (ixN hx) ?_ | refine DW_nilc tabOK rfl ?_ | refine DW_row tabOK rfl ?_ | refine DW_app tabOK rfl rfl (by simp; omega) (by simp; omega) ?_ | refine DW_app0 tabOK rfl (by simp; omega) (by simp; omega) ?_ | refine W_draw mixed [0, 1, 2, 6, 7, 3, 4, 5, 8, 9, 10, 11, 12, 13, 14, 15, 16] [.P, .P, .P, .R, .R, .R, .P, .P, .R, .R, .R, .P, .P, .P, .P, .P, .P] rfl rfl (by kernel_rfl) ?_)
      refine ⟨h1, lwF l tg (i + 1) (g + 1), tokM (g + 1), ⟨g + 1, rfl, rfl⟩, ?_⟩
      unfold lwF
      rw [hst]
      refine Joint.le ?_ (tokM_of rfl rfl)
      have e : AV.sl 2 ((took ++ [x]).map Ld.av) (.tok 0 (g + 1)) = .sl 2 (took.map Ld.av ++ [x.av]) (.tok 0 (g + 1)) := by simp
      unfold ldA
      rw [e]
      unfold Tr.av
      repeat (refine AF.le_cons rfl ?_)
      exact AF.le_nil rfl
  · have d1 : decide ((i : Int) < (l.length : Int)) = false := by simp; omega
    obtain rfl : i = l.length := by omega
    rw [List.take_length]
    have hu := closed_tr (laidS l).1
    have hw := closed_lds (laidS l).2 (t := .none) (.inl rfl)
    unfold lwA
    generalize laidS l = S at *
    obtain ⟨u, took⟩ := S
    unfold Tr.av
    repeat' (first | refine DW_VB tabs rfl d1 ?_ | refine DW_VI tabs rfl la ?_ | refine DW_A tabs rfl ?_ | refine DW_nil ?_ | refine W_A rfl ?_ | refine DW_nilc tabOK rfl ?_ | refine DW_row tabOK rfl ?_ | refine DW_app tabOK rfl rfl (by simp; omega) (by simp; omega) ?_ | refine DW_app0 tabOK rfl (by simp; omega) (by simp; omega) ?_ | refine W_draw mixed [0, 1, 2, 6, 7, 3, 4, 5, 8, 9, 10, 11, 12, 13, 14, 15, 16] [.P, .P, .P, .R, .R, .R, .P, .P, .R, .R, .R, .P, .P, .P, .P, .P, .P] rfl rfl (by kernel_rfl) ?_)
    exact ⟨rfl, _, rfl, _, rfl, SubC.tup2 (SubC.of_closed hu) (SubC.untag hw)⟩
end Go.Proofs.YthdeopopodhimaaGreatDoor

/- Stores of batches: what was laid last is told. No further condition. -/
set_option linter.unusedVariables false
set_option linter.unusedSimpArgs false
namespace Go.Proofs.YthdeopopodhimaaGreatDoor
open Go.Ab

def lastAt (l : List Ld) : Int := l.foldl (fun _ x => x.at_) 0
theorem lastAt_snoc (l : List Ld) (x : Ld) : lastAt (l ++ [x]) = x.at_ := by simp [lastAt]
def hitL (x : Ld) (p : Bytes) (w : Int) : Option (Ch × Int) := if x.at_ ≤ w then (x.batch.find? fun c => c.path == p).map fun c => (c, x.at_) else none
def lastT (l : List Ld) (p : Bytes) (w : Int) : Option (Ch × Int) := l.foldl (fun r x => (hitL x p w).or r) none
theorem lastT_snoc (l : List Ld) (x : Ld) (p : Bytes) (w : Int) : lastT (l ++ [x]) p w = (hitL x p w).or (lastT l p w) := by simp [lastT]
def entT (p : Bytes) (r : Option (Ch × Int)) : Option En := r.bind fun y => if y.1.gone = true then none else some ⟨p, y.2, y.1.meta_⟩
structure LaidInv (t : Tr) (took : List Ld) : Prop where
  st : isSt t.all = true
  last : lastL t.all = lastAt took
  rises : ∀ (i : Nat) x, took[i]? = some x → lastAt (took.take i) < x.at_
  told : ∀ p w, atL t.all p w = entT p (lastT took p w)
theorem lay_inv {t : Tr} {took : List Ld} {x : Ld} (h : LaidInv t took) (hl : layB t.all x.at_ x.batch = true) (hn : t.all.length + x.batch.length < 10000000) : LaidInv (layT t x.at_ x.batch) (took ++ [x]) := by
  have hL := layB_parts hl
  have he := layT_all (t := t) (at_ := x.at_) (c := x.batch) hn
  have hr' := (layT t x.at_ x.batch).rise
  change Rise (layT t x.at_ x.batch).all at hr'
  rw [he] at hr'
  refine ⟨by rw [he]; exact lays_st hL, by rw [he, lastAt_snoc]; exact lays_last hL, ?_, ?_⟩
  · intro i y hy
    by_cases hi : i < took.length
    · rw [List.getElem?_append_left hi] at hy
      rw [List.take_append_of_le_length (by omega)]
      exact h.rises i y hy
    · have hi2 : i = took.length := by
        have := (List.getElem?_eq_some_iff.1 hy).1
        simp at this
        omega
      subst hi2
      simp at hy
      subst hy
      rw [List.take_left]
      have := hL.last
      rw [h.last] at this
      exact this
  · intro p w
    rw [he, lastT_snoc]
    by_cases hw : x.at_ ≤ w
    · cases hf : x.batch.find? fun c => c.path == p with
      | none =>
        have : hitL x p w = none := by unfold hitL; rw [if_pos hw, hf]; rfl
        rw [this, lays_old hL t.rise hr' (.inr fun c hc e => ?_), h.told]
        · rfl
        · rw [List.find?_eq_none] at hf
          have := hf c hc
          simp [e] at this
      | some c =>
        have hh : hitL x p w = some (c, x.at_) := by unfold hitL; rw [if_pos hw, hf]; rfl
        have hc := List.mem_of_find?_eq_some hf
        have hp : c.path = p := by have := List.find?_some hf; simpa using this
        subst hp
        rw [hh, lays_newest hL hr' hc hw]
        rfl
    · have : hitL x p w = none := by unfold hitL; rw [if_neg hw]
      rw [this, lays_old hL t.rise hr' (.inl (by omega)), h.told]
      rfl
theorem inv_nil : LaidInv nilT [] := ⟨rfl, rfl, fun i x h => by simp at h, fun p w => by
  rcases at_cases (l := nilT.all) List.Pairwise.nil (fun y hy => by cases hy) p w with ⟨y, hy, _⟩ | ⟨_, e⟩
  · cases hy.mem
  · rw [e]
    rfl⟩
theorem laid_inv {l : List Ld} (hs : smallL l) : ∀ i, i ≤ l.length → i ≤ 20 → LaidInv (laidS (l.take i)).1 (laidS (l.take i)).2
  | 0, _, _ => inv_nil
  | i + 1, h, h20 => by
    have ih := laid_inv hs i (by omega) (by omega)
    obtain ⟨h1, _, _⟩ := laidS_ok hs i (by omega) (by omega)
    have hx : l[i]? = some l[i] := List.getElem?_eq_getElem (by omega)
    have hm := hs _ (List.getElem_mem (show i < l.length by omega))
    rw [laidS_step (take_succ hx)]
    split
    · rename_i hb
      exact lay_inv ih hb (by have := h1.1; have := hm.1; omega)
    · exact ih
theorem laid_all_inv {l : List Ld} (hs : smallL l) (hl : l.length ≤ 20) : LaidInv (laidS l).1 (laidS l).2 ∧ okS (laidS l).1 500 ∧ (laidS l).2.length ≤ 20 ∧ ∀ x, x ∈ (laidS l).2 → x ∈ l := by
  have h1 := laid_inv hs l.length (Nat.le_refl _) hl
  obtain ⟨h2, h3, h4⟩ := laidS_ok hs l.length (Nat.le_refl _) hl
  rw [List.take_length] at h1 h2 h3 h4
  exact ⟨h1, ⟨by have := h2.1; omega, h2.2⟩, by omega, h4⟩
theorem openE_st {l : List Pr} (h : isSt l = true) (p : Bytes) (w : Int) : openE l p w = if isPathB p = false then 20 else if w < 0 then 1 else 0 := by
  unfold openE
  rw [if_neg (by simp [h])]
end Go.Proofs.YthdeopopodhimaaGreatDoor

/- The document's rows on stores. No further condition. -/
set_option linter.unusedVariables false
set_option linter.unusedSimpArgs false
namespace Go.Proofs.YthdeopopodhimaaGreatDoor
open Go.Ab

def m1 : Mt := ⟨1, 0, []⟩
def v1 : Bytes := (valueM m1 false).1
theorem read_v1 : readM v1 = (m1, false, 0) := readM_there (by decide)
def sA : Ch := sizedC [97] 1
def sB : Ch := sizedC [98] 1
def gA : Ch := ⟨[97], true, zeroMt⟩
def l1 : List Pr := [⟨⟨[97], 1⟩, v1⟩, ⟨⟨[98], 1⟩, v1⟩]
def l3 : List Pr := [⟨⟨[97], 3⟩, [0]⟩, ⟨⟨[97], 1⟩, v1⟩, ⟨⟨[98], 1⟩, v1⟩]
theorem okP_a1 : okP ⟨⟨[97], 1⟩, v1⟩ = true := by unfold okP; rw [read_v1]; decide
theorem okP_b1 : okP ⟨⟨[98], 1⟩, v1⟩ = true := by unfold okP; rw [read_v1]; decide
theorem okP_a3 : okP ⟨⟨[97], 3⟩, [0]⟩ = true := by decide
theorem st_l1 : isSt l1 = true := by simp [isSt, l1, okP_a1, okP_b1]
theorem st_l3 : isSt l3 = true := by simp [isSt, l3, okP_a1, okP_b1, okP_a3]
theorem last_l1 : lastL l1 = 1 := by unfold lastL; rw [if_pos st_l1]; rfl
theorem last_l3 : lastL l3 = 3 := by unfold lastL; rw [if_pos st_l3]; rfl
theorem lay_0 : layB [] 1 [sA, sB] = true := by decide
theorem lay_1 : layB l1 3 [gA] = true := by unfold layB; rw [st_l1, last_l1]; decide
theorem lay_3 : layB l3 3 [sA] = false := by unfold layB; rw [st_l3, last_l3]; decide
theorem layL_0 : layL [] 1 [sA, sB] = l1 := rfl
theorem layL_1 : layL l1 3 [gA] = l3 := rfl
theorem openE_3 {p : Bytes} {w : Int} (hp : isPathB p = true) (hw : ¬ w < 0) : openE l3 p w = 0 := by
  unfold openE
  rw [if_neg (by rw [st_l3]; simp), if_neg (by rw [hp]; simp), if_neg hw]
theorem at_a2 : atL l3 [97] 2 = some ⟨[97], 1, m1⟩ := by
  show atP [97] ⟨⟨[97], 1⟩, v1⟩ = _
  unfold atP
  rw [read_v1]
  rfl
theorem at_a3 : atL l3 [97] 3 = none := rfl
theorem at_a9 : atL l3 [97] 9 = none := rfl
theorem at_b2 : atL l3 [98] 2 = some ⟨[98], 1, m1⟩ := by
  show atP [98] ⟨⟨[98], 1⟩, v1⟩ = _
  unfold atP
  rw [read_v1]
  rfl
theorem at_b9 : atL l3 [98] 9 = some ⟨[98], 1, m1⟩ := at_b2
theorem paths_3 : pathsU [] l3 = [[97], [98]] := by decide
theorem as_a2 : asOf l3 [97] 2 = (some ⟨[97], 1, m1⟩, 0) := by unfold asOf; rw [if_pos (openE_3 (by decide) (by decide)), at_a2]
theorem as_a3 : asOf l3 [97] 3 = (none, 0) := by unfold asOf; rw [if_pos (openE_3 (by decide) (by decide)), at_a3]
theorem ls_2 : listO l3 [] 2 = ([⟨[97], 1, m1⟩, ⟨[98], 1, m1⟩], 0) := by unfold listO listL; rw [if_pos (openE_3 (by decide) (by decide)), paths_3]; simp [at_a2, at_b2]
theorem ls_9 : listO l3 [] 9 = ([⟨[98], 1, m1⟩], 0) := by unfold listO listL; rw [if_pos (openE_3 (by decide) (by decide)), paths_3]; simp only [List.filterMap_cons, List.filterMap_nil, at_a9, at_b9]
theorem hs_3 : histO l3 [97] = ([⟨⟨[97], 3⟩, [0]⟩, ⟨⟨[97], 1⟩, v1⟩], 0) := by unfold histO; rw [if_pos (openE_3 (by decide) (by decide))]; rfl
noncomputable def tS : Tr := layT nilT 1 [sA, sB]
noncomputable def uS : Tr := layT tS 3 [gA]
theorem tS_all : tS.all = l1 := (layT_all (t := nilT) (by decide)).trans layL_0
theorem uS_all : uS.all = l3 := (layT_all (t := tS) (by rw [tS_all]; decide)).trans (by rw [tS_all]; exact layL_1)
theorem v1_len : v1.length < 1000 := valueM_len _ _ (by decide)
theorem vals_1 : valsB l1 := by
  intro p hp
  have := v1_len
  simp [l1] at hp
  rcases hp with rfl | rfl <;> exact ⟨by show 1 < 1000000; decide, by show v1.length < _; omega⟩
theorem vals_3 : valsB l3 := by
  intro p hp
  have := v1_len
  simp [l3] at hp
  rcases hp with rfl | rfl | rfl
  · exact ⟨by show 1 < 1000000; decide, by show 1 < 1000000; decide⟩
  · exact ⟨by show 1 < 1000000; decide, by show v1.length < _; omega⟩
  · exact ⟨by show 1 < 1000000; decide, by show v1.length < _; omega⟩
theorem slL {sz : Nat} {xs ys : List AV} {t : Tag} (hx : ∀ x, x ∈ xs → x.cells.length = sz) (hy : ∀ y, y ∈ ys → y.cells.length = sz) (hl : xs.length = ys.length) (h : ∀ (i : Nat) (x y : AV) (j : Nat) (a b : AV), xs[i]? = some x → ys[i]? = some y → x.cells[j]? = some a → y.cells[j]? = some b → Ab.Sub a b) : Ab.Sub (.sl sz xs t) (.sl sz ys t) := by
  intro μ F w v hr
  cases hr with
  | sl _ _ _ A cap ad vals hsz hcap hA hone hcell hrep htag =>
    have get : ∀ (i : Nat) (y : AV) (j : Nat) (b : AV), ys[i]? = some y → y.cells[j]? = some b → ∃ x a, xs[i]? = some x ∧ x.cells[j]? = some a := by
      intro i y j b h1 h2
      have hi : i < xs.length := by rw [hl]; exact (List.getElem?_eq_some_iff.1 h1).1
      have hj : j < sz := by rw [← hy y (List.mem_of_getElem? h1)]; exact (List.getElem?_eq_some_iff.1 h2).1
      have hm := hx xs[i] (List.getElem_mem hi)
      exact ⟨xs[i], _, List.getElem?_eq_getElem hi, List.getElem?_eq_getElem (by rw [hm]; exact hj)⟩
    rw [hl] at hcap hA htag ⊢
    refine .sl sz ys t A cap ad vals hy hcap hA ?_ ?_ ?_ htag
    · intro i y j b h1 h2
      obtain ⟨x, a, h3, h4⟩ := get i y j b h1 h2
      exact hone i x j a h3 h4
    · intro i y j b h1 h2
      obtain ⟨x, a, h3, h4⟩ := get i y j b h1 h2
      exact hcell i x j a h3 h4
    · intro i y j b h1 h2
      obtain ⟨x, a, h3, h4⟩ := get i y j b h1 h2
      exact h i x y j a b h3 h1 h4 h2 μ F w _ (hrep i x j a h3 h4)
theorem sub_gA : Ab.Sub (.sl 5 [.agg [.str [97], .bool true, .int .i64 0, .int .i64 0, .sl 0 [] .full]] .full) (chA [gA] .full) := by
  refine slL (by simp [AV.cells]) (by intro y hy; simp [gA] at hy; subst hy; rfl) rfl ?_
  intro i x y j a b h1 h2 h3 h4
  match i, h1, h2 with
  | 0, h1, h2 =>
    simp at h1 h2
    subst h1; subst h2
    match j, h3, h4 with
    | 0, h3, h4 => cases h3; cases h4; exact Sub.refl
    | 1, h3, h4 => cases h3; cases h4; exact Sub.refl
    | 2, h3, h4 => cases h3; cases h4; exact Sub.refl
    | 3, h3, h4 => cases h3; cases h4; exact Sub.refl
    | 4, h3, h4 => cases h3; cases h4; exact Sub.nil
    | j + 5, h3, h4 => simp [AV.cells] at h3
  | i + 1, h1, _ => simp at h1
theorem sh_ch (c : Ch) (h1 : c.path.length < 1000000) (h2 : c.meta_.ch.length < 1000000) : shortCh c := ⟨h1, h2⟩

set_option maxRecDepth 100000 in
set_option maxHeartbeats 8000000 in
theorem stored_ok : APure Tryz.prog 42 [] (.bool true) := by
  refine pure_sub (closedL_nil) (closed_bool) ?_
  refine acalls_of tabOK Tryz.func42 rfl (by decide) (by simp [Tryz.f42]) ?_
  have kn := new_ok
  have k1 := sized_ok [97] 1
  have k2 := sized_ok [98] 1
  have a1 := lay_ok nilT 1 [sA, sB] .full (.inr rfl) (by decide) (fun p hp => by cases hp) (fun c hc => by simp at hc; rcases hc with rfl | rfl <;> exact sh_ch _ (by decide) (by decide))
  have a2 := (lay_ok tS 3 [gA] .full (.inr rfl) (by rw [tS_all]; decide) (by rw [tS_all]; exact vals_1) (fun c hc => by simp at hc; subst hc; exact sh_ch _ (by decide) (by decide))).sub (args := [tS.av, .int .i64 3, .sl 5 [.agg [.str [97], .bool true, .int .i64 0, .int .i64 0, .sl 0 [] .full]] .full]) ⟨Sub.refl, Sub.refl, sub_gA, trivial⟩
  have hu : uS.all.length < 10000000 := by rw [uS_all]; decide
  have hv : valsB uS.all := by rw [uS_all]; exact vals_3
  have a3 := lay_ok uS 3 [sA] .full (.inr rfl) (by rw [uS_all]; decide) hv (fun c hc => by simp at hc; subst hc; exact sh_ch _ (by decide) (by decide))
  have b1 := asOf_ok uS hu hv [97] (by decide) 2
  have b2 := asOf_ok uS hu hv [97] (by decide) 3
  have c1 := list_ok uS hu hv [] (by decide) 2
  have c2 := list_ok uS hu hv [] (by decide) 9
  have d1 := history_ok uS hu hv [97] (by decide)
  have e1 := last_ok uS hu hv
  have f1 := isStore_ok uS hu hv
  unfold layA at a1 a2 a3
  rw [if_pos (show layB nilT.all 1 [sA, sB] = true from lay_0), show layT nilT 1 [sA, sB] = tS from rfl] at a1
  rw [if_pos (by rw [tS_all]; exact lay_1), show layT tS 3 [gA] = uS from rfl] at a2
  rw [if_neg (by rw [uS_all, lay_3]; simp)] at a3
  rw [uS_all, as_a2] at b1
  rw [uS_all, as_a3] at b2
  rw [uS_all, ls_2] at c1
  rw [uS_all, ls_9] at c2
  rw [uS_all, hs_3] at d1
  rw [uS_all, last_l3] at e1
  rw [uS_all, st_l3] at f1
  generalize tS = T at *
  generalize uS = U at *
  unfold Tr.av at *
  unfold chA at a1 a3
  repeat' (first | refine DW_A tabs rfl ?_ | refine DW_nil ?_ | refine W_A rfl ?_ | refine DW_C rfl kn ?_ | refine DW_C rfl k1 ?_ | refine DW_C rfl k2 ?_ | refine DW_C rfl a1 ?_ | refine DW_C rfl a2 ?_ | refine DW_C rfl a3 ?_ | refine DW_C rfl b1 ?_ | refine DW_C rfl b2 ?_ | refine DW_C rfl c1 ?_ | refine DW_C rfl c2 ?_ | refine DW_C rfl d1 ?_ | refine DW_C rfl e1 ?_ | refine DW_C rfl f1 ?_ | refine DW_ix tabOK rfl (⟨Int.le_refl 0, rfl⟩) ?_ | refine DW_row tabOK rfl ?_)
  exact ⟨rfl, _, rfl, _, rfl, SubC.of_closed closed_bool⟩
end Go.Proofs.YthdeopopodhimaaGreatDoor

/- Twice is as once. No further condition. -/
set_option linter.unusedVariables false
set_option linter.unusedSimpArgs false
namespace Go.Proofs.YthdeopopodhimaaGreatDoor
open Go.Ab

noncomputable def vlF (l : List Ld) (tg : Tag) (i : Nat) : AF := ⟨[(0, ldA l tg), (3, (laidS (l.take i)).1.av), (4, .int .i64 (i : Int))], []⟩
set_option maxRecDepth 100000 in
set_option maxHeartbeats 8000000 in
theorem vlaid_ok (l : List Ld) (tg : Tag) (htg : tg = .none ∨ tg = .full) (hl : l.length ≤ 20) (hs : smallL l) : APure Tryz.prog 50 [ldA l tg] (laidS l).1.av := by
  refine pure_sub (closed1 (closed_lds l htg)) (closed_tr _) ?_
  refine acalls_of tabOK Tryz.func50 rfl (by decide) (by simp [Tryz.f50]) ?_
  have kn := new_ok
  have la := len_map Ld.av l
  unfold Tr.av at kn
  unfold ldA
  repeat' (first | refine DW_VI tabs rfl la ?_ | refine DW_A tabs rfl ?_ | refine DW_nil ?_ | refine W_A rfl ?_ | refine DW_C rfl kn ?_ | refine DW_nilc tabOK rfl ?_ | refine W_draw mixed [0, 1, 2, 6, 7, 3, 4, 5, 8, 9, 10, 11, 12, 13, 14, 15, 16] [.P, .P, .P, .R, .R, .R, .P, .P, .R, .R, .R, .P, .P, .P, .P, .P, .P] rfl rfl (by kernel_rfl) ?_)
  refine W_count l.length (fun i f N => N = ⟨0, []⟩ ∧ f = vlF l tg i) (Nat.zero_le _) ⟨rfl, rfl⟩ (Joint.le ?_ (Mem.le_nil rfl)) ?_
  · unfold vlF ldA
    repeat (refine AF.le_cons rfl ?_)
    exact AF.le_nil rfl
  rintro i f N hi ⟨rfl, rfl⟩
  unfold vlF ldA
  by_cases h1 : i < l.length
  · have d1 : decide ((i : Int) < (l.length : Int)) = true := by simp; omega
    have hx : l[i]? = some l[i] := List.getElem?_eq_getElem h1
    have fi := wrap_succ (i := i) (by omega)
    have ht := take_succ hx
    have hb := hs _ (List.getElem_mem h1)
    generalize l[i] = x at hx ht hb
    obtain ⟨q1, q2, q3⟩ := laidS_ok hs i (by omega) (by omega)
    have kl := lay_ok (laidS (l.take i)).1 x.at_ x.batch .none (.inl rfl) (by have := q1.1; omega) q1.vals (fun c hc => by have := hb.2 c hc; exact ⟨by omega, by omega⟩)
    have hst := laidS_step ht
    have hl0 := closed_lds l htg
    generalize hS : laidS (l.take i) = S at *
    obtain ⟨u, took⟩ := S
    unfold layA at kl
    have hu := closed_tr u
    cases hb2 : layB u.all x.at_ x.batch
    · rw [if_neg (by simp [hb2])] at kl hst
      unfold chA at kl
      unfold Tr.av at kl ⊢
      repeat' (first | refine DW_VB tabs rfl d1 ?_ | refine DW_VI tabs rfl (by first | exact la | exact fi) ?_ | refine DW_A tabs rfl ?_ | refine DW_nil ?_ | refine W_A rfl ?_ | refine DW_C rfl kl ?_ | refine DW_ix tabOK rfl (ixN hx) ?_ | refine DW_nilc tabOK rfl ?_ | refine W_draw mixed [0, 1, 2, 6, 7, 3, 4, 5, 8, 9, 10, 11, 12, 13, 14, 15, 16] [.P, .P, .P, .R, .R, .R, .P, .P, .R, .R, .R, .P, .P, .P, .P, .P, .P] rfl rfl (by kernel_rfl) ?_)
      refine ⟨h1, vlF l tg (i + 1), ⟨0, []⟩, ⟨rfl, rfl⟩, ?_⟩
      refine Joint.cut (k := 0) (t := (vlF l tg (i + 1)).t) (l := []) (Nat.le_refl _) (Nat.zero_le _) rfl ⟨?_, ?_, ?_, trivial⟩ trivial
      · exact SubC.of_closed hl0
      · rw [hst]
        exact SubC.of_closed hu
      · exact SubC.of_closed closed_int
    · rw [if_pos hb2] at kl hst
      have hv := closed_tr (layT u x.at_ x.batch)
      unfold chA at kl
      generalize hV : layT u x.at_ x.batch = v at *
      unfold Tr.av at kl ⊢
      repeat' (first | refine DW_VB tabs rfl d1 ?_ | refine DW_VI tabs rfl (by first | exact la | exact fi) ?_ | refine DW_A tabs rfl ?_ | refine DW_nil ?_ | refine W_A rfl ?_ | refine DW_C rfl kl ?_ | refine DW_ix tabOK rfl (ixN hx) ?_ | refine DW_nilc tabOK rfl ?_ | refine W_draw mixed [0, 1, 2, 6, 7, 3, 4, 5, 8, 9, 10, 11, 12, 13, 14, 15, 16] [.P, .P, .P, .R, .R, .R, .P, .P, .R, .R, .R, .P, .P, .P, .P, .P, .P] rfl rfl (by kernel_rfl) ?_)
      refine ⟨h1, vlF l tg (i + 1), ⟨0, []⟩, ⟨rfl, rfl⟩, ?_⟩
      refine Joint.cut (k := 0) (t := (vlF l tg (i + 1)).t) (l := []) (Nat.le_refl _) (Nat.zero_le _) rfl ⟨?_, ?_, ?_, trivial⟩ trivial
      · exact SubC.of_closed hl0
      · rw [hst]
        exact SubC.of_closed hv
      · exact SubC.of_closed closed_int
  · have d1 : decide ((i : Int) < (l.length : Int)) = false := by simp; omega
    obtain rfl : i = l.length := by omega
    rw [List.take_length]
    have hu := closed_tr (laidS l).1
    generalize (laidS l).1 = u at *
    unfold Tr.av at hu ⊢
    repeat' (first | refine DW_VB tabs rfl d1 ?_ | refine DW_VI tabs rfl la ?_ | refine DW_A tabs rfl ?_ | refine DW_nil ?_ | refine W_A rfl ?_ | refine DW_nilc tabOK rfl ?_ | refine W_draw mixed [0, 1, 2, 6, 7, 3, 4, 5, 8, 9, 10, 11, 12, 13, 14, 15, 16] [.P, .P, .P, .R, .R, .R, .P, .P, .R, .R, .R, .P, .P, .P, .P, .P, .P] rfl rfl (by kernel_rfl) ?_)
    exact ⟨rfl, _, rfl, _, rfl, SubC.of_closed hu⟩
end Go.Proofs.YthdeopopodhimaaGreatDoor

/- Twice is as once: the law. No further condition. -/
set_option linter.unusedVariables false
set_option linter.unusedSimpArgs false
namespace Go.Proofs.YthdeopopodhimaaGreatDoor
open Go.Ab

set_option maxRecDepth 100000 in
set_option maxHeartbeats 8000000 in
theorem vacuumTwice_ok (l : List Ld) (w v : Int) (hl : ldsB l) : APure Tryz.prog 11 [ldA l .none, .int .i64 w, .int .i64 v] (.bool true) := by
  refine pure_sub (closed3 (closed_lds l (.inl rfl)) closed_int closed_int) (closed_bool) ?_
  refine acalls_of tabOK Tryz.func11 rfl (by decide) (by simp [Tryz.f11]) ?_
  have kb := bigL_ok l .none hl.1 hl.2
  cases h : bigL l
  · rw [h] at kb
    by_cases hm : v < w
    · have d0 : decide (v < w) = true := by simp [hm]
      unfold ldA at *
      repeat' (first | refine DW_VB tabs rfl d0 ?_ | refine DW_A tabs rfl ?_ | refine DW_nil ?_ | refine W_A rfl ?_ | refine DW_C rfl kb ?_)
      exact ⟨rfl, _, rfl, _, rfl, SubC.of_closed closed_bool⟩
    · have d0 : decide (v < w) = false := by simp; omega
      obtain ⟨hs, h20⟩ := bigL_no h |>.symm
      obtain ⟨hi, ho, _, _⟩ := laid_all_inv hs h20
      have km := vlaid_ok l .none (.inl rfl) h20 hs
      have kw := swept_ok
      have hst := hi.st
      have hvs := ho.vals
      have hln : (laidS l).1.all.length ≤ 500 := ho.1
      clear hi ho
      generalize (laidS l).1 = T at *
      have hr := T.rise
      change Rise T.all at hr
      have r1 := run_ok T (by omega) hvs w
      unfold runA at r1
      have ev : ∀ x : Int, vOk T.all x = !decide (x < 0) := fun x => by unfold vOk; rw [hst]; rfl
      by_cases hw : w < 0
      · have d1 : decide (w < 0) = true := by simp [hw]
        rw [if_neg (by rw [ev]; simp [hw])] at r1
        unfold ldA at *
        unfold Tr.av at km r1
        repeat' (first | refine DW_VB tabs rfl (by first | exact d0 | exact d1) ?_ | refine DW_A tabs rfl ?_ | refine DW_nil ?_ | refine W_A rfl ?_ | refine DW_C rfl kb ?_ | refine DW_C rfl km ?_ | refine DW_C rfl r1 ?_ | refine DW_C rfl kw ?_)
        exact ⟨rfl, _, rfl, _, rfl, SubC.of_closed closed_bool⟩
      · have d1 : decide (w < 0) = false := by simp [hw]
        have hv1 : vOk T.all w = true := by rw [ev]; simp [hw]
        have hv2 : vOk T.all v = true := by rw [ev]; simp; omega
        rw [if_pos hv1] at r1
        have r4 := run_ok T (by omega) hvs v
        unfold runA at r4
        rw [if_pos hv2] at r4
        have hA := runT_all (t := T) (by omega) w
        have hD := runT_all (t := T) (by omega) v
        have n1 := run_len hr w
        have n4 := run_len hr v
        have hk := vOk_run hv1 (Int.le_refl w)
        have hk2 := vOk_run (v := v) hv1 (by omega)
        have hz := run_scan hr w
        have hAv := run_vals hvs w
        have hAr := run_rise hr w
        have rr1 := run_run (l := T.all) (Int.le_refl w)
        have rr2 := run_run (l := T.all) (w := w) (v := v) (by omega)
        have n3 := run_len hAr v
        rw [rr2] at n3
        rw [← hA] at n1 n3 hk hk2 hz hAv rr1 rr2
        rw [← hD] at n4 n3 rr2
        generalize runT T w = A at *
        generalize runT T v = D at *
        have r2 := run_ok A (by omega) hAv w
        have r3 := run_ok A (by omega) hAv v
        unfold runA at r2 r3
        rw [if_pos hk, hz] at r2
        rw [if_pos hk2] at r3
        have hB := runT_all (t := A) (by omega) w
        have hC := runT_all (t := A) (by omega) v
        rw [rr1] at hB
        rw [rr2] at hC
        generalize runT A w = B at *
        generalize runT A v = C at *
        have a1 := tAll_ok A (by omega)
        have a2 := tAll_ok B (by rw [hB]; omega)
        have a3 := tAll_ok C (by rw [hC]; omega)
        have a4 := tAll_ok D (by omega)
        have s1 := same_ok A.all B.all .none .none (by omega) (by rw [hB]; omega)
        have s2 := same_ok C.all D.all .none .none (by rw [hC]; omega) (by omega)
        rw [decide_eq_true hB.symm] at s1
        rw [decide_eq_true hC] at s2
        have l1 := len_ok T
        have l2 := len_ok A
        generalize (scanD w T.all).2 = p1 at *
        generalize (scanD v T.all).2 = p2 at *
        generalize (scanD v A.all).2 = p3 at *
        have f1 : IntKind.wrap .i64 ((p1.length : Int) + (p3.length : Int)) = (p2.length : Int) := by
          have : (p1.length : Int) + (p3.length : Int) = (p2.length : Int) := by omega
          rw [this]
          exact Go.Ab.wrap_small (by omega) (by omega)
        have f2 : IntKind.wrap .i64 ((A.all.length : Int) + (p1.length : Int)) = (T.all.length : Int) := by
          have : (A.all.length : Int) + (p1.length : Int) = (T.all.length : Int) := by omega
          rw [this]
          exact Go.Ab.wrap_small (by omega) (by omega)
        have d2 : decide ((([] : List Ky).length : Int) = 0) = true := rfl
        have d3 : decide ((p2.length : Int) = (p2.length : Int)) = true := by simp
        have d4 : decide ((T.all.length : Int) = (T.all.length : Int)) = true := by simp
        unfold ldA at *
        unfold Tr.av at km r1 r2 r3 r4 a1 a2 a3 a4 l1 l2
        generalize T.all.length = n at *
        repeat' (first | refine DW_VB tabs rfl (by first | exact d0 | exact d1 | exact d2 | exact d3 | exact d4) ?_ | refine DW_VI tabs rfl (by first | exact f1 | exact f2) ?_ | refine DW_A tabs rfl ?_ | refine DW_nil ?_ | refine W_A rfl ?_ | refine DW_C rfl kb ?_ | refine DW_C rfl km ?_ | refine DW_C rfl r1 ?_ | refine DW_C rfl r2 ?_ | refine DW_C rfl r3 ?_ | refine DW_C rfl r4 ?_ | refine DW_C rfl kw ?_ | refine DW_C rfl a1 ?_ | refine DW_C rfl a2 ?_ | refine DW_C rfl a3 ?_ | refine DW_C rfl a4 ?_ | refine DW_C rfl s1 ?_ | refine DW_C rfl s2 ?_ | refine DW_C rfl l1 ?_ | refine DW_C rfl l2 ?_)
        exact ⟨rfl, _, rfl, _, rfl, SubC.of_closed closed_bool⟩
  · rw [h] at kb
    unfold ldA at *
    repeat' (first | refine DW_A tabs rfl ?_ | refine DW_nil ?_ | refine W_A rfl ?_ | refine DW_C rfl kb ?_)
    exact ⟨rfl, _, rfl, _, rfl, SubC.of_closed closed_bool⟩
end Go.Proofs.YthdeopopodhimaaGreatDoor

/- Arguments that a row hands in: what was read of them stands for abstract values. -/
set_option linter.unusedVariables false
set_option linter.unusedSimpArgs false
namespace Go.Ab
open Go.RowKit

def mu0 : Mu := fun _ => none
def fr0 : Frm := fun _ _ => False

theorem free0 (b o : Nat) : Free mu0 fr0 b o := ⟨fun h => h, by rintro ⟨id, h | ⟨e, g, h, _⟩⟩ <;> cases h⟩

structure RepCs (w : World) (l : List AV) (cs : List Value) : Prop where
  len : l.length = cs.length
  rep : ∀ (i : Nat) (x : AV) (v : Value), l[i]? = some x → cs[i]? = some v → Rep mu0 fr0 w x v ∧ v.oneCell' = true

def sizeT (τ : Tab) (e : TypeId) : Nat := match lookup τ e with | some i => i.size | none => 0
def elA (τ : Tab) (e : TypeId) (c : List AV) : AV := match lookup τ e with | some i => (if i.agg = true then .agg c else c.getD 0 .top) | none => .top

def shapes (sh : TypeId → List AV → Prop) : List (Nat × TypeId) → List AV → Prop
  | [], l => l = []
  | (_, ft) :: r, l => ∃ a b, l = a ++ b ∧ sh ft a ∧ shapes sh r b

/-- Cells of a type that is made of numbers, bools, strings, slices and structs. -/
def shape (τ : Tab) : Nat → TypeId → List AV → Prop
  | 0, _, _ => False
  | n + 1, t, l =>
    match lookup τ t with
    | none => False
    | some i =>
      match i.k with
      | .int k => ∃ m, l = [.int k m] ∧ (Lit.int k m).wf = true
      | .bool => ∃ b, l = [.bool b]
      | .str => ∃ s, l = [.str s] ∧ s.length ≤ reachBytes
      | .slice e => ∃ xs, l = [.sl (sizeT τ e) xs .none] ∧ xs.length ≤ reachBytes ∧ ∀ x, x ∈ xs → ∃ c, x = elA τ e c ∧ shape τ n e c
      | .struct fs => shapes (shape τ n) fs l
      | _ => False

def offsOK (τ : Tab) : List (Nat × TypeId) → Nat → Nat → Bool
  | [], o, s => o == s
  | (o', ft) :: r, o, s => o' == o && (match lookup τ ft with | some fi => offsOK τ r (o + fi.size) s | none => false)

def plainT (τ : Tab) : Nat → TypeId → Bool
  | 0, _ => false
  | n + 1, t =>
    match lookup τ t with
    | none => false
    | some i =>
      match i.k with
      | .int _ => true
      | .bool => true
      | .str => true
      | .slice e => plainT τ n e && (match lookup τ e with | some ei => decide (0 < ei.size) && decide (0 < ei.bytes) && (ei.agg || ei.size == 1) | none => false)
      | .struct fs => fs.all (fun p => plainT τ n p.2) && offsOK τ fs 0 i.size
      | _ => false

section
variable {H : Type} {enc : TypeId × Value → H} {P : Program} {τ : Tab} {w : World} {base : Nat} {spare : Nat → Bool} {held : Bool}

theorem repCs_one {x : AV} {v : Value} (h : Rep mu0 fr0 w x v) (h1 : v.oneCell' = true) : RepCs w [x] [v] := by
  refine ⟨rfl, ?_⟩
  intro i y u hy hu
  cases i with
  | zero => cases hy; cases hu; exact ⟨h, h1⟩
  | succ i => simp at hy

theorem repCs_app {l m : List AV} {c d : List Value} (h : RepCs w l c) (k : RepCs w m d) : RepCs w (l ++ m) (c ++ d) := by
  refine ⟨by simp [h.len, k.len], ?_⟩
  intro i x v hx hv
  by_cases hi : i < l.length
  · rw [List.getElem?_append_left hi] at hx
    rw [List.getElem?_append_left (by rw [← h.len]; exact hi)] at hv
    exact h.rep i x v hx hv
  · rw [List.getElem?_append_right (by omega)] at hx
    rw [List.getElem?_append_right (by rw [← h.len]; omega), ← h.len] at hv
    exact k.rep _ x v hx hv

/-- The fields, one after the other. -/
theorem fields_rep {n : Nat} {cs : List Value} {size : Nat} (hlen : cs.length = size) : ∀ (fs : List (Nat × TypeId)) (o : Nat), offsOK τ fs o size = true → o ≤ size →
    (∀ p, p ∈ fs → ∀ fi, lookup τ p.2 = some fi → ∃ l, RepCs w l ((cs.drop p.1).take fi.size) ∧ shape τ n p.2 l) → ∃ l, RepCs w l (cs.drop o) ∧ shapes (shape τ n) fs l
  | [], o, h, ho, _ => by
    simp only [offsOK, beq_iff_eq] at h
    refine ⟨[], ⟨by simp [hlen, h], by simp⟩, rfl⟩
  | (o', ft) :: r, o, h, ho, hall => by
    simp only [offsOK, Bool.and_eq_true, beq_iff_eq] at h
    obtain ⟨h1, h2⟩ := h
    subst h1
    split at h2
    case h_2 => cases h2
    rename_i fi hfi
    obtain ⟨a, ha, hsa⟩ := hall (o', ft) List.mem_cons_self fi hfi
    have hle : o' + fi.size ≤ size := by
      clear hall ha hsa
      have key : ∀ (r : List (Nat × TypeId)) (o : Nat), offsOK τ r o size = true → o ≤ size := by
        intro r
        induction r with
        | nil => intro o h; simp only [offsOK, beq_iff_eq] at h; omega
        | cons p r ih =>
          intro o h
          obtain ⟨po, pt⟩ := p
          simp only [offsOK, Bool.and_eq_true, beq_iff_eq] at h
          obtain ⟨h3, h4⟩ := h
          split at h4
          · have := ih _ h4; omega
          · cases h4
      exact key r _ h2
    obtain ⟨b, hb, hsb⟩ := fields_rep hlen r (o' + fi.size) h2 hle (fun p hp => hall p (List.mem_cons_of_mem _ hp))
    refine ⟨a ++ b, ?_, a, b, rfl, hsa, hsb⟩
    have e : cs.drop o' = (cs.drop o').take fi.size ++ cs.drop (o' + fi.size) := by
      rw [← List.drop_drop]
      exact (List.take_append_drop _ _).symm
    rw [e]
    exact repCs_app ha hb

theorem weightsAll_get {e : TypeId} : ∀ {l : List (DataW H)}, (DataW.weightsAll P e l).all (· ≤ reachBytes) = true → ∀ {i : Nat} {d : DataW H}, l[i]? = some d → (d.weights P e).all (· ≤ reachBytes) = true
  | [], _, i, _, hd => by simp at hd
  | a :: r, h, 0, d, hd => by
    cases hd
    simp only [DataW.weightsAll, List.all_append, Bool.and_eq_true] at h
    exact h.1
  | a :: r, h, i + 1, d, hd => by
    simp only [DataW.weightsAll, List.all_append, Bool.and_eq_true] at h
    exact weightsAll_get h.2 hd
theorem weightsEach_get : ∀ {ts : List TypeId} {l : List (DataW H)}, (DataW.weightsEach P ts l).all (· ≤ reachBytes) = true → ∀ {i : Nat} {t : TypeId} {d : DataW H}, ts[i]? = some t → l[i]? = some d → (d.weights P t).all (· ≤ reachBytes) = true
  | [], _, _, i, _, _, ht, _ => by simp at ht
  | _ :: _, [], _, i, _, _, _, hd => by simp at hd
  | t :: ts, a :: r, h, 0, _, d, ht, hd => by
    cases hd
    cases ht
    simp only [DataW.weightsEach, List.all_append, Bool.and_eq_true] at h
    exact h.1
  | t :: ts, a :: r, h, i + 1, _, d, ht, hd => by
    simp only [DataW.weightsEach, List.all_append, Bool.and_eq_true] at h
    exact weightsEach_get h.2 ht hd

theorem trod_rep (hτ : TabOK P τ) : ∀ (n fuel : Nat) (t : TypeId) (cs : List Value) (x : DataW H × List MemPlace), plainT τ n t = true → DataW.trod enc P w base spare held fuel t cs = some x → (x.1.weights P t).all (· ≤ reachBytes) = true →
    ∃ l, RepCs w l cs ∧ shape τ n t l
  | 0, _, _, _, _, h, _, _ => by cases h
  | n + 1, fuel, t, cs, x, hp, h, hwt => by
    simp only [plainT] at hp
    split at hp
    case h_1 => cases hp
    rename_i i hi
    obtain ⟨f, fd, z, HI⟩ := TI.spec hτ hi
    have hf := HI.fits
    have hu := HI.und
    have hfuel : ∃ m, fuel = m + 1 := by
      cases fuel with
      | zero => simp [DataW.trod] at h
      | succ m => exact ⟨m, rfl⟩
    obtain ⟨m, rfl⟩ := hfuel
    have hsh : ∀ l, shape τ (n + 1) t l = (match i.k with
      | .int k => ∃ m, l = [.int k m] ∧ (Lit.int k m).wf = true
      | .bool => ∃ b, l = [.bool b]
      | .str => ∃ s, l = [.str s] ∧ s.length ≤ reachBytes
      | .slice e => ∃ xs, l = [.sl (sizeT τ e) xs .none] ∧ xs.length ≤ reachBytes ∧ ∀ x, x ∈ xs → ∃ c, x = elA τ e c ∧ shape τ n e c
      | .struct fs => shapes (shape τ n) fs l
      | _ => False) := fun l => by simp only [shape, hi]
    split at hp
    · rename_i k hk
      rw [hk] at hf
      cases fd <;> simp [TK.fits] at hf
      subst hf
      obtain ⟨n0, hcs, _, hwf⟩ := DataW.trod_int hu h
      subst hcs
      refine ⟨[.int k n0], repCs_one (.int _ _) rfl, ?_⟩
      rw [hsh, hk]
      exact ⟨n0, rfl, hwf⟩
    · rename_i hk
      rw [hk] at hf
      cases fd <;> simp [TK.fits] at hf
      obtain ⟨b0, hcs, _⟩ := DataW.trod_bool hu h
      subst hcs
      refine ⟨[.bool b0], repCs_one (.bool _) rfl, ?_⟩
      rw [hsh, hk]
      exact ⟨b0, rfl⟩
    · rename_i hk
      rw [hk] at hf
      cases fd <;> simp [TK.fits] at hf
      obtain ⟨s0, hcs, hx0, _⟩ := DataW.trod_string hu h
      subst hcs
      rw [hx0] at hwt
      have hle : s0.data.toList.length ≤ reachBytes := by simpa [DataW.weights] using hwt
      have hs := Rep.str (μ := mu0) (F := fr0) (w := w) s0.data.toList
      refine ⟨[.str s0.data.toList], repCs_one (by simpa using hs) rfl, ?_⟩
      rw [hsh, hk]
      exact ⟨_, rfl, hle⟩
    · rename_i e hk
      rw [hk] at hf
      cases fd <;> simp [TK.fits] at hf
      subst hf
      simp only [Bool.and_eq_true] at hp
      obtain ⟨hpe, hp2⟩ := hp
      split at hp2
      case h_2 => cases hp2
      rename_i ei hei
      simp only [Bool.and_eq_true, decide_eq_true_eq] at hp2
      obtain ⟨⟨hpos, hby⟩, hone⟩ := hp2
      obtain ⟨fe, de, ze, HE⟩ := TI.spec hτ hei
      have hce : P.cellsOf e = ei.size := HE.cellsOf
      have hsz : sizeT τ e = ei.size := by simp [sizeT, hei]
      rcases DataW.trod_slice hu h with ⟨rfl, _⟩ | ⟨a, len, cap, elems, rest, m', hm', rfl, hx0, hb, hlc, hcm, hel, hall, _⟩
      · refine ⟨[.sl ei.size [] .none], repCs_one ?_ rfl, ?_⟩
        · exact Rep.sl _ [] .none none 0 ⟨0, 0, none⟩ (fun _ => undef) (by simp) (by simp) (by simp) (by simp) (by simp) (by simp) trivial
        · rw [hsh, hk]
          exact ⟨[], by rw [hsz], by simp, by simp⟩
      · rw [hx0] at hwt
        have hbe : P.bytesOf e = ei.bytes := by simp [Program.bytesOf, HE.info, HE.bytes]
        simp only [DataW.weights, hu, List.all_cons, List.all_append, Bool.and_eq_true, decide_eq_true_eq, List.length_map] at hwt
        obtain ⟨hw1, hw2, _⟩ := hwt
        rw [hbe, hel] at hw1
        have hlr : len ≤ reachBytes := by
          have h1 : (len + rest.length) * 1 ≤ (len + rest.length) * ei.bytes := Nat.mul_le_mul_left _ hby
          omega
        have hget : ∀ i, i < len → ∃ cs' l, (w.cells? base (a.add (i * ei.size)) ei.size = some cs') ∧ RepCs w l cs' ∧ shape τ n e l := by
          intro i hi'
          have h1 := hall i hi'
          rw [hce] at h1
          have h2 : ∃ y, elems[i]? = some y := ⟨_, List.getElem?_eq_getElem (by omega)⟩
          obtain ⟨y, hy⟩ := h2
          rw [hy] at h1
          obtain ⟨cs', h3, h4⟩ := Option.bind_eq_some_iff.1 h1
          obtain ⟨l, h5, h6⟩ := trod_rep hτ n _ e cs' y hpe h4 (weightsAll_get hw2 (i := i) (by rw [List.getElem?_map, hy]; rfl))
          exact ⟨cs', l, h3, h5, h6⟩
        have hget' : ∀ i : Nat, ∃ p : List Value × List AV, i < len → (w.cells? base (a.add (i * ei.size)) ei.size = some p.1) ∧ RepCs w p.2 p.1 ∧ shape τ n e p.2 := by
          intro i
          by_cases hi' : i < len
          · obtain ⟨cs', l, h1, h2, h3⟩ := hget i hi'
            exact ⟨(cs', l), fun _ => ⟨h1, h2, h3⟩⟩
          · exact ⟨([], []), fun h => absurd h hi'⟩
        obtain ⟨CL, hCL0⟩ := Classical.axiomOfChoice hget'
        obtain ⟨C, hC⟩ : ∃ C : Nat → List Value, ∀ i, C i = (CL i).1 := ⟨_, fun _ => rfl⟩
        obtain ⟨L, hL0⟩ : ∃ L : Nat → List AV, ∀ i, L i = (CL i).2 := ⟨_, fun _ => rfl⟩
        have hCL : ∀ i, i < len → (w.cells? base (a.add (i * ei.size)) ei.size = some (C i)) ∧ RepCs w (L i) (C i) ∧ shape τ n e (L i) := by
          intro i hi'
          rw [hC, hL0]
          exact hCL0 i hi'
        have hlenL : ∀ i, i < len → (L i).length = ei.size := by
          intro i hi'
          obtain ⟨h1, h2, _⟩ := hCL i hi'
          rw [h2.len]
          exact (World.cells?_some h1).2.1
        have hcells : ∀ i, i < len → (elA τ e (L i)).cells = L i := by
          intro i hi'
          have h1 := hlenL i hi'
          simp only [elA, hei]
          by_cases hagg : ei.agg = true
          · simp [hagg, AV.cells]
          · have h1' : ei.size = 1 := by
              rcases Bool.or_eq_true _ _ ▸ hone with h | h
              · exact absurd h hagg
              · simpa using h
            rw [if_neg hagg]
            rw [h1'] at h1
            match hL : L i, h1 with
            | [y], _ =>
              obtain ⟨g1, g2, g3⟩ := hCL i hi'
              have hcl : (C i).length = 1 := by rw [← g2.len, hL]; rfl
              obtain ⟨v, hv⟩ : ∃ v, (C i)[0]? = some v := ⟨_, List.getElem?_eq_getElem (by omega)⟩
              have hr := g2.rep 0 y v (by rw [hL]; rfl) hv
              simp only [List.getD_cons_zero]
              cases y <;> first | rfl | skip
              obtain ⟨c, rfl, _⟩ := hr.1.agg_inv
              simp [Value.oneCell'] at hr
        have hspot : 0 < len → a.spot = none := by
          intro h0
          obtain ⟨h1, _⟩ := hCL 0 h0
          obtain ⟨_, g2, g3⟩ := World.cells?_some h1
          have h4 := g3 0 hpos
          have h5 : ∃ v, (C 0)[0]? = some v := ⟨_, List.getElem?_eq_getElem (by omega)⟩
          obtain ⟨v, hv⟩ := h5
          rw [hv] at h4
          simpa [Addr.add] using World.cell?_spot h4
        refine ⟨[.sl ei.size ((List.range len).map fun i => elA τ e (L i)) .none], repCs_one ?_ rfl, ?_⟩
        · have hxs : ∀ (i : Nat) (x : AV), ((List.range len).map fun i => elA τ e (L i))[i]? = some x → i < len ∧ x = elA τ e (L i) := by
            intro i x hx
            simp only [List.getElem?_map, List.getElem?_range, Option.map_eq_some_iff] at hx
            by_cases hi' : i < len
            · simp [hi'] at hx
              exact ⟨hi', hx.symm⟩
            · simp [hi'] at hx
          have hl0 : ((List.range len).map fun i => elA τ e (L i)).length = len := by simp
          have hv : Value.slice (some a) len cap = Value.slice (some a) ((List.range len).map fun i => elA τ e (L i)).length cap := by rw [hl0]
          rw [hv]
          refine Rep.sl ei.size _ .none (some a) cap a (fun p => (C (p / ei.size)).getD (p % ei.size) undef) ?_ (by rw [hl0]; exact hlc) ?_ ?_ ?_ ?_ trivial
          · intro x hx
            obtain ⟨i, hi'⟩ := List.getElem?_of_mem hx
            obtain ⟨h1, rfl⟩ := hxs i x hi'
            rw [hcells i h1]
            exact hlenL i h1
          · intro h0
            rw [hl0] at h0
            exact ⟨rfl, hspot h0⟩
          all_goals
            intro i x j c hx hc
            obtain ⟨h1, rfl⟩ := hxs i x hx
            rw [hcells i h1] at hc
            obtain ⟨g1, g2, g3⟩ := hCL i h1
            have hj : j < ei.size := by rw [← hlenL i h1]; exact (List.getElem?_eq_some_iff.1 hc).1
            have hd : (i * ei.size + j) / ei.size = i := by
              rw [Nat.mul_comm, Nat.mul_add_div hpos, Nat.div_eq_of_lt hj, Nat.add_zero]
            have hmd : (i * ei.size + j) % ei.size = j := by
              rw [Nat.mul_comm, Nat.mul_add_mod, Nat.mod_eq_of_lt hj]
            have hcl : j < (C i).length := by rw [← g2.len, hlenL i h1]; exact hj
            have hval : (C i).getD j undef = (C i)[j] := by simp [List.getD, List.getElem?_eq_getElem hcl]
            have hr := g2.rep j c _ hc (List.getElem?_eq_getElem hcl)
            simp only [hd, hmd, hval]
          · exact hr.2
          · refine ⟨?_, free0 _ _⟩
            obtain ⟨_, k2, k3⟩ := World.cells?_some g1
            have k4 := k3 j hj
            rw [List.getElem?_eq_getElem hcl] at k4
            rw [← k4]
            have hs := hspot (by omega)
            obtain ⟨ab, ao, ags⟩ := a
            simp only at hs
            subst hs
            congr 1
            rw [Addr.add_lit, Addr.add_lit]
            simp [Nat.add_assoc]
          · exact hr.1
        · rw [hsh, hk]
          refine ⟨_, by rw [hsz], by simp; exact hlr, ?_⟩
          intro x hx
          obtain ⟨i, hi', rfl⟩ := List.mem_map.1 hx
          exact ⟨L i, rfl, (hCL i (List.mem_range.1 hi')).2.2⟩
    · rename_i fs hk
      rw [hk] at hf
      cases fd <;> simp [TK.fits] at hf
      rename_i gs
      simp only [Bool.and_eq_true] at hp
      obtain ⟨hpf, hoffs⟩ := hp
      obtain ⟨xs, n', _, hx0, hcl, hxl, hget⟩ := DataW.trod_struct hu h
      rw [hx0] at hwt
      simp only [DataW.weights, hu] at hwt
      have hci : P.cellsOf t = i.size := HI.cellsOf
      rw [hci] at hcl
      obtain ⟨l, h1, h2⟩ := fields_rep (n := n) hcl fs 0 hoffs (Nat.zero_le _) (by
        intro p hpm fi hfi
        have hp1 : plainT τ n p.2 = true := List.all_eq_true.1 hpf p hpm
        rw [← hf] at hpm
        obtain ⟨g, hg, rfl⟩ := List.mem_map.1 hpm
        obtain ⟨j, hj⟩ := List.getElem?_of_mem hg
        have hgj : gs[j]? = some g := by simpa using hj
        have h3 := hget j g hgj
        have hj2 : j < xs.length := by rw [hxl]; exact (Array.getElem?_eq_some_iff.1 hgj).1
        rw [List.getElem?_eq_getElem hj2] at h3
        obtain ⟨ff, fd', fz, HF⟩ := TI.spec hτ hfi
        rw [HF.cellsOf] at h3
        exact trod_rep hτ n _ _ _ _ hp1 h3 (weightsEach_get hwt (i := j) (by rw [List.getElem?_map, hj]; rfl) (by rw [List.getElem?_map, List.getElem?_eq_getElem hj2]; rfl)))
      refine ⟨l, by simpa using h1, ?_⟩
      rw [hsh, hk]
      exact h2
    · cases hp
end
end Go.Ab

/- A law's row out of its function's contract. -/
set_option linter.unusedVariables false
set_option linter.unusedSimpArgs false
namespace Go.Ab
open Go.RowKit Go.ChangeShapes

section
variable {H : Type} {enc : TypeId × Value → H} {P : Program}

/-- An argument of one cell, read. -/
theorem arg_one {τ : Tab} (hτ : TabOK P τ) {n : Nat} {t : TypeId} (hp : plainT τ n t = true) {w : World} {base : Nat} {spare : Nat → Bool} {held : Bool} {v : Value} {d : DataW H} {p : List MemPlace} (h : DataW.Trod enc P w base spare held t v d p)
    (hw : (d.weights P t).all (· ≤ reachBytes) = true) (hv : v.cells.toList = [v]) : ∃ x, Rep mu0 fr0 w x v ∧ shape τ n t [x] := by
  obtain ⟨fuel, hf⟩ := h
  rw [hv] at hf
  obtain ⟨l, h1, h2⟩ := trod_rep hτ n fuel t [v] _ hp hf hw
  have hl := h1.len
  match l, hl with
  | [x], _ => exact ⟨x, (h1.rep 0 x v rfl rfl).1, h2⟩

/-- An argument that is a struct. -/
theorem arg_agg {τ : Tab} (hτ : TabOK P τ) {n : Nat} {t : TypeId} (hp : plainT τ n t = true) {w : World} {base : Nat} {spare : Nat → Bool} {held : Bool} {cs : Array Value} {d : DataW H} {p : List MemPlace} (h : DataW.Trod enc P w base spare held t (.agg cs) d p)
    (hw : (d.weights P t).all (· ≤ reachBytes) = true) : ∃ l, Rep mu0 fr0 w (.agg l) (.agg cs) ∧ shape τ n t l := by
  obtain ⟨fuel, hf⟩ := h
  obtain ⟨l, h1, h2⟩ := trod_rep hτ n fuel t _ _ hp hf hw
  refine ⟨l, ?_, h2⟩
  refine .agg _ _ (by have := h1.len; simpa [Value.cells] using this.symm) ?_ ?_
  · intro i x v hx hv
    exact (h1.rep i x v hx (by simpa [Value.cells] using hv)).1
  · intro i v hv
    have hi : i < l.length := by
      rw [h1.len]
      have := (Array.getElem?_eq_some_iff.1 hv).1
      simpa [Value.cells] using this
    exact (h1.rep i _ v (List.getElem?_eq_getElem hi) (by simpa [Value.cells] using hv)).2

theorem trodAll_stays (hl : laidOutB P = true) {W W' : World} (hb : Below W.heap.size W W') {sp : Nat → Bool} : ∀ {ts : List TypeId} {vs : List Value} {ds : List (DataW H)} {ps : List MemPlace}, (∀ t ∈ ts, P.readableRec t = true ∧ t < P.types.size) →
    DataW.TrodAll enc P W 0 (fun _ => true) true ts vs ds ps → (∀ p ∈ ps, p.block < W.heap.size) → (∀ p ∈ ps, sp p.block = true) → DataW.TrodAll enc P W' 0 sp true ts vs ds ps
  | [], [], [], _, _, h, _, _ => h
  | t :: ts, v :: vs, d :: ds, _, hts, ⟨p, q, h1, h2, e⟩, hlt, hs => by
    subst e
    refine ⟨p, q, ?_, trodAll_stays hl hb (fun t ht => hts t (List.mem_cons_of_mem _ ht)) h2 (fun x hx => hlt x (List.mem_append_right _ hx)) (fun x hx => hs x (List.mem_append_right _ hx)), rfl⟩
    exact WideElems.Trod_stays hl (hts t List.mem_cons_self).1 (hts t List.mem_cons_self).2 h1 (fun x hx => hb.same (hlt x (List.mem_append_left _ hx))) (fun x hx => hs x (List.mem_append_left _ hx))
  | [], _ :: _, _, _, _, h, _, _ => h.elim
  | [], [], _ :: _, _, _, h, _, _ => h.elim
  | _ :: _, [], _, _, _, h, _, _ => h.elim
  | _ :: _, _ :: _, [], _, _, h, _, _ => h.elim

/-- What a law's row asks behind the call. -/
theorem law_post (hl : laidOutB P = true) {f : Func} {s : ChangeSpec} (hv : s.vars = []) {tb : TypeId} (htb : P.underlying tb = some .bool) (hrt : f.resultTypes = #[tb]) (hts : ∀ t ∈ f.params.toList, P.readableRec t = true ∧ t < P.types.size)
    {W W' : World} {args : Array Value} {ds gs : List (DataW H)} {before : List MemPlace} (hW : DataW.Whole enc P f.params.toList s.vars false W args.toList ds gs before) (hb : Below W.heap.size W W')
    (hres : (s.fn H (ds ++ gs)).results = [.lit (.bool true)]) (hargs : (s.fn H (ds ++ gs)).args = ds) (hvars : (s.fn H (ds ++ gs)).vars = []) : s.post enc P f false true false false W args (.bool true) W' := by
  have hlt := hW.lt
  obtain ⟨p, q, hA, hV, hps, _, _⟩ := id hW
  rw [hv] at hV
  obtain ⟨hgs, hq⟩ := trodVars_none hV
  refine ⟨ds, gs, before, [], p, [], hW, ?_, ?_, ?_, hb.frame _, fun h => by cases h⟩
  · rw [hres, hrt]
    exact trodAll_mk1 (shut_bool htb true)
  · rw [hargs]
    refine trodAll_stays hl hb hts hA ?_ ?_
    · intro x hx
      exact hlt x (by rw [hps]; exact List.mem_append_left _ hx)
    · intro x hx
      simpa using hlt x (by rw [hps]; exact List.mem_append_left _ hx)
  · rw [hvars, hv]
    rfl

/-- A contract, at the row's start. -/
theorem law_calls {g : FuncId} {args : List AV} (h : APure P g args (.bool true)) {w : World} {vs : Array Value} (hv : RepL mu0 fr0 w args vs) : Calls P g vs w fun e w' => e = .returned (.bool true) ∧ Below w.heap.size w w' := by
  have hno : ∀ b o, ¬ Own mu0 b o := by rintro b o ⟨id, h | ⟨e, g, h, _⟩⟩ <;> cases h
  have hg : Gam mu0 fr0 ⟨0, []⟩ w := by
    refine { dom := fun id => (by simp [mu0]), obj := fun id l hM => (by cases hM), spare := fun id g hM => (by cases hM), raw := fun id g o vs t hM => (by cases hM), inj := ?_, frm := fun b o ho => absurd ho (hno b o), fit := ⟨fun b o ho => absurd ho (hno b o), fun b o h => h.elim⟩ }
    rintro i j b (h | ⟨_, _, h⟩) _ <;> cases h
  refine ((h ⟨0, []⟩).2 mu0 fr0 w vs hg hv).mono ?_
  rintro e w' ⟨μ', M', h1, h2, h3⟩
  have hb : Below w.heap.size w w' := ⟨h1.os, h1.tape, h1.output, h1.size, fun k hk => h1.same k hk (hno k)⟩
  cases e with
  | returned v =>
    obtain ⟨x, h4, h5⟩ := h3
    obtain ⟨e, _⟩ := h5
    cases e
    cases h4
    exact ⟨rfl, hb⟩
  | panicked ch =>
    obtain ⟨x, v, _, _, e, _⟩ := h3
    cases e
  | outgrown => exact h3.elim

theorem list_of {α : Type} {f : α → AV} : ∀ {xs : List AV}, (∀ x, x ∈ xs → ∃ a, x = f a) → ∃ l : List α, xs = l.map f
  | [], _ => ⟨[], rfl⟩
  | x :: r, h => by
    obtain ⟨a, rfl⟩ := h _ List.mem_cons_self
    obtain ⟨l, rfl⟩ := list_of fun x hx => h x (List.mem_cons_of_mem _ hx)
    exact ⟨a :: l, rfl⟩

theorem list_all {α : Type} {f : α → AV} {q : α → Prop} : ∀ {xs : List AV}, (∀ x, x ∈ xs → ∃ a, x = f a ∧ q a) → ∃ l : List α, xs = l.map f ∧ ∀ a, a ∈ l → q a
  | [], _ => ⟨[], rfl, by simp⟩
  | x :: r, h => by
    obtain ⟨a, rfl, hq⟩ := h _ List.mem_cons_self
    obtain ⟨l, rfl, hl⟩ := list_all fun x hx => h x (List.mem_cons_of_mem _ hx)
    exact ⟨a :: l, rfl, by
      intro y hy
      rcases List.mem_cons.1 hy with rfl | hy
      · exact hq
      · exact hl y hy⟩
end
end Go.Ab
