/- States and their texts, in plain words. No further condition. -/
import Derived.Test.YtmgkebghojhocaaGreatDoorQV23
import Derived.Test.YtmgkebghojhocaaGreatDoorQKeyP
import Derived.Test.YtmgkebghojhocaaGreatDoorQV24
set_option linter.unusedVariables false
set_option linter.unusedSimpArgs false
namespace Go.Proofs.YtmgkebghojhocaaGreatDoor
open Go.Ab
structure Pn where
 session : Int
 at_ : Int
deriving DecidableEq
def Pn.av (p : Pn) : AV := .agg [.int .i64 p.session, .int .i64 p.at_]
structure Sn where
 client : Int
 seq : Int
 code : Int
 n : Int
deriving DecidableEq
def Sn.av (p : Sn) : AV := .agg [.int .i64 p.client, .int .i64 p.seq, .int .i64 p.code, .int .i64 p.n]
structure Sg where
 last : Int
 mark : Int
 pairs : List Pr
 pins : List Pn
 seen : List Sn
deriving DecidableEq
/-- In a row each may be, and stands behind the one ahead. -/
def upB {α : Type} (q : α → Bool) (k : α → Int) : Option Int → List α → Bool
 | _, [] => true
 | none, x :: r => q x && upB q k (some (k x)) r
 | some n, x :: r => q x && decide (n < k x) && upB q k (some (k x)) r
def pv {α : Type} (k : α → Int) (l : List α) : Nat → Option Int
 | 0 => none
 | i + 1 => l[i]?.map k
theorem upB_mem {α : Type} {q : α → Bool} {k : α → Int} : ∀ {l : List α} {p : Option Int}, upB q k p l = true → ∀ x, x ∈ l → q x = true
 | y :: r, p, h, x, hx => by
  have h2 : q y = true ∧ upB q k (some (k y)) r = true := by
   cases p with
   | none => simpa [upB] using h
   | some n =>
    simp [upB] at h
    exact ⟨h.1.1, h.2⟩
  rcases List.mem_cons.1 hx with rfl | hx
  ·exact h2.1
  ·exact upB_mem h2.2 x hx
def mayPn (p : Pn) : Bool := decide (0 ≤ p.session) && decide (p.session ≤ 1000000) && decide (0 ≤ p.at_) && decide (p.at_ ≤ 1000000000)
def mayBn (p : Sn) : Bool := decide (0 ≤ p.client) && decide (p.client ≤ 1000000) && decide (1 ≤ p.seq) && decide (p.seq ≤ 1000000000) && decide (0 ≤ p.code) && decide (p.code ≤ 1000) && decide (0 ≤ p.n) && decide (p.n ≤ 1000000000)
def pinsB (l : List Pn) : Bool := upB mayPn Pn.session none l && decide (l.length ≤ 50)
def seenB (l : List Sn) : Bool := upB mayBn Sn.client none l && decide (l.length ≤ 50)
def stateB (s : Sg) : Bool := decide (0 ≤ s.mark) && decide (s.mark ≤ s.last) && decide (s.last ≤ 1000000000) && decide (s.pairs.length ≤ 200) && decide (Rise s.pairs) && isSt s.pairs && decide (lastL s.pairs ≤ s.last) && pinsB s.pins && seenB s.seen
structure IsState (s : Sg) : Prop where
 mark0 : 0 ≤ s.mark
 mark : s.mark ≤ s.last
 last : s.last ≤ 1000000000
 many : s.pairs.length ≤ 200
 rise : Rise s.pairs
 st : isSt s.pairs = true
 top : lastL s.pairs ≤ s.last
 pins : upB mayPn Pn.session none s.pins = true
 pinsN : s.pins.length ≤ 50
 seen : upB mayBn Sn.client none s.seen = true
 seenN : s.seen.length ≤ 50
theorem stateB_iff {s : Sg} : stateB s = true ↔ IsState s := by
 unfold stateB pinsB seenB
 constructor
 ·intro h
  simp at h
  obtain ⟨⟨⟨⟨⟨⟨⟨⟨a, b⟩, c⟩, d⟩, e⟩, f⟩, g⟩, i, j⟩, k, l⟩ := h
  exact ⟨a, b, c, d, e, f, g, i, j, k, l⟩
 ·rintro ⟨a, b, c, d, e, f, g, i, j, k, l⟩
  simp [a, b, c, d, f, g, i, j, k, l]
  exact e
theorem laidL_rise {l : List Pr} (h : Rise l) : laidL l = l := by
 have key : ∀ (b a : List Pr), Rise (a ++ b) → b.foldl putP a = a ++ b := by
  intro b
  induction b with
  | nil => intro a _; simp
  | cons x r ih =>
   intro a hr
   have e : a ++ x :: r = (a ++ [x]) ++ r := by simp
   have hx : putP a x = a ++ [x] := by
    have := putP_ahead (a := a) (b := []) (p := x) (fun y hy => (List.pairwise_append.1 hr).2.2 y hy x (by simp))
    rw [List.append_nil] at this
    exact this
   rw [List.foldl_cons, hx, ih _ (by rw [← e]; exact hr), e]
 exact key l [] h
theorem laidT_rise {l : List Pr} (h : Rise l) (hn : l.length < 1000000) : (laidT l).all = l := (laid_all hn).1.trans (laidL_rise h)
def textT (s : Bytes) : Bytes := if 4000 < s.length then [] else putN s.length ++ s
def pairT (p : Pr) : Bytes := textT (putB p.key).1 ++ p.val
def pinT (p : Pn) : Bytes := catN [p.session, p.at_]
def seenT (p : Sn) : Bytes := catN [p.client, p.seq, p.code, p.n]
def headT (s : Sg) : Bytes := catN [s.last, s.mark, (s.pairs.length : Int), (s.pins.length : Int), (s.seen.length : Int)]
def texts (s : Sg) : List Bytes := headT s :: (s.pairs.map pairT ++ (s.pins.map pinT ++ s.seen.map seenT))
def dumpO (s : Sg) : List Bytes × Int := if stateB s = true then (texts s, 0) else ([], 1)
def allO {α β : Type} (f : α → Option β) : List α → Option (List β)
 | [] => some []
 | x :: r => match f x with
  | none => none
  | some y => (allO f r).map (y :: ·)
theorem allO_eq {α β : Type} {f : α → Option β} {x : α} {r : List α} : allO f (x :: r) = match f x with
  | none => none
  | some y => (allO f r).map (y :: ·) := rfl
theorem allO_cons {α β : Type} {f : α → Option β} {x : α} {r : List α} {m : List β} : allO f (x :: r) = some m ↔ ∃ y n, f x = some y ∧ allO f r = some n ∧ m = y :: n := by
 rw [allO_eq]
 cases f x with
 | none => simp
 | some y =>
  cases allO f r with
  | none => simp
  | some n =>
   constructor
   ·intro h
    cases h
    exact ⟨y, n, rfl, rfl, rfl⟩
   ·rintro ⟨y', n', h1, h2, rfl⟩
    cases h1
    cases h2
    rfl
theorem allO_app {α β : Type} {f : α → Option β} : ∀ (a b : List α), allO f (a ++ b) = match allO f a with
  | none => none
  | some m => (allO f b).map (m ++ ·)
 | [], b => by
  show allO f b = (allO f b).map _
  cases allO f b <;> rfl
 | x :: r, b => by
  rw [List.cons_append, allO_eq, allO_eq, allO_app r b]
  cases f x with
  | none => rfl
  | some y =>
   cases allO f r with
   | none => rfl
   | some m =>
    show ((allO f b).map (m ++ ·)).map (y :: ·) = (allO f b).map _
    cases allO f b <;> rfl
theorem allO_map {α β : Type} {f : α → Option β} {g : β → α} : ∀ {l : List β}, (∀ x, x ∈ l → f (g x) = some x) → allO f (l.map g) = some l
 | [], _ => rfl
 | x :: r, h => by
  rw [List.map_cons]
  exact allO_cons.2 ⟨x, r, h x (by simp), allO_map (fun y hy => h y (by simp [hy])), rfl⟩
theorem allO_len {α β : Type} {f : α → Option β} : ∀ {l : List α} {m : List β}, allO f l = some m → m.length = l.length
 | [], m, h => by cases h; rfl
 | x :: r, m, h => by
  obtain ⟨y, n, _, h2, rfl⟩ := allO_cons.1 h
  simp [allO_len h2]
theorem allO_back {α β : Type} {f : α → Option β} {g : β → α} (hg : ∀ x y, f x = some y → g y = x) : ∀ {l : List α} {m : List β}, allO f l = some m → m.map g = l
 | [], m, h => by cases h; rfl
 | x :: r, m, h => by
  obtain ⟨y, n, h1, h2, rfl⟩ := allO_cons.1 h
  rw [List.map_cons, hg x y h1, allO_back hg h2]
theorem allO_mem {α β : Type} {f : α → Option β} : ∀ {l : List α} {m : List β}, allO f l = some m → ∀ y, y ∈ m → ∃ x, x ∈ l ∧ f x = some y
 | [], m, h, y, hy => by cases h; cases hy
 | x :: r, m, h, y, hy => by
  obtain ⟨z, n, h1, h2, rfl⟩ := allO_cons.1 h
  rcases List.mem_cons.1 hy with rfl | hy
  ·exact ⟨x, by simp, h1⟩
  ·obtain ⟨u, hu, e⟩ := allO_mem h2 y hy
   exact ⟨u, by simp [hu], e⟩
/-- A text of just so many numbers. -/
def rowN (t : Bytes) (k : Nat) : Option (List Int) := match nums t with
 | some l => if l.length = k then some (nI l) else none
 | none => none
def pinO (t : Bytes) : Option Pn := match rowN t 2 with
 | some [a, b] => some ⟨a, b⟩
 | _ => none
def seenO (t : Bytes) : Option Sn := match rowN t 4 with
 | some [a, b, c, d] => some ⟨a, b, c, d⟩
 | _ => none
def textO (t : Bytes) : Option (Bytes × Bytes) := match getNum t with
 | some (n, r) => if n ≤ 4000 ∧ n ≤ r.length then some (r.take n, r.drop n) else none
 | none => none
def pairO (t : Bytes) : Option Pr := match textO t with
 | some (k, r) => if (getB k).2 = 0 then some ⟨(getB k).1, r⟩ else none
 | none => none
def bodyO (a b c d e : Int) (l : List Bytes) : Option Sg :=
 if (l.length : Int) = c + d + e then
  match allO pairO (l.take c.toNat), allO pinO ((l.drop c.toNat).take d.toNat), allO seenO ((l.drop c.toNat).drop d.toNat) with
  | some p, some q, some s => if stateB ⟨a, b, p, q, s⟩ = true then some ⟨a, b, p, q, s⟩ else none
  | _, _, _ => none
 else none
def getSg : List Bytes → Option Sg
 | [] => none
 | h :: l => match rowN h 5 with
  | some [a, b, c, d, e] => bodyO a b c d e l
  | _ => none
theorem nI_toNat : ∀ {l : List Int}, (∀ x, x ∈ l → 0 ≤ x) → nI (l.map Int.toNat) = l
 | [], _ => rfl
 | x :: r, h => by
  have h1 := h x (by simp)
  have := nI_toNat (l := r) (fun y hy => h y (by simp [hy]))
  unfold nI at this ⊢
  rw [List.map_cons, List.map_cons, this]
  congr 1
  omega
theorem rowN_cat {l : List Int} (h : ∀ x, x ∈ l → 0 ≤ x ∧ x ≤ 4294967295) : rowN (catN l) l.length = some l := by
 unfold rowN
 rw [nums_cat l h]
 show (if _ then _ else _) = _
 rw [if_pos (by simp), nI_toNat (fun x hx => (h x hx).1)]
theorem pinO_put {p : Pn} (h : mayPn p = true) : pinO (pinT p) = some p := by
 unfold mayPn at h
 simp at h
 have := rowN_cat (l := [p.session, p.at_]) (by
  intro x hx
  simp at hx
  rcases hx with rfl | rfl <;> omega)
 unfold pinO pinT
 rw [show rowN (catN [p.session, p.at_]) 2 = some [p.session, p.at_] from this]
theorem seenO_put {p : Sn} (h : mayBn p = true) : seenO (seenT p) = some p := by
 unfold mayBn at h
 simp at h
 have := rowN_cat (l := [p.client, p.seq, p.code, p.n]) (by
  intro x hx
  simp at hx
  rcases hx with rfl | rfl | rfl | rfl <;> omega)
 unfold seenO seenT
 rw [show rowN (catN [p.client, p.seq, p.code, p.n]) 4 = some [p.client, p.seq, p.code, p.n] from this]
theorem textO_put {s r : Bytes} (h : s.length ≤ 4000) : textO (textT s ++ r) = some (s, r) := by
 unfold textO textT
 rw [if_neg (by omega), List.append_assoc, getNum_put (by omega)]
 show (if _ then _ else _) = _
 rw [if_pos ⟨h, by simp⟩, List.take_left, List.drop_left]
theorem key_len {k : Ky} (h : isKeyB k = true) : (putB k).1.length ≤ 105 := by
 rw [putB_ok h]
 have := (key_parts h).1
 unfold isPathB at this
 simp at this
 rcases this with h1 | h1
 ·rw [h1]
  simp [be4]
 ·simp [be4]
  omega
theorem pairO_put {p : Pr} (h : isKeyB p.key = true) : pairO (pairT p) = some p := by
 have hl := key_len h
 unfold pairO pairT
 rw [textO_put (by omega)]
 show (if _ then _ else _) = _
 rw [putB_ok h, get_put h]
 rfl
theorem okP_key {p : Pr} (h : okP p = true) : isKeyB p.key = true := by
 unfold okP at h
 simp at h
 exact h.1.2
theorem get_dump {s : Sg} (h : IsState s) : getSg (texts s) = some s := by
 unfold texts getSg
 have hr := rowN_cat (l := [s.last, s.mark, (s.pairs.length : Int), (s.pins.length : Int), (s.seen.length : Int)]) (by
  intro x hx
  have := h.mark0
  have := h.mark
  have := h.last
  have := h.many
  have := h.pinsN
  have := h.seenN
  simp at hx
  rcases hx with rfl | rfl | rfl | rfl | rfl <;> omega)
 show (match rowN (headT s) 5 with
  | some [a, b, c, d, e] => bodyO a b c d e _
  | _ => none) = _
 unfold headT
 rw [show rowN (catN [s.last, s.mark, (s.pairs.length : Int), (s.pins.length : Int), (s.seen.length : Int)]) 5 = some [s.last, s.mark, (s.pairs.length : Int), (s.pins.length : Int), (s.seen.length : Int)] from hr]
 show bodyO _ _ _ _ _ _ = _
 unfold bodyO
 rw [if_pos (by simp; omega)]
 have l1 : (s.pairs.map pairT).length = s.pairs.length := by simp
 have l2 : (s.pins.map pinT).length = s.pins.length := by simp
 have e1 : (s.pairs.map pairT ++ (s.pins.map pinT ++ s.seen.map seenT)).take (s.pairs.length : Int).toNat = s.pairs.map pairT := by
  rw [Int.toNat_natCast, ← l1, List.take_left]
 have e2 : (s.pairs.map pairT ++ (s.pins.map pinT ++ s.seen.map seenT)).drop (s.pairs.length : Int).toNat = s.pins.map pinT ++ s.seen.map seenT := by
  rw [Int.toNat_natCast, ← l1, List.drop_left]
 have e3 : (s.pins.map pinT ++ s.seen.map seenT).take (s.pins.length : Int).toNat = s.pins.map pinT := by
  rw [Int.toNat_natCast, ← l2, List.take_left]
 have e4 : (s.pins.map pinT ++ s.seen.map seenT).drop (s.pins.length : Int).toNat = s.seen.map seenT := by
  rw [Int.toNat_natCast, ← l2, List.drop_left]
 rw [e1, e2, e3, e4, allO_map (fun x hx => pairO_put (okP_key (isSt_mem h.st hx))), allO_map (fun x hx => pinO_put (upB_mem h.pins x hx)), allO_map (fun x hx => seenO_put (upB_mem h.seen x hx))]
 show (if _ then _ else _) = _
 rw [if_pos (stateB_iff.2 h)]
theorem getNum_inv {s r : Bytes} {n : Nat} (h : getNum s = some (n, r)) : putN n ++ r = s ∧ n < 4294967296 := by
 cases s with
 | nil => cases h
 | cons c q =>
  by_cases hc : 4 < c.toNat ∨ q.length < c.toNat ∨ (q.take c.toNat).head? = some 0
  ·rw [getNum_none hc] at h
   cases h
  ·rw [getNum_some hc] at h
   cases h
   have hl : (q.take c.toNat).length ≤ 4 := by rw [List.length_take]; omega
   have hp := put_num (c := c) hl (by rw [List.length_take]; omega)
   have hh : ¬ (q.take c.toNat).head? = some 0 := fun e => hc (.inr (.inr e))
   rw [decide_eq_false hh] at hp
   have hp : putN (num (q.take c.toNat)) = c :: q.take c.toNat := by simpa using hp
   exact ⟨by rw [hp, List.cons_append, List.take_append_drop], num_lt 4 _ hl⟩
theorem nums_inv : ∀ (m : Nat) {s : Bytes} {l : List Nat}, s.length ≤ m → nums s = some l → catN (nI l) = s ∧ ∀ n, n ∈ l → n < 4294967296
 | m, s, l, hm, h => by
  cases hg : getNum s with
  | none =>
   by_cases hs : s = []
   ·subst hs
    rw [nums_nil] at h
    cases h
    exact ⟨rfl, fun n hn => by cases hn⟩
   ·rw [nums_none hg hs] at h
    cases h
  | some x =>
   obtain ⟨n, r⟩ := x
   rw [nums_some hg] at h
   cases hr : nums r with
   | none => rw [hr] at h; cases h
   | some k =>
    rw [hr] at h
    cases h
    have hlt := (getNum_lt hg).1
    obtain ⟨h1, h2⟩ := getNum_inv hg
    match m, hm with
    | 0, hm => omega
    | m + 1, hm =>
     obtain ⟨h3, h4⟩ := nums_inv m (s := r) (by omega) hr
     refine ⟨?_, fun x hx => ?_⟩
     ·rw [← h1, ← h3]
      simp [catN, nI]
     ·rcases List.mem_cons.1 hx with rfl | hx
      ·exact h2
      ·exact h4 x hx
theorem rowN_inv {t : Bytes} {k : Nat} {l : List Int} (h : rowN t k = some l) : catN l = t ∧ l.length = k ∧ ∀ x, x ∈ l → 0 ≤ x ∧ x ≤ 4294967295 := by
 unfold rowN at h
 cases hn : nums t with
 | none => rw [hn] at h; cases h
 | some m =>
  rw [hn] at h
  have h : (if m.length = k then some (nI m) else none) = some l := h
  split at h
  ·rename_i hk
   cases h
   obtain ⟨h1, h2⟩ := nums_inv t.length (Nat.le_refl _) hn
   refine ⟨h1, by simp [hk], fun x hx => ?_⟩
   unfold nI at hx
   obtain ⟨n, hn, rfl⟩ := List.mem_map.1 hx
   have := h2 n hn
   omega
  ·cases h
theorem pinO_inv {t : Bytes} {p : Pn} (h : pinO t = some p) : pinT p = t := by
 unfold pinO at h
 split at h
 ·rename_i a b e
  cases h
  exact (rowN_inv e).1
 ·cases h
theorem seenO_inv {t : Bytes} {p : Sn} (h : seenO t = some p) : seenT p = t := by
 unfold seenO at h
 split at h
 ·rename_i a b c d e
  cases h
  exact (rowN_inv e).1
 ·cases h
theorem textO_inv {t s r : Bytes} (h : textO t = some (s, r)) : s.length ≤ 4000 ∧ textT s ++ r = t := by
 unfold textO at h
 split at h
 ·rename_i n q e
  split at h
  ·rename_i hn
   cases h
   have hl : (q.take n).length = n := by rw [List.length_take]; omega
   unfold textT
   rw [hl, if_neg (by omega), List.append_assoc, List.take_append_drop]
   exact ⟨by omega, (getNum_inv e).1⟩
  ·cases h
 ·cases h
theorem pairO_inv {t : Bytes} {p : Pr} (h : pairO t = some p) : pairT p = t := by
 unfold pairO at h
 split at h
 ·rename_i k r e
  split at h
  ·rename_i h2
   cases h
   rcases getB_cases k with h3 | ⟨y, h3, h4, h5, _⟩
   ·rw [h3] at h2
    cases h2
   ·unfold pairT
    rw [h3]
    show textT (putB y).1 ++ r = t
    rw [h5]
    exact (textO_inv e).2
  ·cases h
 ·cases h
theorem dump_get {l : List Bytes} {s : Sg} (h : getSg l = some s) : IsState s ∧ texts s = l := by
 unfold getSg at h
 split at h
 ·cases h
 ·rename_i t l
  split at h
  ·rename_i a b c d e hr
   unfold bodyO at h
   split at h
   ·rename_i hl
    split at h
    ·rename_i p q u h1 h2 h3
     split at h
     ·rename_i hs
      cases h
      refine ⟨stateB_iff.1 hs, ?_⟩
      obtain ⟨r1, r2, r3⟩ := rowN_inv hr
      have r3c := r3 c (by simp)
      have r3d := r3 d (by simp)
      have r3e := r3 e (by simp)
      have n1 := allO_len h1
      have n2 := allO_len h2
      have n3 := allO_len h3
      rw [List.length_take] at n1
      rw [List.length_take, List.length_drop] at n2
      rw [List.length_drop, List.length_drop] at n3
      unfold texts headT
      rw [allO_back (fun _ _ => pairO_inv) h1, allO_back (fun _ _ => pinO_inv) h2, allO_back (fun _ _ => seenO_inv) h3, List.take_append_drop, List.take_append_drop]
      congr 1
      rw [← r1]
      have e1 : (p.length : Int) = c := by omega
      have e2 : (q.length : Int) = d := by omega
      have e3 : (u.length : Int) = e := by omega
      simp only [e1, e2, e3]
     ·cases h
    ·cases h
   ·cases h
  ·cases h
end Go.Proofs.YtmgkebghojhocaaGreatDoor
