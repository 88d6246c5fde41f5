/- Parts of the proof, one behind the other: DifQ, DifF, DifG, DifH. No further condition. -/
import Derived.Test.YtmgkebghojhocaaGreatDoorV28
import Derived.Test.YtmgkebghojhocaaGreatDoorV26
set_option linter.unusedVariables false
set_option linter.unusedSimpArgs false
/- Plain facts on rows of deltas: back, and one behind the other. No further condition. -/
set_option linter.unusedVariables false
set_option linter.unusedSimpArgs false
namespace Go.Proofs.YtmgkebghojhocaaGreatDoor
open Go.Ab

def backK (k : Int) : Int := if k = 1 ∨ k = 3 then 4 - k else k
def backD (d : Dl) : Dl := ⟨d.path, backK d.kind⟩
def bothS (a b : Int) : Int := if a = 1 ∧ b = 3 then 0 else if a = 3 ∧ b = 1 then 2 else if a = 2 ∧ b = 3 then 3 else a
def goodK (k : Int) : Prop := k = 1 ∨ k = 2 ∨ k = 3
def good (l : List Dl) : Prop := l.length < 1000000 ∧ ∀ d, d ∈ l → goodK d.kind
def stepT (a b : List Dl) (s : List Dl × Nat) (i k : Int) : List Dl × Nat :=
 if i < 0 then more s (b.getD k.toNat default)
 else if k < 0 then more s (a.getD i.toNat default)
 else if bothS (a.getD i.toNat default).kind (b.getD k.toNat default).kind = 0 then s else more s ⟨(a.getD i.toNat default).path, bothS (a.getD i.toNat default).kind (b.getD k.toNat default).kind⟩
def thenS (a b : List Dl) (s : List Dl × Nat) : List Dl × Nat :=
 walkF a.length b.length (fun i => (a.getD i default).path) (fun i => (b.getD i default).path) (stepT a b) (a.length + b.length + 1) 0 0 s
def thens (a b : List Dl) : List Dl := (thenS a b ([], 0)).1

/-! ### Back -/
theorem getP_back (l : List Dl) (p : Bytes) : getP Dl.path (l.map backD) p = (getP Dl.path l p).map backD := by
 induction l with
 | nil => rfl
 | cons x r ih =>
  rw [List.map_cons, getP_cons, getP_cons, ih]
  show (if x.path = p then _ else _) = _
  split <;> rfl
theorem kindOf_back (l : List Dl) (p : Bytes) : kindOf (l.map backD) p = backK (kindOf l p) := by
 unfold kindOf
 rw [getP_back]
 cases getP Dl.path l p <;> rfl
theorem fE_back (u v : Option En) : backK (fE u v) = fE v u := by
 cases u <;> cases v <;> simp [fE, backK]
 rename_i x y
 by_cases h : x.meta_ = y.meta_
 ·simp [h]
 ·have h2 : ¬ y.meta_ = x.meta_ := fun e => h e.symm
  simp [h, h2]
theorem ents_back {a b : List En} (ha : RiseE a) (hb : RiseE b) : (ents a b).map backD = ents b a := by
 obtain ⟨h1, h2, h3⟩ := ents_ok ha hb
 obtain ⟨g1, g2, g3⟩ := ents_ok hb ha
 refine kinds_eq ?_ g1 ?_ g2 fun p => ?_
 ·exact List.pairwise_map.2 h1
 ·intro d hd
  obtain ⟨x, hx, rfl⟩ := List.mem_map.1 hd
  have := ents_kind ha hb hx
  show backK x.kind ≠ 0
  rcases this with e | e | e <;> rw [e] <;> decide
 ·rw [kindOf_back, h3, g3, fE_back]

/-! ### Then -/
def fT : Option Dl → Option Dl → Int
 | some x, some y => bothS x.kind y.kind
 | some x, none => x.kind
 | none, some y => y.kind
 | none, none => 0
def tK (j k : Int) : Int := if j = 0 then k else if k = 0 then j else bothS j k
theorem one_self {d : Dl} (h : d.kind ≠ 0) : one d.path d.kind = [d] := by
 unfold one
 rw [if_neg h]
theorem thens_mrg {a b : List Dl} (ha : ∀ d, d ∈ a → d.kind ≠ 0) (hb : ∀ d, d ∈ b → d.kind ≠ 0) : thens a b = mrg Dl.path fT (a.length + b.length + 1) a b := by
 have gA : ∀ i, i < a.length → (a.getD i default).kind ≠ 0 := fun i h => ha _ (List.mem_of_getElem? (i := i) (by simp [List.getD, h]))
 have gB : ∀ i, i < b.length → (b.getD i default).kind ≠ 0 := fun i h => hb _ (List.mem_of_getElem? (i := i) (by simp [List.getD, h]))
 have h := walk_mrg (pth := Dl.path) (f := fT) (a := a) (b := b) (step := stepT a b) ?_ ?_ ?_ (a.length + b.length + 1) 0 0 ([], 0)
 ·exact h
 ·intro s i hi
  have h0 : ¬ ((i : Int) < 0) := by omega
  simp only [stepT, if_neg h0, Int.toNat_natCast]
  show s.1 ++ [_] = s.1 ++ one _ _
  rw [show fT (some (a.getD i default)) none = (a.getD i default).kind from rfl, one_self (gA i hi)]
 ·intro s k hk
  show s.1 ++ [_] = s.1 ++ one _ _
  rw [show fT none (some (b.getD k default)) = (b.getD k default).kind from rfl, one_self (gB k hk)]
  rfl
 ·intro s i k _ _
  have h1 : ¬ ((i : Int) < 0) := by omega
  have h2 : ¬ ((k : Int) < 0) := by omega
  simp only [stepT, if_neg h1, if_neg h2, Int.toNat_natCast]
  show (if bothS _ _ = 0 then _ else _ : List Dl × Nat).1 = s.1 ++ one _ (bothS _ _)
  split
  ·rename_i h
   rw [h]
   simp [one]
  ·rename_i h
   unfold one
   rw [if_neg h]
   rfl
theorem thens_ok {a b : List Dl} (ha : RiseP Dl.path a) (hb : RiseP Dl.path b) (na : ∀ d, d ∈ a → d.kind ≠ 0) (nb : ∀ d, d ∈ b → d.kind ≠ 0) : RiseP Dl.path (thens a b) ∧ (∀ d, d ∈ thens a b → d.kind ≠ 0) ∧ ∀ p, kindOf (thens a b) p = tK (kindOf a p) (kindOf b p) := by
 rw [thens_mrg na nb]
 obtain ⟨h1, h2⟩ := mrg_ok (pth := Dl.path) (f := fT) (n := a.length + b.length + 1) (Nat.le_succ _) ha hb
 refine ⟨h1, fun d hd => (mrg_mem hd).1, fun p => ?_⟩
 rw [h2]
 unfold kindOf tK
 cases hu : getP Dl.path a p with
 | none =>
  cases hv : getP Dl.path b p with
  | none => rfl
  | some y => rfl
 | some x =>
  have hx := na x (getP_some hu).1
  cases hv : getP Dl.path b p with
  | none => simp [kk, fT]
  | some y =>
   have hy := nb y (getP_some hv).1
   simp [kk, fT, hx, hy]
theorem then_tri (a b c : Option En) : (fE a c ≠ 0 → tK (fE a b) (fE b c) = fE a c) ∧ (tK (fE a b) (fE b c) ≠ 0 → fE a c = tK (fE a b) (fE b c) ∨ (fE a c = 0 ∧ tK (fE a b) (fE b c) = 2)) ∧ goodK (tK (fE a b) (fE b c)) ∨ (tK (fE a b) (fE b c) = 0 ∧ fE a c = 0) := by
 cases a <;> cases b <;> cases c
 ·exact .inr ⟨rfl, rfl⟩
 ·exact .inl (by simp [fE, tK, goodK])
 ·exact .inr (by simp [fE, tK, bothS])
 ·rename_i y z
  left
  by_cases h : y.meta_ = z.meta_ <;> simp [fE, tK, bothS, goodK, h]
 ·exact .inl (by simp [fE, tK, goodK])
 ·rename_i x z
  left
  by_cases h : x.meta_ = z.meta_ <;> simp [fE, tK, bothS, goodK, h]
 ·rename_i x y
  left
  by_cases h : x.meta_ = y.meta_ <;> simp [fE, tK, bothS, goodK, h]
 ·rename_i x y z
  by_cases h1 : x.meta_ = y.meta_
  ·by_cases h2 : y.meta_ = z.meta_
   ·exact .inr (by simp [fE, tK, h1, h2])
   ·exact .inl (by simp [fE, tK, goodK, h1, h2])
  ·by_cases h2 : y.meta_ = z.meta_
   ·exact .inl (by simp [fE, tK, goodK, h1, ← h2])
   ·left
    by_cases h3 : x.meta_ = z.meta_ <;> simp [fE, tK, bothS, goodK, h1, h2, h3]
end Go.Proofs.YtmgkebghojhocaaGreatDoor

/- Rows of deltas: Back of the code, rows that are the same. No further condition. -/
set_option linter.unusedVariables false
set_option linter.unusedSimpArgs false
namespace Go.Proofs.YtmgkebghojhocaaGreatDoor
open Go.Ab

def iv (n : Int) : AV := .int .i64 n
def bkA : List AV := [iv 0, iv 3, iv 2, iv 1]
theorem closed_ivs {l : List AV} (h : ∀ x, x ∈ l → ∃ n, x = iv n) : ∀ x, x ∈ l → Closed x := by
 intro x hx
 obtain ⟨n, rfl⟩ := h x hx
 exact closed_int
theorem closed_bkA : ∀ x, x ∈ bkA → Closed x := closed_ivs (by
 intro x hx
 simp [bkA] at hx
 rcases hx with rfl | rfl | rfl | rfl <;> exact ⟨_, rfl⟩)
set_option maxRecDepth 100000 in
set_option maxHeartbeats 8000000 in
theorem dback_ok : APure Tryz.prog 99 [] (.agg bkA) := by
 refine pure_sub (closedL_nil) (closed_agg closed_bkA) ?_
 refine acalls_of tabOK Tryz.func99 rfl (by decide) (by simp [Tryz.f99]) ?_
 repeat' (first | refine DW_box 0 tabOK rfl ?_ | refine DW_A tabs rfl ?_ | refine DW_nil ?_ | refine W_A rfl ?_)
 exact ⟨rfl, _, rfl, _, rfl, SubC.of_closed (closed_agg closed_bkA)⟩
set_option maxRecDepth 100000 in
set_option maxHeartbeats 8000000 in
theorem known_ok (k : Int) : APure Tryz.prog 100 [.int .i64 k] (.bool (decide (0 < k) && decide (k < 4))) := by
 intro M
 refine acalls_of tabOK Tryz.func100 rfl (by decide) (by simp [Tryz.f100]) ?_
 cases h1 : decide (0 < k)
 ·repeat' (first | refine DW_VB tabs rfl h1 ?_ | refine DW_A tabs rfl ?_ | refine DW_nil ?_ | refine W_A rfl ?_)
  exact ⟨rfl, _, rfl, rfl, rfl⟩
 ·cases h2 : decide (k < 4)
  ·repeat' (first | refine DW_VB tabs rfl (by first | exact h1 | exact h2) ?_ | refine DW_A tabs rfl ?_ | refine DW_nil ?_ | refine W_A rfl ?_)
   exact ⟨rfl, _, rfl, rfl, rfl⟩
  ·repeat' (first | refine DW_VB tabs rfl (by first | exact h1 | exact h2) ?_ | refine DW_A tabs rfl ?_ | refine DW_nil ?_ | refine W_A rfl ?_)
   exact ⟨rfl, _, rfl, rfl, rfl⟩
theorem known_yes {k : Int} (h : goodK k) : APure Tryz.prog 100 [.int .i64 k] (.bool true) := by
 have := known_ok k
 rw [show (decide (0 < k) && decide (k < 4)) = true by rcases h with rfl | rfl | rfl <;> rfl] at this
 exact this
def bkM (g : Nat) : Mem := ⟨2, [(0, .cells bkA), (1, .spare g)]⟩
def bkF (l : List Dl) (i g : Nat) : AF := ⟨[(3, .ptr 0 0), (4, dlA ((l.take i).map backD) (.tok 1 g)), (8, dlA l .none), (9, .int .i64 (l.length : Int)), (10, .int .i64 (i : Int))], []⟩
theorem dl_cells (l : List Dl) : ∀ x, x ∈ l.map Dl.av → ∀ c, c ∈ x.cells → Closed c := by
 intro x hx c hc
 obtain ⟨d, _, rfl⟩ := List.mem_map.1 hx
 have : c ∈ [AV.str d.path, .int .i64 d.kind] := hc
 exact closed2 closed_str closed_int c this
theorem bk_cut {n0 : Nat} {f : AF} {M : Mem} (h0 : n0 ≤ 2) {l : List Dl} {i g : Nat} {d : Dl} (ht : (l.take (i + 1)).map backD = (l.take i).map backD ++ [d]) (hd : f.d = []) (h2 : 2 ≤ M.next) (hc : M.get 0 = some (.cells bkA)) (hm : M.get 1 = some (.spare (g + 1)))
  (h3 : f.get 3 = .ptr 0 0) (h4 : f.get 4 = .sl 2 (((l.take i).map backD).map Dl.av ++ [d.av]) (.tok 1 (g + 1))) (h8 : f.get 8 = dlA l .none) (h9 : f.get 9 = .int .i64 (l.length : Int)) (h10 : f.get 10 = .int .i64 ((i + 1 : Nat) : Int)) :
  Joint n0 f M (bkF l (i + 1) (g + 1)) (bkM (g + 1)) := by
 refine Joint.cut (k := 2) (t := (bkF l (i + 1) (g + 1)).t) (l := (bkM (g + 1)).objs) h0 h2 hd ⟨?_, ?_, ?_, ?_, ?_, trivial⟩ (objsC_closed (by decide) hc closed_bkA ⟨by decide, by rw [hm]; rfl, trivial⟩)
 ·rw [h3]; exact SubC.ptr rfl
 ·rw [h4]
  show SubC 2 _ (dlA ((l.take (i + 1)).map backD) (.tok 1 (g + 1)))
  rw [ht, dl_app]
  exact SubC.tok rfl (fun x hx c hc => by have h := dl_cells ((l.take i).map backD ++ [d]); rw [List.map_append] at h; exact h x hx c hc)
 ·rw [h8]; exact SubC.of_closed (closed_dls _)
 ·rw [h9]; exact SubC.of_closed closed_int
 ·rw [h10]; exact SubC.of_closed closed_int
set_option maxRecDepth 100000 in
set_option maxHeartbeats 8000000 in
theorem dBack_ok (l : List Dl) (hl : l.length < 1000000) : APure Tryz.prog 43 [dlA l .none] (dlA (l.map backD) .none) := by
 refine pure_sub (closed1 (closed_dls l)) (closed_dls _) ?_
 refine acalls_of tabOK Tryz.func43 rfl (by decide) (by simp [Tryz.f43]) ?_
 have la := len_map Dl.av l
 have k0 := dback_ok
 unfold dlA bkA at *
 repeat' (first | refine DW_VI tabs rfl la ?_ | refine DW_box 3 tabOK rfl ?_ | refine DW_box 6 tabOK rfl ?_ | refine DW_orow 3 tabOK rfl ?_ | refine DW_orow 6 tabOK rfl ?_ | refine DW_oix tabOK rfl ?_ | refine DW_olenA tabOK rfl ?_ | refine DW_A tabs rfl ?_ | refine DW_nil ?_ | refine W_A rfl ?_ | refine DW_C rfl k0 ?_ | refine DW_row tabOK rfl ?_ | refine DW_app tabOK rfl rfl (by simp; omega) (by simp; omega) ?_ | refine DW_app0 tabOK rfl (by simp; omega) (by simp; omega) ?_)
 refine W_count l.length (fun i f N => ∃ g, N = bkM g ∧ f = bkF l i g) (Nat.zero_le _) ⟨0, rfl, rfl⟩ ((Joint.tok 4 rfl (sz' := 2) (.inr rfl)).trans (Joint.le ?_ ?_)) ?_
 ·unfold bkF dlA
  repeat (refine AF.le_cons rfl ?_)
  exact AF.le_nil rfl
 ·exact Mem.le_cons rfl (Mem.le_cons rfl (Mem.le_nil rfl))
 rintro i f N hi ⟨g, rfl, rfl⟩
 unfold bkF bkM dlA bkA
 by_cases h1 : i < l.length
 ·have d1 : decide ((i : Int) < (l.length : Int)) = true := decide_eq_true (by omega)
  have hx : l[i]? = some l[i] := List.getElem?_eq_getElem h1
  have fi := wrap_succ (i := i) (by omega)
  have htk : (l.take (i + 1)).map backD = (l.take i).map backD ++ [backD l[i]] := by rw [take_succ hx, List.map_append]; rfl
  have lo := len_map Dl.av ((l.take i).map backD)
  have lo2 : ((l.take i).map backD).length ≤ i := by rw [List.length_map, List.length_take]; omega
  generalize l[i] = dd at hx htk
  obtain ⟨p, k⟩ := dd
  by_cases hk : goodK k
  ·have kn := known_yes hk
   rcases hk with rfl | rfl | rfl
   ·repeat' (first | refine DW_VB tabs rfl d1 ?_ | refine DW_VI tabs rfl (by first | exact fi | exact lo) ?_ | refine DW_box 3 tabOK rfl ?_ | refine DW_box 6 tabOK rfl ?_ | refine DW_orow 3 tabOK rfl ?_ | refine DW_orow 6 tabOK rfl ?_ | refine DW_oix tabOK rfl ?_ | refine DW_olenA tabOK rfl ?_ | refine DW_A tabs rfl ?_ | refine DW_nil ?_ | refine W_A rfl ?_ | refine DW_C rfl kn ?_ | refine DW_ix tabOK rfl (ixN hx) ?_ | refine DW_row tabOK rfl ?_ | refine DW_app tabOK rfl rfl (by simp; omega) (by simp; omega) ?_ | refine DW_app0 tabOK rfl (by simp; omega) (by simp; omega) ?_)
    refine ⟨h1, _, _, ⟨g + 1, rfl, rfl⟩, bk_cut (by decide) htk rfl (by show 2 ≤ 3; decide) rfl rfl rfl rfl rfl rfl rfl⟩
   ·repeat' (first | refine DW_VB tabs rfl d1 ?_ | refine DW_VI tabs rfl (by first | exact fi | exact lo) ?_ | refine DW_box 3 tabOK rfl ?_ | refine DW_box 6 tabOK rfl ?_ | refine DW_orow 3 tabOK rfl ?_ | refine DW_orow 6 tabOK rfl ?_ | refine DW_oix tabOK rfl ?_ | refine DW_olenA tabOK rfl ?_ | refine DW_A tabs rfl ?_ | refine DW_nil ?_ | refine W_A rfl ?_ | refine DW_C rfl kn ?_ | refine DW_ix tabOK rfl (ixN hx) ?_ | refine DW_row tabOK rfl ?_ | refine DW_app tabOK rfl rfl (by simp; omega) (by simp; omega) ?_ | refine DW_app0 tabOK rfl (by simp; omega) (by simp; omega) ?_)
    refine ⟨h1, _, _, ⟨g + 1, rfl, rfl⟩, bk_cut (by decide) htk rfl (by show 2 ≤ 3; decide) rfl rfl rfl rfl rfl rfl rfl⟩
   ·repeat' (first | refine DW_VB tabs rfl d1 ?_ | refine DW_VI tabs rfl (by first | exact fi | exact lo) ?_ | refine DW_box 3 tabOK rfl ?_ | refine DW_box 6 tabOK rfl ?_ | refine DW_orow 3 tabOK rfl ?_ | refine DW_orow 6 tabOK rfl ?_ | refine DW_oix tabOK rfl ?_ | refine DW_olenA tabOK rfl ?_ | refine DW_A tabs rfl ?_ | refine DW_nil ?_ | refine W_A rfl ?_ | refine DW_C rfl kn ?_ | refine DW_ix tabOK rfl (ixN hx) ?_ | refine DW_row tabOK rfl ?_ | refine DW_app tabOK rfl rfl (by simp; omega) (by simp; omega) ?_ | refine DW_app0 tabOK rfl (by simp; omega) (by simp; omega) ?_)
    refine ⟨h1, _, _, ⟨g + 1, rfl, rfl⟩, bk_cut (by decide) htk rfl (by show 2 ≤ 3; decide) rfl rfl rfl rfl rfl rfl rfl⟩
  ·have kn := known_ok k
   rw [show (decide (0 < k) && decide (k < 4)) = false by unfold goodK at hk; simp; omega] at kn
   have e : backD ⟨p, k⟩ = ⟨p, k⟩ := by
    unfold backD backK goodK at *
    simp only
    rw [if_neg (by omega)]
   rw [e] at htk
   repeat' (first | refine DW_VB tabs rfl d1 ?_ | refine DW_VI tabs rfl (by first | exact fi | exact lo) ?_ | refine DW_box 3 tabOK rfl ?_ | refine DW_box 6 tabOK rfl ?_ | refine DW_orow 3 tabOK rfl ?_ | refine DW_orow 6 tabOK rfl ?_ | refine DW_oix tabOK rfl ?_ | refine DW_olenA tabOK rfl ?_ | refine DW_A tabs rfl ?_ | refine DW_nil ?_ | refine W_A rfl ?_ | refine DW_C rfl kn ?_ | refine DW_ix tabOK rfl (ixN hx) ?_ | refine DW_row tabOK rfl ?_ | refine DW_app tabOK rfl rfl (by simp; omega) (by simp; omega) ?_ | refine DW_app0 tabOK rfl (by simp; omega) (by simp; omega) ?_)
   refine ⟨h1, _, _, ⟨g + 1, rfl, rfl⟩, bk_cut (by decide) htk rfl (by show 2 ≤ 3; decide) rfl rfl rfl rfl rfl rfl rfl⟩
 ·have d1 : decide ((i : Int) < (l.length : Int)) = false := decide_eq_false (by omega)
  obtain rfl : i = l.length := by omega
  rw [List.take_length]
  have hc := closed_dls (l.map backD)
  unfold dlA at hc
  repeat' (first | refine DW_VB tabs rfl d1 ?_ | refine DW_VI tabs rfl la ?_ | refine DW_box 3 tabOK rfl ?_ | refine DW_box 6 tabOK rfl ?_ | refine DW_orow 3 tabOK rfl ?_ | refine DW_orow 6 tabOK rfl ?_ | refine DW_oix tabOK rfl ?_ | refine DW_olenA tabOK rfl ?_ | refine DW_A tabs rfl ?_ | refine DW_nil ?_ | refine W_A rfl ?_ | refine DW_row tabOK rfl ?_ | refine DW_app tabOK rfl rfl (by simp; omega) (by simp; omega) ?_ | refine DW_app0 tabOK rfl (by simp; omega) (by simp; omega) ?_)
  exact ⟨rfl, _, rfl, _, rfl, SubC.untag hc⟩

theorem dl_neB (p q : Dl) : (!((p.path == q.path) && ((decide (p.kind = q.kind)) && true))) = !decide (p = q) := by
 obtain ⟨a, b⟩ := p
 obtain ⟨d, e⟩ := q
 congr 1
 rw [Bool.eq_iff_iff]
 simp
set_option maxRecDepth 100000 in
set_option maxHeartbeats 8000000 in
theorem dlSame_ok (a b : List Dl) (ta tb : Tag) (ha : a.length < 10000000) (hb : b.length < 10000000) : APure Tryz.prog 42 [dlA a ta, dlA b tb] (.bool (decide (a = b))) := by
 intro M
 refine acalls_of tabOK Tryz.func42 rfl (by decide) (by simp [Tryz.f42]) ?_
 have la := len_map Dl.av a
 have lb := len_map Dl.av b
 unfold dlA
 by_cases hl : a.length = b.length
 ·have d0 : (!decide ((a.length : Int) = (b.length : Int))) = false := by simp; omega
  repeat' (first | refine DW_VB tabs rfl d0 ?_ | refine DW_VI tabs rfl (by first | exact la | exact lb) ?_ | refine DW_A tabs rfl ?_ | refine DW_nil ?_ | refine W_A rfl ?_ | refine W_draw mixed [0, 1, 4, 5, 2, 3, 6, 7, 8] [.P, .P, .R, .R, .P, .P, .R, .R, .P] rfl rfl (by kernel_rfl) ?_)
  refine W_count a.length (fun i f N => N = M ∧ (a.take i = b.take i) ∧ f = ⟨[(0, .sl 2 (a.map Dl.av) ta), (1, .sl 2 (b.map Dl.av) tb), (5, .int .i64 (i : Int))], []⟩) (Nat.zero_le _) ⟨rfl, by simp, rfl⟩ (Joint.le ?_ (Mem.le_refl _)) ?_
  ·skip
   repeat (refine AF.le_cons rfl ?_)
   exact AF.le_nil rfl
  rintro i f N hi ⟨rfl, hinv, rfl⟩
  by_cases h1 : i < a.length
  ·have d1 : decide ((i : Int) < (a.length : Int)) = true := by simp; omega
   have hx : a[i]? = some a[i] := List.getElem?_eq_getElem h1
   have fi := wrap_succ (i := i) (by omega)
   have ht := take_succ hx
   have hm := List.getElem_mem h1
   generalize a[i] = x at hx ht hm
   have hy : b[i]? = some b[i] := List.getElem?_eq_getElem (by omega)
   have hu := take_succ hy
   generalize b[i] = y at hy hu
   by_cases h3 : x = y
   ·have d3 := (dl_neB x y).trans (show (!decide (x = y)) = false by simp [h3])
    repeat' (first | refine DW_VB tabs rfl (by first | exact d1 | exact d3) ?_ | refine DW_VI tabs rfl (by first | exact fi | exact la | exact lb) ?_ | refine DW_A tabs rfl ?_ | refine DW_nil ?_ | refine W_A rfl ?_ | refine DW_ix tabOK rfl (ixN hx) ?_ | refine DW_ix tabOK rfl (ixN hy) ?_ | refine W_draw mixed [0, 1, 4, 5, 2, 3, 6, 7, 8] [.P, .P, .R, .R, .P, .P, .R, .R, .P] rfl rfl (by kernel_rfl) ?_)
    refine ⟨h1, _, _, ⟨rfl, by rw [ht, hu, hinv, h3], rfl⟩, Joint.le ?_ (Mem.le_refl _)⟩
    repeat (refine AF.le_cons rfl ?_)
    exact AF.le_nil rfl
   ·have d3 := (dl_neB x y).trans (show (!decide (x = y)) = true by simp [h3])
    have e : decide (a = b) = false := by
     refine decide_eq_false fun e => h3 ?_
     subst e
     rw [hx] at hy
     cases hy
     rfl
    rw [e]
    repeat' (first | refine DW_VB tabs rfl (by first | exact d1 | exact d3) ?_ | refine DW_VI tabs rfl (by first | exact fi | exact la | exact lb) ?_ | refine DW_A tabs rfl ?_ | refine DW_nil ?_ | refine W_A rfl ?_ | refine DW_ix tabOK rfl (ixN hx) ?_ | refine DW_ix tabOK rfl (ixN hy) ?_ | refine W_draw mixed [0, 1, 4, 5, 2, 3, 6, 7, 8] [.P, .P, .R, .R, .P, .P, .R, .R, .P] rfl rfl (by kernel_rfl) ?_)
    exact ⟨rfl, _, rfl, rfl, rfl⟩
  ·have d1 : decide ((i : Int) < (a.length : Int)) = false := by simp; omega
   obtain rfl : i = a.length := by omega
   rw [take_all, hl, take_all] at hinv
   have e : decide (a = b) = true := by simp [hinv]
   rw [e]
   repeat' (first | refine DW_VB tabs rfl d1 ?_ | refine DW_VI tabs rfl la ?_ | refine DW_A tabs rfl ?_ | refine DW_nil ?_ | refine W_A rfl ?_ | refine W_draw mixed [0, 1, 4, 5, 2, 3, 6, 7, 8] [.P, .P, .R, .R, .P, .P, .R, .R, .P] rfl rfl (by kernel_rfl) ?_)
   exact ⟨rfl, _, rfl, rfl, rfl⟩
 ·have d0 : (!decide ((a.length : Int) = (b.length : Int))) = true := by simp; omega
  have e : decide (a = b) = false := decide_eq_false fun e => hl (by rw [e])
  rw [e]
  repeat' (first | refine DW_VB tabs rfl d0 ?_ | refine DW_VI tabs rfl (by first | exact la | exact lb) ?_ | refine DW_A tabs rfl ?_ | refine DW_nil ?_ | refine W_A rfl ?_ | refine W_draw mixed [0, 1, 4, 5, 2, 3, 6, 7, 8] [.P, .P, .R, .R, .P, .P, .R, .R, .P] rfl rfl (by kernel_rfl) ?_)
  exact ⟨rfl, _, rfl, rfl, rfl⟩
end Go.Proofs.YtmgkebghojhocaaGreatDoor

/- Rows of deltas: Then of the code. No further condition. -/
set_option linter.unusedVariables false
set_option linter.unusedSimpArgs false
namespace Go.Proofs.YtmgkebghojhocaaGreatDoor
open Go.Ab

def tblA : List AV := [iv 0, iv 0, iv 0, iv 0, iv 0, iv 1, iv 1, iv 0, iv 0, iv 2, iv 2, iv 3, iv 0, iv 2, iv 3, iv 3]
theorem closed_tbl : ∀ x, x ∈ tblA → Closed x := closed_ivs (by
 intro x hx
 simp only [tblA, List.mem_cons, List.not_mem_nil, or_false] at hx
 rcases hx with h | h | h | h | h | h | h | h | h | h | h | h | h | h | h | h <;> exact ⟨_, h⟩)
set_option maxRecDepth 100000 in
set_option maxHeartbeats 8000000 in
theorem dbehind_ok : APure Tryz.prog 101 [] (.agg tblA) := by
 refine pure_sub (closedL_nil) (closed_agg closed_tbl) ?_
 refine acalls_of tabOK Tryz.func101 rfl (by decide) (by simp [Tryz.f101]) ?_
 repeat' (first | refine DW_box 0 tabOK rfl ?_ | refine DW_A tabs rfl ?_ | refine DW_nil ?_ | refine W_A rfl ?_)
 exact ⟨rfl, _, rfl, _, rfl, SubC.of_closed (closed_agg closed_tbl)⟩
set_option maxRecDepth 100000 in
set_option maxHeartbeats 8000000 in
theorem tpath1_ok (l : List Dl) (t : Tag) (i : Nat) (e : Dl) (he : l[i]? = some e) : APure Tryz.prog 103 [.int .i64 (i : Int), .ref [dlA l t]] (.str e.path) := by
 intro M
 refine acalls_of tabOK Tryz.func103 rfl (by decide) (by simp [Tryz.f103]) ?_
 unfold dlA
 repeat' (first | refine DW_A tabs rfl ?_ | refine DW_nil ?_ | refine W_A rfl ?_ | refine DW_ix tabOK rfl (ixN he) ?_)
 exact ⟨rfl, _, rfl, rfl, rfl⟩
set_option maxRecDepth 100000 in
set_option maxHeartbeats 8000000 in
theorem tpath2_ok (l : List Dl) (t : Tag) (i : Nat) (e : Dl) (he : l[i]? = some e) : APure Tryz.prog 104 [.int .i64 (i : Int), .ref [dlA l t]] (.str e.path) := by
 intro M
 refine acalls_of tabOK Tryz.func104 rfl (by decide) (by simp [Tryz.f104]) ?_
 unfold dlA
 repeat' (first | refine DW_A tabs rfl ?_ | refine DW_nil ?_ | refine W_A rfl ?_ | refine DW_ix tabOK rfl (ixN he) ?_)
 exact ⟨rfl, _, rfl, rfl, rfl⟩
def rowsT (s : List Dl × Nat) : Mem := ⟨3, [(0, .cells tblA), (1, .cells [dlA s.1 (.tok 2 s.2)]), (2, .spare s.2)]⟩
theorem rowsT_of {s : List Dl × Nat} {d : Dl} {M : Mem} (hn : 3 = M.next) (h2 : M.get 0 = some (.cells tblA)) (h0 : M.get 1 = some (.cells [.sl 2 (s.1.map Dl.av ++ [d.av]) (.tok 2 (s.2 + 1))])) (h1 : M.get 2 = some (.spare (s.2 + 1))) : (rowsT (more s d)).le M := by
 unfold rowsT more
 have e : dlA (s.1 ++ [d]) (.tok 2 (s.2 + 1)) = .sl 2 (s.1.map Dl.av ++ [d.av]) (.tok 2 (s.2 + 1)) := by simp [dlA]
 rw [e]
 exact Mem.le_cons h2 (Mem.le_cons h0 (Mem.le_cons h1 (Mem.le_nil hn)))
set_option maxRecDepth 100000 in
set_option maxHeartbeats 8000000 in
theorem tseen_b (a b : List Dl) (ta tb : Tag) (k : Nat) (e : Dl) (he : b[k]? = some e) (s : List Dl × Nat) (hs : s.1.length < 1000000000) : ACalls Tryz.prog 105 [.int .i64 (-1), .int .i64 (k : Int), .ptr 1 0, .ref [dlA b tb], .ref [dlA a ta], .ptr 0 0] (rowsT s) ((fun r M => r = .ret (.tup []) ∧ (rowsT (more s e)).le M)) := by
 refine acalls_of tabOK Tryz.func105 rfl (by decide) (by simp [Tryz.f105]) ?_
 unfold dlA rowsT dlA
 have la := len_map Dl.av s.1
 repeat' (first | refine DW_VI tabs rfl la ?_ | refine DW_A tabs rfl ?_ | refine DW_nil ?_ | refine W_A rfl ?_ | refine DW_ix tabOK rfl (ixN he) ?_ | refine DW_row tabOK rfl ?_ | refine DW_app tabOK rfl rfl (by simp; omega) (by simp; omega) ?_ | refine DW_app0 tabOK rfl (by simp; omega) (by simp; omega) ?_ | refine W_draw mixed [2, 0, 1, 3, 4, 5, 6, 7] [.R, .R, .P, .R, .R, .P, .E, .E] rfl rfl (by kernel_rfl) ?_ | refine W_draw mixed [1, 6, 0, 2, 3, 4, 5, 7, 8, 9, 10, 11, 12, 13, 14] [.R, .P, .R, .R, .R, .R, .P, .R, .R, .R, .R, .R, .R, .P, .P] rfl rfl (by kernel_rfl) ?_ | refine W_draw mixed [2, 7, 12, 0, 1, 3, 4, 5, 6, 8, 9, 10, 11, 13, 14, 15, 16, 17, 18, 19, 20, 21, 22] [.R, .R, .P, .R, .R, .R, .R, .P, .R, .R, .R, .R, .P, .R, .R, .R, .R, .R, .R, .P, .P, .E, .E] rfl rfl (by kernel_rfl) ?_)
 exact ⟨rfl, _, rfl, rfl, rowsT_of rfl rfl rfl rfl⟩
set_option maxRecDepth 100000 in
set_option maxHeartbeats 8000000 in
theorem tseen_a (a b : List Dl) (ta tb : Tag) (i : Nat) (e : Dl) (he : a[i]? = some e) (s : List Dl × Nat) (hs : s.1.length < 1000000000) : ACalls Tryz.prog 105 [.int .i64 (i : Int), .int .i64 (-1), .ptr 1 0, .ref [dlA b tb], .ref [dlA a ta], .ptr 0 0] (rowsT s) ((fun r M => r = .ret (.tup []) ∧ (rowsT (more s e)).le M)) := by
 refine acalls_of tabOK Tryz.func105 rfl (by decide) (by simp [Tryz.f105]) ?_
 have d1 : decide ((i : Int) < 0) = false := decide_eq_false (by omega)
 unfold dlA rowsT dlA
 have la := len_map Dl.av s.1
 repeat' (first | refine DW_VB tabs rfl d1 ?_ | refine DW_VI tabs rfl la ?_ | refine DW_A tabs rfl ?_ | refine DW_nil ?_ | refine W_A rfl ?_ | refine DW_ix tabOK rfl (ixN he) ?_ | refine DW_row tabOK rfl ?_ | refine DW_app tabOK rfl rfl (by simp; omega) (by simp; omega) ?_ | refine DW_app0 tabOK rfl (by simp; omega) (by simp; omega) ?_ | refine W_draw mixed [2, 0, 1, 3, 4, 5, 6, 7] [.R, .R, .P, .R, .R, .P, .E, .E] rfl rfl (by kernel_rfl) ?_ | refine W_draw mixed [1, 6, 0, 2, 3, 4, 5, 7, 8, 9, 10, 11, 12, 13, 14] [.R, .P, .R, .R, .R, .R, .P, .R, .R, .R, .R, .R, .R, .P, .P] rfl rfl (by kernel_rfl) ?_ | refine W_draw mixed [2, 7, 12, 0, 1, 3, 4, 5, 6, 8, 9, 10, 11, 13, 14, 15, 16, 17, 18, 19, 20, 21, 22] [.R, .R, .P, .R, .R, .R, .R, .P, .R, .R, .R, .R, .P, .R, .R, .R, .R, .R, .R, .P, .P, .E, .E] rfl rfl (by kernel_rfl) ?_)
 exact ⟨rfl, _, rfl, rfl, rowsT_of rfl rfl rfl rfl⟩
set_option maxRecDepth 100000 in
set_option maxHeartbeats 8000000 in
theorem tseen_ab (a b : List Dl) (ta tb : Tag) (i k : Nat) (e e2 : Dl) (he : a[i]? = some e) (he2 : b[k]? = some e2) (h1 : goodK e.kind) (h2 : goodK e2.kind) (s : List Dl × Nat) (hs : s.1.length < 1000000000) : ACalls Tryz.prog 105 [.int .i64 (i : Int), .int .i64 (k : Int), .ptr 1 0, .ref [dlA b tb], .ref [dlA a ta], .ptr 0 0] (rowsT s) ((fun r M => r = .ret (.tup []) ∧ (rowsT (if bothS e.kind e2.kind = 0 then s else more s ⟨e.path, bothS e.kind e2.kind⟩)).le M)) := by
 refine acalls_of tabOK Tryz.func105 rfl (by decide) (by simp [Tryz.f105]) ?_
 have d1 : decide ((i : Int) < 0) = false := decide_eq_false (by omega)
 have d2 : decide ((k : Int) < 0) = false := decide_eq_false (by omega)
 have k1 := known_yes h1
 have k2 := known_yes h2
 have la := len_map Dl.av s.1
 obtain ⟨p, x⟩ := e
 obtain ⟨q, y⟩ := e2
 unfold dlA rowsT dlA tblA
 rcases h1 with h1 | h1 | h1 <;> rcases h2 with h2 | h2 | h2 <;> simp only at h1 h2 <;> subst h1 <;> subst h2
 repeat' (first | refine DW_VB tabs rfl (by first | exact d1 | exact d2) ?_ | refine DW_VI tabs rfl la ?_ | refine DW_A tabs rfl ?_ | refine DW_nil ?_ | refine W_A rfl ?_ | refine DW_C rfl k1 ?_ | refine DW_C rfl k2 ?_ | refine DW_ix tabOK rfl (ixN he) ?_ | refine DW_ix tabOK rfl (ixN he2) ?_ | refine DW_row tabOK rfl ?_ | refine DW_app tabOK rfl rfl (by simp; omega) (by simp; omega) ?_ | refine DW_app0 tabOK rfl (by simp; omega) (by simp; omega) ?_ | refine W_draw mixed [2, 0, 1, 3, 4, 5, 6, 7] [.R, .R, .P, .R, .R, .P, .E, .E] rfl rfl (by kernel_rfl) ?_ | refine W_draw mixed [1, 6, 0, 2, 3, 4, 5, 7, 8, 9, 10, 11, 12, 13, 14] [.R, .P, .R, .R, .R, .R, .P, .R, .R, .R, .R, .R, .R, .P, .P] rfl rfl (by kernel_rfl) ?_ | refine W_draw mixed [2, 7, 12, 0, 1, 3, 4, 5, 6, 8, 9, 10, 11, 13, 14, 15, 16, 17, 18, 19, 20, 21, 22] [.R, .R, .P, .R, .R, .R, .R, .P, .R, .R, .R, .R, .P, .R, .R, .R, .R, .R, .R, .P, .P, .E, .E] rfl rfl (by kernel_rfl) ?_)
 ·exact ⟨rfl, _, rfl, rfl, rowsT_of rfl rfl rfl rfl⟩
 ·exact ⟨rfl, _, rfl, rfl, rowsT_of rfl rfl rfl rfl⟩
 ·exact ⟨rfl, _, rfl, rfl, Mem.le_refl _⟩
 ·exact ⟨rfl, _, rfl, rfl, rowsT_of rfl rfl rfl rfl⟩
 ·exact ⟨rfl, _, rfl, rfl, rowsT_of rfl rfl rfl rfl⟩
 ·exact ⟨rfl, _, rfl, rfl, rowsT_of rfl rfl rfl rfl⟩
 ·exact ⟨rfl, _, rfl, rfl, rowsT_of rfl rfl rfl rfl⟩
 ·exact ⟨rfl, _, rfl, rfl, rowsT_of rfl rfl rfl rfl⟩
 ·exact ⟨rfl, _, rfl, rfl, rowsT_of rfl rfl rfl rfl⟩
theorem walkT_ok (a b : List Dl) (ha : good a) (hb : good b) : ACalls Tryz.prog 102 [.int .i64 (a.length : Int), .int .i64 (b.length : Int), .fn (.func 103) [] [.ref [dlA a .none]], .fn (.func 104) [] [.ref [dlA b .none]], .fn (.func 105) [] [.ptr 1 0, .ref [dlA b .none], .ref [dlA a .none], .ptr 0 0]] (rowsT ([], 0)) (fun e M => e = .ret (.tup []) ∧ M = rowsT (thenS a b ([], 0))) := by
 have gA : ∀ i, i < a.length → a[i]? = some (a.getD i default) := fun i h => by simp [List.getD, h]
 have gB : ∀ i, i < b.length → b[i]? = some (b.getD i default) := fun i h => by simp [List.getD, h]
 refine walk_ok rowsT (fun s i k => s.1.length ≤ i + k ∧ i ≤ a.length ∧ k ≤ b.length) (stepT a b) a.length b.length (by have := ha.1; omega) (by have := hb.1; omega) (fun i => (a.getD i default).path) (fun i => (b.getD i default).path) 103 104 105 [.ref [dlA a .none]] [.ref [dlA b .none]] [.ptr 1 0, .ref [dlA b .none], .ref [dlA a .none], .ptr 0 0] (fun i hi => tpath1_ok a _ i _ (gA i hi)) (fun i hi => tpath2_ok b _ i _ (gB i hi)) ?_ ?_ ?_ ([], 0) ⟨by simp, by simp, by simp⟩
 ·intro s i k hJ hi
  have := ha.1
  have := hb.1
  have h0 : ¬ ((i : Int) < 0) := by omega
  have e : stepT a b s i (-1) = more s (a.getD i default) := by simp only [stepT, if_neg h0, Int.toNat_natCast]; rfl
  rw [e]
  exact ⟨jret (tseen_a a b _ _ i _ (gA i hi) s (by omega)), by simp [more]; omega, by omega, by omega⟩
 ·intro s i k hJ hk
  have := ha.1
  have := hb.1
  have e : stepT a b s (-1) k = more s (b.getD k default) := by simp [stepT]
  rw [e]
  exact ⟨jret (tseen_b a b _ _ k _ (gB k hk) s (by omega)), by simp [more]; omega, by omega, by omega⟩
 ·intro s i k hJ hi hk
  have := ha.1
  have := hb.1
  have e : stepT a b s i k = if bothS (a.getD i default).kind (b.getD k default).kind = 0 then s else more s ⟨(a.getD i default).path, bothS (a.getD i default).kind (b.getD k default).kind⟩ := by
   have h1 : ¬ ((i : Int) < 0) := by omega
   have h2 : ¬ ((k : Int) < 0) := by omega
   simp only [stepT, if_neg h1, if_neg h2, Int.toNat_natCast]
  rw [e]
  refine ⟨jret (tseen_ab a b _ _ i k _ _ (gA i hi) (gB k hk) (ha.2 _ (List.mem_of_getElem? (gA i hi))) (hb.2 _ (List.mem_of_getElem? (gB k hk))) s (by omega)), ?_, by omega, by omega⟩
  split
  ·omega
  ·simp [more]; omega
end Go.Proofs.YtmgkebghojhocaaGreatDoor

/- Rows of deltas: Then of the code; the document's rows. No further condition. -/
set_option linter.unusedVariables false
set_option linter.unusedSimpArgs false
namespace Go.Proofs.YtmgkebghojhocaaGreatDoor
open Go.Ab

theorem W_rowsT {r : Option Nat} {P : Program} {n : Nat} {c : Code} {Q : AX → AF → Mem → Prop} {f : AF} {M : Mem} (hn : M.next = 2) (h0 : M.get 0 = some (.cells tblA)) (hM : M.get 1 = some (.cells [.sl 0 [] .full])) (h : W r P n c Q f (rowsT ([], 0))) : W r P n c Q f M := by
 obtain ⟨k, l⟩ := M
 simp only at hn
 subst hn
 refine W_ghost ((Joint.tokM 1 0 hM rfl (sz' := 2) (.inr rfl)).trans (Joint.le ⟨rfl, fun _ => Sub.refl⟩ (Mem.le_cons ?_ (Mem.le_cons rfl (Mem.le_cons rfl (Mem.le_nil rfl)))))) h
 exact h0
set_option maxRecDepth 100000 in
set_option maxHeartbeats 8000000 in
theorem then_ok (a b : List Dl) (ha : good a) (hb : good b) : APure Tryz.prog 45 [dlA a .none, dlA b .none] (dlA (thens a b) .none) := by
 refine pure_sub (closed2 (closed_dls a) (closed_dls b)) (closed_dls _) ?_
 refine acalls_of tabOK Tryz.func45 rfl (by decide) (by simp [Tryz.f45]) ?_
 have la := len_map Dl.av a
 have lb := len_map Dl.av b
 have kb := dbehind_ok
 have kw := walkT_ok a b ha hb
 unfold thens
 have hc := closed_dls (thenS a b ([], 0)).1
 unfold dlA at *
 repeat' (first | refine W_rowsT rfl rfl rfl ?_ | refine DW_VI tabs rfl (by first | exact la | exact lb) ?_ | refine DW_box 5 tabOK rfl ?_ | refine DW_box 6 tabOK rfl ?_ | refine DW_olenA tabOK rfl ?_ | refine DW_A tabs rfl ?_ | refine DW_nil ?_ | refine W_A rfl ?_ | refine DW_C rfl kb ?_ | refine DW_CM rfl rfl (kw) ?_ ?_)
 rotate_left
 ·intro u M' h
  cases h.1
 rintro u M' ⟨e, rfl⟩
 cases e
 unfold rowsT dlA at *
 repeat' (first | refine W_rowsT rfl rfl rfl ?_ | refine DW_box 5 tabOK rfl ?_ | refine DW_box 6 tabOK rfl ?_ | refine DW_olenA tabOK rfl ?_ | refine DW_A tabs rfl ?_ | refine DW_nil ?_ | refine W_A rfl ?_)
 exact ⟨rfl, _, rfl, _, rfl, SubC.untag hc⟩

/-! ### The document's rows -/
def litE (e : En) : AV := .agg [.str e.path, .int .i64 e.time, .int .i64 e.meta_.size, .int .i64 e.meta_.mode, .sl 0 [] .full]
theorem lit_ens {l : List En} (h : ∀ e, e ∈ l → e.meta_.ch = []) : Ab.Sub (.sl 5 (l.map litE) .full) (ensA l .none) := by
 refine Sub.trans (slL ?_ ?_ (by simp) ?_) (Sub.untag (xs := l.map En.av))
 ·intro x hx
  obtain ⟨e, _, rfl⟩ := List.mem_map.1 hx
  rfl
 ·intro x hx
  obtain ⟨e, _, rfl⟩ := List.mem_map.1 hx
  rfl
 intro i x y j a b h1 h2 h3 h4
 rw [List.getElem?_map] at h1 h2
 cases he : l[i]? with
 | none => rw [he] at h1; cases h1
 | some e =>
  rw [he] at h1 h2
  cases h1
  cases h2
  have hm := h e (List.mem_of_getElem? he)
  obtain ⟨p, t, s, m, c⟩ := e
  simp only at hm
  subst hm
  match j, h3, h4 with
  | 0, h3, h4 => cases h3; cases h4; exact Sub.refl
  | 1, h3, h4 => cases h3; cases h4; exact Sub.refl
  | 2, h3, h4 => cases h3; cases h4; exact Sub.refl
  | 3, h3, h4 => cases h3; cases h4; exact Sub.refl
  | 4, h3, h4 => cases h3; cases h4; exact Sub.nil
  | j + 5, h3, h4 => simp [litE, AV.cells] at h3
def exA : List En := [⟨[97], 0, ⟨1, 0, []⟩⟩, ⟨[98], 0, ⟨0, 0, []⟩⟩]
def exB : List En := [⟨[97], 0, ⟨2, 0, []⟩⟩, ⟨[99], 0, ⟨0, 0, []⟩⟩]
def exW : List Dl := [⟨[97], 2⟩, ⟨[98], 3⟩, ⟨[99], 1⟩]
def exV : List Dl := [⟨[97], 2⟩, ⟨[98], 1⟩, ⟨[99], 3⟩]
theorem exE : ents exA exB = exW := by decide +kernel
theorem exBk : exW.map backD = exV := by decide +kernel
theorem exT : thens [⟨[97], 1⟩] [⟨[97], 3⟩] = [] := by decide +kernel
set_option maxRecDepth 100000 in
set_option maxHeartbeats 8000000 in
theorem diffs_ok : APure Tryz.prog 41 [] (.bool true) := by
 refine pure_sub (closedL_nil) (closed_bool) ?_
 refine acalls_of tabOK Tryz.func41 rfl (by decide) (by simp [Tryz.f41]) ?_
 have ke := (entries_ok exA exB (by constructor <;> decide) (by constructor <;> decide)).sub (args := [.sl 5 (exA.map litE) .full, .sl 5 (exB.map litE) .full]) ⟨lit_ens (by decide), lit_ens (by decide), trivial⟩
 rw [exE] at ke
 have s1 := dlSame_ok exW exW .none .full (by decide) (by decide)
 have s2 := dlSame_ok exV exV .none .full (by decide) (by decide)
 rw [decide_eq_true rfl] at s1 s2
 have kb := dBack_ok exW (by decide)
 rw [exBk] at kb
 have kt := (then_ok [⟨[97], 1⟩] [⟨[97], 3⟩] (by constructor <;> simp [goodK]) (by constructor <;> simp [goodK])).sub (args := [dlA [⟨[97], 1⟩] .full, dlA [⟨[97], 3⟩] .full]) ⟨Sub.untag, Sub.untag, trivial⟩
 rw [exT] at kt
 unfold dlA exW exV at *
 unfold exA exB at *
 repeat' (first | refine DW_A tabs rfl ?_ | refine DW_nil ?_ | refine W_A rfl ?_ | refine DW_C rfl ke ?_ | refine DW_C rfl s1 ?_ | refine DW_C rfl s2 ?_ | refine DW_C rfl kb ?_ | refine DW_C rfl kt ?_ | refine DW_row tabOK rfl ?_)
 exact ⟨rfl, _, rfl, _, rfl, SubC.of_closed closed_bool⟩
end Go.Proofs.YtmgkebghojhocaaGreatDoor
