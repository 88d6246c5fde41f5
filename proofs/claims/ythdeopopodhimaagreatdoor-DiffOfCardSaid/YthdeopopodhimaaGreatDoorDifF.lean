/- Rows of deltas: Back of the code, rows that are the same. No further condition. -/
import Derived.Test.YthdeopopodhimaaGreatDoorDifE
import Derived.Test.YthdeopopodhimaaGreatDoorDifQ
set_option linter.unusedVariables false
set_option linter.unusedSimpArgs false
namespace Go.Proofs.YthdeopopodhimaaGreatDoor
open Go.Ab

def iv (n : Int) : AV := .int .i64 n
def bkA : List AV := [iv 0, iv 3, iv 2, iv 1]
theorem closed_ivs {l : List AV} (h : ∀ x, x ∈ l → ∃ n, x = iv n) : ∀ x, x ∈ l → Closed x := by
  intro x hx
  obtain ⟨n, rfl⟩ := h x hx
  exact closed_int
theorem closed_bkA : ∀ x, x ∈ bkA → Closed x := closed_ivs (by
  intro x hx
  simp [bkA] at hx
  rcases hx with rfl | rfl | rfl | rfl <;> exact ⟨_, rfl⟩)
set_option maxRecDepth 100000 in
set_option maxHeartbeats 8000000 in
theorem dback_ok : APure Tryz.prog 97 [] (.agg bkA) := by
  refine pure_sub (closedL_nil) (closed_agg closed_bkA) ?_
  refine acalls_of tabOK Tryz.func97 rfl (by decide) (by simp [Tryz.f97]) ?_
  repeat' (first | refine DW_box 0 tabOK rfl ?_ | refine DW_A tabs rfl ?_ | refine DW_nil ?_ | refine W_A rfl ?_)
  exact ⟨rfl, _, rfl, _, rfl, SubC.of_closed (closed_agg closed_bkA)⟩
set_option maxRecDepth 100000 in
set_option maxHeartbeats 8000000 in
theorem known_ok (k : Int) : APure Tryz.prog 98 [.int .i64 k] (.bool (decide (0 < k) && decide (k < 4))) := by
  intro M
  refine acalls_of tabOK Tryz.func98 rfl (by decide) (by simp [Tryz.f98]) ?_
  cases h1 : decide (0 < k)
  · repeat' (first | refine DW_VB tabs rfl h1 ?_ | refine DW_A tabs rfl ?_ | refine DW_nil ?_ | refine W_A rfl ?_)
    exact ⟨rfl, _, rfl, rfl, rfl⟩
  · cases h2 : decide (k < 4)
    · repeat' (first | refine DW_VB tabs rfl (by first | exact h1 | exact h2) ?_ | refine DW_A tabs rfl ?_ | refine DW_nil ?_ | refine W_A rfl ?_)
      exact ⟨rfl, _, rfl, rfl, rfl⟩
    · repeat' (first | refine DW_VB tabs rfl (by first | exact h1 | exact h2) ?_ | refine DW_A tabs rfl ?_ | refine DW_nil ?_ | refine W_A rfl ?_)
      exact ⟨rfl, _, rfl, rfl, rfl⟩
theorem known_yes {k : Int} (h : goodK k) : APure Tryz.prog 98 [.int .i64 k] (.bool true) := by
  have := known_ok k
  rw [show (decide (0 < k) && decide (k < 4)) = true by rcases h with rfl | rfl | rfl <;> rfl] at this
  exact this
def bkM (g : Nat) : Mem := ⟨2, [(0, .cells bkA), (1, .spare g)]⟩
def bkF (l : List Dl) (i g : Nat) : AF := ⟨[(3, .ptr 0 0), (4, dlA ((l.take i).map backD) (.tok 1 g)), (8, dlA l .none), (9, .int .i64 (l.length : Int)), (10, .int .i64 (i : Int))], []⟩
theorem dl_cells (l : List Dl) : ∀ x, x ∈ l.map Dl.av → ∀ c, c ∈ x.cells → Closed c := by
  intro x hx c hc
  obtain ⟨d, _, rfl⟩ := List.mem_map.1 hx
  have : c ∈ [AV.str d.path, .int .i64 d.kind] := hc
  exact closed2 closed_str closed_int c this
theorem bk_cut {n0 : Nat} {f : AF} {M : Mem} (h0 : n0 ≤ 2) {l : List Dl} {i g : Nat} {d : Dl} (ht : (l.take (i + 1)).map backD = (l.take i).map backD ++ [d]) (hd : f.d = []) (h2 : 2 ≤ M.next) (hc : M.get 0 = some (.cells bkA)) (hm : M.get 1 = some (.spare (g + 1)))
    (h3 : f.get 3 = .ptr 0 0) (h4 : f.get 4 = .sl 2 (((l.take i).map backD).map Dl.av ++ [d.av]) (.tok 1 (g + 1))) (h8 : f.get 8 = dlA l .none) (h9 : f.get 9 = .int .i64 (l.length : Int)) (h10 : f.get 10 = .int .i64 ((i + 1 : Nat) : Int)) :
    Joint n0 f M (bkF l (i + 1) (g + 1)) (bkM (g + 1)) := by
  refine Joint.cut (k := 2) (t := (bkF l (i + 1) (g + 1)).t) (l := (bkM (g + 1)).objs) h0 h2 hd ⟨?_, ?_, ?_, ?_, ?_, trivial⟩ (objsC_closed (by decide) hc closed_bkA ⟨by decide, by rw [hm]; rfl, trivial⟩)
  · rw [h3]; exact SubC.ptr rfl
  · rw [h4]
    show SubC 2 _ (dlA ((l.take (i + 1)).map backD) (.tok 1 (g + 1)))
    rw [ht, dl_app]
    exact SubC.tok rfl (fun x hx c hc => by have h := dl_cells ((l.take i).map backD ++ [d]); rw [List.map_append] at h; exact h x hx c hc)
  · rw [h8]; exact SubC.of_closed (closed_dls _)
  · rw [h9]; exact SubC.of_closed closed_int
  · rw [h10]; exact SubC.of_closed closed_int
set_option maxRecDepth 100000 in
set_option maxHeartbeats 8000000 in
theorem dBack_ok (l : List Dl) (hl : l.length < 1000000) : APure Tryz.prog 62 [dlA l .none] (dlA (l.map backD) .none) := by
  refine pure_sub (closed1 (closed_dls l)) (closed_dls _) ?_
  refine acalls_of tabOK Tryz.func62 rfl (by decide) (by simp [Tryz.f62]) ?_
  have la := len_map Dl.av l
  have k0 := dback_ok
  unfold dlA bkA at *
  repeat' (first | refine DW_VI tabs rfl la ?_ | refine DW_box 3 tabOK rfl ?_ | refine DW_box 6 tabOK rfl ?_ | refine DW_orow 3 tabOK rfl ?_ | refine DW_orow 6 tabOK rfl ?_ | refine DW_oix tabOK rfl ?_ | refine DW_olenA tabOK rfl ?_ | refine DW_A tabs rfl ?_ | refine DW_nil ?_ | refine W_A rfl ?_ | refine DW_C rfl k0 ?_ | refine DW_row tabOK rfl ?_ | refine DW_app tabOK rfl rfl (by simp; omega) (by simp; omega) ?_ | refine DW_app0 tabOK rfl (by simp; omega) (by simp; omega) ?_)
  refine W_count l.length (fun i f N => ∃ g, N = bkM g ∧ f = bkF l i g) (Nat.zero_le _) ⟨0, rfl, rfl⟩ ((Joint.tok 4 rfl (sz' := 2) (.inr rfl)).trans (Joint.le ?_ ?_)) ?_
  · unfold bkF dlA
    repeat (refine AF.le_cons rfl ?_)
    exact AF.le_nil rfl
  · exact Mem.le_cons rfl (Mem.le_cons rfl (Mem.le_nil rfl))
  rintro i f N hi ⟨g, rfl, rfl⟩
  unfold bkF bkM dlA bkA
  by_cases h1 : i < l.length
  · have d1 : decide ((i : Int) < (l.length : Int)) = true := decide_eq_true (by omega)
    have hx : l[i]? = some l[i] := List.getElem?_eq_getElem h1
    have fi := wrap_succ (i := i) (by omega)
    have htk : (l.take (i + 1)).map backD = (l.take i).map backD ++ [backD l[i]] := by rw [take_succ hx, List.map_append]; rfl
    have lo := len_map Dl.av ((l.take i).map backD)
    have lo2 : ((l.take i).map backD).length ≤ i := by rw [List.length_map, List.length_take]; omega
    generalize l[i] = dd at hx htk
    obtain ⟨p, k⟩ := dd
    by_cases hk : goodK k
    · have kn := known_yes hk
      rcases hk with rfl | rfl | rfl
      · repeat' (first | refine DW_VB tabs rfl d1 ?_ | refine DW_VI tabs rfl (by first | exact fi | exact lo) ?_ | refine DW_box 3 tabOK rfl ?_ | refine DW_box 6 tabOK rfl ?_ | refine DW_orow 3 tabOK rfl ?_ | refine DW_orow 6 tabOK rfl ?_ | refine DW_oix tabOK rfl ?_ | refine DW_olenA tabOK rfl ?_ | refine DW_A tabs rfl ?_ | refine DW_nil ?_ | refine W_A rfl ?_ | refine DW_C rfl kn ?_ | refine DW_ix tabOK rfl (ixN hx) ?_ | refine DW_row tabOK rfl ?_ | refine DW_app tabOK rfl rfl (by simp; omega) (by simp; omega) ?_ | refine DW_app0 tabOK rfl (by simp; omega) (by simp; omega) ?_)
        refine ⟨h1, _, _, ⟨g + 1, rfl, rfl⟩, bk_cut (by decide) htk rfl (by show 2 ≤ 3; decide) rfl rfl rfl rfl rfl rfl rfl⟩
      · repeat' (first | refine DW_VB tabs rfl d1 ?_ | refine DW_VI tabs rfl (by first | exact fi | exact lo) ?_ | refine DW_box 3 tabOK rfl ?_ | refine DW_box 6 tabOK rfl ?_ | refine DW_orow 3 tabOK rfl ?_ | refine DW_orow 6 tabOK rfl ?_ | refine DW_oix tabOK rfl ?_ | refine DW_olenA tabOK rfl ?_ | refine DW_A tabs rfl ?_ | refine DW_nil ?_ | refine W_A rfl ?_ | refine DW_C rfl kn ?_ | refine DW_ix tabOK rfl (ixN hx) ?_ | refine DW_row tabOK rfl ?_ | refine DW_app tabOK rfl rfl (by simp; omega) (by simp; omega) ?_ | refine DW_app0 tabOK rfl (by simp; omega) (by simp; omega) ?_)
        refine ⟨h1, _, _, ⟨g + 1, rfl, rfl⟩, bk_cut (by decide) htk rfl (by show 2 ≤ 3; decide) rfl rfl rfl rfl rfl rfl rfl⟩
      · repeat' (first | refine DW_VB tabs rfl d1 ?_ | refine DW_VI tabs rfl (by first | exact fi | exact lo) ?_ | refine DW_box 3 tabOK rfl ?_ | refine DW_box 6 tabOK rfl ?_ | refine DW_orow 3 tabOK rfl ?_ | refine DW_orow 6 tabOK rfl ?_ | refine DW_oix tabOK rfl ?_ | refine DW_olenA tabOK rfl ?_ | refine DW_A tabs rfl ?_ | refine DW_nil ?_ | refine W_A rfl ?_ | refine DW_C rfl kn ?_ | refine DW_ix tabOK rfl (ixN hx) ?_ | refine DW_row tabOK rfl ?_ | refine DW_app tabOK rfl rfl (by simp; omega) (by simp; omega) ?_ | refine DW_app0 tabOK rfl (by simp; omega) (by simp; omega) ?_)
        refine ⟨h1, _, _, ⟨g + 1, rfl, rfl⟩, bk_cut (by decide) htk rfl (by show 2 ≤ 3; decide) rfl rfl rfl rfl rfl rfl rfl⟩
    · have kn := known_ok k
      rw [show (decide (0 < k) && decide (k < 4)) = false by unfold goodK at hk; simp; omega] at kn
      have e : backD ⟨p, k⟩ = ⟨p, k⟩ := by
        unfold backD backK goodK at *
        simp only
        rw [if_neg (by omega)]
      rw [e] at htk
      repeat' (first | refine DW_VB tabs rfl d1 ?_ | refine DW_VI tabs rfl (by first | exact fi | exact lo) ?_ | refine DW_box 3 tabOK rfl ?_ | refine DW_box 6 tabOK rfl ?_ | refine DW_orow 3 tabOK rfl ?_ | refine DW_orow 6 tabOK rfl ?_ | refine DW_oix tabOK rfl ?_ | refine DW_olenA tabOK rfl ?_ | refine DW_A tabs rfl ?_ | refine DW_nil ?_ | refine W_A rfl ?_ | refine DW_C rfl kn ?_ | refine DW_ix tabOK rfl (ixN hx) ?_ | refine DW_row tabOK rfl ?_ | refine DW_app tabOK rfl rfl (by simp; omega) (by simp; omega) ?_ | refine DW_app0 tabOK rfl (by simp; omega) (by simp; omega) ?_)
      refine ⟨h1, _, _, ⟨g + 1, rfl, rfl⟩, bk_cut (by decide) htk rfl (by show 2 ≤ 3; decide) rfl rfl rfl rfl rfl rfl rfl⟩
  · have d1 : decide ((i : Int) < (l.length : Int)) = false := decide_eq_false (by omega)
    obtain rfl : i = l.length := by omega
    rw [List.take_length]
    have hc := closed_dls (l.map backD)
    unfold dlA at hc
    repeat' (first | refine DW_VB tabs rfl d1 ?_ | refine DW_VI tabs rfl la ?_ | refine DW_box 3 tabOK rfl ?_ | refine DW_box 6 tabOK rfl ?_ | refine DW_orow 3 tabOK rfl ?_ | refine DW_orow 6 tabOK rfl ?_ | refine DW_oix tabOK rfl ?_ | refine DW_olenA tabOK rfl ?_ | refine DW_A tabs rfl ?_ | refine DW_nil ?_ | refine W_A rfl ?_ | refine DW_row tabOK rfl ?_ | refine DW_app tabOK rfl rfl (by simp; omega) (by simp; omega) ?_ | refine DW_app0 tabOK rfl (by simp; omega) (by simp; omega) ?_)
    exact ⟨rfl, _, rfl, _, rfl, SubC.untag hc⟩

theorem dl_neB (p q : Dl) : (!((p.path == q.path) && ((decide (p.kind = q.kind)) && true))) = !decide (p = q) := by
  obtain ⟨a, b⟩ := p
  obtain ⟨d, e⟩ := q
  congr 1
  rw [Bool.eq_iff_iff]
  simp
set_option maxRecDepth 100000 in
set_option maxHeartbeats 8000000 in
theorem dlSame_ok (a b : List Dl) (ta tb : Tag) (ha : a.length < 10000000) (hb : b.length < 10000000) : APure Tryz.prog 29 [dlA a ta, dlA b tb] (.bool (decide (a = b))) := by
  intro M
  refine acalls_of tabOK Tryz.func29 rfl (by decide) (by simp [Tryz.f29]) ?_
  have la := len_map Dl.av a
  have lb := len_map Dl.av b
  unfold dlA
  by_cases hl : a.length = b.length
  · have d0 : (!decide ((a.length : Int) = (b.length : Int))) = false := by simp; omega
    repeat' (first | refine DW_VB tabs rfl d0 ?_ | refine DW_VI tabs rfl (by first | exact la | exact lb) ?_ | refine DW_A tabs rfl ?_ | refine DW_nil ?_ | refine W_A rfl ?_ | refine W_draw mixed [0, 1, 4, 5, 2, 3, 6, 7, 8] [.P, .P, .R, .R, .P, .P, .R, .R, .P] rfl rfl (by kernel_rfl) ?_)
    refine W_count a.length (fun i f N => N = M ∧ (a.take i = b.take i) ∧ f = ⟨[(0, .sl 2 (a.map Dl.av) ta), (1, .sl 2 (b.map Dl.av) tb), (5, .int .i64 (i : Int))], []⟩) (Nat.zero_le _) ⟨rfl, by simp, rfl⟩ (Joint.le ?_ (Mem.le_refl _)) ?_
    · skip
      repeat (refine AF.le_cons rfl ?_)
      exact AF.le_nil rfl
    rintro i f N hi ⟨rfl, hinv, rfl⟩
    by_cases h1 : i < a.length
    · have d1 : decide ((i : Int) < (a.length : Int)) = true := by simp; omega
      have hx : a[i]? = some a[i] := List.getElem?_eq_getElem h1
      have fi := wrap_succ (i := i) (by omega)
      have ht := take_succ hx
      have hm := List.getElem_mem h1
      generalize a[i] = x at hx ht hm
      have hy : b[i]? = some b[i] := List.getElem?_eq_getElem (by omega)
      have hu := take_succ hy
      generalize b[i] = y at hy hu
      by_cases h3 : x = y
      · have d3 := (dl_neB x y).trans (show (!decide (x = y)) = false by simp [h3])
        repeat' (first | refine DW_VB tabs rfl (by first | exact d1 | exact d3) ?_ | refine DW_VI tabs rfl (by first | exact fi | exact la | exact lb) ?_ | refine DW_A tabs rfl ?_ | refine DW_nil ?_ | refine W_A rfl ?_ | refine DW_ix tabOK rfl (ixN hx) ?_ | refine DW_ix tabOK rfl (ixN hy) ?_ | refine W_draw mixed [0, 1, 4, 5, 2, 3, 6, 7, 8] [.P, .P, .R, .R, .P, .P, .R, .R, .P] rfl rfl (by kernel_rfl) ?_)
        refine ⟨h1, _, _, ⟨rfl, by rw [ht, hu, hinv, h3], rfl⟩, Joint.le ?_ (Mem.le_refl _)⟩
        repeat (refine AF.le_cons rfl ?_)
        exact AF.le_nil rfl
      · have d3 := (dl_neB x y).trans (show (!decide (x = y)) = true by simp [h3])
        have e : decide (a = b) = false := by
          refine decide_eq_false fun e => h3 ?_
          subst e
          rw [hx] at hy
          cases hy
          rfl
        rw [e]
        repeat' (first | refine DW_VB tabs rfl (by first | exact d1 | exact d3) ?_ | refine DW_VI tabs rfl (by first | exact fi | exact la | exact lb) ?_ | refine DW_A tabs rfl ?_ | refine DW_nil ?_ | refine W_A rfl ?_ | refine DW_ix tabOK rfl (ixN hx) ?_ | refine DW_ix tabOK rfl (ixN hy) ?_ | refine W_draw mixed [0, 1, 4, 5, 2, 3, 6, 7, 8] [.P, .P, .R, .R, .P, .P, .R, .R, .P] rfl rfl (by kernel_rfl) ?_)
        exact ⟨rfl, _, rfl, rfl, rfl⟩
    · have d1 : decide ((i : Int) < (a.length : Int)) = false := by simp; omega
      obtain rfl : i = a.length := by omega
      rw [take_all, hl, take_all] at hinv
      have e : decide (a = b) = true := by simp [hinv]
      rw [e]
      repeat' (first | refine DW_VB tabs rfl d1 ?_ | refine DW_VI tabs rfl la ?_ | refine DW_A tabs rfl ?_ | refine DW_nil ?_ | refine W_A rfl ?_ | refine W_draw mixed [0, 1, 4, 5, 2, 3, 6, 7, 8] [.P, .P, .R, .R, .P, .P, .R, .R, .P] rfl rfl (by kernel_rfl) ?_)
      exact ⟨rfl, _, rfl, rfl, rfl⟩
  · have d0 : (!decide ((a.length : Int) = (b.length : Int))) = true := by simp; omega
    have e : decide (a = b) = false := decide_eq_false fun e => hl (by rw [e])
    rw [e]
    repeat' (first | refine DW_VB tabs rfl d0 ?_ | refine DW_VI tabs rfl (by first | exact la | exact lb) ?_ | refine DW_A tabs rfl ?_ | refine DW_nil ?_ | refine W_A rfl ?_ | refine W_draw mixed [0, 1, 4, 5, 2, 3, 6, 7, 8] [.P, .P, .R, .R, .P, .P, .R, .R, .P] rfl rfl (by kernel_rfl) ?_)
    exact ⟨rfl, _, rfl, rfl, rfl⟩
end Go.Proofs.YthdeopopodhimaaGreatDoor
