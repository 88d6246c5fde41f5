/- AsOf by the document. No further condition. -/
import Derived.Test.YthdeopopodhimaaGreatDoorV24
set_option linter.unusedVariables false
set_option linter.unusedSimpArgs false
namespace Go.Proofs.YthdeopopodhimaaGreatDoor
open Go.Ab

def mB (p : Bytes) (w : Int) (y : Pr) : Prop := y.key.path = p ∧ y.key.time ≤ w
theorem best_uniq {l : List Pr} (hr : Rise l) {p : Bytes} {w : Int} {x y : Pr} (hx : IsBest l p w x) (hy : IsBest l p w y) : x = y := by
  refine rise_inj hr hx.mem hy.mem ?_
  have h1 := hx.top y hy.mem hy.path hy.le
  have h2 := hy.top x hx.mem hx.path hx.le
  have h3 := hx.path
  have h4 := hy.path
  obtain ⟨⟨a, b⟩, c⟩ := x
  obtain ⟨⟨d, e⟩, f⟩ := y
  simp at h1 h2 h3 h4 ⊢
  exact ⟨by rw [h3, h4], by omega⟩
theorem rat_best {l : List Pr} (hr : Rise l) (ht : okT l) {p : Bytes} {w : Int} {x : Pr} (hx : IsBest l p w x) : atL l p w = atP p x := by
  rcases at_cases hr ht p w with ⟨y, hy, e⟩ | ⟨h, _⟩
  · rw [e, best_uniq hr hy hx]
  · exact absurd hx.le (h x hx.mem hx.path)
theorem rat_none {l : List Pr} (hr : Rise l) (ht : okT l) {p : Bytes} {w : Int} (h : ∀ y, y ∈ l → ¬ mB p w y) : atL l p w = none := by
  rcases at_cases hr ht p w with ⟨y, hy, _⟩ | ⟨_, e⟩
  · exact absurd ⟨hy.path, hy.le⟩ (h y hy.mem)
  · exact e
theorem okT_st {l : List Pr} (h : isSt l = true) : okT l := fun y hy => (okP_parts (isSt_mem h hy)).2.2.2.1
/-- The best one so far, by its place. -/
def BestI (l : List Pr) (p : Bytes) (w : Int) (i : Nat) (b : Int) : Prop := (b = -1 ∧ ∀ y, y ∈ l.take i → ¬ mB p w y) ∨ ∃ (k : Nat) (x : Pr), b = (k : Int) ∧ k < i ∧ l[k]? = some x ∧ IsBest (l.take i) p w x
theorem bestI_no {l : List Pr} {p : Bytes} {w : Int} {i : Nat} {b : Int} {x : Pr} (ht : l.take (i + 1) = l.take i ++ [x]) (h : BestI l p w i b) (hx : ¬ mB p w x) : BestI l p w (i + 1) b := by
  rcases h with ⟨h1, h2⟩ | ⟨k, y, h1, h2, h3, h4⟩
  · refine .inl ⟨h1, fun y hy => ?_⟩
    rw [ht] at hy
    rcases List.mem_append.1 hy with hy | hy
    · exact h2 y hy
    · simp at hy
      subst hy
      exact hx
  · refine .inr ⟨k, y, h1, by omega, h3, ⟨by rw [ht]; simp [h4.mem], h4.path, h4.le, fun z hz hp hw => ?_⟩⟩
    rw [ht] at hz
    rcases List.mem_append.1 hz with hz | hz
    · exact h4.top z hz hp hw
    · simp at hz
      subst hz
      exact absurd ⟨hp, hw⟩ hx
theorem bestI_new {l : List Pr} {p : Bytes} {w : Int} {i : Nat} {x : Pr} (hi : l[i]? = some x) (ht : l.take (i + 1) = l.take i ++ [x]) (h : ∀ y, y ∈ l.take i → ¬ mB p w y) (hx : mB p w x) : BestI l p w (i + 1) (i : Int) := by
  refine .inr ⟨i, x, rfl, by omega, hi, ⟨by rw [ht]; simp, hx.1, hx.2, fun z hz hp hw => ?_⟩⟩
  rw [ht] at hz
  rcases List.mem_append.1 hz with hz | hz
  · exact absurd ⟨hp, hw⟩ (h z hz)
  · simp at hz
    subst hz
    exact Int.le_refl _
theorem best_later {l : List Pr} (hr : Rise l) {p : Bytes} {w : Int} {i k : Nat} {x y : Pr} (hk : k < i) (hx : l[k]? = some y) (hi : l[i]? = some x) (hp : x.key.path = p) (hy : y.key.path = p) : x.key.time < y.key.time := by
  rcases (rless_def _ _).1 (rise_at hr hk hx hi) with h | ⟨_, h⟩
  · rw [hp, hy, bl_irrefl] at h
    cases h
  · exact h
theorem bestI_old {l : List Pr} {p : Bytes} {w : Int} {i k : Nat} {x y : Pr} (ht : l.take (i + 1) = l.take i ++ [x]) (hk : k < i) (hy : l[k]? = some y) (h4 : IsBest (l.take i) p w y) (hlt : x.key.time < y.key.time) : BestI l p w (i + 1) (k : Int) := by
  refine .inr ⟨k, y, rfl, by omega, hy, ⟨by rw [ht]; simp [h4.mem], h4.path, h4.le, fun z hz hp hw => ?_⟩⟩
  rw [ht] at hz
  rcases List.mem_append.1 hz with hz | hz
  · exact h4.top z hz hp hw
  · simp at hz
    subst hz
    omega
def asM : Mem := ⟨1, [(0, .cells enZ)]⟩
def raF (l : List Pr) (p : Bytes) (w b : Int) (i : Nat) : AF := ⟨[(0, prA l), (1, .str p), (2, .int .i64 w), (6, .ptr 0 0), (9, .int .i64 b), (10, .int .i64 (i : Int))], []⟩
set_option maxRecDepth 100000 in
set_option maxHeartbeats 8000000 in
theorem rAsOf_ok (l : List Pr) (hl : l.length < 1000000) (hv : valsB l) (hr : Rise l) (p : Bytes) (hp : p.length < 1000000) (w : Int) : APure Tryz.prog 35 [prA l, .str p, .int .i64 w] (asA (asOf l p w)) := by
  refine pure_sub (closed3 (closed_prA l) closed_str closed_int) (closed_asA _) ?_
  refine acalls_of tabOK Tryz.func35 rfl (by decide) (by simp [Tryz.f35]) ?_
  have k1 := rStIs_ok l hl hv
  have k2 := refIs_ok p (by omega)
  have la := len_map Pr.av l
  unfold prA at *
  cases h1 : isSt l
  · rw [h1] at k1
    rw [show asOf l p w = (none, 1) by unfold asOf openE; rw [h1]; rfl]
    repeat' (first | refine DW_A tabs rfl ?_ | refine DW_nil ?_ | refine W_A rfl ?_ | refine DW_C rfl k1 ?_ | refine W_draw mixed [0, 1, 6, 2, 3, 4, 5, 7, 8, 9, 10, 15, 11, 12, 13, 14, 16, 17, 18, 19, 20, 21, 22, 23, 28, 29, 24, 25, 26, 27, 30, 31, 32, 33, 34, 35, 36] [.P, .P, .R, .R, .R, .R, .P, .P, .P, .P, .P, .R, .R, .R, .R, .P, .P, .P, .P, .P, .P, .P, .P, .P, .R, .R, .R, .R, .P, .P, .R, .R, .R, .R, .P, .P, .P] rfl rfl (by kernel_rfl) ?_ | refine W_draw mixed [0, 1, 2, 3, 4, 5, 6, 7, 8, 9, 10, 11] [.P, .P, .P, .R, .R, .R, .R, .R, .P, .E, .P, .P] rfl rfl (by kernel_rfl) ?_)
    exact ⟨rfl, _, rfl, _, rfl, SubC.tup3 sub_zeroEn (SubC.of_closed closed_bool) (SubC.of_closed closed_int)⟩
  · rw [h1] at k1
    cases h2 : isPathB p
    · rw [h2] at k2
      rw [show asOf l p w = (none, 20) by unfold asOf openE; rw [h1, h2]; rfl]
      repeat' (first | refine DW_A tabs rfl ?_ | refine DW_nil ?_ | refine W_A rfl ?_ | refine DW_C rfl k1 ?_ | refine DW_C rfl k2 ?_ | refine W_draw mixed [0, 1, 6, 2, 3, 4, 5, 7, 8, 9, 10, 15, 11, 12, 13, 14, 16, 17, 18, 19, 20, 21, 22, 23, 28, 29, 24, 25, 26, 27, 30, 31, 32, 33, 34, 35, 36] [.P, .P, .R, .R, .R, .R, .P, .P, .P, .P, .P, .R, .R, .R, .R, .P, .P, .P, .P, .P, .P, .P, .P, .P, .R, .R, .R, .R, .P, .P, .R, .R, .R, .R, .P, .P, .P] rfl rfl (by kernel_rfl) ?_ | refine W_draw mixed [0, 1, 2, 3, 4, 5, 6, 7, 8, 9, 10, 11] [.P, .P, .P, .R, .R, .R, .R, .R, .P, .E, .P, .P] rfl rfl (by kernel_rfl) ?_)
      exact ⟨rfl, _, rfl, _, rfl, SubC.tup3 sub_zeroEn (SubC.of_closed closed_bool) (SubC.of_closed closed_int)⟩
    · rw [h2] at k2
      by_cases h3 : w < 0
      · have d3 : decide (w < 0) = true := decide_eq_true h3
        rw [show asOf l p w = (none, 1) by unfold asOf openE; rw [h1, h2, if_pos h3]; rfl]
        repeat' (first | refine DW_VB tabs rfl d3 ?_ | refine DW_A tabs rfl ?_ | refine DW_nil ?_ | refine W_A rfl ?_ | refine DW_C rfl k1 ?_ | refine DW_C rfl k2 ?_ | refine W_draw mixed [0, 1, 6, 2, 3, 4, 5, 7, 8, 9, 10, 15, 11, 12, 13, 14, 16, 17, 18, 19, 20, 21, 22, 23, 28, 29, 24, 25, 26, 27, 30, 31, 32, 33, 34, 35, 36] [.P, .P, .R, .R, .R, .R, .P, .P, .P, .P, .P, .R, .R, .R, .R, .P, .P, .P, .P, .P, .P, .P, .P, .P, .R, .R, .R, .R, .P, .P, .R, .R, .R, .R, .P, .P, .P] rfl rfl (by kernel_rfl) ?_ | refine W_draw mixed [0, 1, 2, 3, 4, 5, 6, 7, 8, 9, 10, 11] [.P, .P, .P, .R, .R, .R, .R, .R, .P, .E, .P, .P] rfl rfl (by kernel_rfl) ?_)
        exact ⟨rfl, _, rfl, _, rfl, SubC.tup3 sub_zeroEn (SubC.of_closed closed_bool) (SubC.of_closed closed_int)⟩
      · have d3 : decide (w < 0) = false := decide_eq_false h3
        rw [show asOf l p w = (atL l p w, 0) by unfold asOf openE; rw [h1, h2, if_neg h3]; rfl]
        have ht := okT_st h1
        repeat' (first | refine DW_VB tabs rfl d3 ?_ | refine DW_A tabs rfl ?_ | refine DW_nil ?_ | refine W_A rfl ?_ | refine DW_C rfl k1 ?_ | refine DW_C rfl k2 ?_ | refine W_draw mixed [0, 1, 6, 2, 3, 4, 5, 7, 8, 9, 10, 15, 11, 12, 13, 14, 16, 17, 18, 19, 20, 21, 22, 23, 28, 29, 24, 25, 26, 27, 30, 31, 32, 33, 34, 35, 36] [.P, .P, .R, .R, .R, .R, .P, .P, .P, .P, .P, .R, .R, .R, .R, .P, .P, .P, .P, .P, .P, .P, .P, .P, .R, .R, .R, .R, .P, .P, .R, .R, .R, .R, .P, .P, .P] rfl rfl (by kernel_rfl) ?_ | refine W_draw mixed [0, 1, 2, 3, 4, 5, 6, 7, 8, 9, 10, 11] [.P, .P, .P, .R, .R, .R, .R, .R, .P, .E, .P, .P] rfl rfl (by kernel_rfl) ?_)
        refine W_count l.length (fun i f N => N = asM ∧ ∃ b, BestI l p w i b ∧ f = raF l p w b i) (Nat.zero_le _) ⟨rfl, -1, .inl ⟨rfl, by simp⟩, rfl⟩ (Joint.le ?_ (Mem.le_cons rfl (Mem.le_nil rfl))) ?_
        · unfold raF prA
          repeat (refine AF.le_cons rfl ?_)
          exact AF.le_nil rfl
        rintro i f N hi ⟨rfl, b, hb, rfl⟩
        unfold raF prA asM enZ
        by_cases g1 : i < l.length
        · have d1 : decide ((i : Int) < (l.length : Int)) = true := decide_eq_true (by omega)
          have hx : l[i]? = some l[i] := List.getElem?_eq_getElem g1
          have fi := wrap_succ (i := i) (by omega)
          have htk := take_succ hx
          generalize l[i] = x at hx htk
          have fin : ∀ c : Int, BestI l p w (i + 1) c → (asM = asM ∧ ∃ b, BestI l p w (i + 1) b ∧ raF l p w c (i + 1) = raF l p w b (i + 1)) := fun c h => ⟨rfl, c, h, rfl⟩
          by_cases g2 : x.key.path = p
          · have c2 : (x.key.path == p) = true := by simp [g2]
            by_cases g3 : x.key.time ≤ w
            · have c3 : decide (x.key.time ≤ w) = true := decide_eq_true g3
              rcases hb with ⟨rfl, hb⟩ | ⟨k, y, rfl, hk, hy, hbest⟩
              · repeat' (first | refine DW_VB tabs rfl (by first | exact d1 | exact c2 | exact c3) ?_ | refine DW_VI tabs rfl (by first | exact la | exact fi) ?_ | refine DW_A tabs rfl ?_ | refine DW_nil ?_ | refine W_A rfl ?_ | refine DW_ix tabOK rfl (ixN hx) ?_ | refine W_draw mixed [0, 1, 6, 2, 3, 4, 5, 7, 8, 9, 10, 15, 11, 12, 13, 14, 16, 17, 18, 19, 20, 21, 22, 23, 28, 29, 24, 25, 26, 27, 30, 31, 32, 33, 34, 35, 36] [.P, .P, .R, .R, .R, .R, .P, .P, .P, .P, .P, .R, .R, .R, .R, .P, .P, .P, .P, .P, .P, .P, .P, .P, .R, .R, .R, .R, .P, .P, .R, .R, .R, .R, .P, .P, .P] rfl rfl (by kernel_rfl) ?_ | refine W_draw mixed [0, 1, 2, 3, 4, 5, 6, 7, 8, 9, 10, 11] [.P, .P, .P, .R, .R, .R, .R, .R, .P, .E, .P, .P] rfl rfl (by kernel_rfl) ?_)
                refine ⟨g1, raF l p w (i : Int) (i + 1), asM, fin _ (bestI_new hx htk hb ⟨g2, g3⟩), Joint.le ?_ (Mem.le_cons rfl (Mem.le_nil rfl))⟩
                unfold raF prA
                repeat (refine AF.le_cons rfl ?_)
                exact AF.le_nil rfl
              · have hlt := best_later hr (w := w) hk hy hx g2 hbest.path
                have c4 : decide ((k : Int) < 0) = false := decide_eq_false (by omega)
                have c5 : decide (y.key.time < x.key.time) = false := decide_eq_false (by omega)
                repeat' (first | refine DW_VB tabs rfl (by first | exact d1 | exact c2 | exact c3 | exact c4 | exact c5) ?_ | refine DW_VI tabs rfl (by first | exact la | exact fi) ?_ | refine DW_A tabs rfl ?_ | refine DW_nil ?_ | refine W_A rfl ?_ | refine DW_ix tabOK rfl (ixN hx) ?_ | refine DW_ix tabOK rfl (ixN hy) ?_ | refine W_draw mixed [0, 1, 6, 2, 3, 4, 5, 7, 8, 9, 10, 15, 11, 12, 13, 14, 16, 17, 18, 19, 20, 21, 22, 23, 28, 29, 24, 25, 26, 27, 30, 31, 32, 33, 34, 35, 36] [.P, .P, .R, .R, .R, .R, .P, .P, .P, .P, .P, .R, .R, .R, .R, .P, .P, .P, .P, .P, .P, .P, .P, .P, .R, .R, .R, .R, .P, .P, .R, .R, .R, .R, .P, .P, .P] rfl rfl (by kernel_rfl) ?_ | refine W_draw mixed [0, 1, 2, 3, 4, 5, 6, 7, 8, 9, 10, 11] [.P, .P, .P, .R, .R, .R, .R, .R, .P, .E, .P, .P] rfl rfl (by kernel_rfl) ?_)
                refine ⟨g1, raF l p w (k : Int) (i + 1), asM, fin _ (bestI_old htk hk hy hbest hlt), Joint.le ?_ (Mem.le_cons rfl (Mem.le_nil rfl))⟩
                unfold raF prA
                repeat (refine AF.le_cons rfl ?_)
                exact AF.le_nil rfl
            · have c3 : decide (x.key.time ≤ w) = false := decide_eq_false g3
              have hn := bestI_no htk hb (fun h => g3 h.2)
              repeat' (first | refine DW_VB tabs rfl (by first | exact d1 | exact c2 | exact c3) ?_ | refine DW_VI tabs rfl (by first | exact la | exact fi) ?_ | refine DW_A tabs rfl ?_ | refine DW_nil ?_ | refine W_A rfl ?_ | refine DW_ix tabOK rfl (ixN hx) ?_ | refine W_draw mixed [0, 1, 6, 2, 3, 4, 5, 7, 8, 9, 10, 15, 11, 12, 13, 14, 16, 17, 18, 19, 20, 21, 22, 23, 28, 29, 24, 25, 26, 27, 30, 31, 32, 33, 34, 35, 36] [.P, .P, .R, .R, .R, .R, .P, .P, .P, .P, .P, .R, .R, .R, .R, .P, .P, .P, .P, .P, .P, .P, .P, .P, .R, .R, .R, .R, .P, .P, .R, .R, .R, .R, .P, .P, .P] rfl rfl (by kernel_rfl) ?_ | refine W_draw mixed [0, 1, 2, 3, 4, 5, 6, 7, 8, 9, 10, 11] [.P, .P, .P, .R, .R, .R, .R, .R, .P, .E, .P, .P] rfl rfl (by kernel_rfl) ?_)
              refine ⟨g1, raF l p w b (i + 1), asM, fin _ hn, Joint.le ?_ (Mem.le_cons rfl (Mem.le_nil rfl))⟩
              unfold raF prA
              repeat (refine AF.le_cons rfl ?_)
              exact AF.le_nil rfl
          · have c2 : (x.key.path == p) = false := by simp [g2]
            have hn := bestI_no htk hb (fun h => g2 h.1)
            repeat' (first | refine DW_VB tabs rfl (by first | exact d1 | exact c2) ?_ | refine DW_VI tabs rfl (by first | exact la | exact fi) ?_ | refine DW_A tabs rfl ?_ | refine DW_nil ?_ | refine W_A rfl ?_ | refine DW_ix tabOK rfl (ixN hx) ?_ | refine W_draw mixed [0, 1, 6, 2, 3, 4, 5, 7, 8, 9, 10, 15, 11, 12, 13, 14, 16, 17, 18, 19, 20, 21, 22, 23, 28, 29, 24, 25, 26, 27, 30, 31, 32, 33, 34, 35, 36] [.P, .P, .R, .R, .R, .R, .P, .P, .P, .P, .P, .R, .R, .R, .R, .P, .P, .P, .P, .P, .P, .P, .P, .P, .R, .R, .R, .R, .P, .P, .R, .R, .R, .R, .P, .P, .P] rfl rfl (by kernel_rfl) ?_ | refine W_draw mixed [0, 1, 2, 3, 4, 5, 6, 7, 8, 9, 10, 11] [.P, .P, .P, .R, .R, .R, .R, .R, .P, .E, .P, .P] rfl rfl (by kernel_rfl) ?_)
            refine ⟨g1, raF l p w b (i + 1), asM, fin _ hn, Joint.le ?_ (Mem.le_cons rfl (Mem.le_nil rfl))⟩
            unfold raF prA
            repeat (refine AF.le_cons rfl ?_)
            exact AF.le_nil rfl
        · have d1 : decide ((i : Int) < (l.length : Int)) = false := decide_eq_false (by omega)
          obtain rfl : i = l.length := by omega
          rcases hb with ⟨rfl, hb⟩ | ⟨k, y, rfl, hk, hy, hbest⟩
          · rw [List.take_length] at hb
            rw [rat_none hr ht hb]
            repeat' (first | refine DW_VB tabs rfl d1 ?_ | refine DW_VI tabs rfl la ?_ | refine DW_A tabs rfl ?_ | refine DW_nil ?_ | refine W_A rfl ?_ | refine W_draw mixed [0, 1, 6, 2, 3, 4, 5, 7, 8, 9, 10, 15, 11, 12, 13, 14, 16, 17, 18, 19, 20, 21, 22, 23, 28, 29, 24, 25, 26, 27, 30, 31, 32, 33, 34, 35, 36] [.P, .P, .R, .R, .R, .R, .P, .P, .P, .P, .P, .R, .R, .R, .R, .P, .P, .P, .P, .P, .P, .P, .P, .P, .R, .R, .R, .R, .P, .P, .R, .R, .R, .R, .P, .P, .P] rfl rfl (by kernel_rfl) ?_ | refine W_draw mixed [0, 1, 2, 3, 4, 5, 6, 7, 8, 9, 10, 11] [.P, .P, .P, .R, .R, .R, .R, .R, .P, .E, .P, .P] rfl rfl (by kernel_rfl) ?_)
            exact ⟨rfl, _, rfl, _, rfl, SubC.tup3 sub_zeroEn (SubC.of_closed closed_bool) (SubC.of_closed closed_int)⟩
          · rw [List.take_length] at hbest
            rw [rat_best hr ht hbest]
            have c4 : decide ((k : Int) < 0) = false := decide_eq_false (by omega)
            have kr := rRead_ok y.val (hv y hbest.mem).2
            unfold rmA at kr
            unfold atP
            cases hg : (readM y.val).2.1
            · rw [hg] at kr
              rw [if_pos ⟨hbest.path, rfl⟩]
              have hcl := closed_en ⟨p, y.key.time, (readM y.val).1⟩
              generalize (readM y.val).1 = m at *
              repeat' (first | refine DW_VB tabs rfl (by first | exact d1 | exact c4) ?_ | refine DW_VI tabs rfl la ?_ | refine DW_A tabs rfl ?_ | refine DW_nil ?_ | refine W_A rfl ?_ | refine DW_C rfl kr ?_ | refine DW_ix tabOK rfl (ixN hy) ?_ | refine W_draw mixed [0, 1, 6, 2, 3, 4, 5, 7, 8, 9, 10, 15, 11, 12, 13, 14, 16, 17, 18, 19, 20, 21, 22, 23, 28, 29, 24, 25, 26, 27, 30, 31, 32, 33, 34, 35, 36] [.P, .P, .R, .R, .R, .R, .P, .P, .P, .P, .P, .R, .R, .R, .R, .P, .P, .P, .P, .P, .P, .P, .P, .P, .R, .R, .R, .R, .P, .P, .R, .R, .R, .R, .P, .P, .P] rfl rfl (by kernel_rfl) ?_ | refine W_draw mixed [0, 1, 2, 3, 4, 5, 6, 7, 8, 9, 10, 11] [.P, .P, .P, .R, .R, .R, .R, .R, .P, .E, .P, .P] rfl rfl (by kernel_rfl) ?_)
              exact ⟨rfl, _, rfl, _, rfl, SubC.tup3 (SubC.of_closed hcl) (SubC.of_closed closed_bool) (SubC.of_closed closed_int)⟩
            · rw [hg] at kr
              rw [if_neg (by simp)]
              repeat' (first | refine DW_VB tabs rfl (by first | exact d1 | exact c4) ?_ | refine DW_VI tabs rfl la ?_ | refine DW_A tabs rfl ?_ | refine DW_nil ?_ | refine W_A rfl ?_ | refine DW_C rfl kr ?_ | refine DW_ix tabOK rfl (ixN hy) ?_ | refine W_draw mixed [0, 1, 6, 2, 3, 4, 5, 7, 8, 9, 10, 15, 11, 12, 13, 14, 16, 17, 18, 19, 20, 21, 22, 23, 28, 29, 24, 25, 26, 27, 30, 31, 32, 33, 34, 35, 36] [.P, .P, .R, .R, .R, .R, .P, .P, .P, .P, .P, .R, .R, .R, .R, .P, .P, .P, .P, .P, .P, .P, .P, .P, .R, .R, .R, .R, .P, .P, .R, .R, .R, .R, .P, .P, .P] rfl rfl (by kernel_rfl) ?_ | refine W_draw mixed [0, 1, 2, 3, 4, 5, 6, 7, 8, 9, 10, 11] [.P, .P, .P, .R, .R, .R, .R, .R, .P, .E, .P, .P] rfl rfl (by kernel_rfl) ?_)
              exact ⟨rfl, _, rfl, _, rfl, SubC.tup3 sub_zeroEn (SubC.of_closed closed_bool) (SubC.of_closed closed_int)⟩
end Go.Proofs.YthdeopopodhimaaGreatDoor
