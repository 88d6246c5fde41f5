/- Between two times and back: the code alone. No further condition. -/
import Derived.Test.YtmgkebghojhocaaGreatDoorV29
import Derived.Test.YtmgkebghojhocaaGreatDoorV28
import Derived.Test.YtmgkebghojhocaaGreatDoorV26
import Derived.Test.YtmgkebghojhocaaGreatDoorV24
set_option linter.unusedVariables false
set_option linter.unusedSimpArgs false
namespace Go.Proofs.YtmgkebghojhocaaGreatDoor
open Go.Ab

noncomputable def dlF (l : List Ld) (tg : Tag) (i : Nat) : AF := ⟨[(0, ldA l tg), (3, (laidS (l.take i)).1.av), (4, .int .i64 (i : Int))], []⟩
set_option maxRecDepth 100000 in
set_option maxHeartbeats 8000000 in
theorem dlaid_ok (l : List Ld) (tg : Tag) (htg : tg = .none ∨ tg = .full) (hl : l.length ≤ 20) (hs : smallL l) : APure Tryz.prog 39 [ldA l tg] (laidS l).1.av := by
  refine pure_sub (closed1 (closed_lds l htg)) (closed_tr _) ?_
  refine acalls_of tabOK Tryz.func39 rfl (by decide) (by simp [Tryz.f39]) ?_
  have kn := new_ok
  have la := len_map Ld.av l
  unfold Tr.av at kn
  unfold ldA
  repeat' (first | refine DW_VI tabs rfl la ?_ | refine DW_A tabs rfl ?_ | refine DW_nil ?_ | refine W_A rfl ?_ | refine DW_C rfl kn ?_ | refine DW_nilc tabOK rfl ?_ | refine W_draw mixed [0, 1, 2, 6, 7, 3, 4, 5, 8, 9, 10, 11, 12, 13, 14, 15, 16] [.P, .P, .P, .R, .R, .R, .P, .P, .R, .R, .R, .P, .P, .P, .P, .P, .P] rfl rfl (by kernel_rfl) ?_)
  refine W_count l.length (fun i f N => N = ⟨0, []⟩ ∧ f = dlF l tg i) (Nat.zero_le _) ⟨rfl, rfl⟩ (Joint.le ?_ (Mem.le_nil rfl)) ?_
  · unfold dlF ldA
    repeat (refine AF.le_cons rfl ?_)
    exact AF.le_nil rfl
  rintro i f N hi ⟨rfl, rfl⟩
  unfold dlF ldA
  by_cases h1 : i < l.length
  · have d1 : decide ((i : Int) < (l.length : Int)) = true := by simp; omega
    have hx : l[i]? = some l[i] := List.getElem?_eq_getElem h1
    have fi := wrap_succ (i := i) (by omega)
    have ht := take_succ hx
    have hb := hs _ (List.getElem_mem h1)
    generalize l[i] = x at hx ht hb
    obtain ⟨q1, q2, q3⟩ := laidS_ok hs i (by omega) (by omega)
    have kl := lay_ok (laidS (l.take i)).1 x.at_ x.batch .none (.inl rfl) (by have := q1.1; omega) q1.vals (fun c hc => by have := hb.2 c hc; exact ⟨by omega, by omega⟩)
    have hst := laidS_step ht
    have hl0 := closed_lds l htg
    generalize hS : laidS (l.take i) = S at *
    obtain ⟨u, took⟩ := S
    unfold layA at kl
    have hu := closed_tr u
    cases hb2 : layB u.all x.at_ x.batch
    · rw [if_neg (by simp [hb2])] at kl hst
      unfold chA at kl
      unfold Tr.av at kl ⊢
      repeat' (first | refine DW_VB tabs rfl d1 ?_ | refine DW_VI tabs rfl (by first | exact la | exact fi) ?_ | refine DW_A tabs rfl ?_ | refine DW_nil ?_ | refine W_A rfl ?_ | refine DW_C rfl kl ?_ | refine DW_ix tabOK rfl (ixN hx) ?_ | refine DW_nilc tabOK rfl ?_ | refine W_draw mixed [0, 1, 2, 6, 7, 3, 4, 5, 8, 9, 10, 11, 12, 13, 14, 15, 16] [.P, .P, .P, .R, .R, .R, .P, .P, .R, .R, .R, .P, .P, .P, .P, .P, .P] rfl rfl (by kernel_rfl) ?_)
      refine ⟨h1, dlF l tg (i + 1), ⟨0, []⟩, ⟨rfl, rfl⟩, ?_⟩
      refine Joint.cut (k := 0) (t := (dlF l tg (i + 1)).t) (l := []) (Nat.le_refl _) (Nat.zero_le _) rfl ⟨?_, ?_, ?_, trivial⟩ trivial
      · exact SubC.of_closed hl0
      · rw [hst]
        exact SubC.of_closed hu
      · exact SubC.of_closed closed_int
    · rw [if_pos hb2] at kl hst
      have hv := closed_tr (layT u x.at_ x.batch)
      unfold chA at kl
      generalize hV : layT u x.at_ x.batch = v at *
      unfold Tr.av at kl ⊢
      repeat' (first | refine DW_VB tabs rfl d1 ?_ | refine DW_VI tabs rfl (by first | exact la | exact fi) ?_ | refine DW_A tabs rfl ?_ | refine DW_nil ?_ | refine W_A rfl ?_ | refine DW_C rfl kl ?_ | refine DW_ix tabOK rfl (ixN hx) ?_ | refine DW_nilc tabOK rfl ?_ | refine W_draw mixed [0, 1, 2, 6, 7, 3, 4, 5, 8, 9, 10, 11, 12, 13, 14, 15, 16] [.P, .P, .P, .R, .R, .R, .P, .P, .R, .R, .R, .P, .P, .P, .P, .P, .P] rfl rfl (by kernel_rfl) ?_)
      refine ⟨h1, dlF l tg (i + 1), ⟨0, []⟩, ⟨rfl, rfl⟩, ?_⟩
      refine Joint.cut (k := 0) (t := (dlF l tg (i + 1)).t) (l := []) (Nat.le_refl _) (Nat.zero_le _) rfl ⟨?_, ?_, ?_, trivial⟩ trivial
      · exact SubC.of_closed hl0
      · rw [hst]
        exact SubC.of_closed hv
      · exact SubC.of_closed closed_int
  · have d1 : decide ((i : Int) < (l.length : Int)) = false := by simp; omega
    obtain rfl : i = l.length := by omega
    rw [List.take_length]
    have hu := closed_tr (laidS l).1
    generalize (laidS l).1 = u at *
    unfold Tr.av at hu ⊢
    repeat' (first | refine DW_VB tabs rfl d1 ?_ | refine DW_VI tabs rfl la ?_ | refine DW_A tabs rfl ?_ | refine DW_nil ?_ | refine W_A rfl ?_ | refine DW_nilc tabOK rfl ?_ | refine W_draw mixed [0, 1, 2, 6, 7, 3, 4, 5, 8, 9, 10, 11, 12, 13, 14, 15, 16] [.P, .P, .P, .R, .R, .R, .P, .P, .R, .R, .R, .P, .P, .P, .P, .P, .P] rfl rfl (by kernel_rfl) ?_)
    exact ⟨rfl, _, rfl, _, rfl, SubC.of_closed hu⟩
theorem kindOf_cons {x : Dl} {r : List Dl} {p : Bytes} : kindOf (x :: r) p = if x.path = p then x.kind else kindOf r p := by
  unfold kindOf
  rw [getP_cons]
  by_cases h : x.path = p
  · rw [if_pos h, if_pos h]
  · rw [if_neg h, if_neg h]
theorem drop_of {α : Type} {l : List α} {i : Nat} {x : α} (h : l[i]? = some x) : l.drop i = x :: l.drop (i + 1) := by
  obtain ⟨h1, rfl⟩ := List.getElem?_eq_some_iff.1 h
  exact List.drop_eq_getElem_cons h1
set_option maxRecDepth 100000 in
set_option maxHeartbeats 8000000 in
theorem rising_ok (l : List Dl) (t : Tag) (hl : l.length < 10000000) (hr : RiseP Dl.path l) (hk : ∀ d, d ∈ l → goodK d.kind) : APure Tryz.prog 44 [dlA l t] (.bool true) := by
  intro M
  refine acalls_of tabOK Tryz.func44 rfl (by decide) (by simp [Tryz.f44]) ?_
  have la := len_map Dl.av l
  unfold dlA
  repeat' (first | refine DW_VI tabs rfl la ?_ | refine DW_A tabs rfl ?_ | refine DW_nil ?_ | refine W_A rfl ?_ | refine W_draw mixed [0, 1, 2, 3, 4, 5, 6, 7, 8, 9, 10, 11, 12, 13, 14, 15, 16, 17, 18, 19, 20, 24, 25, 21, 22, 23, 26, 27, 28, 29, 30, 31] [.P, .P, .R, .R, .R, .P, .P, .P, .P, .R, .R, .R, .P, .P, .P, .P, .P, .P, .P, .P, .P, .R, .R, .R, .P, .P, .R, .R, .R, .P, .P, .P] rfl rfl (by kernel_rfl) ?_)
  refine W_count l.length (fun i f N => N = M ∧ (True) ∧ f = ⟨[(0, .sl 2 (l.map Dl.av) t), (3, .int .i64 (i : Int))], []⟩) (Nat.zero_le _) ⟨rfl, trivial, rfl⟩ (Joint.le ?_ (Mem.le_refl _)) ?_
  · skip
    repeat (refine AF.le_cons rfl ?_)
    exact AF.le_nil rfl
  rintro i f N hi ⟨rfl, hinv, rfl⟩
  by_cases h1 : i < l.length
  · have d1 : decide ((i : Int) < (l.length : Int)) = true := by simp; omega
    have hx : l[i]? = some l[i] := List.getElem?_eq_getElem h1
    have fi := wrap_succ (i := i) (by omega)
    have ht := take_succ hx
    have hm := List.getElem_mem h1
    generalize l[i] = x at hx ht hm
    have hg := hk x hm
    unfold goodK at hg
    have d2 : decide (x.kind < 1) = false := decide_eq_false (by omega)
    have d3 : decide (3 < x.kind) = false := decide_eq_false (by omega)
    by_cases h0 : i = 0
    · subst h0
      repeat' (first | refine DW_VB tabs rfl (by first | exact d1 | exact d2 | exact d3) ?_ | refine DW_VI tabs rfl (by first | exact la | exact fi) ?_ | refine DW_A tabs rfl ?_ | refine DW_nil ?_ | refine W_A rfl ?_ | refine DW_ix tabOK rfl (ixN hx) ?_ | refine W_draw mixed [0, 1, 2, 3, 4, 5, 6, 7, 8, 9, 10, 11, 12, 13, 14, 15, 16, 17, 18, 19, 20, 24, 25, 21, 22, 23, 26, 27, 28, 29, 30, 31] [.P, .P, .R, .R, .R, .P, .P, .P, .P, .R, .R, .R, .P, .P, .P, .P, .P, .P, .P, .P, .P, .R, .R, .R, .P, .P, .R, .R, .R, .P, .P, .P] rfl rfl (by kernel_rfl) ?_)
      refine ⟨h1, _, _, ⟨rfl, trivial, rfl⟩, Joint.le ?_ (Mem.le_refl _)⟩
      repeat (refine AF.le_cons rfl ?_)
      exact AF.le_nil rfl
    · obtain ⟨k, rfl⟩ : ∃ k, i = k + 1 := ⟨i - 1, by omega⟩
      have d4 : decide ((0 : Int) < ((k + 1 : Nat) : Int)) = true := decide_eq_true (by omega)
      have w1 : IntKind.wrap .i64 (((k + 1 : Nat) : Int) - 1) = (k : Int) := (Go.Ab.wrap_small (by omega) (by omega)).trans (by omega)
      have hy : l[k]? = some l[k] := List.getElem?_eq_getElem (by omega)
      have hb : bl l[k].path x.path = true := by
        obtain ⟨h2, e⟩ := List.getElem?_eq_some_iff.1 hx
        rw [← e]
        exact List.pairwise_iff_getElem.1 hr k (k + 1) (by omega) h2 (Nat.lt_succ_self k)
      generalize l[k] = y at hy hb
      have d5 : (!bl y.path x.path) = false := by simp [hb]
      repeat' (first | refine DW_VB tabs rfl (by first | exact d1 | exact d2 | exact d3 | exact d4 | exact d5 | exact hb) ?_ | refine DW_VI tabs rfl (by first | exact la | exact fi | exact w1) ?_ | refine DW_A tabs rfl ?_ | refine DW_nil ?_ | refine W_A rfl ?_ | refine DW_ix tabOK rfl (ixN hx) ?_ | refine DW_ix tabOK rfl (ixN hy) ?_ | refine W_draw mixed [0, 1, 2, 3, 4, 5, 6, 7, 8, 9, 10, 11, 12, 13, 14, 15, 16, 17, 18, 19, 20, 24, 25, 21, 22, 23, 26, 27, 28, 29, 30, 31] [.P, .P, .R, .R, .R, .P, .P, .P, .P, .R, .R, .R, .P, .P, .P, .P, .P, .P, .P, .P, .P, .R, .R, .R, .P, .P, .R, .R, .R, .P, .P, .P] rfl rfl (by kernel_rfl) ?_)
      refine ⟨h1, _, _, ⟨rfl, trivial, rfl⟩, Joint.le ?_ (Mem.le_refl _)⟩
      repeat (refine AF.le_cons rfl ?_)
      exact AF.le_nil rfl
  · have d1 : decide ((i : Int) < (l.length : Int)) = false := by simp; omega
    obtain rfl : i = l.length := by omega
    repeat' (first | refine DW_VB tabs rfl d1 ?_ | refine DW_VI tabs rfl la ?_ | refine DW_A tabs rfl ?_ | refine DW_nil ?_ | refine W_A rfl ?_ | refine W_draw mixed [0, 1, 2, 3, 4, 5, 6, 7, 8, 9, 10, 11, 12, 13, 14, 15, 16, 17, 18, 19, 20, 24, 25, 21, 22, 23, 26, 27, 28, 29, 30, 31] [.P, .P, .R, .R, .R, .P, .P, .P, .P, .R, .R, .R, .P, .P, .P, .P, .P, .P, .P, .P, .P, .R, .R, .R, .P, .P, .R, .R, .R, .P, .P, .P] rfl rfl (by kernel_rfl) ?_)
    exact ⟨rfl, _, rfl, rfl, rfl⟩
theorem of_cases {l : List Pr} (dir : Bytes) (u v : Int) : ((ofD l dir u v).2 = 0 ∧ (listO l dir u).2 = 0 ∧ (listO l dir v).2 = 0 ∧ (ofD l dir u v).1 = ents (listO l dir u).1 (listO l dir v).1) ∨ ((ofD l dir u v).2 ≠ 0 ∧ (ofD l dir u v).1 = [] ∧ ((listO l dir u).2 ≠ 0 ∨ (listO l dir v).2 ≠ 0)) := by
  unfold ofD
  by_cases h1 : (listO l dir u).2 = 0
  · rw [if_pos h1]
    by_cases h2 : (listO l dir v).2 = 0
    · rw [if_pos h2]
      exact .inl ⟨rfl, h1, h2, rfl⟩
    · rw [if_neg h2]
      exact .inr ⟨h2, rfl, .inr h2⟩
  · rw [if_neg h1]
    exact .inr ⟨h1, rfl, .inl h1⟩
theorem listO_rise {l : List Pr} (hr : Rise l) (dir : Bytes) (w : Int) : RiseE (listO l dir w).1 := by
  by_cases h : openE l dir w = 0
  · unfold listO
    rw [if_pos h]
    exact list_rise hr (isSt_okT (openE_parts h).1) dir w
  · rw [show listO l dir w = ([], openE l dir w) by unfold listO; rw [if_neg h]]
    exact List.Pairwise.nil
set_option maxRecDepth 100000 in
set_option maxHeartbeats 8000000 in
theorem diffBack_ok (l : List Ld) (dir : Bytes) (u v : Int) (hl : ldsB l) : APure Tryz.prog 9 [ldA l .none, .str dir, .int .i64 u, .int .i64 v] (.bool true) := by
  refine pure_sub (closedL_cons (closed_lds l (.inl rfl)) (closed3 closed_str closed_int closed_int)) (closed_bool) ?_
  refine acalls_of tabOK Tryz.func9 rfl (by decide) (by simp [Tryz.f9]) ?_
  have kb := bigL_ok l .none hl.1 hl.2
  cases h : bigL l
  · rw [h] at kb
    by_cases hp : 300 < dir.length
    · have d1 : decide ((300 : Int) < (dir.length : Int)) = true := decide_eq_true (by omega)
      unfold ldA at *
      repeat' (first | refine DW_VB tabs rfl d1 ?_ | refine DW_A tabs rfl ?_ | refine DW_nil ?_ | refine W_A rfl ?_ | refine DW_C rfl kb ?_)
      exact ⟨rfl, _, rfl, _, rfl, SubC.of_closed closed_bool⟩
    · have d1 : decide ((300 : Int) < (dir.length : Int)) = false := decide_eq_false (by omega)
      obtain ⟨hs, h20⟩ := bigL_no h |>.symm
      obtain ⟨hi, ho, _, _⟩ := laid_all_inv hs h20
      have km := dlaid_ok l .none (.inl rfl) h20 hs
      have kd := diffs_ok
      have hvs := ho.vals
      have hln : (laidS l).1.all.length ≤ 500 := ho.1
      clear hi ho
      generalize (laidS l).1 = T at *
      have hr := T.rise
      change Rise T.all at hr
      have o1 := of16_ok T (by omega) hvs dir (by omega) u v
      have o2 := of16_ok T (by omega) hvs dir (by omega) v u
      have o3 := of16_ok T (by omega) hvs dir (by omega) u u
      have n1 := ofD_len T.all dir u v
      have n2 := ofD_len T.all dir v u
      have r1 := listO_rise hr dir u
      have r2 := listO_rise hr dir v
      have c1 := of_cases (l := T.all) dir u v
      have c2 := of_cases (l := T.all) dir v u
      have c3 := of_cases (l := T.all) dir u u
      generalize listO T.all dir u = x at *
      generalize listO T.all dir v = y at *
      generalize ofD T.all dir u v = A at *
      generalize ofD T.all dir v u = B at *
      generalize ofD T.all dir u u = C at *
      unfold dlO at o1 o2 o3
      obtain ⟨a, e⟩ := A
      obtain ⟨b, f⟩ := B
      obtain ⟨c, g⟩ := C
      simp only at c1 c2 c3 o1 o2 o3 n1 n2
      rcases c1 with ⟨rfl, x0, y0, rfl⟩ | ⟨h1, rfl, h3⟩
      · rcases c2 with ⟨rfl, _, _, rfl⟩ | ⟨_, _, h2 | h2⟩
        · rcases c3 with ⟨rfl, _, _, rfl⟩ | ⟨_, _, h2 | h2⟩
          · rw [ents_self r1] at o3
            obtain ⟨q1, q2, q3⟩ := ents_ok r1 r2
            have kr := rising_ok (ents x.1 y.1) .none (by omega) q1 (fun d hd => ents_kind r1 r2 hd)
            have b1 := dBack_ok (ents x.1 y.1) (by omega)
            have b2 := dBack_ok (ents y.1 x.1) (by omega)
            rw [ents_back r1 r2] at b1
            rw [ents_back r2 r1] at b2
            have s1 := dlSame_ok (ents x.1 y.1) (ents x.1 y.1) .none .none (by omega) (by omega)
            have s2 := dlSame_ok (ents y.1 x.1) (ents y.1 x.1) .none .none (by omega) (by omega)
            rw [decide_eq_true rfl] at s1 s2
            generalize ents x.1 y.1 = a at *
            generalize ents y.1 x.1 = b at *
            unfold ldA dlA at *
            unfold Tr.av at km o1 o2 o3
            repeat' (first | refine DW_VB tabs rfl d1 ?_ | refine DW_A tabs rfl ?_ | refine DW_nil ?_ | refine W_A rfl ?_ | refine DW_C rfl kb ?_ | refine DW_C rfl km ?_ | refine DW_C rfl o1 ?_ | refine DW_C rfl o2 ?_ | refine DW_C rfl o3 ?_ | refine DW_C rfl kd ?_ | refine DW_C rfl b1 ?_ | refine DW_C rfl b2 ?_ | refine DW_C rfl s1 ?_ | refine DW_C rfl s2 ?_ | refine DW_C rfl kr ?_)
            exact ⟨rfl, _, rfl, _, rfl, SubC.of_closed closed_bool⟩
          · exact absurd x0 h2
          · exact absurd x0 h2
        · exact absurd y0 h2
        · exact absurd x0 h2
      · have hb : b = [] := by
          rcases c2 with ⟨_, y0, x0, _⟩ | ⟨_, h2, _⟩
          · rcases h3 with h3 | h3
            · exact absurd x0 h3
            · exact absurd y0 h3
          · exact h2
        subst hb
        have d2 : (!decide (e = 0)) = true := by simp [h1]
        unfold ldA dlA at *
        unfold Tr.av at km o1 o2 o3
        repeat' (first | refine DW_VB tabs rfl (by first | exact d1 | exact d2) ?_ | refine DW_A tabs rfl ?_ | refine DW_nil ?_ | refine W_A rfl ?_ | refine DW_C rfl kb ?_ | refine DW_C rfl km ?_ | refine DW_C rfl o1 ?_ | refine DW_C rfl o2 ?_ | refine DW_C rfl o3 ?_ | refine DW_C rfl kd ?_)
        exact ⟨rfl, _, rfl, _, rfl, SubC.of_closed closed_bool⟩
  · rw [h] at kb
    unfold ldA at *
    repeat' (first | refine DW_A tabs rfl ?_ | refine DW_nil ?_ | refine W_A rfl ?_ | refine DW_C rfl kb ?_)
    exact ⟨rfl, _, rfl, _, rfl, SubC.of_closed closed_bool⟩
end Go.Proofs.YtmgkebghojhocaaGreatDoor
