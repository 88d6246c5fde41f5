/- One time behind the other; what the deltas tell of a path. No further condition. -/
import Derived.Test.YtmgkebghojhocaaGreatDoorDifJ
set_option linter.unusedVariables false
set_option linter.unusedSimpArgs false
namespace Go.Proofs.YtmgkebghojhocaaGreatDoor
open Go.Ab

set_option maxRecDepth 100000 in
set_option maxHeartbeats 8000000 in
theorem find_ok (l : List Dl) (t : Tag) (hl : l.length < 10000000) (p : Bytes) : APure Tryz.prog 46 [dlA l t, .str p] (.int .i64 (kindOf l p)) := by
  intro M
  refine acalls_of tabOK Tryz.func46 rfl (by decide) (by simp [Tryz.f46]) ?_
  have la := len_map Dl.av l
  unfold dlA
  repeat' (first | refine DW_VI tabs rfl la ?_ | refine DW_A tabs rfl ?_ | refine DW_nil ?_ | refine W_A rfl ?_)
  refine W_count l.length (fun i f N => N = M ∧ (kindOf l p = kindOf (l.drop i) p) ∧ f = ⟨[(0, .sl 2 (l.map Dl.av) t), (1, .str p), (5, .int .i64 (i : Int))], []⟩) (Nat.zero_le _) ⟨rfl, by simp, rfl⟩ (Joint.le ?_ (Mem.le_refl _)) ?_
  · skip
    repeat (refine AF.le_cons rfl ?_)
    exact AF.le_nil rfl
  rintro i f N hi ⟨rfl, hinv, rfl⟩
  by_cases h1 : i < l.length
  · have d1 : decide ((i : Int) < (l.length : Int)) = true := by simp; omega
    have hx : l[i]? = some l[i] := List.getElem?_eq_getElem h1
    have fi := wrap_succ (i := i) (by omega)
    have ht := take_succ hx
    have hm := List.getElem_mem h1
    generalize l[i] = x at hx ht hm
    rw [drop_of hx, kindOf_cons] at hinv
    by_cases hp : x.path = p
    · have d2 : (x.path == p) = true := by simp [hp]
      rw [hinv, if_pos hp]
      repeat' (first | refine DW_VB tabs rfl (by first | exact d1 | exact d2) ?_ | refine DW_VI tabs rfl (by first | exact la | exact fi) ?_ | refine DW_A tabs rfl ?_ | refine DW_nil ?_ | refine W_A rfl ?_ | refine DW_ix tabOK rfl (ixN hx) ?_)
      exact ⟨rfl, _, rfl, rfl, rfl⟩
    · have d2 : (x.path == p) = false := by simp [hp]
      repeat' (first | refine DW_VB tabs rfl (by first | exact d1 | exact d2) ?_ | refine DW_VI tabs rfl (by first | exact la | exact fi) ?_ | refine DW_A tabs rfl ?_ | refine DW_nil ?_ | refine W_A rfl ?_ | refine DW_ix tabOK rfl (ixN hx) ?_)
      refine ⟨h1, _, _, ⟨rfl, by rw [hinv, if_neg hp], rfl⟩, Joint.le ?_ (Mem.le_refl _)⟩
      repeat (refine AF.le_cons rfl ?_)
      exact AF.le_nil rfl
  · have d1 : decide ((i : Int) < (l.length : Int)) = false := by simp; omega
    obtain rfl : i = l.length := by omega
    have e : kindOf l p = 0 := by
      rw [hinv, List.drop_length]
      rfl
    rw [e]
    repeat' (first | refine DW_VB tabs rfl d1 ?_ | refine DW_VI tabs rfl la ?_ | refine DW_A tabs rfl ?_ | refine DW_nil ?_ | refine W_A rfl ?_)
    exact ⟨rfl, _, rfl, rfl, rfl⟩
set_option maxRecDepth 100000 in
set_option maxHeartbeats 8000000 in
theorem diffThen_ok (l : List Ld) (dir : Bytes) (u v w : Int) (hl : ldsB l) : APure Tryz.prog 10 [ldA l .none, .str dir, .int .i64 u, .int .i64 v, .int .i64 w] (.bool true) := by
  refine pure_sub (closedL_cons (closed_lds l (.inl rfl)) (closedL_cons closed_str (closed3 closed_int closed_int closed_int))) (closed_bool) ?_
  refine acalls_of tabOK Tryz.func10 rfl (by decide) (by simp [Tryz.f10]) ?_
  have kb := bigL_ok l .none hl.1 hl.2
  cases h : bigL l
  · rw [h] at kb
    by_cases hp : 300 < dir.length
    · have d1 : decide ((300 : Int) < (dir.length : Int)) = true := decide_eq_true (by omega)
      unfold ldA at *
      repeat' (first | refine DW_VB tabs rfl d1 ?_ | refine DW_A tabs rfl ?_ | refine DW_nil ?_ | refine W_A rfl ?_ | refine DW_C rfl kb ?_ | refine W_draw mixed [0, 1, 2, 7, 8, 3, 4, 5, 6, 9, 10, 11, 12] [.P, .P, .P, .R, .R, .R, .P, .P, .P, .R, .R, .R, .P] rfl rfl (by kernel_rfl) ?_)
      exact ⟨rfl, _, rfl, _, rfl, SubC.of_closed closed_bool⟩
    · have d1 : decide ((300 : Int) < (dir.length : Int)) = false := decide_eq_false (by omega)
      obtain ⟨hs, h20⟩ := bigL_no h |>.symm
      obtain ⟨hi, ho, _, _⟩ := laid_all_inv hs h20
      have km := dlaid_ok l .none (.inl rfl) h20 hs
      have kd := diffs_ok
      have hvs := ho.vals
      have hln : (laidS l).1.all.length ≤ 500 := ho.1
      clear hi ho
      generalize (laidS l).1 = T at *
      have hr := T.rise
      change Rise T.all at hr
      have o1 := of16_ok T (by omega) hvs dir (by omega) u v
      have o2 := of16_ok T (by omega) hvs dir (by omega) v w
      have o3 := of16_ok T (by omega) hvs dir (by omega) u w
      have r1 := listO_rise hr dir u
      have r2 := listO_rise hr dir v
      have r3 := listO_rise hr dir w
      have n1 := listO_len T.all dir u
      have n2 := listO_len T.all dir v
      have n3 := listO_len T.all dir w
      have c1 := of_cases (l := T.all) dir u v
      have c2 := of_cases (l := T.all) dir v w
      have c3 := of_cases (l := T.all) dir u w
      generalize listO T.all dir u = x at *
      generalize listO T.all dir v = y at *
      generalize listO T.all dir w = z at *
      generalize ofD T.all dir u v = A at *
      generalize ofD T.all dir v w = B at *
      generalize ofD T.all dir u w = C at *
      unfold dlO at o1 o2 o3
      obtain ⟨a, e⟩ := A
      obtain ⟨b, f⟩ := B
      obtain ⟨c, g⟩ := C
      simp only at c1 c2 c3 o1 o2 o3
      by_cases h1 : e = 0
      · by_cases h2 : f = 0
        · by_cases h3 : g = 0
          · obtain ⟨rfl, _, _, rfl⟩ := c1.resolve_right (fun q => q.1 h1)
            obtain ⟨rfl, _, _, rfl⟩ := c2.resolve_right (fun q => q.1 h2)
            obtain ⟨rfl, _, _, rfl⟩ := c3.resolve_right (fun q => q.1 h3)
            clear c1 c2 c3 h1 h2 h3
            obtain ⟨p1, p2, p3⟩ := ents_ok r1 r2
            obtain ⟨q1, q2, q3⟩ := ents_ok r2 r3
            obtain ⟨s1, s2, s3⟩ := ents_ok r1 r3
            have g1 : good (ents x.1 y.1) := ⟨by have := ents_len x.1 y.1; omega, fun d hd => ents_kind r1 r2 hd⟩
            have g2 : good (ents y.1 z.1) := ⟨by have := ents_len y.1 z.1; omega, fun d hd => ents_kind r2 r3 hd⟩
            have kt := then_ok (ents x.1 y.1) (ents y.1 z.1) g1 g2
            obtain ⟨t1, t2, t3⟩ := thens_ok p1 q1 p2 q2
            have ht : ∀ p, kindOf (thens (ents x.1 y.1) (ents y.1 z.1)) p = tK (fE (getP En.path x.1 p) (getP En.path y.1 p)) (fE (getP En.path y.1 p) (getP En.path z.1 p)) := fun p => by rw [t3, p3, q3]
            have hz : ∀ d, d ∈ ents x.1 z.1 → kindOf (thens (ents x.1 y.1) (ents y.1 z.1)) d.path = d.kind := fun d hd => by
              have e := kindOf_mem s1 hd
              rw [s3] at e
              have hk := s2 d hd
              rw [← e] at hk ⊢
              rw [ht]
              rcases then_tri (getP En.path x.1 d.path) (getP En.path y.1 d.path) (getP En.path z.1 d.path) with h | h
              · exact h.1 hk
              · exact absurd h.2 hk
            have hh : ∀ d, d ∈ thens (ents x.1 y.1) (ents y.1 z.1) → (kindOf (ents x.1 z.1) d.path = d.kind ∨ (kindOf (ents x.1 z.1) d.path = 0 ∧ d.kind = 2)) ∧ goodK d.kind := fun d hd => by
              have e := kindOf_mem t1 hd
              rw [ht] at e
              have hk := t2 d hd
              rw [← e] at hk ⊢
              rw [s3]
              rcases then_tri (getP En.path x.1 d.path) (getP En.path y.1 d.path) (getP En.path z.1 d.path) with h | h
              · exact ⟨h.2.1 hk, h.2.2⟩
              · exact absurd h.1 hk
            have lz : (ents x.1 z.1).length < 10000000 := by have := ents_len x.1 z.1; omega
            have lh : (thens (ents x.1 y.1) (ents y.1 z.1)).length < 10000000 := by
              have h := mrg_len (pth := Dl.path) (f := fT) (n := (ents x.1 y.1).length + (ents y.1 z.1).length + 1) (a := ents x.1 y.1) (b := ents y.1 z.1)
              rw [← thens_mrg p2 q2] at h
              have := g1.1
              have := g2.1
              omega
            have kr := rising_ok (thens (ents x.1 y.1) (ents y.1 z.1)) .none lh t1 (fun d hd => (hh d hd).2)
            clear ht t1 t2 t3 p1 p2 p3 q1 q2 q3 s1 s2 s3 g1 g2
            generalize thens (ents x.1 y.1) (ents y.1 z.1) = H at *
            generalize ents x.1 y.1 = a at *
            generalize ents y.1 z.1 = b at *
            generalize ents x.1 z.1 = c at *
            have lc := len_map Dl.av c
            have lH := len_map Dl.av H
            have kf := fun (q : Bytes) => find_ok H .none lh q
            have kg := fun (q : Bytes) => find_ok c .none lz q
            unfold ldA dlA at *
            unfold Tr.av at km o1 o2 o3
            repeat' (first | refine DW_VB tabs rfl d1 ?_ | refine DW_A tabs rfl ?_ | refine DW_nil ?_ | refine W_A rfl ?_ | refine DW_C rfl kb ?_ | refine DW_C rfl km ?_ | refine DW_C rfl o1 ?_ | refine DW_C rfl o2 ?_ | refine DW_C rfl o3 ?_ | refine DW_C rfl kt ?_ | refine W_draw mixed [0, 1, 2, 7, 8, 3, 4, 5, 6, 9, 10, 11, 12] [.P, .P, .P, .R, .R, .R, .P, .P, .P, .R, .R, .R, .P] rfl rfl (by kernel_rfl) ?_)
            refine W_count c.length (fun i f N => N = ⟨0, []⟩ ∧ (True) ∧ f = ⟨[(16, .sl 2 (c.map Dl.av) .none), (18, .sl 2 (H.map Dl.av) .none), (19, .int .i64 (i : Int))], []⟩) (Nat.zero_le _) ⟨rfl, trivial, rfl⟩ (Joint.le ?_ (Mem.le_refl _)) ?_
            · skip
              repeat (refine AF.le_cons rfl ?_)
              exact AF.le_nil rfl
            rintro i f N hi ⟨rfl, hinv, rfl⟩
            by_cases h1 : i < c.length
            · have d1 : decide ((i : Int) < (c.length : Int)) = true := by simp; omega
              have hx : c[i]? = some c[i] := List.getElem?_eq_getElem h1
              have fi := wrap_succ (i := i) (by omega)
              have ht := take_succ hx
              have hm := List.getElem_mem h1
              generalize c[i] = d at hx ht hm
              have kx := kf d.path
              rw [hz d hm] at kx
              have d2 : (!decide (d.kind = d.kind)) = false := by simp
              repeat' (first | refine DW_VB tabs rfl (by first | exact d1 | exact d2) ?_ | refine DW_VI tabs rfl (by first | exact lc | exact fi) ?_ | refine DW_A tabs rfl ?_ | refine DW_nil ?_ | refine W_A rfl ?_ | refine DW_C rfl kx ?_ | refine DW_ix tabOK rfl (ixN hx) ?_ | refine W_draw mixed [0, 1, 2, 7, 8, 3, 4, 5, 6, 9, 10, 11, 12] [.P, .P, .P, .R, .R, .R, .P, .P, .P, .R, .R, .R, .P] rfl rfl (by kernel_rfl) ?_)
              refine ⟨h1, _, _, ⟨rfl, trivial, rfl⟩, Joint.le ?_ (Mem.le_refl _)⟩
              repeat (refine AF.le_cons rfl ?_)
              exact AF.le_nil rfl
            · have d1 : decide ((i : Int) < (c.length : Int)) = false := by simp; omega
              obtain rfl : i = c.length := by omega
              repeat' (first | refine DW_VB tabs rfl d1 ?_ | refine DW_VI tabs rfl lc ?_ | refine DW_A tabs rfl ?_ | refine DW_nil ?_ | refine W_A rfl ?_ | refine W_draw mixed [0, 1, 2, 7, 8, 3, 4, 5, 6, 9, 10, 11, 12] [.P, .P, .P, .R, .R, .R, .P, .P, .P, .R, .R, .R, .P] rfl rfl (by kernel_rfl) ?_)
              refine W_count H.length (fun i f N => N = ⟨0, []⟩ ∧ (True) ∧ f = ⟨[(16, .sl 2 (c.map Dl.av) .none), (18, .sl 2 (H.map Dl.av) .none), (20, .int .i64 (i : Int))], []⟩) (Nat.zero_le _) ⟨rfl, trivial, rfl⟩ (Joint.le ?_ (Mem.le_refl _)) ?_
              · skip
                repeat (refine AF.le_cons rfl ?_)
                exact AF.le_nil rfl
              rintro i f N hi ⟨rfl, hinv, rfl⟩
              by_cases h1 : i < H.length
              · have d1 : decide ((i : Int) < (H.length : Int)) = true := by simp; omega
                have hx : H[i]? = some H[i] := List.getElem?_eq_getElem h1
                have fi := wrap_succ (i := i) (by omega)
                have ht := take_succ hx
                have hm := List.getElem_mem h1
                generalize H[i] = d at hx ht hm
                have kx := kg d.path
                rcases (hh d hm).1 with e | ⟨e, e2⟩
                · rw [e] at kx
                  have d2 : (!decide (d.kind = d.kind)) = false := by simp
                  repeat' (first | refine DW_VB tabs rfl (by first | exact d1 | exact d2) ?_ | refine DW_VI tabs rfl (by first | exact lH | exact fi) ?_ | refine DW_A tabs rfl ?_ | refine DW_nil ?_ | refine W_A rfl ?_ | refine DW_C rfl kx ?_ | refine DW_ix tabOK rfl (ixN hx) ?_ | refine W_draw mixed [0, 1, 2, 7, 8, 3, 4, 5, 6, 9, 10, 11, 12] [.P, .P, .P, .R, .R, .R, .P, .P, .P, .R, .R, .R, .P] rfl rfl (by kernel_rfl) ?_)
                  refine ⟨h1, _, _, ⟨rfl, trivial, rfl⟩, Joint.le ?_ (Mem.le_refl _)⟩
                  repeat (refine AF.le_cons rfl ?_)
                  exact AF.le_nil rfl
                · rw [e] at kx
                  obtain ⟨q, k⟩ := d
                  simp only at e2
                  subst e2
                  repeat' (first | refine DW_VB tabs rfl d1 ?_ | refine DW_VI tabs rfl (by first | exact lH | exact fi) ?_ | refine DW_A tabs rfl ?_ | refine DW_nil ?_ | refine W_A rfl ?_ | refine DW_C rfl kx ?_ | refine DW_ix tabOK rfl (ixN hx) ?_ | refine W_draw mixed [0, 1, 2, 7, 8, 3, 4, 5, 6, 9, 10, 11, 12] [.P, .P, .P, .R, .R, .R, .P, .P, .P, .R, .R, .R, .P] rfl rfl (by kernel_rfl) ?_)
                  refine ⟨h1, _, _, ⟨rfl, trivial, rfl⟩, Joint.le ?_ (Mem.le_refl _)⟩
                  repeat (refine AF.le_cons rfl ?_)
                  exact AF.le_nil rfl
              · have d1 : decide ((i : Int) < (H.length : Int)) = false := by simp; omega
                obtain rfl : i = H.length := by omega
                repeat' (first | refine DW_VB tabs rfl d1 ?_ | refine DW_VI tabs rfl lH ?_ | refine DW_A tabs rfl ?_ | refine DW_nil ?_ | refine W_A rfl ?_ | refine DW_C rfl kd ?_ | refine DW_C rfl kr ?_ | refine W_draw mixed [0, 1, 2, 7, 8, 3, 4, 5, 6, 9, 10, 11, 12] [.P, .P, .P, .R, .R, .R, .P, .P, .P, .R, .R, .R, .P] rfl rfl (by kernel_rfl) ?_)
                exact ⟨rfl, _, rfl, _, rfl, SubC.of_closed closed_bool⟩
          · have d2 : (!decide (g = 0)) = true := by simp [h3]
            subst h1
            subst h2
            unfold ldA dlA at *
            unfold Tr.av at km o1 o2 o3
            repeat' (first | refine DW_VB tabs rfl (by first | exact d1 | exact d2) ?_ | refine DW_A tabs rfl ?_ | refine DW_nil ?_ | refine W_A rfl ?_ | refine DW_C rfl kb ?_ | refine DW_C rfl km ?_ | refine DW_C rfl o1 ?_ | refine DW_C rfl o2 ?_ | refine DW_C rfl o3 ?_ | refine DW_C rfl kd ?_ | refine W_draw mixed [0, 1, 2, 7, 8, 3, 4, 5, 6, 9, 10, 11, 12] [.P, .P, .P, .R, .R, .R, .P, .P, .P, .R, .R, .R, .P] rfl rfl (by kernel_rfl) ?_)
            exact ⟨rfl, _, rfl, _, rfl, SubC.of_closed closed_bool⟩
        · have d2 : (!decide (f = 0)) = true := by simp [h2]
          subst h1
          unfold ldA dlA at *
          unfold Tr.av at km o1 o2 o3
          repeat' (first | refine DW_VB tabs rfl (by first | exact d1 | exact d2) ?_ | refine DW_A tabs rfl ?_ | refine DW_nil ?_ | refine W_A rfl ?_ | refine DW_C rfl kb ?_ | refine DW_C rfl km ?_ | refine DW_C rfl o1 ?_ | refine DW_C rfl o2 ?_ | refine DW_C rfl o3 ?_ | refine DW_C rfl kd ?_ | refine W_draw mixed [0, 1, 2, 7, 8, 3, 4, 5, 6, 9, 10, 11, 12] [.P, .P, .P, .R, .R, .R, .P, .P, .P, .R, .R, .R, .P] rfl rfl (by kernel_rfl) ?_)
          exact ⟨rfl, _, rfl, _, rfl, SubC.of_closed closed_bool⟩
      · have d2 : (!decide (e = 0)) = true := by simp [h1]
        unfold ldA dlA at *
        unfold Tr.av at km o1 o2 o3
        repeat' (first | refine DW_VB tabs rfl (by first | exact d1 | exact d2) ?_ | refine DW_A tabs rfl ?_ | refine DW_nil ?_ | refine W_A rfl ?_ | refine DW_C rfl kb ?_ | refine DW_C rfl km ?_ | refine DW_C rfl o1 ?_ | refine DW_C rfl o2 ?_ | refine DW_C rfl o3 ?_ | refine DW_C rfl kd ?_ | refine W_draw mixed [0, 1, 2, 7, 8, 3, 4, 5, 6, 9, 10, 11, 12] [.P, .P, .P, .R, .R, .R, .P, .P, .P, .R, .R, .R, .P] rfl rfl (by kernel_rfl) ?_)
        exact ⟨rfl, _, rfl, _, rfl, SubC.of_closed closed_bool⟩
  · rw [h] at kb
    unfold ldA at *
    repeat' (first | refine DW_A tabs rfl ?_ | refine DW_nil ?_ | refine W_A rfl ?_ | refine DW_C rfl kb ?_ | refine W_draw mixed [0, 1, 2, 7, 8, 3, 4, 5, 6, 9, 10, 11, 12] [.P, .P, .P, .R, .R, .R, .P, .P, .P, .R, .R, .R, .P] rfl rfl (by kernel_rfl) ?_)
    exact ⟨rfl, _, rfl, _, rfl, SubC.of_closed closed_bool⟩
end Go.Proofs.YtmgkebghojhocaaGreatDoor
