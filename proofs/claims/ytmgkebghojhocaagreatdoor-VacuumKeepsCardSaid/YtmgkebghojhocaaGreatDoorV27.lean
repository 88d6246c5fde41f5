/- Parts of the proof, one behind the other: VLawC. No further condition. -/
import Derived.Test.YtmgkebghojhocaaGreatDoorV25
import Derived.Test.YtmgkebghojhocaaGreatDoorV26
set_option linter.unusedVariables false
set_option linter.unusedSimpArgs false
/- Twice is as once. No further condition. -/
set_option linter.unusedVariables false
set_option linter.unusedSimpArgs false
namespace Go.Proofs.YtmgkebghojhocaaGreatDoor
open Go.Ab

noncomputable def vlF (l : List Ld) (tg : Tag) (i : Nat) : AF := ⟨[(0, ldA l tg), (3, (laidS (l.take i)).1.av), (4, .int .i64 (i : Int))], []⟩
set_option maxRecDepth 100000 in
set_option maxHeartbeats 8000000 in
theorem vlaid_ok (l : List Ld) (tg : Tag) (htg : tg = .none ∨ tg = .full) (hl : l.length ≤ 20) (hs : smallL l) : APure Tryz.prog 27 [ldA l tg] (laidS l).1.av := by
 refine pure_sub (closed1 (closed_lds l htg)) (closed_tr _) ?_
 refine acalls_of tabOK Tryz.func27 rfl (by decide) (by simp [Tryz.f27]) ?_
 have kn := new_ok
 have la := len_map Ld.av l
 unfold Tr.av at kn
 unfold ldA
 repeat' (first | refine DW_VI tabs rfl la ?_ | refine DW_A tabs rfl ?_ | refine DW_nil ?_ | refine W_A rfl ?_ | refine DW_C rfl kn ?_ | refine DW_nilc tabOK rfl ?_ | refine W_draw mixed [0, 1, 2, 6, 7, 3, 4, 5, 8, 9, 10, 11, 12, 13, 14, 15, 16] [.P, .P, .P, .R, .R, .R, .P, .P, .R, .R, .R, .P, .P, .P, .P, .P, .P] rfl rfl (by kernel_rfl) ?_)
 refine W_count l.length (fun i f N => N = ⟨0, []⟩ ∧ f = vlF l tg i) (Nat.zero_le _) ⟨rfl, rfl⟩ (Joint.le ?_ (Mem.le_nil rfl)) ?_
 ·unfold vlF ldA
  repeat (refine AF.le_cons rfl ?_)
  exact AF.le_nil rfl
 rintro i f N hi ⟨rfl, rfl⟩
 unfold vlF ldA
 by_cases h1 : i < l.length
 ·have d1 : decide ((i : Int) < (l.length : Int)) = true := by simp; omega
  have hx : l[i]? = some l[i] := List.getElem?_eq_getElem h1
  have fi := wrap_succ (i := i) (by omega)
  have ht := take_succ hx
  have hb := hs _ (List.getElem_mem h1)
  generalize l[i] = x at hx ht hb
  obtain ⟨q1, q2, q3⟩ := laidS_ok hs i (by omega) (by omega)
  have kl := lay_ok (laidS (l.take i)).1 x.at_ x.batch .none (.inl rfl) (by have := q1.1; omega) q1.vals (fun c hc => by have := hb.2 c hc; exact ⟨by omega, by omega⟩)
  have hst := laidS_step ht
  have hl0 := closed_lds l htg
  generalize hS : laidS (l.take i) = S at *
  obtain ⟨u, took⟩ := S
  unfold layA at kl
  have hu := closed_tr u
  cases hb2 : layB u.all x.at_ x.batch
  ·rw [if_neg (by simp [hb2])] at kl hst
   unfold chA at kl
   unfold Tr.av at kl ⊢
   repeat' (first | refine DW_VB tabs rfl d1 ?_ | refine DW_VI tabs rfl (by first | exact la | exact fi) ?_ | refine DW_A tabs rfl ?_ | refine DW_nil ?_ | refine W_A rfl ?_ | refine DW_C rfl kl ?_ | refine DW_ix tabOK rfl (ixN hx) ?_ | refine DW_nilc tabOK rfl ?_ | refine W_draw mixed [0, 1, 2, 6, 7, 3, 4, 5, 8, 9, 10, 11, 12, 13, 14, 15, 16] [.P, .P, .P, .R, .R, .R, .P, .P, .R, .R, .R, .P, .P, .P, .P, .P, .P] rfl rfl (by kernel_rfl) ?_)
   refine ⟨h1, vlF l tg (i + 1), ⟨0, []⟩, ⟨rfl, rfl⟩, ?_⟩
   refine Joint.cut (k := 0) (t := (vlF l tg (i + 1)).t) (l := []) (Nat.le_refl _) (Nat.zero_le _) rfl ⟨?_, ?_, ?_, trivial⟩ trivial
   ·exact SubC.of_closed hl0
   ·rw [hst]
    exact SubC.of_closed hu
   ·exact SubC.of_closed closed_int
  ·rw [if_pos hb2] at kl hst
   have hv := closed_tr (layT u x.at_ x.batch)
   unfold chA at kl
   generalize hV : layT u x.at_ x.batch = v at *
   unfold Tr.av at kl ⊢
   repeat' (first | refine DW_VB tabs rfl d1 ?_ | refine DW_VI tabs rfl (by first | exact la | exact fi) ?_ | refine DW_A tabs rfl ?_ | refine DW_nil ?_ | refine W_A rfl ?_ | refine DW_C rfl kl ?_ | refine DW_ix tabOK rfl (ixN hx) ?_ | refine DW_nilc tabOK rfl ?_ | refine W_draw mixed [0, 1, 2, 6, 7, 3, 4, 5, 8, 9, 10, 11, 12, 13, 14, 15, 16] [.P, .P, .P, .R, .R, .R, .P, .P, .R, .R, .R, .P, .P, .P, .P, .P, .P] rfl rfl (by kernel_rfl) ?_)
   refine ⟨h1, vlF l tg (i + 1), ⟨0, []⟩, ⟨rfl, rfl⟩, ?_⟩
   refine Joint.cut (k := 0) (t := (vlF l tg (i + 1)).t) (l := []) (Nat.le_refl _) (Nat.zero_le _) rfl ⟨?_, ?_, ?_, trivial⟩ trivial
   ·exact SubC.of_closed hl0
   ·rw [hst]
    exact SubC.of_closed hv
   ·exact SubC.of_closed closed_int
 ·have d1 : decide ((i : Int) < (l.length : Int)) = false := by simp; omega
  obtain rfl : i = l.length := by omega
  rw [List.take_length]
  have hu := closed_tr (laidS l).1
  generalize (laidS l).1 = u at *
  unfold Tr.av at hu ⊢
  repeat' (first | refine DW_VB tabs rfl d1 ?_ | refine DW_VI tabs rfl la ?_ | refine DW_A tabs rfl ?_ | refine DW_nil ?_ | refine W_A rfl ?_ | refine DW_nilc tabOK rfl ?_ | refine W_draw mixed [0, 1, 2, 6, 7, 3, 4, 5, 8, 9, 10, 11, 12, 13, 14, 15, 16] [.P, .P, .P, .R, .R, .R, .P, .P, .R, .R, .R, .P, .P, .P, .P, .P, .P] rfl rfl (by kernel_rfl) ?_)
  exact ⟨rfl, _, rfl, _, rfl, SubC.of_closed hu⟩
end Go.Proofs.YtmgkebghojhocaaGreatDoor
