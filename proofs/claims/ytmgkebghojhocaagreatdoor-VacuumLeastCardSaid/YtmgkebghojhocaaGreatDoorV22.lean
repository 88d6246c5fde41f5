/- Parts of the proof, one behind the other: StoF, StoG, BatA, StoH. No further condition. -/
import Derived.Test.YtmgkebghojhocaaGreatDoorV21
import Derived.Test.YtmgkebghojhocaaGreatDoorV17
import Derived.Test.YtmgkebghojhocaaGreatDoorV07
import Derived.Lib.Bytealg
set_option linter.unusedVariables false
set_option linter.unusedSimpArgs false
/- The store's List. No further condition. -/
set_option linter.unusedVariables false
set_option linter.unusedSimpArgs false
namespace Go.Proofs.YtmgkebghojhocaaGreatDoor
open Go.Ab

theorem new_anyM (t : Tr) (hs : t.all.length < 10000000) (dir : Bytes) (hd : dir.length < 1000000) (hp : isPathB dir = true) (M : Mem) :
  ACalls Tryz.prog 108 [t.av, .str dir] M fun e N => e = .ret (.tup [.ptr M.next 0, .int .i64 0]) ∧ N = M.push (.cells (curC t dir t.all)) := by
 refine ACalls.frameN (R1 := fun e d => e = .ret (.tup [.ptr 0 0, .int .i64 0]) ∧ d = curC t dir t.all) ((new_ok' t hs dir hd hp).mono ?_) (closed2 (closed_tr t) closed_str) ?_
 ·rintro e N ⟨rfl, rfl⟩
  exact ⟨rfl, _, rfl, rfl, rfl⟩
 ·rintro e d ⟨rfl, rfl⟩
  refine ⟨closed_curC _ _ _, .ret (.tup [.ptr M.next 0, .int .i64 0]), ?_, rfl, rfl⟩
  refine OutV.tup rfl ?_
  intro i x y hx hy
  match i, hx, hy with
  | 0, hx, hy =>
   simp at hx hy
   subst hx; subst hy
   exact OutV.ptr
  | 1, hx, hy =>
   simp at hx hy
   subst hx; subst hy
   exact OutV.closed closed_int
  | i + 2, hx, _ => simp at hx

theorem sameP_lt (x : Pr) (r : List Pr) : (sameP x.key.path (x :: r)).length ≤ r.length := by
 unfold sameP
 rw [List.dropWhile_cons, if_pos (by simp)]
 exact (List.dropWhile_sublist _).length_le
/-- The paths that are told when one skips along. -/
def pathsN (dir : Bytes) : Nat → List Pr → List Bytes
 | 0, _ => []
 | n + 1, m => match skipU dir m with
  | [] => []
  | x :: r => x.key.path :: pathsN dir n (sameP x.key.path (x :: r))
def pathsU (dir : Bytes) (m : List Pr) : List Bytes := pathsN dir m.length m
theorem pathsN_more (dir : Bytes) : ∀ (n : Nat) (m : List Pr) (k : Nat), m.length ≤ n → m.length ≤ k → pathsN dir n m = pathsN dir k m
 | 0, m, k, hn, hk => by
  have : m = [] := List.length_eq_zero_iff.1 (by omega)
  subst this
  cases k <;> rfl
 | n + 1, m, 0, hn, hk => by
  have : m = [] := List.length_eq_zero_iff.1 (by omega)
  subst this
  rfl
 | n + 1, m, k + 1, hn, hk => by
  unfold pathsN
  have hsub := (skipU_sub dir m).length_le
  generalize skipU dir m = s at hsub
  cases s with
  | nil => rfl
  | cons x r =>
   have := sameP_lt x r
   simp at hsub
   show x.key.path :: pathsN dir n _ = x.key.path :: pathsN dir k _
   rw [pathsN_more dir n _ k (by omega) (by omega)]
theorem pathsU_nil {dir : Bytes} {m : List Pr} (h : skipU dir m = []) : pathsU dir m = [] := by
 unfold pathsU
 cases m with
 | nil => rfl
 | cons a b =>
  show pathsN dir (b.length + 1) _ = _
  unfold pathsN
  rw [h]
theorem pathsU_cons {dir : Bytes} {m r : List Pr} {x : Pr} (h : skipU dir m = x :: r) : pathsU dir m = x.key.path :: pathsU dir (sameP x.key.path (x :: r)) := by
 unfold pathsU
 have hsub := (skipU_sub dir m).length_le
 rw [h] at hsub
 cases m with
 | nil => cases h
 | cons a b =>
  show pathsN dir (b.length + 1) _ = _
  rw [pathsN, h]
  have := sameP_lt x r
  simp at hsub
  show x.key.path :: pathsN dir _ _ = _
  rw [pathsN_more dir b.length _ (sameP x.key.path (x :: r)).length (by omega) (Nat.le_refl _)]

def listL (l : List Pr) (dir : Bytes) (w : Int) : List En := (pathsU dir l).filterMap fun p => atL l p w
def listO (l : List Pr) (dir : Bytes) (w : Int) : List En × Int := if openE l dir w = 0 then (listL l dir w, 0) else ([], openE l dir w)
def ensA (l : List En) (t : Tag) : AV := .sl 5 (l.map En.av) t
theorem ens_cells (l : List En) : ∀ x, x ∈ l.map En.av → ∀ c, c ∈ x.cells → Closed c := by
 intro x hx
 obtain ⟨p, _, rfl⟩ := List.mem_map.1 hx
 exact closed_enc p
theorem closed_ens (l : List En) : Closed (ensA l .none) := closed_sl (.inl rfl) (fun x hx => by obtain ⟨p, _, rfl⟩ := List.mem_map.1 hx; exact closed_en p) (ens_cells l)
def lsA (x : List En × Int) : AV := .tup [ensA x.1 .none, .int .i64 x.2]
theorem closed_lsA (x : List En × Int) : Closed (lsA x) := closed_tup (closed2 (closed_ens _) closed_int)
def lsD : ADef := { f := .func 94, cap := [], args := [.ptr 0 0], keep := [(7, .ptr 0 0)] }
abbrev lsR (z : List En × Int) : AEnd → Mem → Prop := fun e _ => ∃ x, e = .ret x ∧ SubC 0 x (lsA z)
theorem ls_res {M : Mem} {x : AV} {n : Int} {t : List (Nat × AV)} (h6 : AF.get ⟨t, []⟩ 6 = x) (h7 : AF.get ⟨t, []⟩ 7 = .ptr 0 0) (g0 : M.get 0 = some (.cells [.int .i64 n])) :
  resA tab M ⟨t, []⟩ Tryz.f48.results = some (.tup [x, .int .i64 n]) := by
 have a2 : aloadM M tab 30 (.ptr 0 0) = some (.int .i64 n) := by
  simp only [aloadM, g0]
  rfl
 show resA tab M ⟨t, []⟩ #[.tmp 6, .cell 7 30] = _
 simp only [resA, ress, resOf, h6, h7, a2]
theorem ls_pan {M : Mem} {n : Int} {t : List (Nat × AV)} (h : (cm0 M.next 0).le M) (h6 : AF.get ⟨t, []⟩ 6 = .sl 0 [] .full) (h7 : AF.get ⟨t, []⟩ 7 = .ptr 0 0) :
  ALeaves Tryz.prog tab Tryz.f48 ⟨t, []⟩ (lsR ([], n)) [lsD] (.pan (errA n)) M := by
 refine ⟨rfl, _, rfl, ACallsD.le h (ACallsD.mono (catch0 M.next 0 n) ?_)⟩
 rintro m' M' ⟨rfl, gn, g0⟩
 exact ⟨_, ls_res h6 h7 g0, _, rfl, SubC.tup2 SubC.nil (SubC.of_closed closed_int)⟩
theorem ls_ret {M : Mem} {l : List En} {x : AV} {t : List (Nat × AV)} (h : (cm0 M.next 0).le M) (hs : SubC 0 x (ensA l .none)) (h6 : AF.get ⟨t, []⟩ 6 = x) (h7 : AF.get ⟨t, []⟩ 7 = .ptr 0 0) :
  ALeaves Tryz.prog tab Tryz.f48 ⟨t, []⟩ (lsR (l, 0)) [lsD] .ret M := by
 refine ⟨rfl, _, rfl, ACallsD.le h (ACallsD.mono (pass0 M.next 0) ?_)⟩
 rintro m' M' ⟨rfl, gn, g0⟩
 exact ⟨_, ls_res h6 h7 g0, _, rfl, SubC.tup2 hs (SubC.of_closed closed_int)⟩
def skP (dir : Bytes) (m : List Pr) : Bytes := (skipC (skipU dir m)).1.1
def skB (dir : Bytes) (m : List Pr) : Bool := (skipC (skipU dir m)).1.2
def skR (dir : Bytes) (m : List Pr) : List Pr := (skipC (skipU dir m)).2
def lsN (t : Tr) (dir : Bytes) (m : List Pr) (g : Nat) : Mem := ⟨3, [(0, .cells [.int .i64 0]), (1, .cells (curC t dir m)), (2, .spare g)]⟩
def lsF (t : Tr) (w : Int) (out : List En) (g : Nat) (p : Bytes) (ok : Bool) : AF := ⟨[(0, t.av), (2, .int .i64 w), (6, ensA out (.tok 2 g)), (7, .ptr 0 0), (10, .fn (.func 110) [.ptr 1 0] []), (11, .str p), (12, .bool ok)], [lsD]⟩
set_option maxRecDepth 100000 in
set_option maxHeartbeats 8000000 in
theorem list_ok (t : Tr) (hs : t.all.length < 10000000) (hv : valsB t.all) (dir : Bytes) (hp : dir.length < 1000000) (w : Int) : APure Tryz.prog 48 [t.av, .str dir, .int .i64 w] (lsA (listO t.all dir w)) := by
 refine pure_sub (closed3 (closed_tr t) closed_str closed_int) (closed_lsA _) ?_
 refine acalls_of_d tabOK Tryz.func48 rfl (by decide) (by simp [Tryz.f48]) ?_
 unfold listO
 by_cases h : openE t.all dir w = 0
 ·have ko := open_yes t hs hv dir hp w h
  obtain ⟨h1, h2, h3⟩ := openE_parts h
  have ka := fun (p : Bytes) (hl : p.length < 1000000) (hp : isPathB p = true) => at_ok t hs hv h1 p hl hp w h3
  have kn := new_anyM t hs dir hp h2
  have kx := fun (l : List Pr) (h : shortL l) => skip_ok t dir hp l h
  have k0 := must0_ok
  rw [if_pos h]
  unfold listL
  have hall : ∀ x, x ∈ t.all → isPathB x.key.path = true ∧ x.key.path.length < 1000000 := fun x hx => by
   unfold isSt at h1
   rw [List.all_eq_true] at h1
   exact ⟨okP_path (h1 x hx), (hv x hx).1⟩
  unfold Tr.av at ko ka kn ⊢
  repeat' (first | refine DW_A tabs rfl ?_ | refine DW_nil ?_ | refine W_A rfl ?_ | refine DW_row tabOK rfl ?_ | refine DW_app tabOK rfl rfl (by simp; omega) (by simp; omega) ?_ | refine DW_app0 tabOK rfl (by simp; omega) (by simp; omega) ?_)
  refine W_region ?_
  refine WL_defer rfl rfl rfl rfl [(7, .ptr 0 0)] (by intro p hp; simp at hp; subst hp; rfl) ?_
  refine WL_nil ?_
  repeat' (first | refine DW_A tabs rfl ?_ | refine DW_nil ?_ | refine W_A rfl ?_ | refine DW_C rfl ko ?_ | refine DW_C rfl k0 ?_ | refine DW_CM rfl rfl (kn _) ?_ ?_ | refine DW_row tabOK rfl ?_ | refine DW_app tabOK rfl rfl (by simp; omega) (by simp; omega) ?_ | refine DW_app0 tabOK rfl (by simp; omega) (by simp; omega) ?_)
  rotate_left
  ·intro u N h
   cases h.1
  rintro u N ⟨e, rfl⟩
  cases e
  repeat' (first | refine DW_A tabs rfl ?_ | refine DW_nil ?_ | refine W_A rfl ?_ | refine DW_C rfl k0 ?_ | refine DW_row tabOK rfl ?_ | refine DW_app tabOK rfl rfl (by simp; omega) (by simp; omega) ?_ | refine DW_app0 tabOK rfl (by simp; omega) (by simp; omega) ?_)
  have hA : ∀ x, x ∈ t.all → isPathB x.key.path = true ∧ x.key.path.length < 1000000 := hall
  generalize hAA : t.all = A at *
  refine DW_CM rfl rfl (cur_frame (R := fun e N => e = .ret (sb (skP dir A, skB dir A)) ∧ N = _) 1 rfl (Nat.lt_succ_self 1) (kx A (fun x hx => (hA x hx).2)) (closed_sb _) ⟨InV.ptr rfl, trivial⟩ ⟨rfl, rfl⟩) ?_ (fun u M' h => by cases h.1)
  rintro u N ⟨e, rfl⟩
  cases e
  unfold sb
  repeat' (first | refine DW_A tabs rfl ?_ | refine DW_nil ?_ | refine W_A rfl ?_ | refine DW_row tabOK rfl ?_ | refine DW_app tabOK rfl rfl (by simp; omega) (by simp; omega) ?_ | refine DW_app0 tabOK rfl (by simp; omega) (by simp; omega) ?_)
  refine W_loop (fun k f N => ∃ (g : Nat) (rest : List Pr) (out : List En), rest.length = k ∧ (∀ x, x ∈ rest → x ∈ A) ∧ out ++ (pathsU dir rest).filterMap (fun p => atL A p w) = (pathsU dir A).filterMap (fun p => atL A p w) ∧ out.length + rest.length ≤ A.length ∧ N = lsN t dir (skR dir rest) g ∧ f = lsF t w out g (skP dir rest) (skB dir rest)) (k := A.length) ⟨0, A, [], rfl, fun _ h => h, rfl, by simp, rfl, rfl⟩
   ((Joint.tok 6 rfl (sz' := 5) (.inr rfl)).trans (Joint.le ?_ (Mem.le_cons rfl (Mem.le_cons rfl (Mem.le_cons rfl (Mem.le_nil rfl)))))) ?_
  ·unfold lsF
   repeat (refine AF.le_cons rfl ?_)
   exact AF.le_nil rfl
  rintro k f N ⟨g, rest, out, rfl, hin, hinv, hlen, rfl, rfl⟩
  unfold lsN lsF Tr.av
  unfold skP skB skR
  have hu := @pathsU_nil dir rest
  have hc := @pathsU_cons dir rest
  have hsub := skipU_sub dir rest
  generalize skipU dir rest = sk at hu hc hsub
  cases sk with
  | nil =>
   rw [hu rfl] at hinv
   have e : out = (pathsU dir A).filterMap (fun p => atL A p w) := by simpa using hinv
   repeat' (first | refine DW_A tabs rfl ?_ | refine DW_nil ?_ | refine W_A rfl ?_ | refine DW_row tabOK rfl ?_ | refine DW_app tabOK rfl rfl (by simp; omega) (by simp; omega) ?_ | refine DW_app0 tabOK rfl (by simp; omega) (by simp; omega) ?_)
   exact ls_ret (Mem.le_cons rfl (Mem.le_nil rfl)) (by rw [← e]; exact SubC.untag (closed_ens out)) rfl rfl
  | cons x r =>
   rw [hc rfl, List.filterMap_cons] at hinv
   have hx := hA x (hin x (hsub.subset (by simp)))
   have kax := ka x.key.path hx.2 hx.1
   have hsr := sameP_lt x r
   have hl2 : r.length + 1 ≤ rest.length := hsub.length_le
   have hin2 : ∀ y, y ∈ sameP x.key.path (x :: r) → y ∈ A := fun y hy => hin y (hsub.subset ((List.dropWhile_sublist _).subset hy))
   have kx2 := kx (sameP x.key.path (x :: r)) (fun y hy => (hA y (hin2 y hy)).2)
   unfold enA at kax
   have lo : out.length < 10000000 := by omega
   have lm : ((out.map En.av).length : Int) = (out.length : Int) := by simp
   have fin : ∀ (out2 : List En) (g2 : Nat) (M2 : Mem) (f2 : AF), out2 ++ (pathsU dir (sameP x.key.path (x :: r))).filterMap (fun p => atL A p w) = (pathsU dir A).filterMap (fun p => atL A p w) → out2.length ≤ out.length + 1 → f2.d = [lsD] → SubsC 3 f2 (lsF t w out2 g2 (skP dir (sameP x.key.path (x :: r))) (skB dir (sameP x.key.path (x :: r)))).t → 3 ≤ M2.next → M2.get 0 = some (.cells [.int .i64 0]) → M2.get 1 = some (.cells (curC t dir (skR dir (sameP x.key.path (x :: r))))) → M2.get 2 = some (.spare g2) →
     ∃ k2 f'' M'', k2 < rest.length ∧ (∃ (g : Nat) (rest : List Pr) (out : List En), rest.length = k2 ∧ (∀ x, x ∈ rest → x ∈ A) ∧ out ++ (pathsU dir rest).filterMap (fun p => atL A p w) = (pathsU dir A).filterMap (fun p => atL A p w) ∧ out.length + rest.length ≤ A.length ∧ M'' = lsN t dir (skR dir rest) g ∧ f'' = lsF t w out g (skP dir rest) (skB dir rest)) ∧ Joint 2 f2 M2 f'' M'' := by
    intro out2 g2 M2 f2 q1 q2 q3 q4 q5 q6 q7 q8
    refine ⟨(sameP x.key.path (x :: r)).length, lsF t w out2 g2 (skP dir (sameP x.key.path (x :: r))) (skB dir (sameP x.key.path (x :: r))), lsN t dir (skR dir (sameP x.key.path (x :: r))) g2, by omega, ⟨g2, _, out2, rfl, hin2, q1, by omega, rfl, rfl⟩, ?_⟩
    have hd : DefsC 3 f2.d := by
     rw [q3]
     refine ⟨rfl, fun x hx => (by cases hx), subs_ptr (k := 3) (i := 0) rfl, ?_, trivial⟩
     intro p hp
     rcases List.mem_cons.1 hp with rfl | hp
     ·exact SubC.ptr (k := 3) (id := 0) rfl
     ·cases hp
    have := Joint.cutD (n0 := 2) (k := 3) (t := (lsF t w out2 g2 (skP dir (sameP x.key.path (x :: r))) (skB dir (sameP x.key.path (x :: r)))).t) (l := (lsN t dir (skR dir (sameP x.key.path (x :: r))) g2).objs) (by omega) q5 hd q4 (objsC_closed (by decide) q6 (closed1 closed_int) (objsC_closed (by decide) q7 (closed_curC t dir _) ⟨by decide, by rw [q8]; rfl, trivial⟩))
    rw [q3] at this
    exact this
   cases hat : atL A x.key.path w with
   | none =>
    rw [hat] at kax hinv
    repeat' (first | refine DW_A tabs rfl ?_ | refine DW_nil ?_ | refine W_A rfl ?_ | refine DW_C rfl kax ?_ | refine DW_row tabOK rfl ?_ | refine DW_app tabOK rfl rfl (by simp; omega) (by simp; omega) ?_ | refine DW_app0 tabOK rfl (by simp; omega) (by simp; omega) ?_)
    refine DW_CM rfl rfl (cur_frame (R := fun e N => e = .ret (sb (skP dir (sameP x.key.path (x :: r)), skB dir (sameP x.key.path (x :: r)))) ∧ N = _) 1 rfl (by show 1 < 4; omega) kx2 (closed_sb _) ⟨InV.ptr rfl, trivial⟩ ⟨rfl, rfl⟩) ?_ (fun u M' h => by cases h.1)
    rintro u N ⟨e, rfl⟩
    cases e
    unfold sb
    repeat' (first | refine DW_A tabs rfl ?_ | refine DW_nil ?_ | refine W_A rfl ?_ | refine DW_row tabOK rfl ?_ | refine DW_app tabOK rfl rfl (by simp; omega) (by simp; omega) ?_ | refine DW_app0 tabOK rfl (by simp; omega) (by simp; omega) ?_)
    refine fin out g _ _ hinv (by omega) rfl ⟨?_, ?_, ?_, ?_, ?_, ?_, ?_, trivial⟩ (by show 3 ≤ 4; omega) rfl rfl rfl
    ·exact SubC.of_closed (closed_tr t)
    ·exact SubC.of_closed closed_int
    ·exact SubC.tok rfl (ens_cells _)
    ·exact SubC.ptr rfl
    ·exact SubC.fn (by simp; exact SubC.ptr rfl) (by simp)
    ·exact SubC.of_closed closed_str
    ·exact SubC.of_closed closed_bool
   | some y =>
    rw [hat] at kax hinv
    unfold ensA
    repeat' (first | refine DW_VI tabs rfl lm ?_ | refine DW_A tabs rfl ?_ | refine DW_nil ?_ | refine W_A rfl ?_ | refine DW_C rfl kax ?_ | refine DW_row tabOK rfl ?_ | refine DW_app tabOK rfl rfl (by simp; omega) (by simp; omega) ?_ | refine DW_app0 tabOK rfl (by simp; omega) (by simp; omega) ?_)
    refine DW_CM rfl rfl (cur_frame (R := fun e N => e = .ret (sb (skP dir (sameP x.key.path (x :: r)), skB dir (sameP x.key.path (x :: r)))) ∧ N = _) 1 rfl (by show 1 < 4; omega) kx2 (closed_sb _) ⟨InV.ptr rfl, trivial⟩ ⟨rfl, rfl⟩) ?_ (fun u M' h => by cases h.1)
    rintro u N ⟨e, rfl⟩
    cases e
    unfold sb
    repeat' (first | refine DW_A tabs rfl ?_ | refine DW_nil ?_ | refine W_A rfl ?_ | refine DW_row tabOK rfl ?_ | refine DW_app tabOK rfl rfl (by simp; omega) (by simp; omega) ?_ | refine DW_app0 tabOK rfl (by simp; omega) (by simp; omega) ?_)
    refine fin (out ++ [y]) (g + 1) _ _ (by rw [List.append_assoc]; exact hinv) (by simp) rfl ⟨?_, ?_, ?_, ?_, ?_, ?_, ?_, trivial⟩ (by show 3 ≤ 4; omega) rfl rfl rfl
    ·exact SubC.of_closed (closed_tr t)
    ·exact SubC.of_closed closed_int
    ·have e : AV.sl 5 ((out ++ [y]).map En.av) (.tok 2 (g + 1)) = .sl 5 (out.map En.av ++ [y.av]) (.tok 2 (g + 1)) := by simp
     show SubC 3 _ (AV.sl 5 ((out ++ [y]).map En.av) (.tok 2 (g + 1)))
     have := SubC.tok (k := 3) (id := 2) (g := g + 1) (sz := 5) rfl (ens_cells (out ++ [y]))
     rw [e] at this ⊢
     exact this
    ·exact SubC.ptr rfl
    ·exact SubC.fn (by simp; exact SubC.ptr rfl) (by simp)
    ·exact SubC.of_closed closed_str
    ·exact SubC.of_closed closed_bool
 ·have ko := open_no t hs hv dir hp w h
  unfold Tr.av at ko ⊢
  rw [if_neg h]
  repeat' (first | refine DW_A tabs rfl ?_ | refine DW_nil ?_ | refine W_A rfl ?_ | refine DW_row tabOK rfl ?_ | refine DW_app tabOK rfl rfl (by simp; omega) (by simp; omega) ?_ | refine DW_app0 tabOK rfl (by simp; omega) (by simp; omega) ?_)
  refine W_region ?_
  refine WL_defer rfl rfl rfl rfl [(7, .ptr 0 0)] (by intro p hp; simp at hp; subst hp; rfl) ?_
  refine WL_nil ?_
  refine W_A rfl ?_
  refine W_region ?_
  refine WL_P rfl rfl opP_move ?_
  refine WL_P rfl rfl opP_move ?_
  refine WL_P rfl rfl opP_move ?_
  refine WL_call rfl rfl rfl rfl (ko _) ?_ ?_
  ·rintro u M' ⟨e, _⟩
   cases e
  ·rintro u M' ⟨e, rfl⟩
   cases e
   exact ls_pan (Mem.le_cons rfl (Mem.le_nil rfl)) rfl rfl
end Go.Proofs.YtmgkebghojhocaaGreatDoor

/- The store's History. No further condition. -/
set_option linter.unusedVariables false
set_option linter.unusedSimpArgs false
namespace Go.Proofs.YtmgkebghojhocaaGreatDoor
open Go.Ab

def histL (l : List Pr) (p : Bytes) : List Pr := (fromP l ⟨p, 1000000000⟩).takeWhile fun x => x.key.path == p
def histO (l : List Pr) (p : Bytes) : List Pr × Int := if openE l p 0 = 0 then (histL l p, 0) else ([], openE l p 0)
def hsA (x : List Pr × Int) : AV := .tup [.sl 3 (x.1.map Pr.av) .none, .int .i64 x.2]
theorem closed_hsA (x : List Pr × Int) : Closed (hsA x) := closed_tup (closed2 (closed_prs _) closed_int)
def hsD : ADef := { f := .func 94, cap := [], args := [.ptr 0 0], keep := [(5, .ptr 0 0)] }
abbrev hsR (z : List Pr × Int) : AEnd → Mem → Prop := fun e _ => ∃ x, e = .ret x ∧ SubC 0 x (hsA z)
def hsN (g : Nat) : Mem := ⟨3, [(0, .cells [.int .i64 0]), (2, .spare g)]⟩
def hsF (p : Bytes) (L : List Pr) (g i : Nat) : AF := ⟨[(1, .str p), (4, .sl 3 ((L.take i).map Pr.av) (.tok 2 g)), (5, .ptr 0 0), (24, .sl 3 (L.map Pr.av) .none), (25, .int .i64 (L.length : Int)), (26, .int .i64 (i : Int))], [hsD]⟩
theorem hsDefs : DefsC 3 [hsD] := by
 refine ⟨rfl, fun x hx => (by cases hx), subs_ptr (k := 3) (i := 0) rfl, ?_, trivial⟩
 intro p hp
 rcases List.mem_cons.1 hp with rfl | hp
 ·exact SubC.ptr (k := 3) (id := 0) rfl
 ·cases hp
end Go.Proofs.YtmgkebghojhocaaGreatDoor

/- Which batches may be. No further condition. -/
set_option linter.unusedVariables false
set_option linter.unusedSimpArgs false
namespace Go.Proofs.YtmgkebghojhocaaGreatDoor
open Go.Ab

structure Ch where
 path : Bytes
 gone : Bool
 meta_ : Mt
deriving DecidableEq
def Ch.cells (c : Ch) : List AV := [.str c.path, .bool c.gone, .int .i64 c.meta_.size, .int .i64 c.meta_.mode, iA c.meta_.ch .none]
def Ch.av (c : Ch) : AV := .agg c.cells
theorem closed_chc (c : Ch) : ∀ x, x ∈ c.cells → Closed x := by
 intro x hx
 simp [Ch.cells] at hx
 rcases hx with rfl | rfl | rfl | rfl | rfl
 ·exact closed_str
 ·exact closed_bool
 ·exact closed_int
 ·exact closed_int
 ·exact closed_iA _ (.inl rfl)
theorem closed_ch (c : Ch) : Closed c.av := closed_agg (closed_chc c)
theorem chs_cells (l : List Ch) : ∀ x, x ∈ l.map Ch.av → ∀ c, c ∈ x.cells → Closed c := by
 intro x hx
 obtain ⟨p, _, rfl⟩ := List.mem_map.1 hx
 exact closed_chc p
def chA (l : List Ch) (t : Tag) : AV := .sl 5 (l.map Ch.av) t
theorem closed_chs (l : List Ch) {t : Tag} (ht : t = .none ∨ t = .full) : Closed (chA l t) := closed_sl ht (fun x hx => by obtain ⟨p, _, rfl⟩ := List.mem_map.1 hx; exact closed_ch p) (chs_cells l)
def zeroB (m : Mt) : Bool := decide (m.size = 0) && decide (m.mode = 0) && decide ((m.ch.length : Int) = 0)
def mayB (c : Ch) : Bool := !(c.path == []) && isPathB c.path && isM c.meta_ && (!c.gone || zeroB c.meta_)
abbrev RiseC (l : List Ch) : Prop := l.Pairwise fun a b => bl a.path b.path = true
def batchB (l : List Ch) : Bool := decide (1 ≤ l.length) && decide (l.length ≤ 20) && l.all mayB && decide (RiseC l)
def shortCh (c : Ch) : Prop := c.path.length < 1000000 ∧ c.meta_.ch.length < 1000000

theorem cmpL_neg : ∀ a b : Bytes, decide (0 ≤ Lib.compareBytes a b) = !bl a b
 | [], [] => rfl
 | [], _ :: _ => rfl
 | _ :: _, [] => rfl
 | a :: x, b :: y => by
  unfold Lib.compareBytes Op.bytesLess
  by_cases h1 : a < b
  ·simp [h1]
  ·by_cases h2 : b < a
   ·have : a ≠ b := fun e => by subst e; exact absurd h2 (by simp)
    simp [h1, h2, this]
   ·have : a = b := UInt8.le_antisymm (UInt8.not_lt.1 h2) (UInt8.not_lt.1 h1)
    subst this
    simp only [h1, if_false, BEq.rfl, Bool.true_and, decide_false, Bool.false_or]
    exact cmpL_neg x y
theorem cmp_ext (a b : Bytes) : AExt Tryz.prog 195 [.str a, .str b] (.int .i64 (Lib.compareBytes a b)) := by
 intro μ F w vs hv
 obtain ⟨hl, hr⟩ := hv
 match vs, hl with
 | ⟨[x, y]⟩, _ =>
  have h1 := hr 0 _ x rfl rfl
  have h2 := hr 1 _ y rfl rfl
  cases h1
  cases h2
  refine ⟨_, ?_, .int _ _⟩
  have := run_callFunc_extern (P := Tryz.prog) Tryz.func195 (by kernel_rfl) (by kernel_rfl) (by kernel_rfl) (e := Extern.BytealgCompare.compare) (by kernel_rfl) #[.string ⟨a.toArray⟩, .string ⟨b.toArray⟩] w
  rw [Lib.run_compareString] at this
  simpa [Result.andThen] using this
set_option maxRecDepth 100000 in
set_option maxHeartbeats 8000000 in
theorem cmpStr_ok (a b : Bytes) : APure Tryz.prog 188 [.str a, .str b] (.int .i64 (Lib.compareBytes a b)) := by
 intro M
 refine acalls_of tabOK Tryz.func188 rfl (by decide) (by simp [Tryz.f188]) ?_
 repeat' (first | refine DW_A tabs rfl ?_ | refine DW_nil ?_ | refine W_A rfl ?_)
 refine DW_ext rfl rfl rfl rfl rfl (cmp_ext a b) ?_
 repeat' (first | refine DW_A tabs rfl ?_ | refine DW_nil ?_ | refine W_A rfl ?_)
 exact ⟨rfl, _, rfl, rfl, rfl⟩
set_option maxRecDepth 100000 in
set_option maxHeartbeats 8000000 in
theorem sCompare_ok (a b : Bytes) : APure Tryz.prog 178 [.str a, .str b] (.int .i64 (Lib.compareBytes a b)) := by
 intro M
 refine acalls_of tabOK Tryz.func178 rfl (by decide) (by simp [Tryz.f178]) ?_
 have k := cmpStr_ok a b
 repeat' (first | refine DW_A tabs rfl ?_ | refine DW_nil ?_ | refine W_A rfl ?_ | refine DW_C rfl k ?_)
 exact ⟨rfl, _, rfl, rfl, rfl⟩
set_option maxRecDepth 100000 in
set_option maxHeartbeats 8000000 in
theorem chTo_ok (a b : Ch) : APure Tryz.prog 157 [a.av, b.av] (.int .i64 (Lib.compareBytes a.path b.path)) := by
 intro M
 refine acalls_of tabOK Tryz.func157 rfl (by decide) (by simp [Tryz.f157]) ?_
 have k := sCompare_ok a.path b.path
 repeat' (first | refine DW_A tabs rfl ?_ | refine DW_nil ?_ | refine W_A rfl ?_ | refine DW_C rfl k ?_)
 exact ⟨rfl, _, rfl, rfl, rfl⟩

theorem zero_cases (c : Ch) : (decide (c.meta_.size = 0) = false ∧ zeroB c.meta_ = false) ∨ (decide (c.meta_.size = 0) = true ∧ decide (c.meta_.mode = 0) = false ∧ zeroB c.meta_ = false) ∨ (decide (c.meta_.size = 0) = true ∧ decide (c.meta_.mode = 0) = true ∧ zeroB c.meta_ = decide ((c.meta_.ch.length : Int) = 0)) := by
 unfold zeroB
 cases decide (c.meta_.size = 0) <;> cases decide (c.meta_.mode = 0) <;> simp
theorem may_cases (c : Ch) : ((!(c.path == [])) = false ∧ mayB c = false) ∨ ((!(c.path == [])) = true ∧ isPathB c.path = false ∧ mayB c = false) ∨ ((!(c.path == [])) = true ∧ isPathB c.path = true ∧ isM c.meta_ = false ∧ mayB c = false) ∨
  ((!(c.path == [])) = true ∧ isPathB c.path = true ∧ isM c.meta_ = true ∧ (!c.gone) = true ∧ mayB c = true) ∨ ((!(c.path == [])) = true ∧ isPathB c.path = true ∧ isM c.meta_ = true ∧ (!c.gone) = false ∧ mayB c = zeroB c.meta_) := by
 unfold mayB
 cases (!(c.path == [])) <;> cases isPathB c.path <;> cases isM c.meta_ <;> cases c.gone <;> simp
set_option maxRecDepth 100000 in
set_option maxHeartbeats 8000000 in
theorem may_ok (c : Ch) (hs : shortCh c) : APure Tryz.prog 177 [c.av] (.bool (mayB c)) := by
 intro M
 refine acalls_of tabOK Tryz.func177 rfl (by decide) (by simp [Tryz.f177]) ?_
 have k1 := isPath_ok c.path (by have := hs.1; omega)
 have k2 := mIs_ok c.meta_ hs.2
 have lc := len_map (fun n => AV.int .i64 n) c.meta_.ch
 rcases may_cases c with ⟨d1, e⟩ | ⟨d1, d2, e⟩ | ⟨d1, d2, d3, e⟩ | ⟨d1, d2, d3, d5, e⟩ | ⟨d1, d2, d3, d5, e⟩
 ·rw [e]
  rcases zero_cases c with ⟨z1, _⟩ | ⟨z1, z2, _⟩ | ⟨z1, z2, _⟩
  ·repeat' (first | refine DW_VB tabs rfl (by first | exact d1 | exact z1) ?_ | refine DW_VI tabs rfl lc ?_ | refine DW_A tabs rfl ?_ | refine DW_nil ?_ | refine W_A rfl ?_)
   exact ⟨rfl, _, rfl, rfl, rfl⟩
  ·repeat' (first | refine DW_VB tabs rfl (by first | exact d1 | exact z1 | exact z2) ?_ | refine DW_VI tabs rfl lc ?_ | refine DW_A tabs rfl ?_ | refine DW_nil ?_ | refine W_A rfl ?_)
   exact ⟨rfl, _, rfl, rfl, rfl⟩
  ·repeat' (first | refine DW_VB tabs rfl (by first | exact d1 | exact z1 | exact z2) ?_ | refine DW_VI tabs rfl lc ?_ | refine DW_A tabs rfl ?_ | refine DW_nil ?_ | refine W_A rfl ?_)
   exact ⟨rfl, _, rfl, rfl, rfl⟩
 ·rw [e]
  rw [d2] at k1
  rcases zero_cases c with ⟨z1, _⟩ | ⟨z1, z2, _⟩ | ⟨z1, z2, _⟩
  ·repeat' (first | refine DW_VB tabs rfl (by first | exact d1 | exact z1) ?_ | refine DW_VI tabs rfl lc ?_ | refine DW_A tabs rfl ?_ | refine DW_nil ?_ | refine W_A rfl ?_ | refine DW_C rfl k1 ?_)
   exact ⟨rfl, _, rfl, rfl, rfl⟩
  ·repeat' (first | refine DW_VB tabs rfl (by first | exact d1 | exact z1 | exact z2) ?_ | refine DW_VI tabs rfl lc ?_ | refine DW_A tabs rfl ?_ | refine DW_nil ?_ | refine W_A rfl ?_ | refine DW_C rfl k1 ?_)
   exact ⟨rfl, _, rfl, rfl, rfl⟩
  ·repeat' (first | refine DW_VB tabs rfl (by first | exact d1 | exact z1 | exact z2) ?_ | refine DW_VI tabs rfl lc ?_ | refine DW_A tabs rfl ?_ | refine DW_nil ?_ | refine W_A rfl ?_ | refine DW_C rfl k1 ?_)
   exact ⟨rfl, _, rfl, rfl, rfl⟩
 ·rw [e]
  rw [d2] at k1
  rw [d3] at k2
  rcases zero_cases c with ⟨z1, _⟩ | ⟨z1, z2, _⟩ | ⟨z1, z2, _⟩
  ·repeat' (first | refine DW_VB tabs rfl (by first | exact d1 | exact z1) ?_ | refine DW_VI tabs rfl lc ?_ | refine DW_A tabs rfl ?_ | refine DW_nil ?_ | refine W_A rfl ?_ | refine DW_C rfl k1 ?_ | refine DW_C rfl k2 ?_)
   exact ⟨rfl, _, rfl, rfl, rfl⟩
  ·repeat' (first | refine DW_VB tabs rfl (by first | exact d1 | exact z1 | exact z2) ?_ | refine DW_VI tabs rfl lc ?_ | refine DW_A tabs rfl ?_ | refine DW_nil ?_ | refine W_A rfl ?_ | refine DW_C rfl k1 ?_ | refine DW_C rfl k2 ?_)
   exact ⟨rfl, _, rfl, rfl, rfl⟩
  ·repeat' (first | refine DW_VB tabs rfl (by first | exact d1 | exact z1 | exact z2) ?_ | refine DW_VI tabs rfl lc ?_ | refine DW_A tabs rfl ?_ | refine DW_nil ?_ | refine W_A rfl ?_ | refine DW_C rfl k1 ?_ | refine DW_C rfl k2 ?_)
   exact ⟨rfl, _, rfl, rfl, rfl⟩
 ·rw [e]
  rw [d2] at k1
  rw [d3] at k2
  rcases zero_cases c with ⟨z1, _⟩ | ⟨z1, z2, _⟩ | ⟨z1, z2, _⟩
  ·repeat' (first | refine DW_VB tabs rfl (by first | exact d1 | exact z1 | exact d5) ?_ | refine DW_VI tabs rfl lc ?_ | refine DW_A tabs rfl ?_ | refine DW_nil ?_ | refine W_A rfl ?_ | refine DW_C rfl k1 ?_ | refine DW_C rfl k2 ?_)
   exact ⟨rfl, _, rfl, rfl, rfl⟩
  ·repeat' (first | refine DW_VB tabs rfl (by first | exact d1 | exact z1 | exact z2 | exact d5) ?_ | refine DW_VI tabs rfl lc ?_ | refine DW_A tabs rfl ?_ | refine DW_nil ?_ | refine W_A rfl ?_ | refine DW_C rfl k1 ?_ | refine DW_C rfl k2 ?_)
   exact ⟨rfl, _, rfl, rfl, rfl⟩
  ·repeat' (first | refine DW_VB tabs rfl (by first | exact d1 | exact z1 | exact z2 | exact d5) ?_ | refine DW_VI tabs rfl lc ?_ | refine DW_A tabs rfl ?_ | refine DW_nil ?_ | refine W_A rfl ?_ | refine DW_C rfl k1 ?_ | refine DW_C rfl k2 ?_)
   exact ⟨rfl, _, rfl, rfl, rfl⟩
 ·rw [e]
  rw [d2] at k1
  rw [d3] at k2
  rcases zero_cases c with ⟨z1, h⟩ | ⟨z1, z2, h⟩ | ⟨z1, z2, h⟩
  ·rw [h]
   repeat' (first | refine DW_VB tabs rfl (by first | exact d1 | exact z1 | exact d5) ?_ | refine DW_VI tabs rfl lc ?_ | refine DW_A tabs rfl ?_ | refine DW_nil ?_ | refine W_A rfl ?_ | refine DW_C rfl k1 ?_ | refine DW_C rfl k2 ?_)
   exact ⟨rfl, _, rfl, rfl, rfl⟩
  ·rw [h]
   repeat' (first | refine DW_VB tabs rfl (by first | exact d1 | exact z1 | exact z2 | exact d5) ?_ | refine DW_VI tabs rfl lc ?_ | refine DW_A tabs rfl ?_ | refine DW_nil ?_ | refine W_A rfl ?_ | refine DW_C rfl k1 ?_ | refine DW_C rfl k2 ?_)
   exact ⟨rfl, _, rfl, rfl, rfl⟩
  ·rw [h]
   repeat' (first | refine DW_VB tabs rfl (by first | exact d1 | exact z1 | exact z2 | exact d5) ?_ | refine DW_VI tabs rfl lc ?_ | refine DW_A tabs rfl ?_ | refine DW_nil ?_ | refine W_A rfl ?_ | refine DW_C rfl k1 ?_ | refine DW_C rfl k2 ?_)
   exact ⟨rfl, _, rfl, rfl, rfl⟩
set_option maxRecDepth 100000 in
set_option maxHeartbeats 8000000 in
theorem odd1_ok (c : Ch) (hs : shortCh c) : APure Tryz.prog 176 [c.av] (.bool (!mayB c)) := by
 intro M
 refine acalls_of tabOK Tryz.func176 rfl (by decide) (by simp [Tryz.f176]) ?_
 have k := may_ok c hs
 repeat' (first | refine DW_A tabs rfl ?_ | refine DW_nil ?_ | refine W_A rfl ?_ | refine DW_C rfl k ?_)
 exact ⟨rfl, _, rfl, rfl, rfl⟩

set_option maxRecDepth 100000 in
theorem indexC_ok (l : List Ch) (tg : Tag) (hl : l.length < 1000000) (g : FuncId) (fi ca : List AV) (p : Ch → Bool) (hp : ∀ x, x ∈ l → APure Tryz.prog g (fi ++ [x.av] ++ ca) (.bool (p x))) : APure Tryz.prog 187 [.sl 5 (l.map Ch.av) tg, .fn (.func g) fi ca] (.int .i64 (idxI l p)) := by
 intro M
 refine acalls_of tabOK Tryz.func187 rfl (by decide) (by simp [Tryz.f187]) ?_
 have la : ((l.map Ch.av).length : Int) = (l.length : Int) := by simp
 repeat' (first | refine DW_VI tabs rfl la ?_ | refine DW_A tabs rfl ?_ | refine DW_nil ?_ | refine W_A rfl ?_)
 refine W_count l.length (fun i f N => N = M ∧ (∀ (j : Nat) y, j < i → l[j]? = some y → p y = false) ∧ f = ⟨[(0, .sl 5 (l.map Ch.av) tg), (1, .fn (.func g) fi ca), (7, .int .i64 (l.length : Int)), (8, .int .i64 (i : Int))], []⟩) (Nat.zero_le _) ⟨rfl, fun j y hj => absurd hj (Nat.not_lt_zero _), rfl⟩ (Joint.le ?_ (Mem.le_refl _)) ?_
 ·skip
  repeat (refine AF.le_cons rfl ?_)
  exact AF.le_nil rfl
 ·rintro i f N hi ⟨rfl, hno, rfl⟩
  by_cases h1 : i < l.length
  ·have d1 : decide ((i : Int) < (l.length : Int)) = true := by simp; omega
   have hx : l[i]? = some l[i] := List.getElem?_eq_getElem h1
   have fi := wrap_succ (i := i) (by omega)
   have hk := hp l[i] (List.getElem_mem h1)
   generalize l[i] = x at hx hk
   cases hpx : p x
   ·rw [hpx] at hk
    repeat' (first | refine DW_VB tabs rfl d1 ?_ | refine DW_VI tabs rfl (by first | exact fi | exact la) ?_ | refine DW_A tabs rfl ?_ | refine DW_nil ?_ | refine W_A rfl ?_)
    refine DW_ix tabOK rfl (ixN hx) ?_
    repeat' (first | refine DW_VB tabs rfl d1 ?_ | refine DW_VI tabs rfl (by first | exact fi | exact la) ?_ | refine DW_A tabs rfl ?_ | refine DW_nil ?_ | refine W_A rfl ?_ | refine DW_C rfl hk ?_)
    refine ⟨h1, _, _, ⟨rfl, ?_, rfl⟩, Joint.le ?_ (Mem.le_refl _)⟩
    ·intro j y hj hy
     by_cases hji : j = i
     ·subst hji
      rw [hx] at hy
      cases hy
      exact hpx
     ·exact hno j y (by omega) hy
    ·skip
     repeat (refine AF.le_cons rfl ?_)
     exact AF.le_nil rfl
   ·rw [hpx] at hk
    repeat' (first | refine DW_VB tabs rfl d1 ?_ | refine DW_VI tabs rfl (by first | exact fi | exact la) ?_ | refine DW_A tabs rfl ?_ | refine DW_nil ?_ | refine W_A rfl ?_)
    refine DW_ix tabOK rfl (ixN hx) ?_
    repeat' (first | refine DW_VB tabs rfl d1 ?_ | refine DW_VI tabs rfl (by first | exact fi | exact la) ?_ | refine DW_A tabs rfl ?_ | refine DW_nil ?_ | refine W_A rfl ?_ | refine DW_C rfl hk ?_)
    exact ⟨rfl, _, rfl, by rw [idx_hit hno hx hpx]; rfl, rfl⟩
  ·have d1 : decide ((i : Int) < (l.length : Int)) = false := by simp; omega
   obtain rfl : i = l.length := by omega
   repeat' (first | refine DW_VB tabs rfl d1 ?_ | refine DW_A tabs rfl ?_ | refine DW_nil ?_ | refine W_A rfl ?_)
   exact ⟨rfl, _, rfl, by rw [idx_none (fun j y hy => hno j y (List.getElem?_eq_some_iff.1 hy).1 hy)]; rfl, rfl⟩


theorem idx_any {α : Type} (l : List α) (p : α → Bool) : decide (0 ≤ idxI l p) = l.any p := by
 cases h : l.any p
 ·rw [List.any_eq_false] at h
  rw [idx_none (fun j x hx => by have := h x (List.mem_of_getElem? hx); simpa using this)]
  rfl
 ·rw [List.any_eq_true] at h
  obtain ⟨x, hx, hp⟩ := h
  unfold idxI
  rw [if_pos (List.findIdx_lt_length_of_exists ⟨x, hx, hp⟩)]
  exact decide_eq_true (Int.natCast_nonneg _)
set_option maxRecDepth 100000 in
set_option maxHeartbeats 8000000 in
theorem contC_ok (l : List Ch) (tg : Tag) (hl : l.length < 1000000) (hs : ∀ c, c ∈ l → shortCh c) : APure Tryz.prog 175 [chA l tg, .fn (.func 176) [] []] (.bool (l.any fun c => !mayB c)) := by
 intro M
 refine acalls_of tabOK Tryz.func175 rfl (by decide) (by simp [Tryz.f175]) ?_
 have k := indexC_ok l tg hl 176 [] [] (fun c => !mayB c) (fun x hx => odd1_ok x (hs x hx))
 have e := idx_any l (fun c => !mayB c)
 unfold chA
 repeat' (first | refine DW_VB tabs rfl e ?_ | refine DW_A tabs rfl ?_ | refine DW_nil ?_ | refine W_A rfl ?_ | refine DW_C rfl k ?_)
 exact ⟨rfl, _, rfl, rfl, rfl⟩
set_option maxRecDepth 100000 in
set_option maxHeartbeats 8000000 in
theorem odd_ok (l : List Ch) (tg : Tag) (hl : l.length < 1000000) (hs : ∀ c, c ∈ l → shortCh c) : APure Tryz.prog 155 [chA l tg] (.bool (l.any fun c => !mayB c)) := by
 intro M
 refine acalls_of tabOK Tryz.func155 rfl (by decide) (by simp [Tryz.f155]) ?_
 have k := contC_ok l tg hl hs
 unfold chA at k ⊢
 repeat' (first | refine DW_A tabs rfl ?_ | refine DW_nil ?_ | refine W_A rfl ?_ | refine DW_C rfl k ?_)
 exact ⟨rfl, _, rfl, rfl, rfl⟩
theorem riseC_adj : ∀ l : List Ch, (∀ (j : Nat) a b, l[j]? = some a → l[j + 1]? = some b → bl a.path b.path = true) → RiseC l
 | [], _ => List.Pairwise.nil
 | [a], _ => List.pairwise_cons.2 ⟨by simp, List.Pairwise.nil⟩
 | a :: b :: r, h => by
  have ih := riseC_adj (b :: r) (fun j x y hx hy => h (j + 1) x y hx hy)
  have h0 := h 0 a b rfl rfl
  refine List.pairwise_cons.2 ⟨fun x hx => ?_, ih⟩
  rcases List.mem_cons.1 hx with rfl | hx
  ·exact h0
  ·exact bl_trans h0 ((List.pairwise_cons.1 ih).1 x hx)
theorem riseC_at {l : List Ch} (h : RiseC l) {i : Nat} {a b : Ch} (ha : l[i]? = some a) (hb : l[i + 1]? = some b) : bl a.path b.path = true := by
 obtain ⟨h1, rfl⟩ := List.getElem?_eq_some_iff.1 ha
 obtain ⟨h2, rfl⟩ := List.getElem?_eq_some_iff.1 hb
 exact List.pairwise_iff_getElem.1 h i (i + 1) h1 h2 (Nat.lt_succ_self i)
set_option maxRecDepth 100000 in
set_option maxHeartbeats 8000000 in
theorem rise_ok (l : List Ch) (tg : Tag) (hl : l.length < 1000000) (h1 : 1 ≤ l.length) : APure Tryz.prog 156 [chA l tg, .fn (.func 157) [] []] (.bool (decide (RiseC l))) := by
 intro M
 refine acalls_of tabOK Tryz.func156 rfl (by decide) (by simp [Tryz.f156]) ?_
 have la := len_map Ch.av l
 unfold chA
 repeat' (first | refine DW_VI tabs rfl la ?_ | refine DW_A tabs rfl ?_ | refine DW_nil ?_ | refine W_A rfl ?_ | refine W_draw mixed [0, 1, 2, 3, 6, 7, 4, 5, 8, 9, 10, 11] [.P, .P, .P, .P, .R, .R, .P, .P, .R, .R, .P, .P] rfl rfl (by kernel_rfl) ?_)
 refine W_count l.length (fun i f N => N = M ∧ (1 ≤ i ∧ ∀ (j : Nat) a b, j + 1 < i → l[j]? = some a → l[j + 1]? = some b → bl a.path b.path = true) ∧ f = ⟨[(0, .sl 5 (l.map Ch.av) tg), (1, .fn (.func 157) [] []), (5, .int .i64 (i : Int))], []⟩) (i0 := 1) h1 ⟨rfl, ⟨Nat.le_refl _, fun j a b hj => absurd hj (by omega)⟩, rfl⟩ (Joint.le ?_ (Mem.le_refl _)) ?_
 ·skip
  repeat (refine AF.le_cons rfl ?_)
  exact AF.le_nil rfl
 rintro i f N hi ⟨rfl, ⟨hi1, hinv⟩, rfl⟩
 by_cases h2 : i < l.length
 ·have d1 : decide ((i : Int) < (l.length : Int)) = true := by simp; omega
  obtain ⟨j, rfl⟩ : ∃ j, i = j + 1 := ⟨i - 1, by omega⟩
  have hx : l[j]? = some l[j] := List.getElem?_eq_getElem (by omega)
  have hy : l[j + 1]? = some l[j + 1] := List.getElem?_eq_getElem h2
  have fi := wrap_succ (i := j + 1) (by omega)
  have fj : IntKind.wrap .i64 (((j + 1 : Nat) : Int) - 1) = (j : Int) := (Go.Ab.wrap_small (by omega) (by omega)).trans (by omega)
  generalize l[j] = x at hx
  generalize l[j + 1] = y at hy
  have k := chTo_ok x y
  have e := cmpL_neg x.path y.path
  cases hb : bl x.path y.path
  ·rw [hb] at e
   rw [decide_eq_false (fun h => by have := riseC_at h hx hy; rw [hb] at this; cases this)]
   repeat' (first | refine DW_VB tabs rfl (by first | exact d1 | exact e) ?_ | refine DW_VI tabs rfl (by first | exact la | exact fi | exact fj) ?_ | refine DW_A tabs rfl ?_ | refine DW_nil ?_ | refine W_A rfl ?_ | refine DW_C rfl k ?_ | refine DW_ix tabOK rfl (ixN hx) ?_ | refine DW_ix tabOK rfl (ixN hy) ?_ | refine W_draw mixed [0, 1, 2, 3, 6, 7, 4, 5, 8, 9, 10, 11] [.P, .P, .P, .P, .R, .R, .P, .P, .R, .R, .P, .P] rfl rfl (by kernel_rfl) ?_)
   exact ⟨rfl, _, rfl, rfl, rfl⟩
  ·rw [hb] at e
   repeat' (first | refine DW_VB tabs rfl (by first | exact d1 | exact e) ?_ | refine DW_VI tabs rfl (by first | exact la | exact fi | exact fj) ?_ | refine DW_A tabs rfl ?_ | refine DW_nil ?_ | refine W_A rfl ?_ | refine DW_C rfl k ?_ | refine DW_ix tabOK rfl (ixN hx) ?_ | refine DW_ix tabOK rfl (ixN hy) ?_ | refine W_draw mixed [0, 1, 2, 3, 6, 7, 4, 5, 8, 9, 10, 11] [.P, .P, .P, .P, .R, .R, .P, .P, .R, .R, .P, .P] rfl rfl (by kernel_rfl) ?_)
   refine ⟨h2, _, _, ⟨rfl, ⟨by omega, ?_⟩, rfl⟩, Joint.le ?_ (Mem.le_refl _)⟩
   ·intro q a b hq ha hb2
    by_cases hqj : q = j
    ·subst hqj
     rw [hx] at ha
     rw [hy] at hb2
     cases ha
     cases hb2
     exact hb
    ·exact hinv q a b (by omega) ha hb2
   ·skip
    repeat (refine AF.le_cons rfl ?_)
    exact AF.le_nil rfl
 ·have d1 : decide ((i : Int) < (l.length : Int)) = false := by simp; omega
  obtain rfl : i = l.length := by omega
  rw [decide_eq_true (riseC_adj l fun j a b ha hb => hinv j a b (List.getElem?_eq_some_iff.1 hb).1 ha hb)]
  repeat' (first | refine DW_VB tabs rfl d1 ?_ | refine DW_VI tabs rfl la ?_ | refine DW_A tabs rfl ?_ | refine DW_nil ?_ | refine W_A rfl ?_ | refine W_draw mixed [0, 1, 2, 3, 6, 7, 4, 5, 8, 9, 10, 11] [.P, .P, .P, .P, .R, .R, .P, .P, .R, .R, .P, .P] rfl rfl (by kernel_rfl) ?_)
  exact ⟨rfl, _, rfl, rfl, rfl⟩
set_option maxRecDepth 100000 in
set_option maxHeartbeats 8000000 in
theorem bIs_ok (l : List Ch) (tg : Tag) (hl : l.length < 1000000) (hs : ∀ c, c ∈ l → shortCh c) : APure Tryz.prog 127 [chA l tg] (.bool (batchB l)) := by
 intro M
 refine acalls_of tabOK Tryz.func127 rfl (by decide) (by simp [Tryz.f127]) ?_
 have la := len_map Ch.av l
 have ko := odd_ok l tg hl hs
 have e : (l.any fun c => !mayB c) = !l.all mayB := by
  rw [List.any_eq_not_all_not]
  simp
 rw [e] at ko
 unfold batchB
 by_cases h1 : 1 ≤ l.length
 ·have d1 : decide ((1 : Int) ≤ (l.length : Int)) = true := by simp; omega
  have kr := rise_ok l tg hl h1
  rw [decide_eq_true h1]
  by_cases h2 : l.length ≤ 20
  ·have d2 : decide ((l.length : Int) ≤ 20) = true := by simp; omega
   rw [decide_eq_true h2]
   cases h3 : l.all mayB
   ·rw [h3] at ko
    unfold chA at *
    repeat' (first | refine DW_VB tabs rfl (by first | exact d1 | exact d2) ?_ | refine DW_VI tabs rfl la ?_ | refine DW_A tabs rfl ?_ | refine DW_nil ?_ | refine W_A rfl ?_ | refine DW_C rfl ko ?_)
    exact ⟨rfl, _, rfl, rfl, rfl⟩
   ·rw [h3] at ko
    unfold chA at *
    repeat' (first | refine DW_VB tabs rfl (by first | exact d1 | exact d2) ?_ | refine DW_VI tabs rfl la ?_ | refine DW_A tabs rfl ?_ | refine DW_nil ?_ | refine W_A rfl ?_ | refine DW_C rfl ko ?_ | refine DW_C rfl kr ?_)
    exact ⟨rfl, _, rfl, rfl, rfl⟩
  ·have d2 : decide ((l.length : Int) ≤ 20) = false := by simp; omega
   rw [decide_eq_false h2]
   unfold chA at *
   repeat' (first | refine DW_VB tabs rfl (by first | exact d1 | exact d2) ?_ | refine DW_VI tabs rfl la ?_ | refine DW_A tabs rfl ?_ | refine DW_nil ?_ | refine W_A rfl ?_)
   exact ⟨rfl, _, rfl, rfl, rfl⟩
 ·have d1 : decide ((1 : Int) ≤ (l.length : Int)) = false := by simp; omega
  rw [decide_eq_false h1]
  unfold chA at *
  repeat' (first | refine DW_VB tabs rfl d1 ?_ | refine DW_VI tabs rfl la ?_ | refine DW_A tabs rfl ?_ | refine DW_nil ?_ | refine W_A rfl ?_)
  exact ⟨rfl, _, rfl, rfl, rfl⟩
end Go.Proofs.YtmgkebghojhocaaGreatDoor

/- The store's Lay. No further condition. -/
set_option linter.unusedVariables false
set_option linter.unusedSimpArgs false
namespace Go.Proofs.YtmgkebghojhocaaGreatDoor
open Go.Ab

def layB (l : List Pr) (at_ : Int) (c : List Ch) : Bool := isSt l && decide (1 ≤ at_) && decide (at_ ≤ 1000000000) && batchB c && decide (lastL l < at_)
def chP (at_ : Int) (c : Ch) : Pr := ⟨⟨c.path, at_⟩, (valueM c.meta_ c.gone).1⟩
noncomputable def layT (t : Tr) (at_ : Int) (c : List Ch) : Tr := c.foldl (fun t x => putT t (chP at_ x)) t
noncomputable def layA (t : Tr) (at_ : Int) (c : List Ch) : AV := if layB t.all at_ c = true then .tup [(layT t at_ c).av, .int .i64 0] else .tup [.nilptr, .int .i64 1]
theorem closed_layA (t : Tr) (at_ : Int) (c : List Ch) : Closed (layA t at_ c) := by
 unfold layA
 split
 ·exact closed_tup (closed2 (closed_tr _) closed_int)
 ·exact closed_tup (closed2 closed_nilptr closed_int)
theorem layT_len {at_ : Int} : ∀ (c : List Ch) (t : Tr), t.all.length + c.length < 10000000 → (layT t at_ c).all.length ≤ t.all.length + c.length ∧ (layT t at_ c).all = c.foldl (fun l x => putP l (chP at_ x)) t.all
 | [], t, _ => ⟨Nat.le_refl _, rfl⟩
 | x :: r, t, h => by
  simp only [List.length_cons] at h
  have h1 := putT_all (t := t) (p := chP at_ x) (by omega)
  have h2 := (putP_len t.all (chP at_ x)).2.1
  have ih := layT_len (at_ := at_) r (putT t (chP at_ x)) (by rw [h1]; omega)
  rw [h1] at ih
  refine ⟨?_, ih.2⟩
  simp only [List.length_cons]
  have := ih.1
  show (layT (putT t (chP at_ x)) at_ r).all.length ≤ _
  omega
theorem layT_step {t : Tr} {at_ : Int} {l : List Ch} {i : Nat} {x : Ch} (ht : l.take (i + 1) = l.take i ++ [x]) : layT t at_ (l.take (i + 1)) = putT (layT t at_ (l.take i)) (chP at_ x) := by
 unfold layT
 rw [ht, List.foldl_append]
 rfl
theorem may_value {c : Ch} (h : mayB c = true) : (valueM c.meta_ c.gone).2 = 0 := by
 unfold mayB at h
 simp at h
 unfold valueM putM
 rw [if_pos h.1.2]
 split <;> rfl

noncomputable def layF (t : Tr) (at_ : Int) (l : List Ch) (tg : Tag) (i : Nat) : AF := ⟨[(0, t.av), (1, .int .i64 at_), (34, chA l tg), (35, .int .i64 (l.length : Int)), (36, .int .i64 (i : Int))], []⟩
set_option maxRecDepth 100000 in
set_option maxHeartbeats 8000000 in
theorem lay_ok (t : Tr) (at_ : Int) (c : List Ch) (tg : Tag) (htg : tg = .none ∨ tg = .full) (hs : t.all.length + c.length < 1000000) (hv : valsB t.all) (hc : ∀ x, x ∈ c → shortCh x) : APure Tryz.prog 80 [t.av, .int .i64 at_, chA c tg] (layA t at_ c) := by
 refine pure_sub (closed3 (closed_tr t) closed_int (closed_chs c htg)) (closed_layA _ _ _) ?_
 refine acalls_of tabOK Tryz.func80 rfl (by decide) (by simp [Tryz.f80]) ?_
 have k1 := isStore_ok t (by omega) hv
 have k2 := bIs_ok c tg (by omega) hc
 have k3 := last_ok t (by omega) hv
 have la := len_map Ch.av c
 have no : ∀ h : layB t.all at_ c = false, layA t at_ c = .tup [.nilptr, .int .i64 1] := fun h => by unfold layA; rw [if_neg (by simp [h])]
 unfold layB at no
 cases h1 : isSt t.all
 ·rw [no (by rw [h1]; rfl)]
  rw [h1] at k1
  unfold Tr.av at k1 ⊢
  repeat' (first | refine DW_A tabs rfl ?_ | refine DW_nil ?_ | refine W_A rfl ?_ | refine DW_C rfl k1 ?_ | refine DW_nilc tabOK rfl ?_)
  exact ⟨rfl, _, rfl, _, rfl, SubC.of_closed (closed_tup (closed2 closed_nilptr closed_int))⟩
 ·rw [h1] at k1
  by_cases h2 : 1 ≤ at_
  ·have d2 : decide (at_ < 1) = false := by simp; omega
   by_cases h3 : at_ ≤ 1000000000
   ·have d3 : decide (1000000000 < at_) = false := by simp; omega
    cases h4 : batchB c
    ·rw [no (by rw [h4]; simp)]
     rw [h4] at k2
     unfold Tr.av at k1 ⊢
     unfold chA at *
     repeat' (first | refine DW_VB tabs rfl (by first | exact d2 | exact d3) ?_ | refine DW_A tabs rfl ?_ | refine DW_nil ?_ | refine W_A rfl ?_ | refine DW_C rfl k1 ?_ | refine DW_C rfl k2 ?_ | refine DW_nilc tabOK rfl ?_)
     exact ⟨rfl, _, rfl, _, rfl, SubC.of_closed (closed_tup (closed2 closed_nilptr closed_int))⟩
    ·rw [h4] at k2
     by_cases h5 : lastL t.all < at_
     ·have d5 : decide (at_ ≤ lastL t.all) = false := by simp; omega
      have yes : layA t at_ c = .tup [(layT t at_ c).av, .int .i64 0] := by
       unfold layA layB
       rw [h1, h4, decide_eq_true h2, decide_eq_true h3, decide_eq_true h5]
       rfl
      rw [yes]
      have hm : ∀ x, x ∈ c → mayB x = true := by
       unfold batchB at h4
       simp at h4
       exact h4.1.2
      unfold Tr.av at k1 k3 ⊢
      unfold chA at *
      repeat' (first | refine DW_VB tabs rfl (by first | exact d2 | exact d3 | exact d5) ?_ | refine DW_VI tabs rfl la ?_ | refine DW_A tabs rfl ?_ | refine DW_nil ?_ | refine W_A rfl ?_ | refine DW_C rfl k1 ?_ | refine DW_C rfl k2 ?_ | refine DW_C rfl k3 ?_ | refine DW_nilc tabOK rfl ?_)
      refine W_count c.length (fun i f N => N = ⟨0, []⟩ ∧ f = layF (layT t at_ (c.take i)) at_ c tg i) (Nat.zero_le _) ⟨rfl, rfl⟩ (Joint.le ?_ (Mem.le_nil rfl)) ?_
      ·unfold layF chA Tr.av
       repeat (refine AF.le_cons rfl ?_)
       exact AF.le_nil rfl
      rintro i f N hi ⟨rfl, rfl⟩
      unfold layF chA
      by_cases g1 : i < c.length
      ·have d1 : decide ((i : Int) < (c.length : Int)) = true := by simp; omega
       have hx : c[i]? = some c[i] := List.getElem?_eq_getElem g1
       have fi := wrap_succ (i := i) (by omega)
       have ht := take_succ hx
       have hmx := may_value (hm _ (List.getElem_mem g1))
       have hcx := hc _ (List.getElem_mem g1)
       generalize c[i] = x at hx ht hmx hcx
       have kv := value_ok x.meta_ x.gone hcx.2
       have e0 : strA (valueM x.meta_ x.gone) = .tup [.str (valueM x.meta_ x.gone).1, .int .i64 0] := by unfold strA; rw [hmx]
       rw [e0] at kv
       have hl := (layT_len (at_ := at_) (c.take i) t (by rw [List.length_take]; omega)).1
       rw [List.length_take] at hl
       have kp := putT_ok (t := layT t at_ (c.take i)) (p := chP at_ x) (by omega)
       rw [← layT_step ht] at kp
       generalize layT t at_ (c.take i) = u at kp
       generalize hU : layT t at_ (c.take (i + 1)) = U at kp
       unfold chP at kp
       have hUc := closed_tr U
       unfold Tr.av at kp ⊢
       repeat' (first | refine DW_VB tabs rfl d1 ?_ | refine DW_VI tabs rfl fi ?_ | refine DW_A tabs rfl ?_ | refine DW_nil ?_ | refine W_A rfl ?_ | refine DW_C rfl kv ?_ | refine DW_C rfl kp ?_ | refine DW_ix tabOK rfl (ixN hx) ?_ | refine DW_nilc tabOK rfl ?_)
       refine ⟨g1, layF U at_ c tg (i + 1), ⟨0, []⟩, ⟨rfl, rfl⟩, Joint.cut (k := 0) (t := (layF U at_ c tg (i + 1)).t) (l := []) (Nat.le_refl _) (Nat.zero_le _) rfl ⟨?_, ?_, ?_, ?_, ?_, trivial⟩ trivial⟩
       ·exact SubC.of_closed hUc
       ·exact SubC.of_closed closed_int
       ·exact SubC.of_closed (closed_chs c htg)
       ·exact SubC.of_closed closed_int
       ·exact SubC.of_closed closed_int
      ·have d1 : decide ((i : Int) < (c.length : Int)) = false := by simp; omega
       obtain rfl : i = c.length := by omega
       rw [List.take_length]
       have hUc := closed_tr (layT t at_ c)
       generalize layT t at_ c = U at *
       unfold Tr.av
       repeat' (first | refine DW_VB tabs rfl d1 ?_ | refine DW_A tabs rfl ?_ | refine DW_nil ?_ | refine W_A rfl ?_ | refine DW_nilc tabOK rfl ?_)
       exact ⟨rfl, _, rfl, _, rfl, SubC.of_closed (closed_tup (closed2 hUc closed_int))⟩
     ·have d5 : decide (at_ ≤ lastL t.all) = true := by simp; omega
      rw [no (by rw [decide_eq_false h5]; simp)]
      unfold Tr.av at k1 k3 ⊢
      unfold chA at *
      repeat' (first | refine DW_VB tabs rfl (by first | exact d2 | exact d3 | exact d5) ?_ | refine DW_A tabs rfl ?_ | refine DW_nil ?_ | refine W_A rfl ?_ | refine DW_C rfl k1 ?_ | refine DW_C rfl k2 ?_ | refine DW_C rfl k3 ?_ | refine DW_nilc tabOK rfl ?_)
      exact ⟨rfl, _, rfl, _, rfl, SubC.of_closed (closed_tup (closed2 closed_nilptr closed_int))⟩
   ·have d3 : decide (1000000000 < at_) = true := by simp; omega
    rw [no (by rw [decide_eq_false h3]; simp)]
    unfold Tr.av at k1 ⊢
    repeat' (first | refine DW_VB tabs rfl (by first | exact d2 | exact d3) ?_ | refine DW_A tabs rfl ?_ | refine DW_nil ?_ | refine W_A rfl ?_ | refine DW_C rfl k1 ?_ | refine DW_nilc tabOK rfl ?_)
    exact ⟨rfl, _, rfl, _, rfl, SubC.of_closed (closed_tup (closed2 closed_nilptr closed_int))⟩
  ·have d2 : decide (at_ < 1) = true := by simp; omega
   rw [no (by rw [decide_eq_false h2]; simp)]
   unfold Tr.av at k1 ⊢
   repeat' (first | refine DW_VB tabs rfl d2 ?_ | refine DW_A tabs rfl ?_ | refine DW_nil ?_ | refine W_A rfl ?_ | refine DW_C rfl k1 ?_ | refine DW_nilc tabOK rfl ?_)
   exact ⟨rfl, _, rfl, _, rfl, SubC.of_closed (closed_tup (closed2 closed_nilptr closed_int))⟩
end Go.Proofs.YtmgkebghojhocaaGreatDoor
