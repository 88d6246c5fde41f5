/- Parts of the proof, one behind the other: TreeK, VacA, VacB, VacC. No further condition. -/
import Derived.Test.YthdeopopodhimaaGreatDoorV23
import Derived.Test.YthdeopopodhimaaGreatDoorV07
import Derived.Test.YthdeopopodhimaaGreatDoorV09
import Derived.Test.YthdeopopodhimaaGreatDoorV11
set_option linter.unusedVariables false
set_option linter.unusedSimpArgs false
/- A pair is dropped: rows, leaves, forks, trees. No further condition. -/
set_option linter.unusedVariables false
set_option linter.unusedSimpArgs false
namespace Go.Proofs.YthdeopopodhimaaGreatDoor
open Go.Ab

theorem dropP_cut (l : List Pr) (k : Ky) : dropP l k = l.take (findP l k) ++ (if hasP l k = true then l.drop (findP l k + 1) else l.drop (findP l k)) := by
  induction l with
  | nil => rfl
  | cons q r ih =>
    cases h : rless q.key k
    · have e1 : findP (q :: r) k = 0 := by unfold findP; rw [List.takeWhile_cons, if_neg (by simp [h])]; rfl
      have e2 : hasP (q :: r) k = decide (q.key = k) := by unfold hasP; rw [e1]; rfl
      rw [dropP, if_neg (by simp [h]), e1, e2]
      by_cases he : q.key = k
      · simp [he]
      · simp [he]
    · have e1 : findP (q :: r) k = findP r k + 1 := by unfold findP; rw [List.takeWhile_cons, if_pos h]; rfl
      have e2 : hasP (q :: r) k = hasP r k := by unfold hasP; rw [e1]; rfl
      rw [dropP, if_pos h, e1, e2, ih]
      simp
set_option maxRecDepth 100000 in
set_option maxHeartbeats 8000000 in
theorem nDrop_ok (l : List Pr) (hl : l.length < 100000) (k : Ky) : APure Tryz.prog 199 [.sl 3 (l.map Pr.av) .none, k.av] (.sl 3 ((dropP l k).map Pr.av) .none) := by
  intro M
  refine acalls_of tabOK Tryz.func199 rfl (by decide) (by simp [Tryz.f199]) ?_
  have kf := nFind_ok l .none (by omega) k
  have hle := findP_le l k
  rw [dropP_cut]
  have hh := @hasP_lt l k
  generalize findP l k = n at kf hle hh
  cases hp : hasP l k
  · rw [hp] at kf
    rw [if_neg (by simp), List.take_append_drop]
    have kj := joinedP_ok [(l, false)] true (by simp) (by simp; omega)
    have e : flatR [(l, false)] = l := by simp [flatR]
    rw [e] at kj
    repeat' (first | refine DW_A tabs rfl ?_ | refine DW_nil ?_ | refine W_A rfl ?_ | refine DW_C rfl kf ?_ | refine DW_C rfl kj ?_ | refine DW_row tabOK rfl ?_ | refine W_draw mixed [0, 1, 2, 3, 4, 5, 6, 7, 8, 9] [.P, .P, .P, .P, .P, .P, .P, .P, .P, .P] rfl rfl (by kernel_rfl) ?_)
    exact ⟨rfl, _, rfl, rfl, rfl⟩
  · have hlt := hh hp
    rw [hp] at kf
    rw [if_pos rfl]
    have kj := joinedP_ok [(l.take n, false), (l.drop (n + 1), false)] true (by simp) (by simp; omega)
    have e : flatR [(l.take n, false), (l.drop (n + 1), false)] = l.take n ++ l.drop (n + 1) := by simp [flatR]
    rw [e] at kj
    have w1 := wrap_succ (i := n) (by omega)
    repeat' (first | refine DW_VI tabs rfl w1 ?_ | refine DW_A tabs rfl ?_ | refine DW_nil ?_ | refine W_A rfl ?_ | refine DW_C rfl kf ?_ | refine DW_row tabOK rfl ?_ | refine W_draw mixed [0, 1, 2, 3, 4, 5, 6, 7, 8, 9] [.P, .P, .P, .P, .P, .P, .P, .P, .P, .P] rfl rfl (by kernel_rfl) ?_)
    refine DW_to tabOK rfl rfl rfl rfl (n := n) rfl rfl rfl rfl rfl rfl hle ?_
    repeat' (first | refine DW_VI tabs rfl w1 ?_ | refine DW_A tabs rfl ?_ | refine DW_nil ?_ | refine W_A rfl ?_ | refine DW_row tabOK rfl ?_ | refine W_draw mixed [0, 1, 2, 3, 4, 5, 6, 7, 8, 9] [.P, .P, .P, .P, .P, .P, .P, .P, .P, .P] rfl rfl (by kernel_rfl) ?_)
    refine DW_from tabOK rfl rfl rfl rfl (lo := n + 1) rfl rfl rfl rfl rfl rfl (by omega) ?_
    repeat' (first | refine DW_A tabs rfl ?_ | refine DW_nil ?_ | refine W_A rfl ?_ | refine DW_C rfl kj ?_ | refine DW_row tabOK rfl ?_ | refine W_draw mixed [0, 1, 2, 3, 4, 5, 6, 7, 8, 9] [.P, .P, .P, .P, .P, .P, .P, .P, .P, .P] rfl rfl (by kernel_rfl) ?_)
    exact ⟨rfl, _, rfl, rfl, rfl⟩
set_option maxRecDepth 100000 in
set_option maxHeartbeats 8000000 in
theorem leafDrop_ok (l : List Pr) (hl : l.length < 100000) (k : Ky) : APure Tryz.prog 194 [.sl 3 (l.map Pr.av) .none, k.av] (avV 0 (dropP l k : Vt 0)) := by
  intro M
  refine acalls_of tabOK Tryz.func194 rfl (by decide) (by simp [Tryz.f194]) ?_
  have kd := nDrop_ok l hl k
  repeat' (first | refine DW_A tabs rfl ?_ | refine DW_nil ?_ | refine W_A rfl ?_ | refine DW_C rfl kd ?_)
  exact ⟨rfl, _, rfl, rfl, rfl⟩
def fDrop : Nat → FuncId
  | 0 => 194
  | _ + 1 => 216
theorem mDrop (h : Nat) : methF Tryz.prog (tyV h) "sexton/tree.drop" = some (fDrop h) := by
  cases h
  · show methF Tryz.prog 144 "sexton/tree.drop" = some 194
    kernel_rfl
  · show methF Tryz.prog 155 "sexton/tree.drop" = some 216
    kernel_rfl
set_option maxRecDepth 100000 in
set_option maxHeartbeats 8000000 in
theorem leafSize_ok (l : List Pr) : APure Tryz.prog 198 [.sl 3 (l.map Pr.av) .none] (.int .i64 (l.length : Int)) := by
  intro M
  refine acalls_of tabOK Tryz.func198 rfl (by decide) (by simp [Tryz.f198]) ?_
  have la := len_map Pr.av l
  repeat' (first | refine DW_VI tabs rfl la ?_ | refine DW_A tabs rfl ?_ | refine DW_nil ?_ | refine W_A rfl ?_)
  exact ⟨rfl, _, rfl, rfl, rfl⟩
set_option maxRecDepth 100000 in
set_option maxHeartbeats 8000000 in
theorem forkSize_ok (h : Nat) (l : List (Vt h)) (n : Int) : APure Tryz.prog 220 [.agg [.sl 1 (l.map (avV h)) .none, .int .i64 n]] (.int .i64 (l.length : Int)) := by
  intro M
  refine acalls_of tabOK Tryz.func220 rfl (by decide) (by simp [Tryz.f220]) ?_
  have la := len_map (avV h) l
  repeat' (first | refine DW_VI tabs rfl la ?_ | refine DW_A tabs rfl ?_ | refine DW_nil ?_ | refine W_A rfl ?_)
  exact ⟨rfl, _, rfl, rfl, rfl⟩
def fSize : Nat → FuncId
  | 0 => 198
  | _ + 1 => 220
theorem mSize (h : Nat) : methF Tryz.prog (tyV h) "sexton/tree.size" = some (fSize h) := by
  cases h
  · show methF Tryz.prog 144 "sexton/tree.size" = some 198
    kernel_rfl
  · show methF Tryz.prog 155 "sexton/tree.size" = some 220
    kernel_rfl
theorem size_ok (h : Nat) (v : Vt h) : APure Tryz.prog (fSize h) [inV h v] (.int .i64 (sizeV h v : Int)) := by
  cases h with
  | zero => exact leafSize_ok v.row
  | succ h => exact forkSize_ok h v.kids _

set_option maxRecDepth 100000 in
set_option maxHeartbeats 8000000 in
theorem join0_ok (a b : List Pr) (ha : a.length < 1000) (hb : b.length < 1000) (h0 : 0 < a.length + b.length) : APure Tryz.prog 223 [avV 0 (a : Vt 0), avV 0 (b : Vt 0)] (.sl 1 ((joinV 0 (a : Vt 0) (b : Vt 0)).map (avV 0)) .none) := by
  refine pure_sub (closed2 (closed_avV 0 _) (closed_avV 0 _)) (closed_vxs 0 _) ?_
  refine acalls_of tabOK Tryz.func223 rfl (by decide) (by simp [Tryz.f223]) ?_
  have kc := concatL_ok [(a, false), (b, false)] true (by simp) (by simp [flatR]; omega) (by simp [flatR]; omega)
  have e : flatR [(a, false), (b, false)] = a ++ b := by simp [flatR]
  rw [e] at kc
  have kl := leaves_ok (a ++ b) (by simp; omega)
  repeat' (first | refine DW_A tabs rfl ?_ | refine DW_nil ?_ | refine W_A rfl ?_ | refine DW_row tabOK rfl ?_)
  refine DW_assert tabOK rfl rfl rfl rfl rfl ?_
  repeat' (first | refine DW_A tabs rfl ?_ | refine DW_nil ?_ | refine W_A rfl ?_ | refine DW_row tabOK rfl ?_)
  refine DW_assert tabOK rfl rfl rfl rfl rfl ?_
  repeat' (first | refine DW_A tabs rfl ?_ | refine DW_nil ?_ | refine W_A rfl ?_ | refine DW_C rfl kc ?_ | refine DW_C rfl kl ?_ | refine DW_row tabOK rfl ?_)
  exact ⟨rfl, _, rfl, _, rfl, SubC.of_closed (closed_vxs 0 _)⟩
set_option maxRecDepth 100000 in
set_option maxHeartbeats 8000000 in
theorem joinN_ok (h : Nat) (a b : Vt (h + 1)) (ha : a.kids.length < 1000) (hb : b.kids.length < 1000) (h0 : 0 < a.kids.length + b.kids.length) (hs : (allL h (a.kids ++ b.kids)).length < 1000000000) : APure Tryz.prog 223 [avV (h + 1) a, avV (h + 1) b] (.sl 1 ((joinV (h + 1) a b).map (avV (h + 1))) .none) := by
  refine pure_sub (closed2 (closed_avV _ _) (closed_avV _ _)) (closed_vxs (h + 1) _) ?_
  refine acalls_of tabOK Tryz.func223 rfl (by decide) (by simp [Tryz.f223]) ?_
  have kc := concatV_ok h [(a.kids, false), (b.kids, false)] true (by simp) (by simp [flatV]; omega) (by simp [flatV]; omega)
  have e : flatV [(a.kids, false), (b.kids, false)] = a.kids ++ b.kids := by simp [flatV]
  rw [e] at kc
  have kf := forks_ok h (a.kids ++ b.kids) (by simp; omega) hs
  rw [avV_eq, avV_eq]
  repeat' (first | refine DW_A tabs rfl ?_ | refine DW_nil ?_ | refine W_A rfl ?_ | refine DW_row tabOK rfl ?_)
  refine DW_assert tabOK rfl rfl rfl rfl rfl ?_
  repeat' (first | refine DW_A tabs rfl ?_ | refine DW_nil ?_ | refine W_A rfl ?_ | refine DW_row tabOK rfl ?_)
  refine DW_assert tabOK rfl rfl rfl rfl rfl ?_
  repeat' (first | refine DW_A tabs rfl ?_ | refine DW_nil ?_ | refine W_A rfl ?_ | refine DW_row tabOK rfl ?_)
  refine DW_assert tabOK rfl rfl rfl rfl rfl ?_
  repeat' (first | refine DW_A tabs rfl ?_ | refine DW_nil ?_ | refine W_A rfl ?_ | refine DW_C rfl kc ?_ | refine DW_C rfl kf ?_ | refine DW_row tabOK rfl ?_)
  exact ⟨rfl, _, rfl, _, rfl, SubC.of_closed (closed_vxs (h + 1) _)⟩
theorem vJoin_ok (h : Nat) (a b : Vt h) (ha : sizeV h a < 1000) (hb : sizeV h b < 1000) (h0 : 0 < sizeV h a + sizeV h b) (hs : (allV h a ++ allV h b).length < 1000000000) : APure Tryz.prog 223 [avV h a, avV h b] (.sl 1 ((joinV h a b).map (avV h)) .none) := by
  cases h with
  | zero => exact join0_ok a.row b.row ha hb h0
  | succ h => exact joinN_ok h a b ha hb h0 (by rw [allL_app]; exact hs)

theorem dropV_len {h : Nat} {l : Vt (h + 1)} {k : Ky} (hv : okN (h + 1) l) (hr : Rise (allV (h + 1) l)) : 1 ≤ (dropV (h + 1) l k).kids.length ∧ (dropV (h + 1) l k).kids.length ≤ 4 := by
  have h1 := (drop_all (h + 1) l k hv hr).2.1 hv
  exact ⟨h1.1, h1.2.1⟩
theorem with_two {α : Type} {c b m : List α} {y x : α} : withL ((c ++ [y]) ++ x :: b) c.length 2 m = c ++ (m ++ b) := by
  unfold withL
  simp
theorem allL_sum {h : Nat} (a b : List (Vt h)) : (allL h (a ++ b)).length = (allL h a).length + (allL h b).length := by rw [allL_app, List.length_append]
set_option maxRecDepth 100000 in
set_option maxHeartbeats 8000000 in
theorem forkDrop_ok (h : Nat) (l : Vt (h + 1)) (hv : okN (h + 1) l) (hr : Rise (allV (h + 1) l)) (hn : (allV (h + 1) l).length < 10000000) (k : Ky) (ih : ∀ v : Vt h, okN h v → Rise (allV h v) → (allV h v).length < 10000000 → APure Tryz.prog (fDrop h) [inV h v, k.av] (avV h (dropV h v k))) : APure Tryz.prog 216 [.agg [.sl 1 (l.kids.map (avV h)) .none, .int .i64 ((allV (h + 1) l).length : Int)], k.av] (avV (h + 1) (dropV (h + 1) l k)) := by
  intro M
  refine acalls_of tabOK Tryz.func216 rfl (by decide) (by simp [Tryz.f216]) ?_
  have hv' := hv
  obtain ⟨h1, h2, h3⟩ := hv'
  have kb := below_ok h l.kids ((allV (h + 1) l).length : Int) (by omega) h3 k
  have hdl := dropV_len (k := k) hv hr
  have hda := (drop_all (h + 1) l k hv hr).1
  have hdn := dropP_le (allV (h + 1) l) k
  rw [← hda] at hdn
  obtain ⟨a, v, b, e1, e2, e3, e4, e5, e6, e7⟩ := dropV_cut (k := k) hv hr
  rw [e2] at kb
  have hall : (allV (h + 1) l).length = (allL h a).length + ((allV h v).length + (allL h b).length) := by
    show (allL h l.kids).length = _
    rw [e1, allL_app, allL_cons, List.length_append, List.length_append]
  have kv := ih v e3 e4 (by omega)
  have hdv := drop_all h v k (okN_okR e3) e4
  have hx : l.kids[a.length]? = some v := by rw [e1]; simp
  have hal : a.length + b.length + 1 ≤ 4 := by
    have := congrArg List.length e1
    simp at this
    omega
  have hdnv := dropP_le (allV h v) k
  rw [← hdv.1] at hdnv
  have hsv := okD_size (hdv.2.1 e3)
  have ks := size_ok h (dropV h v k)
  have md := mDrop h
  have ms := mSize h
  have kf := forks_ok h (dropV (h + 1) l k).kids (by omega) (by show (allV (h + 1) (dropV (h + 1) l k)).length < _; omega)
  have hsm : (halvesL (dropV (h + 1) l k).kids : List (Vt (h + 1))) = [(dropV (h + 1) l k : Vt (h + 1))] := halves_small hdl.2
  rw [hsm] at kf
  have hi0 : ([(dropV (h + 1) l k : Vt (h + 1))])[0]? = some (dropV (h + 1) l k) := rfl
  have hre : avV (h + 1) (dropV (h + 1) l k) = .iface (tyV (h + 1)) (inV (h + 1) (dropV (h + 1) l k)) := avV_eq _ _
  rw [hre]
  rw [avV_eq] at kv
  rcases e7 with ⟨g1, g2⟩ | ⟨g1, c, y, g2, g3⟩ | ⟨g1, g2, y, c, g3, g4⟩
  · have hw : withL l.kids a.length 1 [dropV h v k] = (dropV (h + 1) l k).kids := by rw [e1, with_at]; exact g2.symm
    have kw := with_ok h l.kids ((allV (h + 1) l).length : Int) (by omega) a.length 1 (by have := congrArg List.length e1; simp at this; omega) [dropV h v k] (by simp) (by rw [hw]; omega)
    rw [hw] at kw
    have kw := kw.sub (args := [.agg [.sl 1 (l.kids.map (avV h)) .none, .int .i64 ((allV (h + 1) l).length : Int)], .int .i64 (a.length : Int), .int .i64 ((1 : Nat) : Int), .sl 1 [.iface (tyV h) (inV h (dropV h v k))] .full]) ⟨Sub.refl, Sub.refl, Sub.refl, by rw [← avV_eq]; exact Sub.untag, trivial⟩
    have d1 : decide ((2 : Int) ≤ (sizeV h (dropV h v k) : Int)) = true := decide_eq_true (by omega)
    generalize (dropV (h + 1) l k) = D at *
    repeat' (first | refine DW_A tabs rfl ?_ | refine DW_nil ?_ | refine W_A rfl ?_ | refine DW_C rfl kb ?_ | refine DW_row tabOK rfl ?_ | refine W_draw mixed [2, 0, 1, 3, 4, 5, 6, 7] [.R, .R, .P, .R, .R, .R, .P, .P] rfl rfl (by kernel_rfl) ?_ | refine W_draw mixed [1, 2, 5, 6, 9, 0, 3, 4, 7, 8, 10, 11, 12, 13, 14, 15] [.R, .P, .P, .R, .R, .P, .P, .R, .R, .P, .P, .P, .P, .R, .R, .P] rfl rfl (by kernel_rfl) ?_ | refine W_draw mixed [1, 0, 2, 3, 4, 5, 6, 7, 8, 9, 10, 11] [.R, .P, .R, .R, .R, .R, .P, .P, .P, .R, .R, .P] rfl rfl (by kernel_rfl) ?_)
    refine DW_index tabOK rfl rfl rfl rfl rfl rfl rfl rfl rfl rfl (Int.natCast_nonneg _) (vx_get hx) ?_
    repeat' (first | refine DW_A tabs rfl ?_ | refine DW_nil ?_ | refine W_A rfl ?_ | refine DW_row tabOK rfl ?_ | refine W_draw mixed [2, 0, 1, 3, 4, 5, 6, 7] [.R, .R, .P, .R, .R, .R, .P, .P] rfl rfl (by kernel_rfl) ?_ | refine W_draw mixed [1, 2, 5, 6, 9, 0, 3, 4, 7, 8, 10, 11, 12, 13, 14, 15] [.R, .P, .P, .R, .R, .P, .P, .R, .R, .P, .P, .P, .P, .R, .R, .P] rfl rfl (by kernel_rfl) ?_ | refine W_draw mixed [1, 0, 2, 3, 4, 5, 6, 7, 8, 9, 10, 11] [.R, .P, .R, .R, .R, .R, .P, .P, .P, .R, .R, .P] rfl rfl (by kernel_rfl) ?_)
    refine DW_invoke rfl rfl rfl rfl rfl md kv ?_
    repeat' (first | refine DW_A tabs rfl ?_ | refine DW_nil ?_ | refine W_A rfl ?_ | refine DW_row tabOK rfl ?_ | refine W_draw mixed [2, 0, 1, 3, 4, 5, 6, 7] [.R, .R, .P, .R, .R, .R, .P, .P] rfl rfl (by kernel_rfl) ?_ | refine W_draw mixed [1, 2, 5, 6, 9, 0, 3, 4, 7, 8, 10, 11, 12, 13, 14, 15] [.R, .P, .P, .R, .R, .P, .P, .R, .R, .P, .P, .P, .P, .R, .R, .P] rfl rfl (by kernel_rfl) ?_ | refine W_draw mixed [1, 0, 2, 3, 4, 5, 6, 7, 8, 9, 10, 11] [.R, .P, .R, .R, .R, .R, .P, .P, .P, .R, .R, .P] rfl rfl (by kernel_rfl) ?_)
    refine DW_invoke rfl rfl rfl rfl rfl ms ks ?_
    repeat' (first | refine DW_VB tabs rfl d1 ?_ | refine DW_A tabs rfl ?_ | refine DW_nil ?_ | refine W_A rfl ?_ | refine DW_C rfl kw ?_ | refine DW_C rfl kf ?_ | refine DW_ix tabOK rfl (⟨Int.le_refl 0, vx_get (i := 0) hi0⟩) ?_ | refine DW_row tabOK rfl ?_ | refine W_draw mixed [2, 0, 1, 3, 4, 5, 6, 7] [.R, .R, .P, .R, .R, .R, .P, .P] rfl rfl (by kernel_rfl) ?_ | refine W_draw mixed [1, 2, 5, 6, 9, 0, 3, 4, 7, 8, 10, 11, 12, 13, 14, 15] [.R, .P, .P, .R, .R, .P, .P, .R, .R, .P, .P, .P, .P, .R, .R, .P] rfl rfl (by kernel_rfl) ?_ | refine W_draw mixed [1, 0, 2, 3, 4, 5, 6, 7, 8, 9, 10, 11] [.R, .P, .R, .R, .R, .R, .P, .P, .P, .R, .R, .P] rfl rfl (by kernel_rfl) ?_)
    exact ⟨rfl, _, rfl, rfl, rfl⟩
  · subst g2
    have hsy : okN h y := h3 y (by rw [e1]; simp)
    have hy2 := okN_size hsy
    have hw : withL l.kids c.length 2 (joinV h y (dropV h v k)) = (dropV (h + 1) l k).kids := by rw [e1, with_two]; exact g3.symm
    have kj := vJoin_ok h y (dropV h v k) (by omega) (by omega) (by omega) (by
      have hyl : (allL h (c ++ [y])).length = (allL h c).length + (allV h y).length := by rw [allL_app, allL_one, List.length_append]
      rw [List.length_append]
      omega)
    have hjl := join_len h y (dropV h v k) (by omega)
    have hjl2 : (joinV h y (dropV h v k)).length ≤ 2 := by rw [hjl]; split <;> omega
    have kw := with_ok h l.kids ((allV (h + 1) l).length : Int) (by omega) c.length 2 (by have := congrArg List.length e1; simp at this; omega) (joinV h y (dropV h v k)) (by omega) (by rw [hw]; omega)
    rw [hw] at kw
    have d1 : decide ((2 : Int) ≤ (sizeV h (dropV h v k) : Int)) = false := by simp; omega
    have la : (c ++ [y]).length = c.length + 1 := by simp
    have d2 : decide ((0 : Int) < ((c ++ [y]).length : Int)) = true := by rw [la]; exact decide_eq_true (by omega)
    have w1 : IntKind.wrap .i64 (((c ++ [y]).length : Int) - 1) = (c.length : Int) := by
      rw [la]
      exact (Go.Ab.wrap_small (by omega) (by omega)).trans (by omega)
    have hxy : l.kids[c.length]? = some y := by rw [e1]; simp
    rw [avV_eq, avV_eq] at kj
    generalize (dropV (h + 1) l k) = D at *
    repeat' (first | refine DW_A tabs rfl ?_ | refine DW_nil ?_ | refine W_A rfl ?_ | refine DW_C rfl kb ?_ | refine DW_row tabOK rfl ?_ | refine W_draw mixed [2, 0, 1, 3, 4, 5, 6, 7] [.R, .R, .P, .R, .R, .R, .P, .P] rfl rfl (by kernel_rfl) ?_ | refine W_draw mixed [1, 2, 5, 6, 9, 0, 3, 4, 7, 8, 10, 11, 12, 13, 14, 15] [.R, .P, .P, .R, .R, .P, .P, .R, .R, .P, .P, .P, .P, .R, .R, .P] rfl rfl (by kernel_rfl) ?_ | refine W_draw mixed [1, 0, 2, 3, 4, 5, 6, 7, 8, 9, 10, 11] [.R, .P, .R, .R, .R, .R, .P, .P, .P, .R, .R, .P] rfl rfl (by kernel_rfl) ?_)
    refine DW_index tabOK rfl rfl rfl rfl rfl rfl rfl rfl rfl rfl (Int.natCast_nonneg _) (vx_get hx) ?_
    repeat' (first | refine DW_A tabs rfl ?_ | refine DW_nil ?_ | refine W_A rfl ?_ | refine DW_row tabOK rfl ?_ | refine W_draw mixed [2, 0, 1, 3, 4, 5, 6, 7] [.R, .R, .P, .R, .R, .R, .P, .P] rfl rfl (by kernel_rfl) ?_ | refine W_draw mixed [1, 2, 5, 6, 9, 0, 3, 4, 7, 8, 10, 11, 12, 13, 14, 15] [.R, .P, .P, .R, .R, .P, .P, .R, .R, .P, .P, .P, .P, .R, .R, .P] rfl rfl (by kernel_rfl) ?_ | refine W_draw mixed [1, 0, 2, 3, 4, 5, 6, 7, 8, 9, 10, 11] [.R, .P, .R, .R, .R, .R, .P, .P, .P, .R, .R, .P] rfl rfl (by kernel_rfl) ?_)
    refine DW_invoke rfl rfl rfl rfl rfl md kv ?_
    repeat' (first | refine DW_A tabs rfl ?_ | refine DW_nil ?_ | refine W_A rfl ?_ | refine DW_row tabOK rfl ?_ | refine W_draw mixed [2, 0, 1, 3, 4, 5, 6, 7] [.R, .R, .P, .R, .R, .R, .P, .P] rfl rfl (by kernel_rfl) ?_ | refine W_draw mixed [1, 2, 5, 6, 9, 0, 3, 4, 7, 8, 10, 11, 12, 13, 14, 15] [.R, .P, .P, .R, .R, .P, .P, .R, .R, .P, .P, .P, .P, .R, .R, .P] rfl rfl (by kernel_rfl) ?_ | refine W_draw mixed [1, 0, 2, 3, 4, 5, 6, 7, 8, 9, 10, 11] [.R, .P, .R, .R, .R, .R, .P, .P, .P, .R, .R, .P] rfl rfl (by kernel_rfl) ?_)
    refine DW_invoke rfl rfl rfl rfl rfl ms ks ?_
    repeat' (first | refine DW_VB tabs rfl (by first | exact d1 | exact d2) ?_ | refine DW_VI tabs rfl w1 ?_ | refine DW_A tabs rfl ?_ | refine DW_nil ?_ | refine W_A rfl ?_ | refine DW_C rfl kj ?_ | refine DW_C rfl kw ?_ | refine DW_C rfl kf ?_ | refine DW_ix tabOK rfl (⟨Int.natCast_nonneg _, vx_get hxy⟩) ?_ | refine DW_ix tabOK rfl (⟨Int.le_refl 0, vx_get (i := 0) hi0⟩) ?_ | refine DW_row tabOK rfl ?_ | refine W_draw mixed [2, 0, 1, 3, 4, 5, 6, 7] [.R, .R, .P, .R, .R, .R, .P, .P] rfl rfl (by kernel_rfl) ?_ | refine W_draw mixed [1, 2, 5, 6, 9, 0, 3, 4, 7, 8, 10, 11, 12, 13, 14, 15] [.R, .P, .P, .R, .R, .P, .P, .R, .R, .P, .P, .P, .P, .R, .R, .P] rfl rfl (by kernel_rfl) ?_ | refine W_draw mixed [1, 0, 2, 3, 4, 5, 6, 7, 8, 9, 10, 11] [.R, .P, .R, .R, .R, .R, .P, .P, .P, .R, .R, .P] rfl rfl (by kernel_rfl) ?_)
    exact ⟨rfl, _, rfl, rfl, rfl⟩
  · subst g2
    subst g3
    have hsy : okN h y := h3 y (by rw [e1]; simp)
    have hy2 := okN_size hsy
    have hw : withL l.kids 0 2 (joinV h (dropV h v k) y) = (dropV (h + 1) l k).kids := by
      rw [e1]
      unfold withL
      exact g4.symm
    have kj := vJoin_ok h (dropV h v k) y (by omega) (by omega) (by omega) (by
      rw [List.length_append]
      rw [allL_cons, List.length_append] at hall
      omega)
    have hjl := join_len h (dropV h v k) y (by omega)
    have hjl2 : (joinV h (dropV h v k) y).length ≤ 2 := by rw [hjl]; split <;> omega
    have kw := with_ok h l.kids ((allV (h + 1) l).length : Int) (by omega) 0 2 (by have := congrArg List.length e1; simp at this; omega) (joinV h (dropV h v k) y) (by omega) (by rw [hw]; omega)
    rw [hw] at kw
    have d1 : decide ((2 : Int) ≤ (sizeV h (dropV h v k) : Int)) = false := by simp; omega
    have hxy : l.kids[1]? = some y := by rw [e1]; rfl
    rw [avV_eq, avV_eq] at kj
    generalize (dropV (h + 1) l k) = D at *
    repeat' (first | refine DW_A tabs rfl ?_ | refine DW_nil ?_ | refine W_A rfl ?_ | refine DW_C rfl kb ?_ | refine DW_row tabOK rfl ?_ | refine W_draw mixed [2, 0, 1, 3, 4, 5, 6, 7] [.R, .R, .P, .R, .R, .R, .P, .P] rfl rfl (by kernel_rfl) ?_ | refine W_draw mixed [1, 2, 5, 6, 9, 0, 3, 4, 7, 8, 10, 11, 12, 13, 14, 15] [.R, .P, .P, .R, .R, .P, .P, .R, .R, .P, .P, .P, .P, .R, .R, .P] rfl rfl (by kernel_rfl) ?_ | refine W_draw mixed [1, 0, 2, 3, 4, 5, 6, 7, 8, 9, 10, 11] [.R, .P, .R, .R, .R, .R, .P, .P, .P, .R, .R, .P] rfl rfl (by kernel_rfl) ?_)
    refine DW_index tabOK rfl rfl rfl rfl rfl rfl rfl rfl rfl rfl (Int.le_refl 0) (vx_get (i := 0) hx) ?_
    repeat' (first | refine DW_A tabs rfl ?_ | refine DW_nil ?_ | refine W_A rfl ?_ | refine DW_row tabOK rfl ?_ | refine W_draw mixed [2, 0, 1, 3, 4, 5, 6, 7] [.R, .R, .P, .R, .R, .R, .P, .P] rfl rfl (by kernel_rfl) ?_ | refine W_draw mixed [1, 2, 5, 6, 9, 0, 3, 4, 7, 8, 10, 11, 12, 13, 14, 15] [.R, .P, .P, .R, .R, .P, .P, .R, .R, .P, .P, .P, .P, .R, .R, .P] rfl rfl (by kernel_rfl) ?_ | refine W_draw mixed [1, 0, 2, 3, 4, 5, 6, 7, 8, 9, 10, 11] [.R, .P, .R, .R, .R, .R, .P, .P, .P, .R, .R, .P] rfl rfl (by kernel_rfl) ?_)
    refine DW_invoke rfl rfl rfl rfl rfl md kv ?_
    repeat' (first | refine DW_A tabs rfl ?_ | refine DW_nil ?_ | refine W_A rfl ?_ | refine DW_row tabOK rfl ?_ | refine W_draw mixed [2, 0, 1, 3, 4, 5, 6, 7] [.R, .R, .P, .R, .R, .R, .P, .P] rfl rfl (by kernel_rfl) ?_ | refine W_draw mixed [1, 2, 5, 6, 9, 0, 3, 4, 7, 8, 10, 11, 12, 13, 14, 15] [.R, .P, .P, .R, .R, .P, .P, .R, .R, .P, .P, .P, .P, .R, .R, .P] rfl rfl (by kernel_rfl) ?_ | refine W_draw mixed [1, 0, 2, 3, 4, 5, 6, 7, 8, 9, 10, 11] [.R, .P, .R, .R, .R, .R, .P, .P, .P, .R, .R, .P] rfl rfl (by kernel_rfl) ?_)
    refine DW_invoke rfl rfl rfl rfl rfl ms ks ?_
    repeat' (first | refine DW_VB tabs rfl d1 ?_ | refine DW_A tabs rfl ?_ | refine DW_nil ?_ | refine W_A rfl ?_ | refine DW_C rfl kj ?_ | refine DW_C rfl kw ?_ | refine DW_C rfl kf ?_ | refine DW_ix tabOK rfl (⟨Int.le_of_lt Int.one_pos, vx_get (i := 1) hxy⟩) ?_ | refine DW_ix tabOK rfl (⟨Int.le_refl 0, vx_get (i := 0) hi0⟩) ?_ | refine DW_row tabOK rfl ?_ | refine W_draw mixed [2, 0, 1, 3, 4, 5, 6, 7] [.R, .R, .P, .R, .R, .R, .P, .P] rfl rfl (by kernel_rfl) ?_ | refine W_draw mixed [1, 2, 5, 6, 9, 0, 3, 4, 7, 8, 10, 11, 12, 13, 14, 15] [.R, .P, .P, .R, .R, .P, .P, .R, .R, .P, .P, .P, .P, .R, .R, .P] rfl rfl (by kernel_rfl) ?_ | refine W_draw mixed [1, 0, 2, 3, 4, 5, 6, 7, 8, 9, 10, 11] [.R, .P, .R, .R, .R, .R, .P, .P, .P, .R, .R, .P] rfl rfl (by kernel_rfl) ?_)
    exact ⟨rfl, _, rfl, rfl, rfl⟩
theorem vDrop_ok : ∀ (h : Nat) (v : Vt h) (k : Ky), okR h v → Rise (allV h v) → (allV h v).length < 10000000 → APure Tryz.prog (fDrop h) [inV h v, k.av] (avV h (dropV h v k))
  | 0, l, k, hv, _, _ => leafDrop_ok l.row (by have : l.row.length ≤ 4 := hv; omega) k
  | h + 1, l, k, hv, hr, hn => forkDrop_ok h l hv hr hn k (fun v e3 e4 e5 => vDrop_ok h v k (okN_okR e3) e4 e5)

/-! ### Trees -/
theorem okD_one {h : Nat} {v : Vt (h + 1)} (hv : okD (h + 1) v) (h1 : ¬ 1 < v.kids.length) : ∃ x : Vt h, v.kids = [x] ∧ okN h x ∧ allV (h + 1) v = allV h x := by
  obtain ⟨a, b, c⟩ := hv
  match hk : v.kids, a, h1, c with
  | [], a, _, _ => simp at a
  | [x], _, _, c =>
    refine ⟨x, rfl, c x (by simp), ?_⟩
    show (v.kids.map (allV h)).flatten = _
    rw [hk]
    simp
  | x :: y :: r, _, h1, _ => simp at h1
def dropF (v : AV) : AF := ⟨[(5, v)], []⟩
set_option maxRecDepth 100000 in
set_option maxHeartbeats 8000000 in
theorem tDrop0_ok (t : Tr) (k : Ky) (hs : t.all.length < 10000000) : ∃ u : Tr, u.all = dropP t.all k ∧ ACalls Tryz.prog 57 [t.av, k.av] ⟨0, []⟩ fun e _ => ∃ x, e = .ret x ∧ SubC 0 x u.av := by
  obtain ⟨h, v, hv, hr⟩ := t
  have hs' : (allV h v).length < 10000000 := hs
  have kt := top_ok ⟨h, v, hv, hr⟩
  have kd := vDrop_ok h v k hv hr hs'
  have md := mDrop h
  obtain ⟨a1, a2, a3⟩ := drop_all h v k hv hr
  have hdr := dropP_rise (k := k) hr
  cases h with
  | zero =>
    have o1 : okR 0 (dropV 0 v k) := by
      show (dropP v.row k).length ≤ 4
      have := dropP_le v.row k
      have : v.row.length ≤ 4 := hv
      omega
    have o2 : Rise (allV 0 (dropV 0 v k)) := by rw [a1]; exact hdr
    refine ⟨⟨0, dropV 0 v k, o1, o2⟩, a1, ?_⟩
    have hc := closed_tr ⟨0, dropV 0 v k, o1, o2⟩
    refine acalls_of tabOK Tryz.func57 rfl (by decide) (by simp [Tryz.f57]) ?_
    rw [avV_eq] at kd
    repeat' (first | refine DW_A tabs rfl ?_ | refine DW_nil ?_ | refine W_A rfl ?_ | refine DW_C rfl kt ?_ | refine DW_nilc tabOK rfl ?_ | refine W_draw mixed [0, 1, 2, 3, 4] [.P, .P, .R, .P, .P] rfl rfl (by kernel_rfl) ?_)
    refine DW_invoke rfl rfl rfl rfl rfl md kd ?_
    repeat' (first | refine DW_A tabs rfl ?_ | refine DW_nil ?_ | refine W_A rfl ?_ | refine DW_nilc tabOK rfl ?_ | refine W_draw mixed [0, 1, 2, 3, 4] [.P, .P, .R, .P, .P] rfl rfl (by kernel_rfl) ?_)
    refine W_loop (fun c f N => N = ⟨0, []⟩ ∧ f = dropF (.iface (tyV 0) (inV 0 (dropV 0 v k)))) (k := 0) ⟨rfl, rfl⟩ (Joint.le ?_ (Mem.le_nil rfl)) ?_
    · unfold dropF
      repeat (refine AF.le_cons rfl ?_)
      exact AF.le_nil rfl
    rintro c f N ⟨rfl, rfl⟩
    unfold dropF
    repeat' (first | refine DW_A tabs rfl ?_ | refine DW_nil ?_ | refine W_A rfl ?_ | refine DW_nilc tabOK rfl ?_ | refine W_draw mixed [0, 1, 2, 3, 4] [.P, .P, .R, .P, .P] rfl rfl (by kernel_rfl) ?_)
    refine DW_assert tabOK rfl rfl rfl rfl rfl ?_
    repeat' (first | refine DW_A tabs rfl ?_ | refine DW_nil ?_ | refine W_A rfl ?_ | refine DW_nilc tabOK rfl ?_ | refine W_draw mixed [0, 1, 2, 3, 4] [.P, .P, .R, .P, .P] rfl rfl (by kernel_rfl) ?_)
    exact ⟨rfl, _, rfl, _, rfl, SubC.of_closed hc⟩
  | succ h =>
    have hd := a2 hv
    rw [avV_eq] at kd
    by_cases h1 : 1 < (dropV (h + 1) v k).kids.length
    · have o1 : okR (h + 1) (dropV (h + 1) v k) := okD_okN hd h1
      have o2 : Rise (allV (h + 1) (dropV (h + 1) v k)) := by rw [a1]; exact hdr
      refine ⟨⟨h + 1, dropV (h + 1) v k, o1, o2⟩, a1, ?_⟩
      have hc := closed_tr ⟨h + 1, dropV (h + 1) v k, o1, o2⟩
      have la := len_map (avV h) (dropV (h + 1) v k).kids
      have d1 : decide ((1 : Int) < ((dropV (h + 1) v k).kids.length : Int)) = true := by simp; omega
      refine acalls_of tabOK Tryz.func57 rfl (by decide) (by simp [Tryz.f57]) ?_
      repeat' (first | refine DW_A tabs rfl ?_ | refine DW_nil ?_ | refine W_A rfl ?_ | refine DW_C rfl kt ?_ | refine DW_nilc tabOK rfl ?_ | refine W_draw mixed [0, 1, 2, 3, 4] [.P, .P, .R, .P, .P] rfl rfl (by kernel_rfl) ?_)
      refine DW_invoke rfl rfl rfl rfl rfl md kd ?_
      repeat' (first | refine DW_A tabs rfl ?_ | refine DW_nil ?_ | refine W_A rfl ?_ | refine DW_nilc tabOK rfl ?_ | refine W_draw mixed [0, 1, 2, 3, 4] [.P, .P, .R, .P, .P] rfl rfl (by kernel_rfl) ?_)
      refine W_loop (fun c f N => N = ⟨0, []⟩ ∧ f = dropF (.iface (tyV (h + 1)) (inV (h + 1) (dropV (h + 1) v k)))) (k := 0) ⟨rfl, rfl⟩ (Joint.le ?_ (Mem.le_nil rfl)) ?_
      · unfold dropF
        repeat (refine AF.le_cons rfl ?_)
        exact AF.le_nil rfl
      rintro c f N ⟨rfl, rfl⟩
      unfold dropF
      repeat' (first | refine DW_A tabs rfl ?_ | refine DW_nil ?_ | refine W_A rfl ?_ | refine DW_nilc tabOK rfl ?_ | refine W_draw mixed [0, 1, 2, 3, 4] [.P, .P, .R, .P, .P] rfl rfl (by kernel_rfl) ?_)
      refine DW_assert tabOK rfl rfl rfl rfl rfl ?_
      repeat' (first | refine DW_VB tabs rfl d1 ?_ | refine DW_VI tabs rfl la ?_ | refine DW_A tabs rfl ?_ | refine DW_nil ?_ | refine W_A rfl ?_ | refine DW_nilc tabOK rfl ?_ | refine W_draw mixed [0, 1, 2, 3, 4] [.P, .P, .R, .P, .P] rfl rfl (by kernel_rfl) ?_)
      exact ⟨rfl, _, rfl, _, rfl, SubC.of_closed hc⟩
    · obtain ⟨x, hx, ox, hall⟩ := okD_one hd h1
      have o1 : okR h x := okN_okR ox
      have o2 : Rise (allV h x) := by rw [← hall, a1]; exact hdr
      refine ⟨⟨h, x, o1, o2⟩, (hall.symm.trans a1), ?_⟩
      have hc := closed_tr ⟨h, x, o1, o2⟩
      have la := len_map (avV h) (dropV (h + 1) v k).kids
      have d1 : decide ((1 : Int) < ((dropV (h + 1) v k).kids.length : Int)) = false := by simp; omega
      have hx0 : (dropV (h + 1) v k).kids[0]? = some x := by rw [hx]; rfl
      refine acalls_of tabOK Tryz.func57 rfl (by decide) (by simp [Tryz.f57]) ?_
      repeat' (first | refine DW_A tabs rfl ?_ | refine DW_nil ?_ | refine W_A rfl ?_ | refine DW_C rfl kt ?_ | refine DW_nilc tabOK rfl ?_ | refine W_draw mixed [0, 1, 2, 3, 4] [.P, .P, .R, .P, .P] rfl rfl (by kernel_rfl) ?_)
      refine DW_invoke rfl rfl rfl rfl rfl md kd ?_
      repeat' (first | refine DW_A tabs rfl ?_ | refine DW_nil ?_ | refine W_A rfl ?_ | refine DW_nilc tabOK rfl ?_ | refine W_draw mixed [0, 1, 2, 3, 4] [.P, .P, .R, .P, .P] rfl rfl (by kernel_rfl) ?_)
      refine W_loop (fun c f N => N = ⟨0, []⟩ ∧ ((c = 1 ∧ f = dropF (.iface (tyV (h + 1)) (inV (h + 1) (dropV (h + 1) v k)))) ∨ (c = 0 ∧ f = dropF (.iface (tyV h) (inV h x))))) (k := 1) ⟨rfl, .inl ⟨rfl, rfl⟩⟩ (Joint.le ?_ (Mem.le_nil rfl)) ?_
      · unfold dropF
        repeat (refine AF.le_cons rfl ?_)
        exact AF.le_nil rfl
      rintro c f N ⟨rfl, ⟨rfl, rfl⟩ | ⟨rfl, rfl⟩⟩
      · unfold dropF
        repeat' (first | refine DW_A tabs rfl ?_ | refine DW_nil ?_ | refine W_A rfl ?_ | refine DW_nilc tabOK rfl ?_ | refine W_draw mixed [0, 1, 2, 3, 4] [.P, .P, .R, .P, .P] rfl rfl (by kernel_rfl) ?_)
        refine DW_assert tabOK rfl rfl rfl rfl rfl ?_
        repeat' (first | refine DW_VB tabs rfl d1 ?_ | refine DW_VI tabs rfl la ?_ | refine DW_A tabs rfl ?_ | refine DW_nil ?_ | refine W_A rfl ?_ | refine DW_ix tabOK rfl (⟨Int.le_refl 0, vx_get (i := 0) hx0⟩) ?_ | refine DW_nilc tabOK rfl ?_ | refine W_draw mixed [0, 1, 2, 3, 4] [.P, .P, .R, .P, .P] rfl rfl (by kernel_rfl) ?_)
        refine ⟨0, dropF (.iface (tyV h) (inV h x)), ⟨0, []⟩, by decide, ⟨rfl, .inr ⟨rfl, rfl⟩⟩, Joint.cut (k := 0) (t := (dropF (.iface (tyV h) (inV h x))).t) (l := []) (Nat.le_refl _) (Nat.zero_le _) rfl ⟨?_, trivial⟩ trivial⟩
        rw [← avV_eq]
        exact SubC.of_closed (closed_avV h x)
      · cases h with
        | zero =>
          unfold dropF
          repeat' (first | refine DW_A tabs rfl ?_ | refine DW_nil ?_ | refine W_A rfl ?_ | refine DW_nilc tabOK rfl ?_ | refine W_draw mixed [0, 1, 2, 3, 4] [.P, .P, .R, .P, .P] rfl rfl (by kernel_rfl) ?_)
          refine DW_assert tabOK rfl rfl rfl rfl rfl ?_
          repeat' (first | refine DW_A tabs rfl ?_ | refine DW_nil ?_ | refine W_A rfl ?_ | refine DW_nilc tabOK rfl ?_ | refine W_draw mixed [0, 1, 2, 3, 4] [.P, .P, .R, .P, .P] rfl rfl (by kernel_rfl) ?_)
          exact ⟨rfl, _, rfl, _, rfl, SubC.of_closed hc⟩
        | succ h =>
          have h2 : 2 ≤ x.kids.length := ox.1
          have lb := len_map (avV h) x.kids
          have d2 : decide ((1 : Int) < (x.kids.length : Int)) = true := by simp; omega
          unfold dropF
          repeat' (first | refine DW_A tabs rfl ?_ | refine DW_nil ?_ | refine W_A rfl ?_ | refine DW_nilc tabOK rfl ?_ | refine W_draw mixed [0, 1, 2, 3, 4] [.P, .P, .R, .P, .P] rfl rfl (by kernel_rfl) ?_)
          refine DW_assert tabOK rfl rfl rfl rfl rfl ?_
          repeat' (first | refine DW_VB tabs rfl d2 ?_ | refine DW_VI tabs rfl lb ?_ | refine DW_A tabs rfl ?_ | refine DW_nil ?_ | refine W_A rfl ?_ | refine DW_nilc tabOK rfl ?_ | refine W_draw mixed [0, 1, 2, 3, 4] [.P, .P, .R, .P, .P] rfl rfl (by kernel_rfl) ?_)
          exact ⟨rfl, _, rfl, _, rfl, SubC.of_closed hc⟩
theorem tDrop_ok (t : Tr) (k : Ky) (hs : t.all.length < 10000000) : ∃ u : Tr, u.all = dropP t.all k ∧ APure Tryz.prog 57 [t.av, k.av] u.av := by
  obtain ⟨u, h1, h2⟩ := tDrop0_ok t k hs
  exact ⟨u, h1, pure_sub (closed2 (closed_tr t) (closed_ky k)) (closed_tr u) h2⟩
noncomputable def dropT (t : Tr) (k : Ky) : Tr := if h : t.all.length < 10000000 then Classical.choose (tDrop_ok t k h) else t
theorem dropT_all {t : Tr} {k : Ky} (h : t.all.length < 10000000) : (dropT t k).all = dropP t.all k := by
  unfold dropT
  rw [dif_pos h]
  exact (Classical.choose_spec (tDrop_ok t k h)).1
theorem dropT_ok {t : Tr} {k : Ky} (h : t.all.length < 10000000) : APure Tryz.prog 57 [t.av, k.av] (dropT t k).av := by
  unfold dropT
  rw [dif_pos h]
  exact (Classical.choose_spec (tDrop_ok t k h)).2
end Go.Proofs.YthdeopopodhimaaGreatDoor

/- Versions that are dead: the iterator's parts. No further condition. -/
set_option linter.unusedVariables false
set_option linter.unusedSimpArgs false
namespace Go.Proofs.YthdeopopodhimaaGreatDoor
open Go.Ab

theorem ACalls.frame2 {g : FuncId} {args args1 c1 c2 d1 d2 : List AV} {r : AV} {M : Mem} (i j : Nat) (hne : i ≠ j) (hM1 : M.get i = some (.cells c1)) (hM2 : M.get j = some (.cells c2)) (h1 : i < M.next) (h2 : j < M.next) (k1 : ∀ x, x ∈ c1 → Closed x) (k2 : ∀ x, x ∈ c2 → Closed x)
    (h : ACalls Tryz.prog g args1 ⟨2, [(0, .cells c1), (1, .cells c2)]⟩ fun e N => e = .ret r ∧ N = ⟨2, [(0, .cells d1), (1, .cells d2)]⟩) (hargs : InL [i, j] args args1) (hr : Closed r) (q1 : ∀ x, x ∈ d1 → Closed x) (q2 : ∀ x, x ∈ d2 → Closed x) :
    ACalls Tryz.prog g args M fun e N => e = .ret r ∧ N = (M.set i (.cells d1)).set j (.cells d2) := by
  refine ACalls.frame [i, j] (by simp [hne]) (by intro k hk; simp at hk; rcases hk with rfl | rfl <;> assumption) (N0 := ⟨2, [(0, .cells c1), (1, .cells c2)]⟩) rfl ?_ h hargs ?_
  · intro k o1 hk
    have hk' : (if k = 0 then some (AObj.cells c1) else if k = 1 then some (.cells c2) else none) = some o1 := hk
    split at hk'
    · rename_i h0
      subst h0
      cases hk'
      exact ⟨i, _, rfl, hM1, InL.closed k1⟩
    · split at hk'
      · rename_i h0
        subst h0
        cases hk'
        exact ⟨j, _, rfl, hM2, InL.closed k2⟩
      · cases hk'
  · rintro e M1 ⟨rfl, rfl⟩
    refine ⟨.ret r, (M.set i (.cells d1)).set j (.cells d2), OutV.closed hr, ⟨by show M.next = M.next + (2 - 2); omega, ?_⟩, rfl, rfl⟩
    intro k o hk
    rw [Mem.get_set] at hk
    split at hk
    · rename_i h0
      cases hk
      exact .inl ⟨1, _, .inl (by rw [h0]; rfl), rfl, OutL.closed q2⟩
    · rename_i h0
      rw [Mem.get_set] at hk
      split at hk
      · rename_i h3
        cases hk
        exact .inl ⟨0, _, .inl (by rw [h3]; rfl), rfl, OutL.closed q1⟩
      · rename_i h3
        exact .inr ⟨by simp; exact ⟨h3, h0⟩, hk⟩

def keptS (s : Option Bytes) (p : Pr) (w : Int) : Bool × Option Bytes := if w < p.key.time then (true, s) else (!decide (s = some p.key.path) && !(readM p.val).2.1, some p.key.path)
def kC (s : Option Bytes) : List AV := [.str (s.getD [])]
def kA (s : Option Bytes) : List AV := [.bool s.isSome]
set_option maxRecDepth 100000 in
set_option maxHeartbeats 8000000 in
theorem kept0_ok (p : Pr) (s : Option Bytes) (w : Int) (hv : p.val.length < 1000000) : ACalls Tryz.prog 88 [p.av, .ref [.int .i64 w], .ptr 1 0, .ptr 0 0] ⟨2, [(0, .cells (kC s)), (1, .cells (kA s))]⟩ (fun e N => ∃ x, e = .ret x ∧ SubC 2 x (.bool (keptS s p w).1) ∧ 2 ≤ N.next ∧ ObjsC 2 N [(0, .cells (kC (keptS s p w).2)), (1, .cells (kA (keptS s p w).2))]) := by
  refine acalls_of tabOK Tryz.func88 rfl (by decide) (by simp [Tryz.f88]) ?_
  have kr := read_ok p.val hv
  have fin : ∀ (N : Mem) (s : Option Bytes), N.get 0 = some (.cells (kC s)) → N.get 1 = some (.cells (kA s)) → ObjsC 2 N [(0, .cells (kC s)), (1, .cells (kA s))] := fun N s h0 h1 => objsC_closed (by decide) h0 (closed1 closed_str) (objsC_closed (by decide) h1 (closed1 closed_bool) trivial)
  unfold keptS
  by_cases h : w < p.key.time
  · have d1 : decide (w < p.key.time) = true := by simp [h]
    rw [if_pos h]
    unfold kC kA
    repeat' (first | refine DW_VB tabs rfl d1 ?_ | refine DW_A tabs rfl ?_ | refine DW_nil ?_ | refine W_A rfl ?_)
    exact ⟨rfl, _, rfl, _, rfl, SubC.of_closed closed_bool, Nat.le_refl 2, fin _ s rfl rfl⟩
  · have d1 : decide (w < p.key.time) = false := by simp [h]
    rw [if_neg h]
    generalize readM p.val = x at *
    obtain ⟨m, g, e⟩ := x
    unfold rmA at kr
    cases s with
    | none =>
      unfold kC kA
      cases g
      · repeat' (first | refine DW_VB tabs rfl d1 ?_ | refine DW_A tabs rfl ?_ | refine DW_nil ?_ | refine W_A rfl ?_ | refine DW_C rfl kr ?_)
        exact ⟨rfl, _, rfl, _, rfl, SubC.of_closed closed_bool, (by show 2 ≤ 3; omega), fin _ (some p.key.path) rfl rfl⟩
      · repeat' (first | refine DW_VB tabs rfl d1 ?_ | refine DW_A tabs rfl ?_ | refine DW_nil ?_ | refine W_A rfl ?_ | refine DW_C rfl kr ?_)
        exact ⟨rfl, _, rfl, _, rfl, SubC.of_closed closed_bool, (by show 2 ≤ 3; omega), fin _ (some p.key.path) rfl rfl⟩
    | some q =>
      have e1 : decide (some q = some p.key.path) = (p.key.path == q) := by
        rw [Bool.eq_iff_iff]
        simp
        exact ⟨fun h => h.symm, fun h => h.symm⟩
      rw [e1]
      unfold kC kA
      cases hq : p.key.path == q
      · have d2 : (!(p.key.path == q)) = true := by rw [hq]; rfl
        cases g
        · repeat' (first | refine DW_VB tabs rfl (by first | exact d1 | exact d2) ?_ | refine DW_A tabs rfl ?_ | refine DW_nil ?_ | refine W_A rfl ?_ | refine DW_C rfl kr ?_)
          exact ⟨rfl, _, rfl, _, rfl, SubC.of_closed closed_bool, (by show 2 ≤ 3; omega), fin _ (some p.key.path) rfl rfl⟩
        · repeat' (first | refine DW_VB tabs rfl (by first | exact d1 | exact d2) ?_ | refine DW_A tabs rfl ?_ | refine DW_nil ?_ | refine W_A rfl ?_ | refine DW_C rfl kr ?_)
          exact ⟨rfl, _, rfl, _, rfl, SubC.of_closed closed_bool, (by show 2 ≤ 3; omega), fin _ (some p.key.path) rfl rfl⟩
      · have d2 : (!(p.key.path == q)) = false := by rw [hq]; rfl
        cases g
        · repeat' (first | refine DW_VB tabs rfl (by first | exact d1 | exact d2) ?_ | refine DW_A tabs rfl ?_ | refine DW_nil ?_ | refine W_A rfl ?_ | refine DW_C rfl kr ?_)
          exact ⟨rfl, _, rfl, _, rfl, SubC.of_closed closed_bool, (by show 2 ≤ 3; omega), fin _ (some p.key.path) rfl rfl⟩
        · repeat' (first | refine DW_VB tabs rfl (by first | exact d1 | exact d2) ?_ | refine DW_A tabs rfl ?_ | refine DW_nil ?_ | refine W_A rfl ?_ | refine DW_C rfl kr ?_)
          exact ⟨rfl, _, rfl, _, rfl, SubC.of_closed closed_bool, (by show 2 ≤ 3; omega), fin _ (some p.key.path) rfl rfl⟩
theorem kept1_ok (p : Pr) (s : Option Bytes) (w : Int) (hv : p.val.length < 1000000) : ACalls Tryz.prog 88 [p.av, .ref [.int .i64 w], .ptr 1 0, .ptr 0 0] ⟨2, [(0, .cells (kC s)), (1, .cells (kA s))]⟩ fun e N => e = .ret (.bool (keptS s p w).1) ∧ N = ⟨2, [(0, .cells (kC (keptS s p w).2)), (1, .cells (kA (keptS s p w).2))]⟩ :=
  ACalls.cutL (kept0_ok p s w hv)
theorem kept_ok (p : Pr) (s : Option Bytes) (w : Int) (hv : p.val.length < 1000000) {M : Mem} (h2 : M.get 1 = some (.cells (kC s))) (h3 : M.get 2 = some (.cells (kA s))) (hn : 3 ≤ M.next) : ACalls Tryz.prog 88 [p.av, .ref [.int .i64 w], .ptr 2 0, .ptr 1 0] M fun e N => e = .ret (.bool (keptS s p w).1) ∧ N = (M.set 1 (.cells (kC (keptS s p w).2))).set 2 (.cells (kA (keptS s p w).2)) :=
  ACalls.frame2 1 2 (by decide) h2 h3 (by omega) (by omega) (closed1 closed_str) (closed1 closed_bool) (kept1_ok p s w hv) ⟨InV.closed (closed_pr p), InV.closed (closed_ref (closed1 closed_int)), InV.ptr rfl, InV.ptr rfl, trivial⟩ closed_bool (closed1 closed_str) (closed1 closed_bool)
end Go.Proofs.YthdeopopodhimaaGreatDoor

/- Versions that are dead: the iterator. No further condition. -/
set_option linter.unusedVariables false
set_option linter.unusedSimpArgs false
namespace Go.Proofs.YthdeopopodhimaaGreatDoor
open Go.Ab

def keptF (w : Int) : AV := .fn (.func 88) [] [.ref [.int .i64 w], .ptr 2 0, .ptr 1 0]
def deadF (t : Tr) : AV := .fn (.func 90) [] [.ref [t.av], .ptr 3 0]
set_option maxRecDepth 100000 in
set_option maxHeartbeats 8000000 in
theorem dead1_ok (o : AObj) (w : Int) : ACalls Tryz.prog 87 [.ref [.int .i64 w]] ⟨1, [(0, o)]⟩ (fun e N => e = .ret (keptF w) ∧ N = ⟨3, [(2, .cells (kA none)), (1, .cells (kC none)), (2, .cells (kA none)), (1, .cells (kC none)), (0, o)]⟩) := by
  refine acalls_of tabOK Tryz.func87 rfl (by decide) (by simp [Tryz.f87]) ?_
  repeat' (first | refine DW_A tabs rfl ?_ | refine DW_nil ?_ | refine W_A rfl ?_)
  exact ⟨rfl, _, rfl, rfl, rfl⟩
set_option maxRecDepth 100000 in
set_option maxHeartbeats 8000000 in
theorem dead_ok (t : Tr) (o : AObj) (w : Int) : ACalls Tryz.prog 55 [t.av, .int .i64 w] ⟨1, [(0, o)]⟩ (fun e N => e = .ret (deadF t) ∧ Mem.le ⟨4, [(0, o), (1, .cells (kC none)), (2, .cells (kA none)), (3, .cells [keptF w])]⟩ N) := by
  refine acalls_of tabOK Tryz.func55 rfl (by decide) (by simp [Tryz.f55]) ?_
  have k1 := dead1_ok o w
  unfold deadF Tr.av
  repeat' (first | refine DW_A tabs rfl ?_ | refine DW_nil ?_ | refine W_A rfl ?_ | refine DW_CM rfl rfl (k1) ?_ ?_)
  rotate_left
  · intro u N h
    cases h.1
  rintro u N ⟨e, rfl⟩
  cases e
  repeat' (first | refine DW_A tabs rfl ?_ | refine DW_nil ?_ | refine W_A rfl ?_)
  exact ⟨rfl, _, rfl, rfl, Mem.le_cons rfl (Mem.le_cons rfl (Mem.le_cons rfl (Mem.le_cons rfl (Mem.le_nil rfl))))⟩

def stepD (w : Int) (st : Option Bytes × List Ky) (p : Pr) : Option Bytes × List Ky := ((keptS st.1 p w).2, if (keptS st.1 p w).1 = true then st.2 else st.2 ++ [p.key])
def scanD (w : Int) (l : List Pr) : Option Bytes × List Ky := l.foldl (stepD w) (none, [])
theorem scanD_step {w : Int} {l : List Pr} {i : Nat} {x : Pr} (h : l.take (i + 1) = l.take i ++ [x]) : scanD w (l.take (i + 1)) = stepD w (scanD w (l.take i)) x := by
  unfold scanD
  rw [h, List.foldl_append]
  rfl
def vM (w : Int) (s : Option Bytes) (L : List Ky) (g : Nat) (O : AObj) : Mem := ⟨7, [(0, .cells [.sl 2 (L.map Ky.av) (.tok 4 g)]), (1, .cells (kC s)), (2, .cells (kA s)), (3, .cells [keptF w]), (4, .spare g), (5, deferO), (6, O)]⟩
theorem ky_cells (l : List Ky) : ∀ x, x ∈ l.map Ky.av → ∀ c, c ∈ x.cells → Closed c := by
  intro x hx c hc
  obtain ⟨k, _, rfl⟩ := List.mem_map.1 hx
  have : c ∈ [AV.str k.path, .int .i64 k.time] := hc
  exact closed2 closed_str closed_int c this
def rawOK (O : AObj) : Prop := ∃ o vs t, O = .raw none o vs t ∧ ∀ i, SubC 7 ((lookup t i).getD .top) ((lookup t i).getD .top)
theorem vM_objs {w : Int} {s : Option Bytes} {L : List Ky} {g : Nat} {O : AObj} {N : Mem} (hO : rawOK O) (h : ∀ i o, (vM w s L g O).get i = some o → N.get i = some o) : ObjsC 7 N (vM w s L g O).objs := by
  obtain ⟨o, vs, t, rfl, ht⟩ := hO
  refine ⟨by decide, ?_, ?_⟩
  · rw [h 0 _ rfl]
    refine ⟨rfl, fun i x y hx hy => ?_⟩
    rw [hx] at hy
    cases hy
    have : x ∈ [AV.sl 2 (L.map Ky.av) (.tok 4 g)] := List.mem_of_getElem? hx
    simp at this
    subst this
    exact SubC.tok rfl (ky_cells L)
  refine objsC_closed (by decide) (h 1 _ rfl) (closed1 closed_str) (objsC_closed (by decide) (h 2 _ rfl) (closed1 closed_bool) ⟨by decide, ?_, by decide, ?_, by decide, ?_, by decide, ?_, trivial⟩)
  · rw [h 3 _ rfl]
    refine ⟨rfl, fun i x y hx hy => ?_⟩
    rw [hx] at hy
    cases hy
    have : x ∈ [keptF w] := List.mem_of_getElem? hx
    simp at this
    subst this
    refine SubC.fn (by simp) ?_
    intro x hx
    simp at hx
    rcases hx with rfl | rfl | rfl
    · exact SubC.of_closed (closed_ref (closed1 closed_int))
    · exact SubC.ptr rfl
    · exact SubC.ptr rfl
  · rw [h 4 _ rfl]
    rfl
  · rw [h 5 _ rfl]
    exact ⟨rfl, rfl, rfl, fun i => SubC.top⟩
  · rw [h 6 _ rfl]
    exact ⟨rfl, rfl, rfl, ht⟩
def vM8 (w : Int) (s : Option Bytes) (L : List Ky) (g : Nat) (O : AObj) (c : List AV) : Mem := ⟨8, (7, .cells c) :: (vM w s L g O).objs⟩
theorem vM8_get {w : Int} {s : Option Bytes} {L : List Ky} {g : Nat} {O : AObj} {c : List AV} {j : Nat} {o : AObj} (h : (vM w s L g O).get j = some o) : (vM8 w s L g O c).get j = some o := by
  show (if j = 7 then some (AObj.cells c) else (vM w s L g O).get j) = some o
  by_cases e : j = 7
  · subst e
    cases h
  · rw [if_neg e]
    exact h
theorem SubC.yld {k id : Nat} (h : decide (id < k) = true) : SubC k (.yld id) (.yld id) := by
  have h' := of_decide_eq_true h
  intro μ F w v hr
  cases hr with
  | yld _ _ h1 h2 h3 => exact .yld id v h1 (by simp [cut, h']; exact h2) (fun b hb => h3 b (by simpa [cut, h'] using hb))
def d2F (A : List Pr) (i : Nat) : AF := ⟨[(0, .yld 6), (2, .ptr 3 0), (7, .sl 3 (A.map Pr.av) .none), (8, .int .i64 (A.length : Int)), (9, .int .i64 (i : Int))], []⟩
set_option maxRecDepth 100000 in
set_option maxHeartbeats 8000000 in
theorem dead2_ok (t : Tr) (hs : t.all.length < 10000000) (hv : ∀ p, p ∈ t.all → p.val.length < 1000000) (w : Int) (O : AObj) (hO : rawOK O) (hY : ∀ (s : Option Bytes) (L : List Ky) (g : Nat) (k : Ky) (c : List AV), L.length < 10000000 → AYields Tryz.prog 6 [k.av] (vM8 w s L g O c) fun e N' => e = .ret (.bool true) ∧ 8 ≤ N'.next ∧ ∀ i o, (vM w s (L ++ [k]) (g + 1) O).get i = some o → N'.get i = some o) : ACalls Tryz.prog 90 [.yld 6, .ref [t.av], .ptr 3 0] (vM w none [] 0 O) (fun e N => e = .ret (.tup []) ∧ ∃ g, (vM w (scanD w t.all).1 (scanD w t.all).2 g O).le N) := by
  refine acalls_of tabOK Tryz.func90 rfl (by decide) (by simp [Tryz.f90]) ?_
  have ka := tAll_ok t hs
  have lA := len_map Pr.av t.all
  unfold Tr.av at ka ⊢
  repeat' (first | refine DW_VI tabs rfl lA ?_ | refine DW_A tabs rfl ?_ | refine DW_nil ?_ | refine W_A rfl ?_ | refine DW_C rfl ka ?_)
  generalize t.all = A at *
  refine W_count A.length (fun i f N => (∃ g, (scanD w (A.take i)).2.length ≤ i ∧ N = vM w (scanD w (A.take i)).1 (scanD w (A.take i)).2 g O) ∧ f = d2F A i) (Nat.zero_le _) ⟨⟨0, Nat.zero_le _, rfl⟩, rfl⟩ (Joint.le ?_ (Mem.le_refl _)) ?_
  · unfold d2F
    repeat (refine AF.le_cons rfl ?_)
    exact AF.le_nil rfl
  rintro i f N hi ⟨⟨g, hLi, rfl⟩, rfl⟩
  by_cases h1 : i < A.length
  · have d1 : decide ((i : Int) < (A.length : Int)) = true := by simp; omega
    have hx : A[i]? = some A[i] := List.getElem?_eq_getElem h1
    have fi := wrap_succ (i := i) (by omega)
    have hb := hv _ (List.getElem_mem h1)
    have hst := scanD_step (w := w) (take_succ hx)
    generalize A[i] = x at hx hb hst
    generalize scanD w (A.take i) = st at *
    generalize scanD w (A.take (i + 1)) = st2 at *
    obtain ⟨s, L⟩ := st
    unfold d2F vM
    repeat' (first | refine DW_VB tabs rfl d1 ?_ | refine DW_VI tabs rfl fi ?_ | refine DW_A tabs rfl ?_ | refine DW_nil ?_ | refine W_A rfl ?_ | refine DW_ix tabOK rfl (ixN hx) ?_)
    have hk : ∀ (e : AEnd) (N : Mem), True := fun _ _ => trivial
    refine DW_CM rfl rfl (kept_ok x s w hb rfl rfl (by show 3 ≤ 8; decide)) ?_ (fun u M' h => by cases h.1)
    rintro u N ⟨e, rfl⟩
    cases e
    have fin : ∀ (g2 : Nat) (f2 : AF) (M2 : Mem), st2.2.length ≤ i + 1 → f2.d = [] → SubsC 7 f2 (d2F A (i + 1)).t → 7 ≤ M2.next → (∀ j o, (vM w st2.1 st2.2 g2 O).get j = some o → M2.get j = some o) →
        i < A.length ∧ ∃ f'' M'', ((∃ g, st2.2.length ≤ i + 1 ∧ M'' = vM w st2.1 st2.2 g O) ∧ f'' = d2F A (i + 1)) ∧ Joint 7 f2 M2 f'' M'' := by
      intro g2 f2 M2 q1 q2 q3 q4 q5
      exact ⟨h1, d2F A (i + 1), vM w st2.1 st2.2 g2 O, ⟨⟨g2, q1, rfl⟩, rfl⟩, Joint.cut (n0 := 7) (k := 7) (t := (d2F A (i + 1)).t) (l := (vM w st2.1 st2.2 g2 O).objs) (Nat.le_refl _) q4 q2 q3 (vM_objs hO q5)⟩
    have hLi : L.length ≤ i := hLi
    cases hkp : (keptS s x w).1
    · have e2 : st2 = ((keptS s x w).2, L ++ [x.key]) := by rw [hst]; unfold stepD; rw [hkp]; rfl
      obtain ⟨o, vs, t0, rfl, _⟩ := hO
      repeat' (first | refine DW_A tabs rfl ?_ | refine DW_nil ?_ | refine W_A rfl ?_)
      refine DW_Y rfl (ob := o) (vs := vs) (t0 := t0) rfl (AYields.le (N := vM8 w (keptS s x w).2 L g (.raw none o vs t0) x.av.cells) ?_ (hY (keptS s x w).2 L g x.key x.av.cells (by omega))) ?_ (by rintro u M' ⟨h, _⟩; cases h)
      · exact Mem.le_cons rfl (Mem.le_cons rfl (Mem.le_cons rfl (Mem.le_cons rfl (Mem.le_cons rfl (Mem.le_cons rfl (Mem.le_cons rfl (Mem.le_cons rfl (Mem.le_nil rfl))))))))
      rintro u M' ⟨h, hn, hget⟩
      cases h
      repeat' (first | refine DW_VI tabs rfl fi ?_ | refine DW_A tabs rfl ?_ | refine DW_nil ?_ | refine W_A rfl ?_)
      refine fin (g + 1) _ _ (by rw [e2]; simp; omega) rfl ⟨?_, ?_, ?_, ?_, ?_, trivial⟩ (by omega) (by rw [e2]; exact hget)
      · exact SubC.yld rfl
      · exact SubC.ptr rfl
      · exact SubC.of_closed (closed_prs A)
      · exact SubC.of_closed closed_int
      · exact SubC.of_closed closed_int
    · have e2 : st2 = ((keptS s x w).2, L) := by rw [hst]; unfold stepD; rw [hkp]; rfl
      repeat' (first | refine DW_VI tabs rfl fi ?_ | refine DW_A tabs rfl ?_ | refine DW_nil ?_ | refine W_A rfl ?_)
      refine fin g _ _ (by rw [e2]; show L.length ≤ _; omega) rfl ⟨?_, ?_, ?_, ?_, ?_, trivial⟩ (by show 7 ≤ 8; decide) ?_
      · exact SubC.yld rfl
      · exact SubC.ptr rfl
      · exact SubC.of_closed (closed_prs A)
      · exact SubC.of_closed closed_int
      · exact SubC.of_closed closed_int
      · rw [e2]
        have key : ∀ M2 : Mem, (vM8 w (keptS s x w).2 L g O x.av.cells).le M2 → (∀ j o, (vM w (keptS s x w).2 L g O).get j = some o → M2.get j = some o) := fun M2 h j o hj => h.2 j o (vM8_get hj)
        refine key _ ?_
        exact Mem.le_cons rfl (Mem.le_cons rfl (Mem.le_cons rfl (Mem.le_cons rfl (Mem.le_cons rfl (Mem.le_cons rfl (Mem.le_cons rfl (Mem.le_cons rfl (Mem.le_nil rfl))))))))
  · have d1 : decide ((i : Int) < (A.length : Int)) = false := by simp; omega
    obtain rfl : i = A.length := by omega
    rw [List.take_length]
    unfold d2F vM
    repeat' (first | refine DW_VB tabs rfl d1 ?_ | refine DW_A tabs rfl ?_ | refine DW_nil ?_ | refine W_A rfl ?_)
    exact ⟨rfl, _, rfl, rfl, g, Mem.le_refl _⟩
end Go.Proofs.YthdeopopodhimaaGreatDoor

/- Versions that are dead: Of. No further condition. -/
set_option linter.unusedVariables false
set_option linter.unusedSimpArgs false
namespace Go.Proofs.YthdeopopodhimaaGreatDoor
open Go.Ab

def ofO (l : List Pr) (w : Int) : List Ky × Int := if isSt l = true ∧ ¬ w < 0 then ((scanD w l).2, 0) else ([], 1)
def ofA (x : List Ky × Int) : AV := .tup [.sl 2 (x.1.map Ky.av) .none, .int .i64 x.2]
theorem closed_kys (l : List Ky) : Closed (.sl 2 (l.map Ky.av) .none) := closed_slmap (fun k => closed_ky k) (fun k c hc => by
  have : c ∈ [AV.str k.path, .int .i64 k.time] := hc
  exact closed2 closed_str closed_int c this)
theorem closed_ofA (x : List Ky × Int) : Closed (ofA x) := closed_tup (closed2 (closed_kys _) closed_int)
def ofT (t : Tr) : List (Nat × AV) := [(6, .ptr 0 0), (17, deadF t)]
theorem ofT_ok (t : Tr) (o : Obj) (vs : Array Value) : rawOK (.raw none o vs (ofT t)) := by
  refine ⟨o, vs, _, rfl, fun i => ?_⟩
  unfold ofT
  simp only [lookup]
  split
  · exact SubC.ptr rfl
  · split
    · refine SubC.fn (by simp) ?_
      intro x hx
      simp at hx
      rcases hx with rfl | rfl
      · exact SubC.of_closed (closed_ref (closed1 (closed_tr t)))
      · exact SubC.ptr rfl
    · exact SubC.top
def vM5 (w : Int) : Mem := ⟨5, [(0, .cells [.sl 2 [] (.tok 4 0)]), (1, .cells (kC none)), (2, .cells (kA none)), (3, .cells [keptF w]), (4, .spare 0)]⟩
theorem range_vac {n : Nat} {ps : Array Tmp} {assign body : Code} {Q : AX → AF → Mem → Prop} (t : Tr) (hs : t.all.length < 10000000) (hv : ∀ p, p ∈ t.all → p.val.length < 1000000) (w : Int) (hps : ps.toList.length = 1) (hpn : (ps.toList.all fun p => decide (p < n)) = true)
    (hround : ∀ (O O1 : AObj) (s : Option Bytes) (L : List Ky) (g : Nat) (k : Ky) (c : List AV) (l : Nat), L.length < 10000000 →
      W (some l) Tryz.prog n assign (thenX (fun f1 M1 => M1.get 6 = some O ∧ W (some l) Tryz.prog n body (fun e _ N' => e = .normal ∧ N'.get 6 = some O1 ∧ 8 ≤ (N'.set 6 O).next ∧ ∀ i o, (vM w s (L ++ [k]) (g + 1) O).get i = some o → (N'.set 6 O).get i = some o) f1 (M1.set 6 O1)) (fun _ _ _ => False)) ⟨parT ps.toList [k.av] (ofT t), []⟩ (vM8 w s L g O c))
    (hdone : ∀ g N O, (vM w (scanD w t.all).1 (scanD w t.all).2 g O).le N → ∃ N', N'.le N ∧ N'.get 6 = none ∧ Q .normal ⟨ofT t, [markD 5]⟩ N') :
    W none Tryz.prog n (.rangeFunc (.tmp 17) ps assign body) Q ⟨ofT t, []⟩ (vM5 w) := by
  refine W_range (gf := 90) (lb := [.ref [t.av], .ptr 3 0]) rfl fun fn tmps D hn => ?_
  refine (ACalls.le (N := vM w none [] 0 (.raw none (.loop (loopR fn tmps ps assign body D .ready none)) tmps (ofT t))) ?_ (dead2_ok t hs hv w _ (ofT_ok t _ _) ?_)).mono ?_
  · exact Mem.le_cons rfl (Mem.le_cons rfl (Mem.le_cons rfl (Mem.le_cons rfl (Mem.le_cons rfl (Mem.le_cons rfl (Mem.le_cons rfl (Mem.le_nil rfl)))))))
  · intro s L g k c hL
    refine ayields_of rfl hn hps hpn fun l => ?_
    refine (hround _ (.raw none (.loop (loopR fn tmps ps assign body D .busy none)) tmps (ofT t)) s L g k c l hL).mono ?_
    rintro x1 f1 M1 h1
    cases x1 with
    | normal =>
      refine ⟨h1.1, h1.2.mono ?_⟩
      rintro x2 f2 M2 ⟨rfl, h3, h4⟩
      exact ⟨h3, rfl, h4⟩
    | exit id => exact h1.elim
    | ret => exact h1.elim
    | panic v => exact h1.elim
  · rintro e N ⟨rfl, g, hle⟩
    obtain ⟨N', h1, h2, h3⟩ := hdone _ N _ hle
    exact ⟨.ready, none, N', by simp, hle.2 6 _ rfl, h1, h2, h3⟩
set_option maxRecDepth 100000 in
set_option maxHeartbeats 8000000 in
theorem of_ok (t : Tr) (hs : t.all.length < 10000000) (hv : valsB t.all) (w : Int) : APure Tryz.prog 15 [t.av, .int .i64 w] (ofA (ofO t.all w)) := by
  refine pure_sub (closed2 (closed_tr t) closed_int) (closed_ofA _) ?_
  refine acalls_of_m tabOK Tryz.func15 rfl (by decide) (by simp [Tryz.f15]) ?_
  have kis := isStore_ok t hs hv
  have kd := dead_ok t (.cells [.sl 0 [] .full]) w
  unfold ofO
  cases h : isSt t.all
  · rw [h] at kis
    rw [if_neg (by simp)]
    unfold Tr.av at kis ⊢
    repeat' (first | refine DW_A tabs rfl ?_ | refine DW_nil ?_ | refine W_A rfl ?_ | refine DW_C rfl kis ?_ | refine DW_row tabOK rfl ?_ | refine DW_app tabOK rfl rfl (by simp; omega) (by simp; omega) ?_ | refine DW_app0 tabOK rfl (by simp; omega) (by simp; omega) ?_)
    exact ⟨_, rfl, _, rfl, SubC.tup2 SubC.nil (SubC.of_closed closed_int)⟩
  · rw [h] at kis
    by_cases hw : w < 0
    · have d1 : decide (w < 0) = true := by simp [hw]
      rw [if_neg (by simp [hw])]
      unfold Tr.av at kis ⊢
      repeat' (first | refine DW_VB tabs rfl d1 ?_ | refine DW_A tabs rfl ?_ | refine DW_nil ?_ | refine W_A rfl ?_ | refine DW_C rfl kis ?_ | refine DW_row tabOK rfl ?_ | refine DW_app tabOK rfl rfl (by simp; omega) (by simp; omega) ?_ | refine DW_app0 tabOK rfl (by simp; omega) (by simp; omega) ?_)
      exact ⟨_, rfl, _, rfl, SubC.tup2 SubC.nil (SubC.of_closed closed_int)⟩
    · have d1 : decide (w < 0) = false := by simp [hw]
      rw [if_pos ⟨rfl, hw⟩]
      unfold Tr.av at kis kd ⊢
      repeat' (first | refine DW_VB tabs rfl d1 ?_ | refine DW_A tabs rfl ?_ | refine DW_nil ?_ | refine W_A rfl ?_ | refine DW_C rfl kis ?_ | refine DW_CM rfl rfl (kd) ?_ ?_ | refine DW_row tabOK rfl ?_ | refine DW_app tabOK rfl rfl (by simp; omega) (by simp; omega) ?_ | refine DW_app0 tabOK rfl (by simp; omega) (by simp; omega) ?_)
      rotate_left
      · intro u N h
        cases h.1
      rintro u N ⟨e, hle⟩
      cases e
      repeat' (first | refine DW_A tabs rfl ?_ | refine DW_nil ?_ | refine W_A rfl ?_ | refine DW_row tabOK rfl ?_ | refine DW_app tabOK rfl rfl (by simp; omega) (by simp; omega) ?_ | refine DW_app0 tabOK rfl (by simp; omega) (by simp; omega) ?_)
      refine W.le (g := ⟨ofT t, []⟩) (N := ⟨4, [(0, .cells [.sl 0 [] .full]), (1, .cells (kC none)), (2, .cells (kA none)), (3, .cells [keptF w])]⟩) ?_ hle ?_
      · unfold ofT
        repeat (refine AF.le_cons rfl ?_)
        exact AF.le_nil rfl
      refine W_ghost ((Joint.tokM 0 0 rfl rfl (sz' := 2) (.inr rfl)).trans (Joint.le (g := ⟨ofT t, []⟩) (N := vM5 w) ⟨rfl, fun _ => Sub.refl⟩ ?_)) ?_
      · exact Mem.le_cons rfl (Mem.le_cons rfl (Mem.le_cons rfl (Mem.le_cons rfl (Mem.le_cons rfl (Mem.le_nil rfl)))))
      refine range_vac t hs (fun p hp => (hv p hp).2) w rfl (by decide) ?_ ?_
      · intro O O1 s L g k c l hL
        have lk := len_map Ky.av L
        unfold vM8 vM ofT
        repeat' (first | refine DW_A tabs rfl ?_ | refine DW_nil ?_ | refine W_A rfl ?_ | refine DW_row tabOK rfl ?_ | refine DW_app tabOK rfl rfl (by simp; omega) (by simp; omega) ?_ | refine DW_app0 tabOK rfl (by simp; omega) (by simp; omega) ?_)
        refine ⟨rfl, ?_⟩
        repeat' (first | refine DW_VI tabs rfl lk ?_ | refine DW_A tabs rfl ?_ | refine DW_nil ?_ | refine W_A rfl ?_ | refine DW_row tabOK rfl ?_ | refine DW_app tabOK rfl rfl (by simp; omega) (by simp; omega) ?_ | refine DW_app0 tabOK rfl (by simp; omega) (by simp; omega) ?_)
        have e : AV.sl 2 ((L ++ [k]).map Ky.av) (.tok 4 (g + 1)) = .sl 2 (L.map Ky.av ++ [k.av]) (.tok 4 (g + 1)) := by simp
        refine ⟨rfl, rfl, by show 8 ≤ 9; decide, ?_⟩
        have key : ∀ M2 : Mem, Mem.le ⟨9, (vM w s (L ++ [k]) (g + 1) O).objs⟩ M2 → (∀ j o, (vM w s (L ++ [k]) (g + 1) O).get j = some o → M2.get j = some o) := fun M2 h j o hj => h.2 j o hj
        refine key _ ?_
        unfold vM
        rw [e]
        exact Mem.le_cons rfl (Mem.le_cons rfl (Mem.le_cons rfl (Mem.le_cons rfl (Mem.le_cons rfl (Mem.le_cons rfl (Mem.le_cons rfl (Mem.le_nil rfl)))))))
      · intro g N O hle2
        refine ⟨⟨7, [(0, .cells [.sl 2 ((scanD w t.all).2.map Ky.av) (.tok 4 g)]), (5, deferO)]⟩, Mem.le_trans (Mem.le_cons (i := 0) rfl (Mem.le_cons (i := 5) rfl (Mem.le_nil rfl))) hle2, rfl, ?_⟩
        unfold ofT
        repeat' (first | refine DW_A tabs rfl ?_ | refine DW_nil ?_ | refine W_A rfl ?_ | refine DW_row tabOK rfl ?_ | refine DW_app tabOK rfl rfl (by simp; omega) (by simp; omega) ?_ | refine DW_app0 tabOK rfl (by simp; omega) (by simp; omega) ?_)
        refine marks1 (N := ⟨_, []⟩) rfl (Mem.le_nil rfl) rfl ⟨_, rfl, _, rfl, SubC.tup2 (SubC.untag (closed_kys _)) (SubC.of_closed closed_int)⟩
end Go.Proofs.YthdeopopodhimaaGreatDoor
