/- Small helps of a walk. -/
import Derived.Test.YteimhnedflbkmaaDoorAbC3
set_option linter.unusedVariables false
set_option linter.unusedSimpArgs false
namespace Go.Ab
open Go.RowKit

theorem AF.le_nil {d : List ADef} {f : AF} (h : d = f.d) : AF.le ⟨[], d⟩ f := ⟨h, fun _ => Sub.top⟩
theorem AF.le_sub {k : Nat} {x : AV} {t : List (Nat × AV)} {d : List ADef} {f : AF} (h : Sub (f.get k) x) (h2 : AF.le ⟨t, d⟩ f) : AF.le ⟨(k, x) :: t, d⟩ f := by
  refine ⟨h2.1, fun i => ?_⟩
  by_cases e : i = k
  · subst e
    have : AF.get ⟨(i, x) :: t, d⟩ i = x := by simp [AF.get, lookup]
    rw [this]
    exact h
  · have : AF.get ⟨(k, x) :: t, d⟩ i = AF.get ⟨t, d⟩ i := by simp [AF.get, lookup, e]
    rw [this]
    exact h2.2 i
theorem AF.le_cons {k : Nat} {x : AV} {t : List (Nat × AV)} {d : List ADef} {f : AF} (h : f.get k = x) (h2 : AF.le ⟨t, d⟩ f) : AF.le ⟨(k, x) :: t, d⟩ f := AF.le_sub (Sub.of_eq h) h2

/-- A step whose value reads otherwise. -/
theorem DW_V {P : Program} {τ : Tab} {es : List TypeId} (hT : TabOK P τ ∧ EqTab P es) {ops : Array Oper} {cls : Nat → Cls} {Q : AX → AF → Mem → Prop} {ds : List ADef} {l : List Nat} {i : Nat} {o : Oper} {t : List (Nat × AV)} {M : Mem} {x y : AV} {d : Nat}
    (hi : ops[i]? = some o) (hw : wantedA ops ⟨t, ds⟩ o = some true) (hd : o.dst = some d) (ho : forceP (stepP3 τ es (AF.ev ⟨t, ds⟩) o.op) = some x) (hx : x = y) (h : DW P ops cls Q ds l ((d, y) :: t) M) : DW P ops cls Q ds (i :: l) t M :=
  DW_ofP hi hw hd (stepP3_sound hT.1 hT.2 (forceP_spec (hx ▸ ho))) h

theorem Mem.le_refl (M : Mem) : M.le M := ⟨rfl, fun _ _ h => h⟩

theorem Mem.le_nil {n : Nat} {M : Mem} (h : n = M.next) : Mem.le ⟨n, []⟩ M := ⟨h, fun _ _ h => by cases h⟩
theorem Mem.le_cons {n i : Nat} {o : AObj} {l : List (Nat × AObj)} {M : Mem} (h : M.get i = some o) (h2 : Mem.le ⟨n, l⟩ M) : Mem.le ⟨n, (i, o) :: l⟩ M := by
  refine ⟨h2.1, fun j p hj => ?_⟩
  by_cases e : j = i
  · subst e
    have : Mem.get ⟨n, (j, o) :: l⟩ j = some o := by simp [Mem.get, lookup]
    rw [this] at hj
    cases hj
    exact h
  · have : Mem.get ⟨n, (i, o) :: l⟩ j = Mem.get ⟨n, l⟩ j := by simp [Mem.get, lookup, e]
    rw [this] at hj
    exact h2.2 j p hj

theorem cells_app {α : Type} {f : α → AV} {l : List α} {d : α} {sz : Nat} {t : Tag} : some (AObj.cells [.sl sz (l.map f ++ [f d]) t]) = some (AObj.cells [.sl sz ((l ++ [d]).map f) t]) := by simp
theorem sl_app {α : Type} {f : α → AV} {l : List α} {d : α} {sz : Nat} {t : Tag} : AV.sl sz (l.map f ++ [f d]) t = AV.sl sz ((l ++ [d]).map f) t := by simp

theorem wrap_small {i : Int} (h0 : -9223372036854775808 ≤ i) (h : i < 9223372036854775808) : IntKind.wrap .i64 i = i := by
  have e : (2 : Int) ^ IntKind.i64.bits = 18446744073709551616 := rfl
  have e' : (2 : Int) ^ (IntKind.i64.bits - 1) = 9223372036854775808 := rfl
  simp only [IntKind.wrap, e, e']
  have : IntKind.i64.signed = true := rfl
  rw [this]
  simp only [Bool.true_and, decide_eq_true_eq]
  split <;> omega

theorem ret_bool {b c : Bool} (h : b = c) : AEnd.ret (.bool b) = .ret (.bool c) := by rw [h]
theorem ret_int {k : IntKind} {b c : Int} (h : b = c) : AEnd.ret (.int k b) = .ret (.int k c) := by rw [h]
theorem ret_str {b c : List UInt8} (h : b = c) : AEnd.ret (.str b) = .ret (.str c) := by rw [h]

theorem map_get {α : Type} {f : α → AV} {l : List α} {i : Nat} {y : α} (h : l[i]? = some y) : (l.map f)[((i : Int)).toNat]? = some (f y) := by simp [h]
theorem map_getZ {α : Type} {f : α → AV} {l : List α} {n : Int} {i : Nat} {y : α} (hn : n = i) (h : l[i]? = some y) : (l.map f)[n.toNat]? = some (f y) := by subst hn; simp [h]
theorem int_eq {k : IntKind} {b c : Int} (h : b = c) : AV.int k b = .int k c := by rw [h]
theorem take_succ {α : Type} {l : List α} {i : Nat} {x : α} (h : l[i]? = some x) : l.take (i + 1) = l.take i ++ [x] := by rw [List.take_add_one, h]; rfl

theorem wrap_succ {i : Nat} (h : i < 9223372036854775807) : IntKind.wrap .i64 ((i : Int) + 1) = ((i + 1 : Nat) : Int) := by
  rw [wrap_small (by omega) (by omega)]
  omega

/-- A loop that counts to n: I i holds at its head; each round either ends the loop or goes on to i + 1. -/
theorem W_count {P : Program} {n : Nat} {Q : AX → AF → Mem → Prop} {f : AF} {M : Mem} {c : Code} (top : Nat) (I : Nat → AF → Mem → Prop) {f0 : AF} {M0 : Mem} {i0 : Nat} (hi : i0 ≤ top) (h0 : I i0 f0 M0) (hj : Joint M.next f M f0 M0)
    (round : ∀ i f1 M1, i ≤ top → I i f1 M1 → W P n c (thenX (fun f' M' => i < top ∧ ∃ f'' M'', I (i + 1) f'' M'' ∧ Joint M.next f' M' f'' M'') Q) f1 M1) : W P n (.loop c) Q f M := by
  refine W_loop (fun k f M => ∃ i, i ≤ top ∧ k = top - i ∧ I i f M) (k := top - i0) (f0 := f0) (M0 := M0) ⟨i0, hi, rfl, h0⟩ hj ?_
  rintro k f M ⟨i, hi, rfl, hI⟩
  refine (round i f M hi hI).mono ?_
  intro x f' M' hx
  cases x with
  | normal =>
    obtain ⟨hlt, f'', M'', h1, h2⟩ := hx
    exact ⟨top - (i + 1), f'', M'', by omega, ⟨i + 1, hlt, rfl, h1⟩, h2⟩
  | _ => exact hx

end Go.Ab
