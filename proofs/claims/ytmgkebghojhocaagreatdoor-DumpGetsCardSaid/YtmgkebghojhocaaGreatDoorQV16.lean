/- Parts of the proof, one behind the other: AbG7, BldA, MetaF, MetaG, Cmp, KeyA, KeyB, KeyO. No further condition. -/
import Derived.Test.YtmgkebghojhocaaGreatDoorQV15
import Derived.Test.YtmgkebghojhocaaGreatDoorQV09
import Derived.Shelf.Strings.Builder1
import Derived.Test.YtmgkebghojhocaaGreatDoorQV10
import Derived.Test.YtmgkebghojhocaaGreatDoorQV11
import Derived.Test.YtmgkebghojhocaaGreatDoorQV14
set_option linter.unusedVariables false
set_option linter.unusedSimpArgs false
/- strings.Builder: what its methods do, over objects. -/
set_option linter.unusedVariables false
set_option linter.unusedSimpArgs false
namespace Go.Ab
open Go.RowKit Go.Shelf Go.Proofs
section
variable {P : Program} {ρ : Ren}
theorem bld_args {μ : Mu} {F : Frm} {w : World} {id b : Nat} {vs : Array Value} (hb : μ id = some (.at b)) (h : RepL μ F w [.ptr id 0] vs) : vs = #[.pointer (some ⟨b, 0, none⟩)] := by
 obtain ⟨hs, hr⟩ := h
 have hs' : vs.size = 1 := hs
 obtain ⟨v, rfl⟩ : ∃ v, vs = #[v] := ⟨vs[0], by
  apply Array.ext
  ·simpa using hs'
  ·intro i h1 h2
   have : i = 0 := by simp at h2; omega
   subst this
   rfl⟩
 have := hr 0 (.ptr id 0) v rfl rfl
 cases this with
 | ptr _ _ _ _ _ hv => rw [hv b hb]
def bldNew (T : TypeId) : AObj := .raw none (.cells #[.pointer none, .slice none 0 0] T (0, 0)) #[] []
theorem copyNew (L : Lays.n240 P ρ) (X : Builder.X72 P ρ) (hE : Enters P (ρ.f 240)) {M : Mem} {id : Nat} (hM : M.get id = some (bldNew (ρ.t 72))) :
  ACalls P (ρ.f 240) [.ptr id 0] M fun e N => e = .ret (.tup []) ∧ N = M.set id (.cells [.ptr id 0, .sl 1 [] .full]) := by
 refine ⟨hE, fun μ F w vs hg hv => ?_⟩
 obtain ⟨b, hb, hc, _⟩ := hg.raw id _ _ _ _ hM
 have hb' : μ id = some (.at b) := hb
 obtain rfl := bld_args hb' hv
 have hcell : w.cell? ⟨b, 0, none⟩ = some (.pointer none) := by rw [cell_mk hc]; rfl
 refine (Any.Builder_copyCheck_fresh L X b w hcell (by simp [World.shape?, hc]) (by simp [World.frozen?, hc])).mono ?_
 rintro e w' ⟨rfl, rfl⟩
 have hset : (w.setCell ⟨b, 0, none⟩ (.pointer (some ⟨b, 0, none⟩))).heap[b]? = some (.cells #[.pointer (some ⟨b, 0, none⟩), .slice none 0 0] (ρ.t 72) (0, 0)) := by
  simp only [World.setCell, Array.getElem?_modify, hc]
  simp
 have hw : Wrote w b (w.setCell ⟨b, 0, none⟩ (.pointer (some ⟨b, 0, none⟩))) := ⟨rfl, rfl, rfl, by simp [World.setCell], fun k hk => Below.heap_setCell w _ _ k hk⟩
 obtain ⟨he, hG⟩ := gam_write hg hb' hc hw (l := [.ptr id 0, .sl 1 [] .full]) hset rfl rfl (by
   intro i v hi
   match i, hi with
   | 0, hi => simp at hi; subst hi; rfl
   | 1, hi => simp at hi; subst hi; rfl
   | i + 2, hi => simp at hi) (by
   intro i x v hx hi
   match i, hx, hi with
   | 0, hx, hi =>
    simp at hx hi
    subst hx; subst hi
    exact .ptr _ _ _ rfl (by rw [hb']; simp) (fun b' hb'' => by rw [hb'] at hb''; cases hb''; rfl)
   | 1, hx, hi =>
    simp at hx hi
    subst hx; subst hi
    exact rep_toV μ F w (x := .sl 1 [] .full) rfl
   | i + 2, hx, hi => simp at hx)
 exact ⟨μ, _, he, hG, .tup [], .tup _ _ rfl (by simp), rfl, rfl⟩
theorem copyUsed (L : Lays.n240 P ρ) (X : Builder.X72 P ρ) (hE : Enters P (ρ.f 240)) {M : Mem} {id : Nat} {x : AV} (hM : M.get id = some (.cells [.ptr id 0, x])) :
  ACalls P (ρ.f 240) [.ptr id 0] M fun e N => e = .ret (.tup []) ∧ N = M := by
 refine ⟨hE, fun μ F w vs hg hv => ?_⟩
 obtain ⟨b, c, ty, hb, hc, hs, _, hr⟩ := hg.obj id _ hM
 obtain rfl := bld_args hb hv
 have hlt : 0 < c.size := by rw [hs]; simp
 have h0 : c[0]? = some c[0] := Array.getElem?_eq_getElem hlt
 have hp := hr 0 _ _ rfl h0
 have hcell : w.cell? ⟨b, 0, none⟩ = some (.pointer (some ⟨b, 0, none⟩)) := by
  rw [cell_mk hc, h0]
  cases hp with
  | ptr _ _ _ _ _ hv => rw [hv b hb]
 refine (Any.Builder_copyCheck_used L X b w hcell).mono ?_
 rintro e w' ⟨rfl, rfl⟩
 exact ⟨μ, M, Evo.refl _ _, hg, .tup [], .tup _ _ rfl (by simp), rfl, rfl⟩
theorem gam_let {μ : Mu} {F : Frm} {M : Mem} {w w' : World} (h : Gam μ F M w) {id g b : Nat} (hid : μ id = some (.spare (some (b, 0)) g)) {c : Array Value} {ty : TypeId} {fr fr' : Nat × Nat}
  (h0 : w.heap[b]? = some (.cells c ty fr)) (hw : Wrote w b w') (h1 : w'.heap[b]? = some (.cells c ty fr')) : Evo w μ w' (μ.put id .dead) ∧ Gam (μ.put id .dead) F (M.drop id) w' := by
 have hlt : id < M.next := (h.dom id).1 (by rw [hid]; simp)
 have hput : ∀ i, i ≠ id → (μ.put id .dead) i = μ i := fun i hi => by simp [Mu.put, hi]
 have hputs : (μ.put id .dead) id = some .dead := by simp [Mu.put]
 have hownb : ∀ o, Own μ b o := fun o => ⟨id, .inr ⟨0, g, hid, Nat.zero_le _⟩⟩
 have hlies : ∀ i k, Lies (μ.put id .dead) i k → i ≠ id ∧ Lies μ i k := by
  rintro i k (h1 | ⟨e, g, h1⟩)
  ·by_cases hi : i = id
   ·subst hi; rw [hputs] at h1; cases h1
   ·rw [hput i hi] at h1; exact ⟨hi, .inl h1⟩
  ·by_cases hi : i = id
   ·subst hi; rw [hputs] at h1; cases h1
   ·rw [hput i hi] at h1; exact ⟨hi, .inr ⟨e, g, h1⟩⟩
 have hown : ∀ k o, Own (μ.put id .dead) k o → Own μ k o := by
  rintro k o ⟨i, h1 | ⟨e, g, h1, he⟩⟩
  ·by_cases hi : i = id
   ·subst hi; rw [hputs] at h1; cases h1
   ·rw [hput i hi] at h1; exact ⟨i, .inl h1⟩
  ·by_cases hi : i = id
   ·subst hi; rw [hputs] at h1; cases h1
   ·rw [hput i hi] at h1; exact ⟨i, .inr ⟨e, g, h1, he⟩⟩
 have hev : Evo w μ w' (μ.put id .dead) := by
  refine ⟨hw.os, hw.tape, hw.output, Nat.le_of_eq hw.size.symm, ?_, ?_, ?_, fun k o _ ho => hown k o ho⟩
  ·intro i hi
   by_cases he : i = id
   ·subst he; exact .inr (.inl hputs)
   ·exact .inl (hput i he)
  ·intro k hk hn
   refine hw.other k ?_
   rintro rfl
   exact hn 0 (hownb 0)
  ·intro k e' c' ty' f' hk hn hc
   by_cases hkb : k = b
   ·subst hkb
    rw [h0] at hc
    cases hc
    exact ⟨c, fr', h1, rfl, fun _ _ => rfl⟩
   ·exact ⟨c', f', (hw.other k hkb).trans hc, rfl, fun _ _ => rfl⟩
 have hfar : ∀ i k, i ≠ id → Lies μ i k → k ≠ b := by
  rintro i k hi hl rfl
  exact hi (h.inj i id k hl (.inr ⟨0, g, hid⟩))
 refine ⟨hev, { dom := ?_, obj := ?_, spare := ?_, inj := fun i j k hi hj => h.inj i j k (hlies i k hi).2 (hlies j k hj).2, frm := fun k o ho => h.frm k o (hown k o ho), fit := ⟨fun k o ho => by rw [hw.size]; exact h.fit.own k o (hown k o ho), fun k o hF => by rw [hw.size]; exact h.fit.frm k o hF⟩, raw := ?_ }⟩
 ·intro i
  show _ ↔ i < M.next
  by_cases hi : i = id
  ·subst hi; rw [hputs]; simp [hlt]
  ·rw [hput i hi]; exact h.dom i
 ·intro i l hl
  rw [Mem.get_drop] at hl
  split at hl
  ·cases hl
  ·rename_i hi
   obtain ⟨b1, c1, ty1, a1, a2, a3, a4, a5⟩ := h.obj i l hl
   exact ⟨b1, c1, ty1, (hput i hi).trans a1, (hw.other b1 (hfar i b1 hi (.inl a1))).trans a2, a3, a4, fun i x v hx hv => (a5 i x v hx hv).evo hev⟩
 ·intro i g' hl
  rw [Mem.get_drop] at hl
  split at hl
  ·cases hl
  ·rename_i hi
   obtain ⟨p, a1, a2⟩ := h.spare i g' hl
   refine ⟨p, (hput i hi).trans a1, fun b1 e1 hp => ?_⟩
   obtain ⟨c1, ty1, f1, a3, a4, a5⟩ := a2 b1 e1 hp
   exact ⟨c1, ty1, f1, (hw.other b1 (hfar i b1 hi (.inr ⟨e1, g', by rw [a1, hp]⟩))).trans a3, a4, a5⟩
 ·intro i gg o vs t hl
  rw [Mem.get_drop] at hl
  split at hl
  ·cases hl
  ·rename_i hi
   obtain ⟨b1, a1, a2, a3⟩ := h.raw i gg o vs t hl
   exact ⟨b1, a1.congr (hput i hi), (hw.other b1 (hfar i b1 hi a1.lies)).trans a2, fun i => (a3 i).evo hev⟩
set_option maxHeartbeats 1000000 in
set_option maxRecDepth 100000 in
theorem bld_string (L : Lays.n169 P ρ) (X : Builder.Extra P ρ) (b g cap : Nat) (cur : Array Value) (l : List UInt8) (w : World) (hc : w.cell? ⟨b, 1, none⟩ = some (.slice (some ⟨g, 0, none⟩) l.length cap))
  (hg : w.heap[g]? = some (.cells cur (ρ.t 5) (0, 0))) (h0 : l ≠ []) (hcap : l.length ≤ cap) (hn : l.length ≤ cur.size) (h63 : l.length ≤ 9223372036854775807) (hcell : ∀ (j : Nat) (x : UInt8), l[j]? = some x → cur[j]? = some (.int .u8 x.toNat)) :
  Calls P (ρ.f 169) #[.pointer (some ⟨b, 0, none⟩)] w fun e w' => e = .returned (.string ⟨l.toArray⟩) ∧ w' = w.drew.freeze ⟨g, 0, none⟩ l.length := by
 have hl0 : 0 < l.length := List.length_pos_iff.2 h0
 have c1 : w.drew.cell? ⟨b, 1, none⟩ = some (.slice (some ⟨g, 0, none⟩) l.length cap) := hc
 have hSD : (Builtin.unsafeSliceData_ #[(ρ.t 37)] (ρ.t 127) #[.slice (some ⟨g, 0, none⟩) l.length cap]).run P w.drew = .ok (.pointer (some ⟨g, 0, none⟩)) w.drew :=
  Lib.run_unsafeSliceData_row _ _ _ _ _ _ (by omega)
 have hUS : (Builtin.unsafeString_ #[(ρ.t 127), (ρ.t 3)] (ρ.t 9) #[.pointer (some ⟨g, 0, none⟩), .int .i64 l.length]).run P w.drew = .ok (.string ⟨l.toArray⟩) (w.drew.freeze ⟨g, 0, none⟩ l.length) := by
  refine Lib.run_unsafeString_row w.drew (ρ.t 127) (ρ.t 3) (ρ.t 9) (ρ.t 5) L.t127 X.cellsByte g cur.size (by have hg' : w.drew.heap[g]? = some (.cells cur (ρ.t 5) (0, 0)) := hg; simp [World.shape?, hg']) l h0 hn h63 ?_
  intro j x hx
  rw [Addr.add_lit, show w.drew.cell? ⟨g, 0 + j, none⟩ = w.cell? ⟨g, 0 + j, none⟩ from rfl, cell_mk hg, Nat.zero_add]
  exact hcell j x hx
 have mixed := L.mixed
 have t72 := L.t72; have a72 := L.a72; have z72 := L.z72; have v72 := L.v72; have u72 := run_underlying L.t72
 have t70 := L.t70; have a70 := L.a70; have z70 := L.z70; have v70 := L.v70; have u70 := run_underlying L.t70
 have t37 := L.t37; have a37 := L.a37; have z37 := L.z37; have v37 := L.v37; have u37 := run_underlying L.t37
 have t127 := L.t127; have a127 := L.a127; have z127 := L.z127; have v127 := L.v127; have u127 := run_underlying L.t127
 have t3 := L.t3; have a3 := L.a3; have z3 := L.z3; have v3 := L.v3; have u3 := run_underlying L.t3
 have t9 := L.t9; have a9 := L.a9; have z9 := L.z9; have v9 := L.v9; have u9 := run_underlying L.t9
 have t5 := X.t5; have a5 := X.a5; have z5 := X.z5; have v5 := X.v5; have u5 := run_underlying X.t5
 go_enter L.f169, Body.n169_ntmps ρ
 go_wp2
 go_region_o
 all_goals (go_wp2; go_ret; exact ⟨rfl, rfl⟩)
/-- What a builder has taken is told. -/
theorem bstr_ok (L : Lays.n169 P ρ) (X : Builder.Extra P ρ) (hE : Enters P (ρ.f 169)) {M : Mem} {id k g cap : Nat} {x : AV} {c : Array Value} {bs : List UInt8} (hM : M.get id = some (.cells [x, .bsl k g bs.length cap]))
  (hK : M.get k = some (bufO g (ρ.t 5) c)) (hB : BufIs c bs cap) (h0 : bs ≠ []) (h63 : bs.length ≤ 9223372036854775807) :
  ACalls P (ρ.f 169) [.ptr id 0] M fun e N => e = .ret (.str bs) ∧ N = M.drop k := by
 refine ⟨hE, fun μ F w vs hg hv => ?_⟩
 obtain ⟨b, c0, ty, hb, hc, hs, _, hr⟩ := hg.obj id _ hM
 obtain rfl := bld_args hb hv
 have hlt : 1 < c0.size := by rw [hs]; simp
 have h1 : c0[1]? = some c0[1] := Array.getElem?_eq_getElem hlt
 obtain ⟨q, k1, k2, k3⟩ := gam_bsl hg hK (hr 1 _ _ rfl h1)
 refine (bld_string L X b q cap c bs w (by rw [cell_mk hc, h1, k3]) k2 h0 hB.le (by rw [hB.size]; exact hB.le) h63 hB.at_).mono ?_
 rintro e w' ⟨rfl, rfl⟩
 have hn : bs.length ≠ 0 := by simpa using h0
 have hf : (w.drew.freeze ⟨q, 0, none⟩ bs.length).heap[q]? = some (.cells c (ρ.t 5) (0, 0 + bs.length)) := by
  have k2' : w.drew.heap[q]? = some (.cells c (ρ.t 5) (0, 0)) := k2
  unfold World.freeze
  rw [if_neg hn]
  simp only [Array.getElem?_modify, k2']
  simp
 have hw : Wrote w q (w.drew.freeze ⟨q, 0, none⟩ bs.length) := by
  unfold World.freeze
  rw [if_neg hn]
  refine ⟨rfl, rfl, rfl, by simp, fun j hj => ?_⟩
  show (w.heap.modify q _)[j]? = _
  rw [Array.getElem?_modify, if_neg (fun h => hj h.symm)]
 obtain ⟨he, hG⟩ := gam_let hg k1 k2 hw hf
 exact ⟨_, _, he, hG, .str bs, .str bs, rfl, rfl⟩
end
section
variable {P : Program} {τ : Tab} {ops : Array Oper} {cls : Nat → Cls} {Q : AX → AF → Mem → Prop} {ds : List ADef} {ls : List Nat} {i : Nat} {t : List (Nat × AV)} {M : Mem}
structure BApp where
 d : Nat
 id : Nat
 g : Nat
 g' : Nat
 n : Nat
 cap : Nat
 e : TypeId
 c : Array Value
 ys : List UInt8
def bufOf : Option AObj → Option (Nat × TypeId × Array Value)
 | some (.raw (some g) (.cells c e fr) vs t) => if fr = (0, 0) ∧ vs.size = 0 ∧ t.length = 0 then some (g, e, c) else none
 | _ => none
theorem bufOf_spec {x : Option AObj} {g : Nat} {e : TypeId} {c : Array Value} (h : bufOf x = some (g, e, c)) : x = some (bufO g e c) := by
 unfold bufOf at h
 split at h
 ·rename_i g' c' e' fr vs t
  split at h
  ·rename_i hh
   obtain ⟨rfl, h1, h2⟩ := hh
   cases h
   rw [show vs = #[] from Array.eq_empty_of_size_eq_zero h1, show t = [] from List.length_eq_zero_iff.1 h2]
   rfl
  ·cases h
 ·cases h
def bappOp (τ : Tab) (ds : List ADef) (t : List (Nat × AV)) (M : Mem) (d : Nat) (ty tx : TypeId) (s y : Operand) : Option BApp :=
 match AF.ev ⟨t, ds⟩ s, AF.ev ⟨t, ds⟩ y with
 | .bsl id g n cap, .str ys =>
  match bufOf (M.get id), lookup τ ty, lookup τ tx with
  | some (g', e, c), some ti, some xi =>
   match ti.k, xi.k with
   | .slice e', .str =>
    match lookup τ e' with
    | some ei => (match decide (e' = e), decide (ei.size = 1), decide (ei.bytes = 1) with
     | true, true, true => some ⟨d, id, g, g', n, cap, e, c, ys⟩
     | _, _, _ => none)
    | none => none
   | _, _ => none
  | _, _, _ => none
 | _, _ => none
def stepBapp (τ : Tab) (ops : Array Oper) (cls : Nat → Cls) (ds : List ADef) (i : Nat) (t : List (Nat × AV)) (M : Mem) : Option BApp :=
 match ops[i]? with
 | some o =>
  match wantedA ops ⟨t, ds⟩ o, o.dst, isE (cls i), o.op with
  | some true, some d, true, .call { callee := .builtin .append, args := ⟨[s, y]⟩, argTypes := ⟨[ty, tx]⟩ } => bappOp τ ds t M d ty tx s y
  | _, _, _, _ => none
 | none => none
/-- A text behind bytes that a token holds. -/
theorem DW_bapp (hτ : TabOK P τ) {d id g g' n cap : Nat} {e : TypeId} {c : Array Value} {ys : List UInt8} (hs : stepBapp τ ops cls ds i t M = some ⟨d, id, g, g', n, cap, e, c, ys⟩) (hgg : g' = g) {bs : List UInt8} (hn : n = bs.length) (hB : BufIs c bs cap) (hlen : n + ys.length ≤ 140737488355328)
  (h : ∀ (cap' : Nat) (c' : Array Value), BufIs c' (bs ++ ys) cap' → DW P ops cls Q ds ls ((d, .bsl id (g + 1) (n + ys.length) cap') :: t) (M.set id (bufO (g + 1) e c'))) : DW P ops cls Q ds (i :: ls) t M := by
 unfold stepBapp at hs
 split at hs
 ·rename_i o hi
  split at hs
  ·rename_i d' s y ty tx hw hd hc ho
   unfold bappOp at hs
   split at hs
   ·rename_i id' g0 n' cap' ys' hS hY
    split at hs
    ·rename_i g' e' c' ti xi hM' ht hxi
     have hM := bufOf_spec hM'
     split at hs
     ·rename_i e1 hk hk2
      split at hs
      ·rename_i ei he
       split at hs
       ·rename_i q2 q3 q4
        have q2 := of_decide_eq_true q2
        have q3 := of_decide_eq_true q3
        have q4 := of_decide_eq_true q4
        subst q2
        cases hs
        subst hgg
        refine DW_run hi hw ?_
        refine SC.of_G hc (by intro c hc; rw [ho] at hc; cases hc) ?_
        refine OpG.mono (opG_append_bsl hτ ⟨ht, hk, he, by omega⟩ q3 hxi ho hS hn hM hB (by rw [hk2, hY]; rfl) (by rw [hY]; rfl) (by rw [q4]; omega) hlen) ?_
        rintro u M' ⟨cap', c', h1, rfl, rfl⟩
        have := h cap' c' h1
        simpa [AF.put, hd] using this
       ·cases hs
      ·cases hs
     ·cases hs
    ·cases hs
   ·cases hs
  ·cases hs
 ·cases hs
def bnewOp (τ : Tab) (ds : List ADef) (t : List (Nat × AV)) (d : Nat) (ty tx : TypeId) (s y : Operand) : Option (Nat × TypeId × List UInt8) :=
 match AF.ev ⟨t, ds⟩ s, AF.ev ⟨t, ds⟩ y with
 | .sl _ [] .full, .str ys =>
  match lookup τ ty, lookup τ tx with
  | some ti, some xi =>
   match ti.k, xi.k with
   | .slice e', .str =>
    match lookup τ e' with
    | some ei => (match decide (ei.size = 1), decide (ei.bytes = 1) with
     | true, true => some (d, e', ys)
     | _, _ => none)
    | none => none
   | _, _ => none
  | _, _ => none
 | _, _ => none
def stepBnew (τ : Tab) (ops : Array Oper) (cls : Nat → Cls) (ds : List ADef) (i : Nat) (t : List (Nat × AV)) : Option (Nat × TypeId × List UInt8) :=
 match ops[i]? with
 | some o =>
  match wantedA ops ⟨t, ds⟩ o, o.dst, isE (cls i), o.op with
  | some true, some d, true, .call { callee := .builtin .append, args := ⟨[s, y]⟩, argTypes := ⟨[ty, tx]⟩ } => bnewOp τ ds t d ty tx s y
  | _, _, _, _ => none
 | none => none
/-- A text behind nothing: new bytes. -/
theorem DW_bnew (hτ : TabOK P τ) {d : Nat} {e : TypeId} {ys : List UInt8} (hs : stepBnew τ ops cls ds i t = some (d, e, ys)) (hne : ys ≠ []) (hlen : ys.length ≤ 140737488355328)
  (h : ∀ (cap' : Nat) (c' : Array Value), BufIs c' ys cap' → DW P ops cls Q ds ls ((d, .bsl M.next 0 ys.length cap') :: t) (M.push (bufO 0 e c'))) : DW P ops cls Q ds (i :: ls) t M := by
 unfold stepBnew at hs
 split at hs
 ·rename_i o hi
  split at hs
  ·rename_i d' s y ty tx hw hd hc ho
   unfold bnewOp at hs
   split at hs
   ·rename_i sz ys' hS hY
    split at hs
    ·rename_i ti xi ht hxi
     split at hs
     ·rename_i e1 hk hk2
      split at hs
      ·rename_i ei he
       split at hs
       ·rename_i q3 q4
        have q3 := of_decide_eq_true q3
        have q4 := of_decide_eq_true q4
        cases hs
        refine DW_run hi hw ?_
        refine SC.of_G hc (by intro c hc; rw [ho] at hc; cases hc) ?_
        refine OpG.mono (opG_append_newb hτ ⟨ht, hk, he, by omega⟩ q3 hxi ho hS hne (by rw [hk2, hY]; rfl) (by rw [hY]; rfl) (by rw [q4]; omega) hlen) ?_
        rintro u M' ⟨cap', c', h1, rfl, rfl⟩
        have := h cap' c' h1
        simpa [AF.put, hd] using this
       ·cases hs
      ·cases hs
     ·cases hs
    ·cases hs
   ·cases hs
  ·cases hs
 ·cases hs
/-- A new builder, raw. -/
def stepRaw (ops : Array Oper) (cls : Nat → Cls) (ds : List ADef) (i : Nat) (t : List (Nat × AV)) : Option (Nat × TypeId) :=
 match ops[i]? with
 | some o =>
  match wantedA ops ⟨t, ds⟩ o, o.dst, isE (cls i), o.op with
  | some true, some d, true, .alloc ty => some (d, ty)
  | _, _, _, _ => none
 | none => none
theorem DW_raw {d : Nat} {ty : TypeId} (hs : stepRaw ops cls ds i t = some (d, ty)) {z : Value} (hz : ∀ w, (zeroValue ty).run P w = .ok z w) (h : DW P ops cls Q ds ls ((d, .ptr M.next 0) :: t) (M.push (.raw none (.cells z.cells ty (0, 0)) #[] []))) : DW P ops cls Q ds (i :: ls) t M := by
 unfold stepRaw at hs
 split at hs
 ·rename_i o hi
  split at hs
  ·rename_i d' ty' hw hd hc ho
   cases hs
   refine DW_ofE hi hw hd hc ?_ h
   rw [ho]
   intro μ F w ρc o hg ho ht hr
   have hb := below_push w (.cells z.cells ty)
   have hnew : ({ w with heap := w.heap.push (.cells z.cells ty) } : World).heap[w.heap.size]? = some (.cells z.cells ty (0, 0)) := by simp
   obtain ⟨he, hG⟩ := gam_pushraw hg hb (vs := #[]) (t := []) (Nat.le_refl _) hnew (fun i => .top _)
   refine ⟨_, _, .pointer (some ⟨w.heap.size, 0, none⟩), _, ?_, .inl rfl, he, hG, ?_⟩
   ·simp [execOp, ho, Instr.alloc, newVar, newRow, hz]
   ·exact .ptr _ _ _ rfl (by simp [Mu.put]) (fun b hb => by simp [Mu.put] at hb; subst hb; rfl)
  ·cases hs
 ·cases hs
end
end Go.Ab
/- What strings.Builder's methods do. No further condition. -/
set_option linter.unusedVariables false
set_option linter.unusedSimpArgs false
namespace Go.Proofs.YtmgkebghojhocaaGreatDoor
open Go.Ab Go.Shelf
def bldM (g n cap : Nat) (c : Array Value) : Mem := ⟨2, [(0, .cells [.ptr 0 0, .bsl 1 g n cap]), (1, bufO g 5 c)]⟩
def bld0 : Mem := ⟨1, [(0, bldNew 172)]⟩
set_option maxRecDepth 100000 in
set_option maxHeartbeats 8000000 in
theorem bwNew (s : Bytes) (hs : s ≠ []) (hl : s.length < 1000000000) : ACalls Tryz.prog 113 [.ptr 0 0, .str s] bld0 (fun e N => ∃ cap c, BufIs c s cap ∧ e = .ret (.tup [.int .i64 (s.length : Int), .nilIface]) ∧ (bldM 0 s.length cap c).le N) := by
 refine acalls_of tabOK Tryz.func113 rfl (by decide) (by simp [Tryz.f113]) ?_
 unfold bld0
 repeat' (first | refine DW_bnew tabOK rfl hs (by omega) ?_ | refine DW_A tabs rfl ?_ | refine DW_nil ?_ | refine W_A rfl ?_ | refine DW_app tabOK rfl rfl (by simp; omega) (by simp; omega) ?_ | refine DW_app0 tabOK rfl (by simp; omega) (by simp; omega) ?_)
 refine DW_CM rfl rfl (copyNew lays240 laysX.toX72 ⟨_, _, Tryz.func147, rfl, by decide⟩ rfl) ?_ (fun u M' h => by cases h.1)
 rintro u N ⟨e, rfl⟩
 cases e
 repeat' (first | refine DW_bnew tabOK rfl hs (by omega) ?_ | refine DW_A tabs rfl ?_ | refine DW_nil ?_ | refine W_A rfl ?_ | refine DW_app tabOK rfl rfl (by simp; omega) (by simp; omega) ?_ | refine DW_app0 tabOK rfl (by simp; omega) (by simp; omega) ?_)
 intro cap c hB
 repeat' (first | refine DW_bnew tabOK rfl hs (by omega) ?_ | refine DW_A tabs rfl ?_ | refine DW_nil ?_ | refine W_A rfl ?_ | refine DW_app tabOK rfl rfl (by simp; omega) (by simp; omega) ?_ | refine DW_app0 tabOK rfl (by simp; omega) (by simp; omega) ?_)
 exact ⟨rfl, _, rfl, cap, c, hB, rfl, Mem.le_cons rfl (Mem.le_cons rfl (Mem.le_nil rfl))⟩
set_option maxRecDepth 100000 in
set_option maxHeartbeats 8000000 in
theorem bwMore (s bs : Bytes) (g cap : Nat) (c : Array Value) (hB : BufIs c bs cap) (hl : bs.length + s.length < 1000000000) : ACalls Tryz.prog 113 [.ptr 0 0, .str s] (bldM g bs.length cap c) (fun e N => ∃ cap c, BufIs c (bs ++ s) cap ∧ e = .ret (.tup [.int .i64 (s.length : Int), .nilIface]) ∧ (bldM (g + 1) (bs ++ s).length cap c).le N) := by
 refine acalls_of tabOK Tryz.func113 rfl (by decide) (by simp [Tryz.f113]) ?_
 unfold bldM
 repeat' (first | refine DW_bapp tabOK rfl rfl rfl hB (by omega) ?_ | refine DW_A tabs rfl ?_ | refine DW_nil ?_ | refine W_A rfl ?_ | refine DW_app tabOK rfl rfl (by simp; omega) (by simp; omega) ?_ | refine DW_app0 tabOK rfl (by simp; omega) (by simp; omega) ?_)
 refine DW_CM rfl rfl (copyUsed lays240 laysX.toX72 ⟨_, _, Tryz.func147, rfl, by decide⟩ rfl) ?_ (fun u M' h => by cases h.1)
 rintro u N ⟨e, rfl⟩
 cases e
 repeat' (first | refine DW_bapp tabOK rfl rfl rfl hB (by omega) ?_ | refine DW_A tabs rfl ?_ | refine DW_nil ?_ | refine W_A rfl ?_ | refine DW_app tabOK rfl rfl (by simp; omega) (by simp; omega) ?_ | refine DW_app0 tabOK rfl (by simp; omega) (by simp; omega) ?_)
 intro cap c hB
 repeat' (first | refine DW_bapp tabOK rfl rfl rfl hB (by omega) ?_ | refine DW_A tabs rfl ?_ | refine DW_nil ?_ | refine W_A rfl ?_ | refine DW_app tabOK rfl rfl (by simp; omega) (by simp; omega) ?_ | refine DW_app0 tabOK rfl (by simp; omega) (by simp; omega) ?_)
 rw [← List.length_append]
 exact ⟨rfl, _, rfl, cap, c, hB, rfl, Mem.le_cons rfl (Mem.le_cons rfl (Mem.le_nil rfl))⟩
theorem bwNewM {M : Mem} {id : Nat} (hM : M.get id = some (bldNew 172)) (hlt : id < M.next) (s : Bytes) (hs : s ≠ []) (hl : s.length < 1000000000) : ACalls Tryz.prog 113 [.ptr id 0, .str s] M fun e N =>
  ∃ cap c, BufIs c s cap ∧ e = .ret (.tup [.int .i64 (s.length : Int), .nilIface]) ∧ N = (M.push (bufO 0 5 c)).set id (.cells [.ptr id 0, .bsl M.next 0 s.length cap]) := by
 refine ACalls.frame [id] (by simp) (by simpa using hlt) (N0 := bld0) rfl ?_ (bwNew s hs hl) ⟨InV.ptr rfl, InV.closed closed_str, trivial⟩ ?_
 ·intro k o1 hk
  have hk' : (if k = 0 then some (bldNew 172) else none) = some o1 := hk
  split at hk'
  ·rename_i h0
   subst h0
   cases hk'
   exact ⟨id, _, rfl, hM, rfl, rfl, rfl, rfl, rfl⟩
  ·cases hk'
 ·rintro e M1 ⟨cap, c, hB, rfl, hn, hle⟩
  refine ⟨.ret (.tup [.int .i64 (s.length : Int), .nilIface]), _, OutV.closed (closed_tup (closed2 closed_int closed_nilIface)), ⟨?_, ?_⟩, cap, c, hB, rfl, rfl⟩
  ·show M.next + 1 = M.next + (M1.next - 1)
   rw [← hn]
   rfl
  ·intro i o hi
   rw [Mem.get_set] at hi
   split at hi
   ·rename_i h0
    cases hi
    refine .inl ⟨0, _, .inl (by rw [h0]; rfl), hle 0 _ rfl, ?_⟩
    exact ⟨OutV.ptr, OutV.bsl, trivial⟩
   ·rename_i h0
    rw [Mem.get_push] at hi
    split at hi
    ·rename_i h1
     cases hi
     exact .inl ⟨1, _, .inr ⟨Nat.le_refl _, h1⟩, hle 1 _ rfl, rfl, rfl, rfl, rfl, rfl⟩
    ·exact .inr ⟨by simpa using h0, hi⟩
theorem bwMoreM {M : Mem} {id k g cap : Nat} {c : Array Value} {bs : Bytes} (hM : M.get id = some (.cells [.ptr id 0, .bsl k g bs.length cap])) (hK : M.get k = some (bufO g 5 c)) (hne : id ≠ k) (hlt : id < M.next) (hltk : k < M.next)
  (hB : BufIs c bs cap) (s : Bytes) (hl : bs.length + s.length < 1000000000) : ACalls Tryz.prog 113 [.ptr id 0, .str s] M fun e N =>
  ∃ cap c, BufIs c (bs ++ s) cap ∧ e = .ret (.tup [.int .i64 (s.length : Int), .nilIface]) ∧ N = (M.set id (.cells [.ptr id 0, .bsl k (g + 1) (bs ++ s).length cap])).set k (bufO (g + 1) 5 c) := by
 refine ACalls.frame [id, k] (by simp [hne]) (by intro i hi; simp at hi; rcases hi with rfl | rfl <;> assumption) (N0 := bldM g bs.length cap c) rfl ?_ (bwMore s bs g cap c hB hl) ⟨InV.ptr rfl, InV.closed closed_str, trivial⟩ ?_
 ·intro j o1 hj
  have hj' : (if j = 0 then some (AObj.cells [.ptr 0 0, .bsl 1 g bs.length cap]) else if j = 1 then some (bufO g 5 c) else none) = some o1 := hj
  split at hj'
  ·rename_i h0
   subst h0
   cases hj'
   exact ⟨id, _, rfl, hM, InV.ptr rfl, InV.bsl rfl, trivial⟩
  ·split at hj'
   ·rename_i h0
    subst h0
    cases hj'
    exact ⟨k, _, rfl, hK, rfl, rfl, rfl, rfl, rfl⟩
   ·cases hj'
 ·rintro e M1 ⟨cap, c, hB, rfl, hn, hle⟩
  refine ⟨.ret (.tup [.int .i64 (s.length : Int), .nilIface]), _, OutV.closed (closed_tup (closed2 closed_int closed_nilIface)), ⟨?_, ?_⟩, cap, c, hB, rfl, rfl⟩
  ·show M.next = M.next + (M1.next - 2)
   rw [← hn]
   rfl
  ·intro i o hi
   rw [Mem.get_set] at hi
   split at hi
   ·rename_i h0
    cases hi
    exact .inl ⟨1, _, .inl (by rw [h0]; rfl), hle 1 _ rfl, rfl, rfl, rfl, rfl, rfl⟩
   ·rename_i h0
    rw [Mem.get_set] at hi
    split at hi
    ·rename_i h1
     cases hi
     refine .inl ⟨0, _, .inl (by rw [h1]; rfl), hle 0 _ rfl, ?_⟩
     exact ⟨OutV.ptr, OutV.bsl, trivial⟩
    ·rename_i h1
     exact .inr ⟨by simp; exact ⟨h1, h0⟩, hi⟩
/-- The builder (object 0; its bytes are object k) that has taken these bytes. -/
def bldK (k g n cap : Nat) (c : Array Value) : Mem := ⟨k + 1, [(0, .cells [.ptr 0 0, .bsl k g n cap]), (k, bufO g 5 c)]⟩
def bldK0 (k : Nat) : Mem := ⟨k, [(0, bldNew 172)]⟩
def BldI (k : Nat) (bs : Bytes) (N : Mem) : Prop := (bs = [] ∧ N = bldK0 k) ∨ (bs ≠ [] ∧ ∃ g cap c, BufIs c bs cap ∧ N = bldK k g bs.length cap c)
theorem bldK_get {k g n cap : Nat} {c : Array Value} (hk : 0 < k) : (bldK k g n cap c).get k = some (bufO g 5 c) := by
 simp [bldK, Mem.get, lookup]
 omega
theorem bWrite {k : Nat} (hk : 0 < k) {bs s : Bytes} {N : Mem} (hN : BldI k bs N) (hs : s ≠ []) (hl : bs.length + s.length < 1000000000) :
  ACalls Tryz.prog 113 [.ptr 0 0, .str s] N fun e N' => e = .ret (.tup [.int .i64 (s.length : Int), .nilIface]) ∧ ∃ N2, BldI k (bs ++ s) N2 ∧ N2.le N' := by
 rcases hN with ⟨rfl, rfl⟩ | ⟨_, g, cap, c, hB, rfl⟩
 ·refine (bwNewM (M := bldK0 k) (id := 0) rfl hk s hs (by omega)).mono ?_
  rintro e N' ⟨cap, c, hB, rfl, rfl⟩
  refine ⟨rfl, bldK k 0 ([] ++ s).length cap c, .inr ⟨hs, 0, cap, c, hB, rfl⟩, rfl, ?_⟩
  intro i o hi
  rw [Mem.get_set]
  simp [bldK, Mem.get, lookup] at hi
  split at hi
  ·rename_i h0
   rw [if_pos h0]
   exact hi
  ·rename_i h0
   rw [if_neg h0, Mem.get_push]
   split at hi
   ·rename_i h1
    rw [if_pos (show i = (bldK0 k).next from h1)]
    exact hi
   ·cases hi
 ·refine (bwMoreM (M := bldK k g bs.length cap c) (id := 0) (k := k) rfl (bldK_get hk) (by omega) (Nat.succ_pos _) (Nat.lt_succ_self _) hB s hl).mono ?_
  rintro e N' ⟨cap, c, hB, rfl, rfl⟩
  refine ⟨rfl, bldK k (g + 1) (bs ++ s).length cap c, .inr ⟨by simp [hs], g + 1, cap, c, hB, rfl⟩, rfl, ?_⟩
  intro i o hi
  rw [Mem.get_set]
  simp only [bldK, Mem.get, lookup] at hi
  split at hi
  ·rename_i h0
   rw [if_neg (by omega), Mem.get_set, if_pos h0]
   exact hi
  ·split at hi
   ·rename_i h0
    rw [if_pos h0]
    exact hi
   ·cases hi
theorem bTellM {M : Mem} {id k g cap : Nat} {c : Array Value} {bs : Bytes} {x : AV} (hM : M.get id = some (.cells [x, .bsl k g bs.length cap])) (hK : M.get k = some (bufO g 5 c)) (hB : BufIs c bs cap) (h0 : bs ≠ []) (hl : bs.length < 1000000000) :
  ACalls Tryz.prog 114 [.ptr id 0] M fun e N => e = .ret (.str bs) ∧ N = M.drop k :=
 bstr_ok lays169 laysX ⟨_, _, Tryz.func114, rfl, by decide⟩ hM hK hB h0 (by omega)
theorem bTell {k : Nat} (hk : 0 < k) {bs : Bytes} {N : Mem} (hN : BldI k bs N) (h0 : bs ≠ []) (hl : bs.length < 1000000000) : ACalls Tryz.prog 114 [.ptr 0 0] N fun e N' => e = .ret (.str bs) ∧ N'.next = N.next := by
 rcases hN with ⟨rfl, rfl⟩ | ⟨_, g, cap, c, hB, rfl⟩
 ·exact absurd rfl h0
 ·refine (bTellM (M := bldK k g bs.length cap c) (id := 0) rfl (bldK_get hk) hB h0 hl).mono ?_
  rintro e N' ⟨rfl, rfl⟩
  exact ⟨rfl, rfl⟩
end Go.Proofs.YtmgkebghojhocaaGreatDoor
/- Metadata's bytes, by the code and by the document: Put, Value. No further condition. -/
set_option linter.unusedVariables false
set_option linter.unusedSimpArgs false
namespace Go.Proofs.YtmgkebghojhocaaGreatDoor
open Go.Ab
def mtL (m : Mt) : List Int := [m.size, m.mode, (m.ch.length : Int)] ++ m.ch
def catN (l : List Int) : Bytes := (l.map fun n => putN n.toNat).flatten
def putM (m : Mt) : Bytes × Int := if isM m = true then (catN (mtL m), 0) else ([], 1)
def valueM (m : Mt) (no : Bool) : Bytes × Int := if no = true then ([0], 0) else if (putM m).2 = 0 then (1 :: (putM m).1, 0) else ([], (putM m).2)
theorem catN_take {l : List Int} {i : Nat} {x : Int} (h : l.take (i + 1) = l.take i ++ [x]) : catN (l.take (i + 1)) = catN (l.take i) ++ putN x.toNat := by
 unfold catN
 rw [h, List.map_append, List.flatten_append]
 simp
theorem putN_len (n : Nat) : (putN n).length ≤ 5 := by
 unfold putN nb nbI
 rw [List.length_cons]
 have := (List.dropWhile_sublist (fun b : UInt8 => b == 0) (l := (be4 n).take 4)).length_le
 rw [List.length_take] at this
 omega
theorem catN_len (l : List Int) : (catN l).length ≤ 5 * l.length := by
 unfold catN
 induction l with
 | nil => simp
 | cons x r ih =>
  have := putN_len x.toNat
  simp at ih ⊢
  omega
end Go.Proofs.YtmgkebghojhocaaGreatDoor
/- Metadata's bytes by the document: Put, Value. No further condition. -/
set_option linter.unusedVariables false
set_option linter.unusedSimpArgs false
namespace Go.Proofs.YtmgkebghojhocaaGreatDoor
open Go.Ab
end Go.Proofs.YtmgkebghojhocaaGreatDoor
/- cmp.Compare, at texts and at numbers, tells what its text says. No further condition. -/
set_option linter.unusedVariables false
set_option linter.unusedSimpArgs false
namespace Go.Proofs.YtmgkebghojhocaaGreatDoor
open Go.Ab
set_option maxRecDepth 100000 in
theorem isNaNs_ok (s : Bytes) : APure Tryz.prog 193 [.str s] (.bool false) := by
 intro M
 refine acalls_of tabOK Tryz.func193 rfl (by decide) (by simp [Tryz.f193]) ?_
 have h : (!(s == s)) = false := by simp
 repeat' (first | refine DW_VB tabs rfl h ?_ | refine DW_A tabs rfl ?_ | refine DW_nil ?_ | refine W_A rfl ?_)
 exact ⟨rfl, _, rfl, rfl, rfl⟩
set_option maxRecDepth 100000 in
theorem isNaNi_ok (s : Int) : APure Tryz.prog 194 [.int .i64 s] (.bool false) := by
 intro M
 refine acalls_of tabOK Tryz.func194 rfl (by decide) (by simp [Tryz.f194]) ?_
 have h : (!decide (s = s)) = false := by simp
 repeat' (first | refine DW_VB tabs rfl h ?_ | refine DW_A tabs rfl ?_ | refine DW_nil ?_ | refine W_A rfl ?_)
 exact ⟨rfl, _, rfl, rfl, rfl⟩
def cmpS (a b : Bytes) : Int := if Op.bytesLess a b = true then -1 else if (a == b) = true then 0 else 1
def cmpI (a b : Int) : Int := if a < b then -1 else if b < a then 1 else 0
set_option maxRecDepth 100000 in
theorem compareI_ok (a b : Int) : APure Tryz.prog 186 [.int .i64 a, .int .i64 b] (.int .i64 (cmpI a b)) := by
 intro M
 refine acalls_of tabOK Tryz.func186 rfl (by decide) (by simp [Tryz.f186]) ?_
 repeat' (first | refine DW_A tabs rfl ?_ | refine DW_nil ?_ | refine W_A rfl ?_)
 refine DW_pure rfl rfl rfl rfl rfl (isNaNi_ok a) ?_
 repeat' (first | refine DW_A tabs rfl ?_ | refine DW_nil ?_ | refine W_A rfl ?_)
 refine DW_pure rfl rfl rfl rfl rfl (isNaNi_ok b) ?_
 by_cases h1 : a < b
 ·have d1 : decide (a < b) = true := by simp [h1]
  have e : cmpI a b = -1 := by simp [cmpI, h1]
  rw [e]
  repeat' (first | refine DW_VB tabs rfl d1 ?_ | refine DW_A tabs rfl ?_ | refine DW_nil ?_ | refine W_A rfl ?_)
  exact ⟨rfl, _, rfl, rfl, rfl⟩
 ·have d1 : decide (a < b) = false := by simp [h1]
  by_cases h2 : b < a
  ·have d2 : decide (b < a) = true := by simp [h2]
   have e : cmpI a b = 1 := by simp [cmpI, h1, h2]
   rw [e]
   repeat' (first | refine DW_VB tabs rfl (by first | exact d1 | exact d2) ?_ | refine DW_A tabs rfl ?_ | refine DW_nil ?_ | refine W_A rfl ?_)
   exact ⟨rfl, _, rfl, rfl, rfl⟩
  ·have d2 : decide (b < a) = false := by simp [h2]
   have e : cmpI a b = 0 := by simp [cmpI, h1, h2]
   rw [e]
   repeat' (first | refine DW_VB tabs rfl (by first | exact d1 | exact d2) ?_ | refine DW_A tabs rfl ?_ | refine DW_nil ?_ | refine W_A rfl ?_)
   exact ⟨rfl, _, rfl, rfl, rfl⟩
set_option maxRecDepth 100000 in
theorem compareS_ok (a b : Bytes) : APure Tryz.prog 185 [.str a, .str b] (.int .i64 (cmpS a b)) := by
 intro M
 refine acalls_of tabOK Tryz.func185 rfl (by decide) (by simp [Tryz.f185]) ?_
 repeat' (first | refine DW_A tabs rfl ?_ | refine DW_nil ?_ | refine W_A rfl ?_)
 refine DW_pure rfl rfl rfl rfl rfl (isNaNs_ok a) ?_
 repeat' (first | refine DW_A tabs rfl ?_ | refine DW_nil ?_ | refine W_A rfl ?_)
 refine DW_pure rfl rfl rfl rfl rfl (isNaNs_ok b) ?_
 cases h1 : Op.bytesLess a b
 ·cases h2 : a == b
  ·have d2 : (!(Op.bytesLess a b || a == b)) = true := by rw [h1, h2]; rfl
   have e : cmpS a b = 1 := by simp [cmpS, h1, h2]
   rw [e]
   repeat' (first | refine DW_VB tabs rfl (by first | exact h1 | exact d2) ?_ | refine DW_A tabs rfl ?_ | refine DW_nil ?_ | refine W_A rfl ?_)
   exact ⟨rfl, _, rfl, rfl, rfl⟩
  ·have d2 : (!(Op.bytesLess a b || a == b)) = false := by rw [h1, h2]; rfl
   have e : cmpS a b = 0 := by simp [cmpS, h1, h2]
   rw [e]
   repeat' (first | refine DW_VB tabs rfl (by first | exact h1 | exact d2) ?_ | refine DW_A tabs rfl ?_ | refine DW_nil ?_ | refine W_A rfl ?_)
   exact ⟨rfl, _, rfl, rfl, rfl⟩
 ·have e : cmpS a b = -1 := by simp [cmpS, h1]
  rw [e]
  repeat' (first | refine DW_VB tabs rfl h1 ?_ | refine DW_A tabs rfl ?_ | refine DW_nil ?_ | refine W_A rfl ?_)
  exact ⟨rfl, _, rfl, rfl, rfl⟩
end Go.Proofs.YtmgkebghojhocaaGreatDoor
/- Keys are compared as their texts and times. No further condition. -/
set_option linter.unusedVariables false
set_option linter.unusedSimpArgs false
namespace Go.Proofs.YtmgkebghojhocaaGreatDoor
open Go.Ab
structure Ky where
 path : Bytes
 time : Int
deriving DecidableEq
def Ky.av (k : Ky) : AV := .agg [.str k.path, .int .i64 k.time]
theorem closed_ky (k : Ky) : Closed k.av := closed_agg (closed2 closed_str closed_int)
/-- The first that is not 0, of two. -/
def first2 (a b : Int) : Int := if a = 0 then b else a
set_option maxRecDepth 100000 in
theorem first_ok (a b : Int) (tg : Tag) : APure Tryz.prog 184 [.sl 1 [.int .i64 a, .int .i64 b] tg] (.int .i64 (first2 a b)) := by
 intro M
 refine acalls_of tabOK Tryz.func184 rfl (by decide) (by simp [Tryz.f184]) ?_
 repeat' (first | refine DW_A tabs rfl ?_ | refine DW_nil ?_ | refine W_A rfl ?_)
 refine W_loop (fun m f N => N = M ∧ ((m = 2 ∧ f = ⟨[(5, .sl 1 [.int .i64 a, .int .i64 b] tg), (6, .int .i64 2), (7, .int .i64 0)], []⟩) ∨ (a = 0 ∧ m = 1 ∧ f = ⟨[(5, .sl 1 [.int .i64 a, .int .i64 b] tg), (6, .int .i64 2), (7, .int .i64 1)], []⟩) ∨
  (a = 0 ∧ b = 0 ∧ m = 0 ∧ f = ⟨[(5, .sl 1 [.int .i64 a, .int .i64 b] tg), (6, .int .i64 2), (7, .int .i64 2)], []⟩))) (k := 2) ⟨rfl, .inl ⟨rfl, rfl⟩⟩ (Joint.le ?_ (Mem.le_refl _)) ?_
 ·skip
  repeat (refine AF.le_cons rfl ?_)
  exact AF.le_nil rfl
 ·rintro m f N ⟨rfl, ⟨rfl, rfl⟩ | ⟨rfl, rfl, rfl⟩ | ⟨rfl, rfl, rfl, rfl⟩⟩
  ·have w1 : IntKind.wrap .i64 (0 + 1) = 1 := rfl
   repeat' (first | refine DW_VI tabs rfl w1 ?_ | refine DW_A tabs rfl ?_ | refine DW_nil ?_ | refine W_A rfl ?_)
   refine DW_index tabOK rfl rfl rfl rfl rfl rfl rfl rfl rfl rfl (by decide) (x := .int .i64 a) rfl ?_
   by_cases h : a = 0
   ·have d : (!decide (a = 0)) = false := by simp [h]
    repeat' (first | refine DW_VB tabs rfl d ?_ | refine DW_VI tabs rfl w1 ?_ | refine DW_A tabs rfl ?_ | refine DW_nil ?_ | refine W_A rfl ?_)
    exact ⟨1, _, _, by omega, ⟨rfl, .inr (.inl ⟨h, rfl, rfl⟩)⟩, Joint.le (AF.le_cons rfl (AF.le_cons rfl (AF.le_cons rfl (AF.le_nil rfl)))) (Mem.le_refl _)⟩
   ·have d : (!decide (a = 0)) = true := by simp [h]
    repeat' (first | refine DW_VB tabs rfl d ?_ | refine DW_VI tabs rfl w1 ?_ | refine DW_A tabs rfl ?_ | refine DW_nil ?_ | refine W_A rfl ?_)
    exact ⟨rfl, _, rfl, ret_int (by simp [first2, h]), rfl⟩
  ·have w1 : IntKind.wrap .i64 (1 + 1) = 2 := rfl
   repeat' (first | refine DW_VI tabs rfl w1 ?_ | refine DW_A tabs rfl ?_ | refine DW_nil ?_ | refine W_A rfl ?_)
   refine DW_index tabOK rfl rfl rfl rfl rfl rfl rfl rfl rfl rfl (by decide) (x := .int .i64 b) rfl ?_
   by_cases h : b = 0
   ·have d : (!decide (b = 0)) = false := by simp [h]
    repeat' (first | refine DW_VB tabs rfl d ?_ | refine DW_VI tabs rfl w1 ?_ | refine DW_A tabs rfl ?_ | refine DW_nil ?_ | refine W_A rfl ?_)
    exact ⟨0, _, _, by omega, ⟨rfl, .inr (.inr ⟨rfl, h, rfl, rfl⟩)⟩, Joint.le (AF.le_cons rfl (AF.le_cons rfl (AF.le_cons rfl (AF.le_nil rfl)))) (Mem.le_refl _)⟩
   ·have d : (!decide (b = 0)) = true := by simp [h]
    repeat' (first | refine DW_VB tabs rfl d ?_ | refine DW_VI tabs rfl w1 ?_ | refine DW_A tabs rfl ?_ | refine DW_nil ?_ | refine W_A rfl ?_)
    exact ⟨rfl, _, rfl, ret_int (by simp [first2]), rfl⟩
  ·repeat' (first | refine DW_A tabs rfl ?_ | refine DW_nil ?_ | refine W_A rfl ?_)
   exact ⟨rfl, _, rfl, ret_int (by simp [first2]), rfl⟩
def toS (a b : Ky) : Int := first2 (cmpS a.path b.path) (cmpI b.time a.time)
set_option maxRecDepth 100000 in
theorem to_ok (a b : Ky) : APure Tryz.prog 172 [a.av, b.av] (.int .i64 (toS a b)) := by
 intro M
 refine acalls_of tabOK Tryz.func172 rfl (by decide) (by simp [Tryz.f172]) ?_
 repeat' (first | refine DW_A tabs rfl ?_ | refine DW_nil ?_ | refine W_A rfl ?_ | refine DW_row tabOK rfl ?_ | refine W_draw mixed [0, 1, 2, 3, 4, 5, 6, 7, 8, 9, 10, 11, 12] [.R, .R, .R, .R, .P, .R, .R, .R, .R, .P, .P, .P, .P] rfl rfl (by kernel_rfl) ?_)
 refine DW_pure rfl rfl rfl rfl rfl (compareS_ok a.path b.path) ?_
 repeat' (first | refine DW_A tabs rfl ?_ | refine DW_nil ?_ | refine W_A rfl ?_ | refine DW_row tabOK rfl ?_ | refine W_draw mixed [0, 1, 2, 3, 4, 5, 6, 7, 8, 9, 10, 11, 12] [.R, .R, .R, .R, .P, .R, .R, .R, .R, .P, .P, .P, .P] rfl rfl (by kernel_rfl) ?_)
 refine DW_pure rfl rfl rfl rfl rfl (compareI_ok b.time a.time) ?_
 repeat' (first | refine DW_A tabs rfl ?_ | refine DW_nil ?_ | refine W_A rfl ?_ | refine DW_row tabOK rfl ?_ | refine W_draw mixed [0, 1, 2, 3, 4, 5, 6, 7, 8, 9, 10, 11, 12] [.R, .R, .R, .R, .P, .R, .R, .R, .R, .P, .P, .P, .P] rfl rfl (by kernel_rfl) ?_)
 refine DW_pure rfl rfl rfl rfl rfl (first_ok (cmpS a.path b.path) (cmpI b.time a.time) _) ?_
 repeat' (first | refine DW_A tabs rfl ?_ | refine DW_nil ?_ | refine W_A rfl ?_ | refine DW_row tabOK rfl ?_ | refine W_draw mixed [0, 1, 2, 3, 4, 5, 6, 7, 8, 9, 10, 11, 12] [.R, .R, .R, .R, .P, .R, .R, .R, .R, .P, .P, .P, .P] rfl rfl (by kernel_rfl) ?_)
 exact ⟨rfl, _, rfl, rfl, rfl⟩
set_option maxRecDepth 100000 in
theorem compare_ok (a b : Ky) : APure Tryz.prog 149 [a.av, b.av] (.int .i64 (toS a b)) := by
 intro M
 refine acalls_of tabOK Tryz.func149 rfl (by decide) (by simp [Tryz.f149]) ?_
 repeat' (first | refine DW_A tabs rfl ?_ | refine DW_nil ?_ | refine W_A rfl ?_)
 refine DW_pure rfl rfl rfl rfl rfl (to_ok a b) ?_
 repeat' (first | refine DW_A tabs rfl ?_ | refine DW_nil ?_ | refine W_A rfl ?_)
 exact ⟨rfl, _, rfl, rfl, rfl⟩
set_option maxRecDepth 100000 in
theorem less_ok (a b : Ky) : APure Tryz.prog 118 [a.av, b.av] (.bool (decide (toS a b < 0))) := by
 intro M
 refine acalls_of tabOK Tryz.func118 rfl (by decide) (by simp [Tryz.f118]) ?_
 repeat' (first | refine DW_A tabs rfl ?_ | refine DW_nil ?_ | refine W_A rfl ?_)
 refine DW_pure rfl rfl rfl rfl rfl (compare_ok a b) ?_
 repeat' (first | refine DW_A tabs rfl ?_ | refine DW_nil ?_ | refine W_A rfl ?_)
 exact ⟨rfl, _, rfl, rfl, rfl⟩
end Go.Proofs.YtmgkebghojhocaaGreatDoor
/- The document's keys are compared as their texts and times. No further condition. -/
set_option linter.unusedVariables false
set_option linter.unusedSimpArgs false
namespace Go.Proofs.YtmgkebghojhocaaGreatDoor
open Go.Ab
def rless (a b : Ky) : Bool := Op.bytesLess a.path b.path || (a.path == b.path && decide (b.time < a.time))
def rcmp (a b : Ky) : Int := if rless a b = true then -1 else if rless b a = true then 1 else 0
set_option maxRecDepth 100000 in
theorem rless_ok (a b : Ky) : APure Tryz.prog 97 [a.av, b.av] (.bool (rless a b)) := by
 intro M
 refine acalls_of tabOK Tryz.func97 rfl (by decide) (by simp [Tryz.f97]) ?_
 unfold rless
 cases h1 : Op.bytesLess a.path b.path
 ·cases h2 : a.path == b.path
  ·repeat' (first | refine DW_VB tabs rfl (by first | exact h1 | exact h2) ?_ | refine DW_A tabs rfl ?_ | refine DW_nil ?_ | refine W_A rfl ?_)
   exact ⟨rfl, _, rfl, rfl, rfl⟩
  ·repeat' (first | refine DW_VB tabs rfl (by first | exact h1 | exact h2) ?_ | refine DW_A tabs rfl ?_ | refine DW_nil ?_ | refine W_A rfl ?_)
   exact ⟨rfl, _, rfl, rfl, rfl⟩
 ·repeat' (first | refine DW_VB tabs rfl h1 ?_ | refine DW_A tabs rfl ?_ | refine DW_nil ?_ | refine W_A rfl ?_)
  exact ⟨rfl, _, rfl, rfl, rfl⟩
end Go.Proofs.YtmgkebghojhocaaGreatDoor
/- Keys in their order, in plain words. No further condition. -/
set_option linter.unusedVariables false
set_option linter.unusedSimpArgs false
namespace Go.Proofs.YtmgkebghojhocaaGreatDoor
open Go.Ab
abbrev bl (a b : Bytes) : Bool := Op.bytesLess a b
theorem bl_irrefl : ∀ a : Bytes, bl a a = false
 | [] => rfl
 | b :: l => by
  have := bl_irrefl l
  simp only [bl, Op.bytesLess] at this ⊢
  rw [this]
  simp
theorem bl_trans : ∀ {a b c : Bytes}, bl a b = true → bl b c = true → bl a c = true
 | _, _, [], _, h => by simp [bl, Op.bytesLess] at h
 | _, [], _ :: _, h, _ => by simp [bl, Op.bytesLess] at h
 | [], _ :: _, _ :: _, _, _ => rfl
 | x :: a, y :: b, z :: c, h1, h2 => by
  simp only [bl, Op.bytesLess, Bool.or_eq_true, Bool.and_eq_true, decide_eq_true_eq, beq_iff_eq, UInt8.lt_iff_toNat_lt] at h1 h2 ⊢
  rcases h1 with h1 | ⟨rfl, h1⟩
  ·rcases h2 with h2 | ⟨rfl, h2⟩
   ·exact .inl (by omega)
   ·exact .inl h1
  ·rcases h2 with h2 | ⟨rfl, h2⟩
   ·exact .inl h2
   ·exact .inr ⟨rfl, bl_trans (a := a) (b := b) (c := c) h1 h2⟩
theorem bl_total : ∀ {a b : Bytes}, a ≠ b → bl a b = true ∨ bl b a = true
 | [], [], h => absurd rfl h
 | [], _ :: _, _ => .inl rfl
 | _ :: _, [], _ => .inr rfl
 | x :: a, y :: b, h => by
  simp only [bl, Op.bytesLess, Bool.or_eq_true, Bool.and_eq_true, decide_eq_true_eq, beq_iff_eq, UInt8.lt_iff_toNat_lt]
  by_cases e : x = y
  ·subst e
   rcases bl_total (a := a) (b := b) (fun e => h (by rw [e])) with h1 | h1
   ·exact .inl (.inr ⟨rfl, h1⟩)
   ·exact .inr (.inr ⟨rfl, h1⟩)
  ·have : x.toNat ≠ y.toNat := fun he => e (UInt8.toNat_inj.1 he)
   rcases Nat.lt_or_gt_of_ne this with h1 | h1
   ·exact .inl (.inl h1)
   ·exact .inr (.inl h1)
theorem bl_asymm {a b : Bytes} (h : bl a b = true) : bl b a = false := by
 cases hb : bl b a
 ·rfl
 ·have := bl_trans h hb
  rw [bl_irrefl] at this
  cases this
theorem cmpS_neg (a b : Bytes) : cmpS a b = if bl a b = true then -1 else if a = b then 0 else 1 := by
 unfold cmpS
 simp only [beq_iff_eq]
theorem toS_rcmp (a b : Ky) : toS a b = rcmp a b := by
 unfold toS rcmp rless first2
 rw [cmpS_neg]
 unfold cmpI
 by_cases h1 : bl a.path b.path = true
 ·have : Op.bytesLess a.path b.path = true := h1
  simp [this]
 ·have h1' : Op.bytesLess a.path b.path = false := by simpa using h1
  by_cases h2 : a.path = b.path
  ·have h3 : Op.bytesLess b.path a.path = false := by rw [h2]; exact bl_irrefl _
   have h4 : Op.bytesLess b.path b.path = false := bl_irrefl _
   by_cases h5 : b.time < a.time
   ·simp [h2, h4, h5]
   ·by_cases h6 : a.time < b.time
    ·simp [h2, h4, h5, h6]
    ·simp [h2, h4, h5, h6]
  ·have h3 : Op.bytesLess b.path a.path = true := by
    rcases bl_total h2 with h | h
    ·exact absurd h h1
    ·exact h
   simp [h1', h2, h3, Ne.symm h2]
theorem rless_asymm {a b : Ky} (h : rless a b = true) : rless b a = false := by
 unfold rless at h ⊢
 simp only [Bool.or_eq_true, Bool.and_eq_true, beq_iff_eq, decide_eq_true_eq] at h
 rcases h with h | ⟨h1, h2⟩
 ·have h3 := bl_asymm h
  have h4 : ¬ b.path = a.path := fun e => by
   rw [e] at h
   have := bl_irrefl a.path
   simp only [bl] at this
   rw [this] at h
   cases h
  simp only [bl] at h3
  simp [h3, h4]
 ·have h3 := bl_irrefl b.path
  simp only [bl] at h3
  rw [h1, h3]
  simp
  omega
theorem toS_neg (a b : Ky) : decide (toS a b < 0) = rless a b := by
 rw [toS_rcmp]
 unfold rcmp
 cases h : rless a b
 ·simp
  split <;> omega
 ·simp
theorem rless_trans {a b c : Ky} (h1 : rless a b = true) (h2 : rless b c = true) : rless a c = true := by
 unfold rless at h1 h2 ⊢
 simp only [Bool.or_eq_true, Bool.and_eq_true, beq_iff_eq, decide_eq_true_eq] at h1 h2 ⊢
 rcases h1 with h1 | ⟨h1, h1'⟩
 ·rcases h2 with h2 | ⟨h2, h2'⟩
  ·exact .inl (bl_trans h1 h2)
  ·rw [h2] at h1
   exact .inl h1
 ·rcases h2 with h2 | ⟨h2, h2'⟩
  ·rw [h1]
   exact .inl h2
  ·exact .inr ⟨h1.trans h2, by omega⟩
theorem rless_total {a b : Ky} (h : a ≠ b) : rless a b = true ∨ rless b a = true := by
 unfold rless
 simp only [Bool.or_eq_true, Bool.and_eq_true, beq_iff_eq, decide_eq_true_eq]
 by_cases hp : a.path = b.path
 ·have ht : a.time ≠ b.time := fun e => h (by cases a; cases b; simp_all)
  rcases Int.lt_or_gt_of_ne ht with h1 | h1
  ·exact .inr (.inr ⟨hp.symm, h1⟩)
  ·exact .inl (.inr ⟨hp, h1⟩)
 ·rcases bl_total hp with h1 | h1
  ·exact .inl (.inl h1)
  ·exact .inr (.inl h1)
end Go.Proofs.YtmgkebghojhocaaGreatDoor
