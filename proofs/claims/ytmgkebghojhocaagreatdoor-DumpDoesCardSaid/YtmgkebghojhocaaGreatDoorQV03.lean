/- Parts of the proof, one behind the other: AbA9, AbB1. No further condition. -/
import Derived.Test.YtmgkebghojhocaaGreatDoorQV02
import Derived.RangeFuncLeaves
import Derived.RangeFuncOne
import Derived.RangeFuncCalls
import Derived.OrdersIn
import Derived.TacticsIn
set_option linter.unusedVariables false
set_option linter.unusedSimpArgs false
/- append, at the operation. -/
set_option linter.unusedVariables false
set_option linter.unusedSimpArgs false
namespace Go.Ab
open Go.RowKit
/-- The arm that has room. -/
theorem append_room {P : Program} {τ : Tab} (hτ : TabOK P τ) {t tx ty e : TypeId} {ti ei : TI} (hin : AppIn P τ t e ti ei) {μ : Mu} {F : Frm} {M : Mem} {w : World} (hg : Gam μ F M w)
  {b cap : Nat} {vals : Nat → Value} {xs ys : List AV} (hsx : ∀ x, x ∈ xs → x.cells.length = ei.size) (hsy : ∀ x, x ∈ ys → x.cells.length = ei.size)
  (hat : ∀ (p : Nat) (c : AV), (flat xs)[p]? = some c → At μ F w b p c (vals p))
  {x : Value} {news : List Value} (hsrc : Src P ei.size tx x ys.length news w) (hnew : ∀ (p : Nat) (c : AV) (u : Value), (flat ys)[p]? = some c → news[p]? = some u → Rep μ F w c u)
  (hroom : xs.length + ys.length ≤ cap) {id g0 : Nat} (hM : M.get id = some (.spare g0)) (hid : μ id = some (.spare (some (b, xs.length * ei.size)) g0))
  {c : Array Value} {tb : TypeId} {fr : Nat × Nat} (hb : w.heap[b]? = some (.cells c tb fr)) (hcap : cap * ei.size ≤ c.size) (hsoft : Soft fr c.size) :
  ∃ μ' v w', (Builtin.append_ #[t, tx] ty #[.slice (some ⟨b, 0, none⟩) xs.length cap, x]).run P w = .ok v w' ∧ Evo w μ w' μ' ∧
   (∀ M', M'.next = (if id = M.next then M.next + 1 else M.next) → (∀ i, M'.get i = if i = id then some (.spare (g0 + 1)) else M.get i) → Gam μ' F M' w') ∧ Rep μ' F w' (.sl ei.size (xs ++ ys) (.tok id (g0 + 1))) v := by
 obtain ⟨ft, dt, zt, HT⟩ := TI.spec hτ hin.tl
 obtain ⟨fe, de, ze, HE⟩ := TI.spec hτ hin.el
 have hf := HT.fits
 rw [hin.tk] at hf
 have hdd : dt = .slice e := by
  cases dt <;> simp [TK.fits] at hf
  rw [hf]
 subst hdd
 have hlx := flat_length hsx
 have hly := flat_length hsy
 have hnl := hsrc.newsLen
 have hsrc' : Src P fe.size tx x ys.length news w := by rw [HE.size]; exact hsrc
 have hfl : (xs.length + ys.length) * ei.size ≤ c.size := Nat.le_trans (Nat.mul_le_mul_right _ hroom) hcap
 have hfl' : xs.length * ei.size + news.length ≤ c.size := by rw [hnl, ← Nat.add_mul]; exact hfl
 have hrun := run_append_room_src (P := P) w t tx ty e fe HT.und HE.info b 0 xs.length cap x ys.length news hsrc' hroom (fun j hj => by
   rw [HE.size, cell_mk hb, Nat.zero_add, Array.getElem?_eq_getElem (by omega)]; rfl) (fun j hj => by
   rw [HE.size]
   have hs := hsoft (0 + xs.length * ei.size + j) (by omega)
   simp only [World.frozen?, hb]
   simp only [Bool.and_eq_false_iff, decide_eq_false_iff_not]
   rcases Nat.lt_or_ge (0 + xs.length * ei.size + j) fr.1 with h | h
   ·exact .inl (by omega)
   ·exact .inr (fun h' => hs ⟨h, h'⟩))
 rw [HE.size, Nat.zero_add] at hrun
 obtain ⟨hw, c', hc', hs', hget⟩ := setCells_row b news (xs.length * ei.size) c tb fr w hb hfl'
 obtain ⟨hev, hG⟩ := gam_room hg (w' := w.setCells b (xs.length * ei.size) news) (p := some (b, (xs.length + ys.length) * ei.size)) hw.os hw.tape hw.output (Nat.le_of_eq hw.size.symm) (id := id) (g := g0 + 1) (.inr
   ⟨some (b, xs.length * ei.size), g0, hM, hid, Nat.lt_succ_self _, fun k hk hne => hw.other k (fun e => hne (xs.length * ei.size) (by rw [e])), fun k e' hq c1 ty1 fr1 hc1 => by
    cases hq
    rw [hb] at hc1
    cases hc1
    exact ⟨c', hc', hs', fun o ho => by rw [hget, if_neg (by omega)]⟩⟩) (by
   intro b' e' hbe
   cases hbe
   exact ⟨⟨c', tb, fr, hc', by rw [hs']; exact hfl, by rw [hs']; exact hsoft⟩, .inr ⟨xs.length * ei.size, g0, hid, Nat.mul_le_mul_right _ (Nat.le_add_right _ _)⟩⟩)
 refine ⟨_, _, _, hrun, hev, hG, ?_⟩
 have hR := rep_sl (μ := μ.put id (.spare (some (b, (xs.length + ys.length) * ei.size)) (g0 + 1))) (F := F) (w := w.setCells b (xs.length * ei.size) news) (sz := ei.size) (xs := xs ++ ys) (t := .tok id (g0 + 1)) (A := some ⟨b, 0, none⟩) (cap := cap) (b := b) (o := 0)
  (vals := fun p => c'.getD p undef) (by
   intro y hy
   rcases List.mem_append.1 hy with h | h
   ·exact hsx y h
   ·exact hsy y h) (by rw [List.length_append]; exact hroom) (fun _ => rfl) (by
   intro p q hq
   have hp : p < (xs.length + ys.length) * ei.size := by
    have := (List.getElem?_eq_some_iff.1 hq).1
    rwa [flat_append, List.length_append, hlx, hly, ← Nat.add_mul] at this
   have hval : c'[p]? = some (c'.getD p undef) := by
    have : p < c'.size := by omega
    simp [Array.getD, this]
   have hrep : Rep μ F w q (c'.getD p undef) ∧ (c'.getD p undef).oneCell' = true := by
    have hv := hval
    rw [hget] at hv
    rw [flat_append] at hq
    by_cases hpx : p < (flat xs).length
    ·rw [List.getElem?_append_left hpx] at hq
     rw [if_neg (by omega)] at hv
     have ha := hat p q hq
     have hcell := ha.cell
     rw [cell_mk hb, hv] at hcell
     injection hcell with hcell
     rw [hcell]
     exact ⟨ha.rep, ha.one⟩
    ·rw [List.getElem?_append_right (by omega)] at hq
     have hnp : p - (flat xs).length < news.length := by
      have := (List.getElem?_eq_some_iff.1 hq).1
      rw [hnl, ← hly]
      exact this
     rw [if_pos (by omega), ← hlx] at hv
     exact ⟨hnew _ q _ hq hv, hsrc.one _ (List.mem_of_getElem? hv)⟩
   refine ⟨hrep.2, by rw [Nat.zero_add, cell_mk hc']; exact hval, ?_, hrep.1.evo hev⟩
   have hbl : b < w.heap.size := (Array.getElem?_eq_some_iff.1 hb).1
   refine ⟨hg.frm b p |> fun h hF => ?_, ?_⟩
   ·by_cases hpx : p < (flat xs).length
    ·rw [flat_append, List.getElem?_append_left hpx] at hq
     exact (hat p q hq).free.1 (by simpa using hF)
    ·exact h ⟨id, .inr ⟨_, g0, hid, by omega⟩⟩ (by simpa using hF)
   ·rintro ⟨i, h1 | ⟨e', g', h1, he⟩⟩
    ·unfold Mu.put at h1
     split at h1
     ·cases h1
     ·rename_i hi
      exact hi (hg.inj i id b (.inl h1) (.inr ⟨_, _, hid⟩))
    ·unfold Mu.put at h1
     split at h1
     ·cases h1
      omega
     ·rename_i hi
      exact hi (hg.inj i id b (.inr ⟨_, _, h1⟩) (.inr ⟨_, _, hid⟩))) (by
   refine .inr ⟨some (b, (xs.length + ys.length) * ei.size), g0 + 1, by simp [Mu.put], Nat.le_refl _, fun _ => ⟨rfl, by rw [List.length_append], c', tb, fr, hc', by rw [hs']; exact hcap⟩⟩)
 rw [List.length_append] at hR
 exact hR
/-- Nothing is appended. -/
theorem append_none {μ : Mu} {F : Frm} {M : Mem} {w : World} (hg : Gam μ F M w) {sz : Nat} {xs : List AV} {A : Option Addr} {tag : Tag} {cap : Nat} (hr : Rep μ F w (.sl sz xs tag) (.slice A xs.length cap)) (hc : cap = xs.length)
  {sz' : Nat} (hsx : sz' = sz ∨ xs = []) {id g : Nat} (hid : (id = M.next ∧ g = 0) ∨ ∃ q g0, M.get id = some (.spare g0) ∧ μ id = some (.spare q g0) ∧ g0 < g) :
  ∃ μ', Evo w μ w μ' ∧ (∀ M', M'.next = (if id = M.next then M.next + 1 else M.next) → (∀ i, M'.get i = if i = id then some (.spare g) else M.get i) → Gam μ' F M' w) ∧ Rep μ' F w (.sl sz' xs (.tok id g)) (.slice A xs.length cap) := by
 obtain ⟨hev, hG⟩ := gam_room hg (w' := w) (p := none) rfl rfl rfl (Nat.le_refl _) (id := id) (g := g) (by
   rcases hid with ⟨h1, _⟩ | ⟨q, g0, h1, h2, h3⟩
   ·exact .inl ⟨h1, fun _ _ => rfl⟩
   ·exact .inr ⟨q, g0, h1, h2, h3, fun _ _ _ => rfl, fun k e hq c ty fr hc => ⟨c, hc, rfl, fun _ _ => rfl⟩⟩) (by intro b e h; cases h)
 refine ⟨_, hev, hG, ?_⟩
 have hr' := hr.evo hev
 obtain ⟨A', cap', b, o, vals, hv, hsz, hcap, hA, hat, htag⟩ := hr'.sl_flat
 cases hv
 refine rep_sl (b := b) (o := o) (vals := vals) ?_ hcap hA hat (.inr ⟨none, g, by simp [Mu.put], Nat.le_refl _, fun _ => hc⟩)
 rcases hsx with rfl | rfl
 ·exact hsz
 ·simp
/-- append(s, x): s has no spare room, or the one who appends owns it. -/
theorem opE_append {P : Program} {τ : Tab} (hτ : TabOK P τ) {t tx e : TypeId} {ti ei xi : TI} (hin : AppIn P τ t e ti ei) (hxi : lookup τ tx = some xi) {s x : Operand} {ty : TypeId} {ρ : Operand → AV} {M M' : Mem}
  {sz : Nat} {xs ys : List AV} {tag : Tag} (hS : ρ s = .sl sz xs tag) (hsz : sz = ei.size ∨ xs = []) (hf : srcFits xi.k (ρ x) = true) (hX : srcOf ei.size (ρ x) = some ys)
  (hb : (xs.length + ys.length) * ei.bytes ≤ 140737488355328) (hl : xs.length + ys.length ≤ 140737488355328) {id g : Nat}
  (hid : (tag = .full ∧ id = M.next ∧ g = 0 ∧ M' = M.push (.spare 0)) ∨ ∃ g0, sz = ei.size ∧ tag = .tok id g0 ∧ M.get id = some (.spare g0) ∧ g = g0 + 1 ∧ M' = M.set id (.spare g)) :
  OpE P (.call { callee := .builtin .append, args := #[s, x], argTypes := #[t, tx] }) ty ρ M (.sl ei.size (xs ++ ys) (.tok id g)) M' := by
 intro μ F w ρc o hg ho hty hr
 have hs := hr s (by simp [Op.operands, Call.operands])
 have hx := hr x (by simp [Op.operands, Call.operands])
 rw [hS] at hs
 obtain ⟨hsy, news, hsrc, hnew⟩ := src_of hτ hxi hf hX hx
 have hM' : M'.next = (if id = M.next then M.next + 1 else M.next) ∧ ∀ i, M'.get i = if i = id then some (.spare g) else M.get i := by
  rcases hid with ⟨_, rfl, rfl, rfl⟩ | ⟨g0, _, _, hM, rfl, rfl⟩
  ·exact ⟨by simp [Mem.push], fun i => Mem.get_push _ _ _⟩
  ·refine ⟨?_, fun i => Mem.get_set _ _ _ _⟩
   have : id < M.next := by
    obtain ⟨p, h1, _⟩ := hg.spare id g0 hM
    exact (hg.dom id).1 (by rw [h1]; simp)
   rw [if_neg (by omega)]
   rfl
 have hrun : ∀ v w', (Builtin.append_ #[t, tx] o.type #[ρc s, ρc x]).run P w = .ok v w' → (execOp ρc o).run P w = .ok (.value v) w' := by
  intro v w' h
  simp [execOp, ho, resolve, invoke, builtin, h]
 suffices h : ∃ μ' v w', (Builtin.append_ #[t, tx] o.type #[ρc s, ρc x]).run P w = .ok v w' ∧ Evo w μ w' μ' ∧
   (∀ M', M'.next = (if id = M.next then M.next + 1 else M.next) → (∀ i, M'.get i = if i = id then some (.spare g) else M.get i) → Gam μ' F M' w') ∧ Rep μ' F w' (.sl ei.size (xs ++ ys) (.tok id g)) v by
  obtain ⟨μ', v, w', h1, h2, h3, h4⟩ := h
  exact ⟨μ', .value v, v, w', hrun v w' h1, .inl rfl, h2, h3 M' hM'.1 hM'.2, h4⟩
 have hs0 := hs
 obtain ⟨A, cap, b, off, vals, hv, hsx0, hcap, hA, hat, htag⟩ := hs.sl_flat
 rw [hv] at hs0
 have hsx : ∀ y, y ∈ xs → y.cells.length = ei.size := by
  rcases hsz with rfl | rfl
  ·exact hsx0
  ·simp
 rw [hv]
 have hid' : (id = M.next ∧ g = 0) ∨ ∃ q g0, M.get id = some (.spare g0) ∧ μ id = some (.spare q g0) ∧ g0 < g := by
  rcases hid with ⟨_, h1, h2, _⟩ | ⟨g0, _, _, hM, rfl, _⟩
  ·exact .inl ⟨h1, h2⟩
  ·obtain ⟨p, h1, _⟩ := hg.spare id g0 hM
   exact .inr ⟨p, g0, hM, h1, Nat.lt_succ_self _⟩
 by_cases hgrow : cap < xs.length + ys.length
 ·exact append_grow hτ hin hg hsx hsy hA hat hsrc hnew hgrow hb hl hid'
 ·-- there is room: nothing comes, or the room is ours
  have none_ : cap = xs.length → ∃ μ' v w', (Builtin.append_ #[t, tx] o.type #[.slice A xs.length cap, ρc x]).run P w = .ok v w' ∧ Evo w μ w' μ' ∧
    (∀ M', M'.next = (if id = M.next then M.next + 1 else M.next) → (∀ i, M'.get i = if i = id then some (.spare g) else M.get i) → Gam μ' F M' w') ∧ Rep μ' F w' (.sl ei.size (xs ++ ys) (.tok id g)) v := by
   intro hc
   have hy : ys = [] := List.eq_nil_of_length_eq_zero (by omega)
   subst hy
   have hn : news = [] := by
    have := hsrc.newsLen
    simp at this
    exact this
   subst hn
   obtain ⟨ft, dt, zt, HT⟩ := TI.spec hτ hin.tl
   obtain ⟨fe, de, ze, HE⟩ := TI.spec hτ hin.el
   have hfi := HT.fits
   rw [hin.tk] at hfi
   have hdd : dt = .slice e := by
    cases dt <;> simp [TK.fits] at hfi
    rw [hfi]
   subst hdd
   obtain ⟨μ', h1, h2, h3⟩ := append_none hg hs0 hc (hsz.imp Eq.symm (fun h => h)) hid'
   refine ⟨μ', _, w, run_append_nothing' HT.und HE.info (by rw [HE.size]; exact hsrc) (by omega), h1, h2, ?_⟩
   rw [List.append_nil]
   exact h3
  rcases hid with ⟨rfl, rfl, rfl, rfl⟩ | ⟨g0, hsze, rfl, hM, rfl, rfl⟩
  ·exact none_ htag
  ·obtain ⟨p, hp, hpb⟩ := hg.spare id g0 hM
   rcases htag with hd | ⟨q, g', hq, hle, hroom⟩
   ·rw [hp] at hd; cases hd
   ·rw [hp] at hq
    cases hq
    have hro := hroom rfl
    cases p with
    | none => exact none_ hro
    | some be =>
     obtain ⟨b', e'⟩ := be
     obtain ⟨hA', he', c, tb, fr, hc, hcs⟩ := hro
     obtain ⟨c2, tb2, fr2, hc2, _, hsoft⟩ := hpb b' e' rfl
     rw [hc] at hc2
     cases hc2
     subst hsze
     subst he'
     have hat' : ∀ (p : Nat) (c : AV), (flat xs)[p]? = some c → At μ F w b' p c (vals p) := by
      intro p c h
      have h1 : 0 < xs.length := by
       rcases Nat.eq_zero_or_pos xs.length with h0 | h0
       ·rw [List.eq_nil_of_length_eq_zero h0] at h
        simp [flat] at h
       ·exact h0
      have h2 := hA h1
      rw [h2] at hA'
      cases hA'
      have := hat p c h
      rwa [Nat.zero_add] at this
     rw [hA']
     exact append_room hτ hin hg hsx hsy hat' hsrc hnew (by omega) hM hp hc hcs hsoft
end Go.Ab
/- The logic: code walked over abstract frames and memories; calls by contracts. -/
set_option linter.unusedVariables false
set_option linter.unusedSimpArgs false
namespace Go.Ab
open Go.RowKit
/-- How a piece of code ends. -/
inductive AX where
 | normal
 | exit (id : Nat)
 | ret
 | panic (v : AV)
/-- How a call ends. -/
inductive AEnd where
 | ret (v : AV)
 | pan (v : AV)
def RepL (μ : Mu) (F : Frm) (w : World) (l : List AV) (c : Array Value) : Prop :=
 c.size = l.length ∧ ∀ (i : Nat) (x : AV) (v : Value), l[i]? = some x → c[i]? = some v → Rep μ F w x v
theorem RepL.evo {μ μ' : Mu} {F : Frm} {w w' : World} (hev : Evo w μ w' μ') {l : List AV} {c : Array Value} (h : RepL μ F w l c) : RepL μ' F w' l c :=
 ⟨h.1, fun i x v hx hv => (h.2 i x v hx hv).evo hev⟩
theorem RepL.nil {μ : Mu} {F : Frm} {w : World} : RepL μ F w [] #[] := ⟨rfl, by simp⟩
theorem RepL.app {μ : Mu} {F : Frm} {w : World} {l m : List AV} {c d : Array Value} (h : RepL μ F w l c) (k : RepL μ F w m d) : RepL μ F w (l ++ m) (c ++ d) := by
 refine ⟨by simp [h.1, k.1], ?_⟩
 intro i x v hx hv
 by_cases hi : i < l.length
 ·rw [List.getElem?_append_left hi] at hx
  rw [Array.getElem?_append_left (by rw [h.1]; exact hi)] at hv
  exact h.2 i x v hx hv
 ·rw [List.getElem?_append_right (by omega)] at hx
  rw [Array.getElem?_append_right (by rw [h.1]; omega), h.1] at hv
  exact k.2 _ x v hx hv
theorem RepL.cons {μ : Mu} {F : Frm} {w : World} {x : AV} {v : Value} (h : Rep μ F w x v) : RepL μ F w [x] #[v] := by
 refine ⟨rfl, ?_⟩
 intro i y u hy hu
 cases i with
 | zero => simp at hy hu; subst hy; subst hu; exact h
 | succ i => simp at hy
theorem RepL.map {μ : Mu} {F : Frm} {w : World} {ρ : Operand → AV} {ρc : Operand → Value} {xs : Array Operand} (h : ∀ x ∈ xs, Rep μ F w (ρ x) (ρc x)) : RepL μ F w (xs.toList.map ρ) (xs.map ρc) := by
 refine ⟨by simp, ?_⟩
 intro i x v hx hv
 simp only [List.getElem?_map, Array.getElem?_toList, Array.getElem?_map] at hx hv
 cases e : xs[i]? with
 | none => simp [e] at hx
 | some y =>
  simp [e] at hx hv
  subst hx; subst hv
  exact h y (Array.mem_of_getElem? e)
/-- A deferred call: what it calls, what that captured, its arguments. -/
structure ADef where
 f : Fn
 cap : List AV
 args : List AV
 keep : List (Nat × AV) := []
 mark : Option Nat := none
/-- Temporaries that are never written behind the deferring, and what they stand for. -/
def keepT : List ADef → List (Nat × AV)
 | [] => []
 | d :: r => d.keep ++ keepT r
structure DefRep1 (μ : Mu) (F : Frm) (w : World) (x : ADef) (d : Deferred) : Prop where
 tgt : x.mark = none → ∃ c, d.target = .fn x.f c ∧ RepL μ F w x.cap c
 args : RepL μ F w x.args d.args
 mrk : ∀ y, x.mark = some y → μ y ≠ none ∧ ∀ b, μ y = some (.at b) → d.target = .collected b
def DefRep (μ : Mu) (F : Frm) (w : World) : List ADef → List Deferred → Prop
 | [], [] => True
 | x :: l, d :: r => DefRep1 μ F w x d ∧ DefRep μ F w l r
 | _, _ => False
theorem DefRep.evo {μ μ' : Mu} {F : Frm} {w w' : World} (hev : Evo w μ w' μ') : ∀ {l : List ADef} {r : List Deferred}, DefRep μ F w l r → DefRep μ' F w' l r
 | [], [], _ => trivial
 | _ :: _, _ :: _, ⟨⟨h1, h3, h5⟩, h4⟩ => ⟨⟨fun h => (h1 h).imp fun _ h => ⟨h.1, h.2.evo hev⟩, h3.evo hev, fun y hy => by
   obtain ⟨k1, k2⟩ := h5 y hy
   rcases hev.mu y k1 with h' | h' | ⟨_, _, _, _, _, h', _⟩
   ·rw [h']
    exact ⟨k1, k2⟩
   ·exact ⟨by rw [h']; simp, fun b hb => by rw [h'] at hb; cases hb⟩
   ·exact ⟨by rw [h']; simp, fun b hb => by rw [h'] at hb; cases hb⟩⟩, DefRep.evo hev h4⟩
/-- A frame: what its temporaries stand for, and its deferred calls. -/
structure AF where
 t : List (Nat × AV)
 d : List ADef
def AF.get (f : AF) (i : Nat) : AV := (lookup f.t i).getD .top
def AF.ev (f : AF) : Operand → AV
 | .tmp t => f.get t
 | .const v => ofV v
 | .global _ => .top
 | .func g => .fn (.func g) [] []
def AF.put (f : AF) (dst : Option Tmp) (x : AV) : AF :=
 match dst with
 | some d => ⟨(d, x) :: f.t, f.d⟩
 | none => f
structure RepF (μ : Mu) (F : Frm) (w : World) (n : Nat) (f : AF) (a : Act) : Prop where
 size : a.tmps.size = n
 tmps : ∀ t, Rep μ F w (f.get t) (a.tmps.getD t undef)
 defs : DefRep μ F w f.d a.defers
 kept : ∀ p, p ∈ keepT f.d → Rep μ F w p.2 (a.tmps.getD p.1 undef)
theorem RepF.evo {μ μ' : Mu} {F : Frm} {w w' : World} (hev : Evo w μ w' μ') {n : Nat} {f : AF} {a : Act} (h : RepF μ F w n f a) : RepF μ' F w' n f a :=
 ⟨h.size, fun t => (h.tmps t).evo hev, h.defs.evo hev, fun p hp => (h.kept p hp).evo hev⟩
theorem RepF.ev {μ : Mu} {F : Frm} {w : World} {n : Nat} {f : AF} {a : Act} (h : RepF μ F w n f a) (x : Operand) : Rep μ F w (f.ev x) (a.eval x) := by
 cases x with
 | tmp t => exact h.tmps t
 | const v => exact rep_ofV _ _ _ _
 | global g => exact .top _
 | func g => exact .fn _ _ _ _ _ rfl rfl (by simp) (by simp)
theorem RepF.put {μ : Mu} {F : Frm} {w : World} {n : Nat} {f : AF} {a : Act} (h : RepF μ F w n f a) {dst : Option Tmp} (hd : ∀ d, dst = some d → d < n ∧ ∀ p, p ∈ keepT f.d → p.1 ≠ d) {x : AV} {v : Value} (hr : Rep μ F w x v) : RepF μ F w n (f.put dst x) (a.put dst v) := by
 cases dst with
 | none => exact h
 | some d =>
  obtain ⟨hlt, hk⟩ := hd d rfl
  refine ⟨by simp [Act.put, h.size], ?_, h.defs, fun p hp => by
   have := h.kept p hp
   simp only [Act.put]
   rw [Array.getD_eq_getD_getElem?, Array.getElem?_setIfInBounds_ne (Ne.symm (hk p hp)), ← Array.getD_eq_getD_getElem?]
   exact this⟩
  intro t
  simp only [AF.put, AF.get, lookup, Act.put]
  by_cases ht : t = d
  ·subst ht
   have : t < a.tmps.size := by rw [h.size]; exact hlt
   simp [Array.getElem?_setIfInBounds, this, hr]
  ·rw [if_neg ht]
   have := h.tmps t
   rw [Array.getD_eq_getD_getElem?, Array.getElem?_setIfInBounds_ne (by omega), ← Array.getD_eq_getD_getElem?]
   exact this
/-- What stands for x stands for y, too. -/
def Sub (x y : AV) : Prop := ∀ (μ : Mu) (F : Frm) (w : World) (v : Value), Rep μ F w x v → Rep μ F w y v
theorem Sub.refl {x : AV} : Sub x x := fun _ _ _ _ h => h
theorem Sub.top {x : AV} : Sub x .top := fun _ _ _ v _ => .top v
theorem Sub.of_eq {x y : AV} (h : x = y) : Sub x y := by subst h; exact Sub.refl
/-- A frame of which less is known. -/
def AF.le (g f : AF) : Prop := g.d = f.d ∧ ∀ t, Sub (f.get t) (g.get t)
theorem RepF.le {μ : Mu} {F : Frm} {w : World} {n : Nat} {f g : AF} {a : Act} (h : RepF μ F w n f a) (hg : g.le f) : RepF μ F w n g a :=
 ⟨h.size, fun t => hg.2 t _ _ _ _ (h.tmps t), by rw [hg.1]; exact h.defs, by rw [hg.1]; exact h.kept⟩
/-- A memory of which less is known. -/
def Mem.le (N M : Mem) : Prop := N.next = M.next ∧ ∀ i o, N.get i = some o → M.get i = some o
theorem Gam.le {μ : Mu} {F : Frm} {M N : Mem} {w : World} (h : Gam μ F M w) (hl : N.le M) : Gam μ F N w :=
 ⟨fun id => by rw [hl.1]; exact h.dom id, fun id l hM => h.obj id l (hl.2 id _ hM), fun id g hM => h.spare id g (hl.2 id _ hM), h.inj, h.frm, h.fit, fun id g o vs t hM => h.raw id g o vs t (hl.2 id _ hM)⟩
/-- A step that only the proof takes: other abstract values stand for the same machine's state (n0: the objects that there were at the beginning). -/
def Joint (n0 : Nat) (f : AF) (M : Mem) (g : AF) (N : Mem) : Prop :=
 ∀ (μ0 μ : Mu) (F : Frm) (w0 w : World) (n : Nat) (a : Act), (∀ id, μ0 id ≠ none → id < n0) → Evo w0 μ0 w μ → Gam μ F M w → RepF μ F w n f a → ∃ μ', Evo w0 μ0 w μ' ∧ Gam μ' F N w ∧ RepF μ' F w n g a
theorem Joint.refl {n0 : Nat} {f : AF} {M : Mem} : Joint n0 f M f M := fun μ0 μ F w0 w n a _ he hg hr => ⟨μ, he, hg, hr⟩
theorem Joint.trans {n0 : Nat} {f g h : AF} {M N L : Mem} (h1 : Joint n0 f M g N) (h2 : Joint n0 g N h L) : Joint n0 f M h L := by
 intro μ0 μ F w0 w n a hn he hg hr
 obtain ⟨μ1, e1, g1, r1⟩ := h1 μ0 μ F w0 w n a hn he hg hr
 exact h2 μ0 μ1 F w0 w n a hn e1 g1 r1
theorem Joint.le {n0 : Nat} {f g : AF} {M N : Mem} (hf : g.le f) (hM : N.le M) : Joint n0 f M g N := fun μ0 μ F w0 w n a _ he hg hr => ⟨μ, he, hg.le hM, hr.le hf⟩
def XRel (μ : Mu) (F : Frm) (w : World) : Exit → AX → Prop
 | .normal, .normal => True
 | .exit i, .exit j => i = j
 | .ret, .ret => True
 | .panic ch, .panic x => ∃ v, ch = [{ v, recovered := false }] ∧ Rep μ F w x v
 | _, _ => False
def Post (n : Nat) (Q : AX → AF → Mem → Prop) (μ : Mu) (F : Frm) (w : World) : Exit → Act → World → Prop :=
 fun e a' w' => ∃ μ' f' M' x, Evo w μ w' μ' ∧ Gam μ' F M' w' ∧ RepF μ' F w' n f' a' ∧ XRel μ' F w' e x ∧ Q x f' M'
/-- Code runs in a plain frame (none), or in a round of a range over a function. -/
def fn0 (r : Option Nat) : Fence := { Fence.wide with round := r }
theorem wpIn_n {r : Option Nat} {n m : Nat} {P : Program} {c : Code} {Q : Exit → Act → World → Prop} {a : Act} {w : World} (h : c.wpIn (fn0 r) n P Q a w) : c.wpIn (fn0 r) m P Q a w :=
 fun b k cs h1 h2 _ => h b k cs h1 h2 (fun d hd => by cases hd)
theorem wp_of0 {n : Nat} {P : Program} {c : Code} {Q : Exit → Act → World → Prop} {a : Act} {w : World} (h : c.wpIn (fn0 none) n P Q a w) : c.wp P Q a w := (wpIn_wide (n := n)).1 h
theorem callsIn0 {r : Option Nat} {n : Nat} {P : Program} {g : FuncId} {vs : Array Value} {w : World} {R : Ending → World → Prop} (h : Calls P g vs w R) : CallsIn (fn0 r) n P g vs w R := callsIn_wide.2 h
theorem semAt_val {r : Option Nat} {P : Program} {ρ : Operand → Value} {o : Oper} {w w' : World} {nx : Next} (h : (execOp ρ o).run P w = .ok nx w') (hn : ∀ d, nx ≠ .defer d) : (o.semAt r ρ).run P w = .ok nx w' := by
 rw [Oper.semAt_eq r ρ o, h]
 intro c hc
 simp only [execOp, hc, Sem.run_bind] at h
 cases hr : (resolve ρ c o.type).run P w with
 | halt x w2 => rw [hr] at h; simp [Result.andThen] at h
 | ok d w2 => rw [hr] at h; simp [Result.andThen] at h; exact hn d h.1.symm
theorem upon_val {r : Option Nat} {P : Program} {o : Oper} {a : Act} {w w' : World} {next : Act → World → Prop} {Q : Exit → Act → World → Prop} {v : Value} {nx : Next} (h : (execOp a.eval o).run P w = .ok nx w') (hv : nx = .value v ∨ nx = .skip ∧ v = undef)
  (hk : next (a.put o.dst v) w') : o.wpIn (fn0 r) 9 P a w next Q := by
 refine ⟨fun _ _ => trivial, ?_⟩
 have := semAt_val (r := r) h (by rcases hv with rfl | ⟨rfl, rfl⟩ <;> intro d e <;> cases e)
 show o.uponIn (fn0 r) 9 P a next Q ((o.semAt r a.eval).run P w)
 rw [this]
 rcases hv with rfl | ⟨rfl, rfl⟩ <;> exact hk
theorem rowsIn0 {r : Option Nat} {n : Nat} {P : Program} {row : String} {vs : Array Value} {w : World} {R : Value → World → Prop} (h : Rows P row vs w R) : RowsIn (fn0 r) n P row vs w R := by
 intro c cs _
 obtain ⟨v, w', h1, h2⟩ := h c cs
 exact ⟨v, w', h1, stepsIn_wide.2 h2⟩
/-- What is carried out in a plain frame is so in a round, but for a deferring. -/
theorem wpIn_of_wp {r : Option Nat} {n : Nat} {P : Program} {o : Oper} {a : Act} {w : World} {next : Act → World → Prop} {Q : Exit → Act → World → Prop} (hnd : ∀ c, o.op ≠ .defer c) (h : o.wp P a w next Q) : o.wpIn (fn0 r) n P a w next Q := by
 refine ⟨fun _ _ => trivial, ?_⟩
 show o.uponIn (fn0 r) n P a next Q ((o.semAt r a.eval).run P w)
 rw [Oper.semAt_eq r _ o hnd]
 unfold Oper.wp at h
 generalize (execOp a.eval o).run P w = res at h
 cases res with
 | ok x w' =>
  cases x <;> simp only [Oper.upon, Oper.uponIn] at h ⊢ <;>
   first
    | exact h
    | exact ⟨fun e => (by cases e), callsIn0 h⟩
    | exact ⟨fun e => (by cases e), rowsIn0 h⟩
    | exact h.elim
 | halt x w' => cases x <;> simp only [Oper.upon, Oper.uponIn] at h ⊢ <;> first | exact h | exact h.elim
/-- The walk of a piece of code. -/
structure W (r : Option Nat) (P : Program) (n : Nat) (c : Code) (Q : AX → AF → Mem → Prop) (f : AF) (M : Mem) : Prop where
 run : ∀ (μ : Mu) (F : Frm) (w : World) (a : Act), Gam μ F M w → RepF μ F w n f a → c.wpIn (fn0 r) 9 P (Post n Q μ F w) a w
theorem Post.trans {n : Nat} {Q : AX → AF → Mem → Prop} {μ μ1 : Mu} {F : Frm} {w w1 : World} (h : Evo w μ w1 μ1) {e : Exit} {a : Act} {w' : World} (hp : Post n Q μ1 F w1 e a w') : Post n Q μ F w e a w' := by
 obtain ⟨μ', f', M', x, h1, h2, h3, h4, h5⟩ := hp
 exact ⟨μ', f', M', x, h.trans h1, h2, h3, h4, h5⟩
theorem W.mono {r : Option Nat} {P : Program} {n : Nat} {c : Code} {Q Q' : AX → AF → Mem → Prop} {f : AF} {M : Mem} (h : W r P n c Q f M) (hq : ∀ x f M, Q x f M → Q' x f M) : W r P n c Q' f M :=
 ⟨fun μ F w a hg hr => wpIn_mono (h.run μ F w a hg hr) fun e a' w' ⟨μ', f', M', x, h1, h2, h3, h4, h5⟩ => ⟨μ', f', M', x, h1, h2, h3, h4, hq x f' M' h5⟩⟩
theorem W.le {r : Option Nat} {P : Program} {n : Nat} {c : Code} {Q : AX → AF → Mem → Prop} {f g : AF} {M N : Mem} (hf : g.le f) (hM : N.le M) (h : W r P n c Q g N) : W r P n c Q f M :=
 ⟨fun μ F w a hg hr => h.run μ F w a (hg.le hM) (hr.le hf)⟩
section
variable {r : Option Nat} {P : Program} {n : Nat} {Q : AX → AF → Mem → Prop} {f : AF} {M : Mem}
theorem W_skip (h : Q .normal f M) : W r P n .skip Q f M :=
 ⟨fun μ F w a hg hr => wpIn_skip ⟨μ, f, M, .normal, Evo.refl _ _, hg, hr, trivial, h⟩⟩
theorem W_ret (h : Q .ret f M) : W r P n .ret Q f M :=
 ⟨fun μ F w a hg hr => wpIn_ret ⟨μ, f, M, .ret, Evo.refl _ _, hg, hr, trivial, h⟩⟩
theorem W_exit {id : Nat} (h : Q (.exit id) f M) : W r P n (.exit id) Q f M :=
 ⟨fun μ F w a hg hr => wpIn_exit ⟨μ, f, M, .exit id, Evo.refl _ _, hg, hr, rfl, h⟩⟩
/-- What follows a normal end. -/
def thenX (K : AF → Mem → Prop) (Q : AX → AF → Mem → Prop) : AX → AF → Mem → Prop
 | .normal, f, M => K f M
 | x, f, M => Q x f M
theorem W_seq {c d : Code} (h : W r P n c (thenX (fun f M => W r P n d Q f M) Q) f M) : W r P n (.seq c d) Q f M := by
 refine ⟨fun μ F w a hg hr => ?_⟩
 refine wpIn_seq (wpIn_mono (h.run μ F w a hg hr) ?_)
 rintro e a' w' ⟨μ', f', M', x, h1, h2, h3, h4, h5⟩
 cases e with
 | normal =>
  cases x <;> simp only [XRel] at h4
  exact wpIn_mono (h5.run μ' F w' a' h2 h3) fun e a w hp => hp.trans h1
 | exit id => cases x <;> first | exact h4.elim | exact ⟨μ', f', M', _, h1, h2, h3, h4, h5⟩
 | goto l => cases x <;> exact h4.elim
 | ret => cases x <;> first | exact h4.elim | exact ⟨μ', f', M', _, h1, h2, h3, h4, h5⟩
 | panic ch => cases x <;> first | exact h4.elim | exact ⟨μ', f', M', _, h1, h2, h3, h4, h5⟩
 | outgrown => cases x <;> exact h4.elim
def blockX (id : Nat) (Q : AX → AF → Mem → Prop) : AX → AF → Mem → Prop
 | .exit j, f, M => if j = id then Q .normal f M else Q (.exit j) f M
 | x, f, M => Q x f M
theorem W_block {id : Nat} {c : Code} (h : W r P n c (blockX id Q) f M) : W r P n (.block id c) Q f M := by
 refine ⟨fun μ F w a hg hr => ?_⟩
 refine wpIn_block (wpIn_mono (h.run μ F w a hg hr) ?_)
 rintro e a' w' ⟨μ', f', M', x, h1, h2, h3, h4, h5⟩
 cases e with
 | normal => cases x <;> simp only [XRel] at h4; exact ⟨μ', f', M', .normal, h1, h2, h3, trivial, h5⟩
 | exit j =>
  cases x <;> simp only [XRel] at h4
  subst h4
  simp only [Exit.inBlock, blockX] at h5 ⊢
  split
  ·rename_i e
   rw [if_pos e] at h5
   exact ⟨μ', f', M', .normal, h1, h2, h3, trivial, h5⟩
  ·rename_i e
   rw [if_neg e] at h5
   exact ⟨μ', f', M', .exit j, h1, h2, h3, rfl, h5⟩
 | goto l => cases x <;> exact h4.elim
 | ret => cases x <;> first | exact h4.elim | exact ⟨μ', f', M', _, h1, h2, h3, h4, h5⟩
 | panic ch => cases x <;> first | exact h4.elim | exact ⟨μ', f', M', _, h1, h2, h3, h4, h5⟩
 | outgrown => cases x <;> exact h4.elim
theorem W_cond {c : Operand} {d e : Code} {b : Bool} (hc : f.ev c = .bool b) (h1 : b = true → W r P n d Q f M) (h2 : b = false → W r P n e Q f M) : W r P n (.cond c d e) Q f M := by
 refine ⟨fun μ F w a hg hr => ?_⟩
 have hv := hr.ev c
 rw [hc] at hv
 generalize hva : a.eval c = v at hv
 cases hv
 exact wpIn_cond_split hva (fun h => (h1 h).run μ F w a hg hr) (fun h => (h2 h).run μ F w a hg hr)
theorem W_true {c : Operand} {d e : Code} (hc : f.ev c = .bool true) (h1 : W r P n d Q f M) : W r P n (.cond c d e) Q f M := W_cond hc (fun _ => h1) (fun h => by cases h)
theorem W_false {c : Operand} {d e : Code} (hc : f.ev c = .bool false) (h1 : W r P n e Q f M) : W r P n (.cond c d e) Q f M := W_cond hc (fun h => by cases h) (fun _ => h1)
theorem W_ghost {c : Code} {g : AF} {N : Mem} (hj : Joint M.next f M g N) (h : W r P n c Q g N) : W r P n c Q f M := by
 refine ⟨fun μ F w a hg hr => ?_⟩
 obtain ⟨μ', e, hg', hr'⟩ := hj μ μ F w w n a (fun id h => (hg.dom id).1 h) (Evo.refl _ _) hg hr
 exact wpIn_mono (h.run μ' F w a hg' hr') fun e' a' w' hp => hp.trans e
/-- A loop: what holds at each round's head, by a number that each round lowers. -/
theorem W_loop {c : Code} (I : Nat → AF → Mem → Prop) {k : Nat} {f0 : AF} {M0 : Mem} (h0 : I k f0 M0) (hj : Joint M.next f M f0 M0)
  (round : ∀ k f' N, I k f' N → W r P n c (thenX (fun f1 M1 => ∃ k' f'' M'', k' < k ∧ I k' f'' M'' ∧ Joint M.next f1 M1 f'' M'') Q) f' N) : W r P n (.loop c) Q f M := by
 refine ⟨fun μ F w a hg hr => ?_⟩
 have hdom : ∀ id, μ id ≠ none → id < M.next := fun id h => (hg.dom id).1 h
 -- the relation of the machine's frames and worlds
 let J : Nat → Act → World → Prop := fun k a' w' => ∃ μ' f' M', Evo w μ w' μ' ∧ Gam μ' F M' w' ∧ RepF μ' F w' n f' a' ∧ I k f' M'
 intro b K cs hro hb hrm
 have key : ∀ (k : Nat) (a' : Act) (w' : World), J k a' w' → ∃ e a2 w2, Post n Q μ F w e a2 w2 ∧ ArrivesIn (Machine.fenced P (fn0 r)) P (lone (b.atR a' (.code c :: .inLoop c :: K)) cs w') b K cs e a2 w2 := by
  intro k
  induction k using Nat.strongRecOn with
  | _ k ih =>
   intro a' w' ⟨μ', f', M', h1, h2, h3, h4⟩
   obtain ⟨e, a1, w1, ⟨μ1, f1, M1, x, g1, g2, g3, g4, g5⟩, harr⟩ := (round k f' M' h4).run μ' F w' a' h2 h3 b (.inLoop c :: K) cs hro hb hrm
   have hev := h1.trans g1
   cases e with
   | normal =>
    cases x <;> simp only [XRel] at g4
    obtain ⟨k', f'', M'', hlt, hI, hjj⟩ := g5
    obtain ⟨μ2, j1, j2, j3⟩ := hjj μ μ1 F w w1 n a1 hdom hev g2 g3
    obtain ⟨e2, a2, w2, hq2, harr2⟩ := ih k' hlt a1 w1 ⟨μ2, f'', M'', j1, j2, j3, hI⟩
    exact ⟨e2, a2, w2, hq2, .of_steps (StepsIn.trans harr (.one (fenced_calm hb hrm rfl) stepR_inLoop)) harr2⟩
   | exit id =>
    cases x <;> first | exact g4.elim | skip
    exact ⟨_, a1, w1, ⟨μ1, f1, M1, _, hev, g2, g3, g4, g5⟩, .pass (x := .inLoop c) rfl (fun _ _ => .inl (by simp)) harr⟩
   | goto l => cases x <;> exact g4.elim
   | ret =>
    cases x <;> first | exact g4.elim | skip
    exact ⟨_, a1, w1, ⟨μ1, f1, M1, _, hev, g2, g3, g4, g5⟩, .pass (x := .inLoop c) rfl (fun _ _ => .inl (by simp)) harr⟩
   | panic ch =>
    cases x <;> first | exact g4.elim | skip
    exact ⟨_, a1, w1, ⟨μ1, f1, M1, _, hev, g2, g3, g4, g5⟩, .pass (x := .inLoop c) rfl (fun _ _ => .inl (by simp)) harr⟩
   | outgrown => cases x <;> exact g4.elim
 obtain ⟨μ0, j1, j2, j3⟩ := hj μ μ F w w n a hdom (Evo.refl _ _) hg hr
 obtain ⟨e, a', w', hq, harr⟩ := key k a w ⟨μ0, f0, M0, j1, j2, j3, h0⟩
 exact ⟨e, a', w', hq, .of_steps (.one (fenced_calm hb hrm rfl) stepR_loop) harr⟩
end
end Go.Ab
