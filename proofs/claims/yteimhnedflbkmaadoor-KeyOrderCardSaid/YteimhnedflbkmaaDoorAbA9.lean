/- append, at the operation. -/
import Derived.Test.YteimhnedflbkmaaDoorAbA8
set_option linter.unusedVariables false
set_option linter.unusedSimpArgs false
namespace Go.Ab
open Go.RowKit

/-- The arm that has room. -/
theorem append_room {P : Program} {τ : Tab} (hτ : TabOK P τ) {t tx ty e : TypeId} {ti ei : TI} (hin : AppIn P τ t e ti ei) {μ : Mu} {F : Frm} {M : Mem} {w : World} (hg : Gam μ F M w)
    {b cap : Nat} {vals : Nat → Value} {xs ys : List AV} (hsx : ∀ x, x ∈ xs → x.cells.length = ei.size) (hsy : ∀ x, x ∈ ys → x.cells.length = ei.size)
    (hat : ∀ (p : Nat) (c : AV), (flat xs)[p]? = some c → At μ F w b p c (vals p))
    {x : Value} {news : List Value} (hsrc : Src P ei.size tx x ys.length news w) (hnew : ∀ (p : Nat) (c : AV) (u : Value), (flat ys)[p]? = some c → news[p]? = some u → Rep μ F w c u)
    (hroom : xs.length + ys.length ≤ cap) {id g0 : Nat} (hM : M.get id = some (.spare g0)) (hid : μ id = some (.spare (some (b, xs.length * ei.size)) g0))
    {c : Array Value} {tb : TypeId} {fr : Nat × Nat} (hb : w.heap[b]? = some (.cells c tb fr)) (hcap : cap * ei.size ≤ c.size) (hsoft : Soft fr c.size) :
    ∃ μ' v w', (Builtin.append_ #[t, tx] ty #[.slice (some ⟨b, 0, none⟩) xs.length cap, x]).run P w = .ok v w' ∧ Evo w μ w' μ' ∧
      (∀ M', M'.next = (if id = M.next then M.next + 1 else M.next) → (∀ i, M'.get i = if i = id then some (.spare (g0 + 1)) else M.get i) → Gam μ' F M' w') ∧ Rep μ' F w' (.sl ei.size (xs ++ ys) (.tok id (g0 + 1))) v := by
  obtain ⟨ft, dt, zt, HT⟩ := TI.spec hτ hin.tl
  obtain ⟨fe, de, ze, HE⟩ := TI.spec hτ hin.el
  have hf := HT.fits
  rw [hin.tk] at hf
  have hdd : dt = .slice e := by
    cases dt <;> simp [TK.fits] at hf
    rw [hf]
  subst hdd
  have hlx := flat_length hsx
  have hly := flat_length hsy
  have hnl := hsrc.newsLen
  have hsrc' : Src P fe.size tx x ys.length news w := by rw [HE.size]; exact hsrc
  have hfl : (xs.length + ys.length) * ei.size ≤ c.size := Nat.le_trans (Nat.mul_le_mul_right _ hroom) hcap
  have hfl' : xs.length * ei.size + news.length ≤ c.size := by rw [hnl, ← Nat.add_mul]; exact hfl
  have hrun := run_append_room_src (P := P) w t tx ty e fe HT.und HE.info b 0 xs.length cap x ys.length news hsrc' hroom (fun j hj => by
      rw [HE.size, cell_mk hb, Nat.zero_add, Array.getElem?_eq_getElem (by omega)]; rfl) (fun j hj => by
      rw [HE.size]
      have hs := hsoft (0 + xs.length * ei.size + j) (by omega)
      simp only [World.frozen?, hb]
      simp only [Bool.and_eq_false_iff, decide_eq_false_iff_not]
      rcases Nat.lt_or_ge (0 + xs.length * ei.size + j) fr.1 with h | h
      · exact .inl (by omega)
      · exact .inr (fun h' => hs ⟨h, h'⟩))
  rw [HE.size, Nat.zero_add] at hrun
  obtain ⟨hw, c', hc', hs', hget⟩ := setCells_row b news (xs.length * ei.size) c tb fr w hb hfl'
  obtain ⟨hev, hG⟩ := gam_room hg (w' := w.setCells b (xs.length * ei.size) news) (p := some (b, (xs.length + ys.length) * ei.size)) hw.os hw.tape hw.output (Nat.le_of_eq hw.size.symm) (id := id) (g := g0 + 1) (.inr
      ⟨some (b, xs.length * ei.size), g0, hM, hid, Nat.lt_succ_self _, fun k hk hne => hw.other k (fun e => hne (xs.length * ei.size) (by rw [e])), fun k e' hq c1 ty1 fr1 hc1 => by
        cases hq
        rw [hb] at hc1
        cases hc1
        exact ⟨c', hc', hs', fun o ho => by rw [hget, if_neg (by omega)]⟩⟩) (by
      intro b' e' hbe
      cases hbe
      exact ⟨⟨c', tb, fr, hc', by rw [hs']; exact hfl, by rw [hs']; exact hsoft⟩, .inr ⟨xs.length * ei.size, g0, hid, Nat.mul_le_mul_right _ (Nat.le_add_right _ _)⟩⟩)
  refine ⟨_, _, _, hrun, hev, hG, ?_⟩
  have hR := rep_sl (μ := μ.put id (.spare (some (b, (xs.length + ys.length) * ei.size)) (g0 + 1))) (F := F) (w := w.setCells b (xs.length * ei.size) news) (sz := ei.size) (xs := xs ++ ys) (t := .tok id (g0 + 1)) (A := some ⟨b, 0, none⟩) (cap := cap) (b := b) (o := 0)
    (vals := fun p => c'.getD p undef) (by
      intro y hy
      rcases List.mem_append.1 hy with h | h
      · exact hsx y h
      · exact hsy y h) (by rw [List.length_append]; exact hroom) (fun _ => rfl) (by
      intro p q hq
      have hp : p < (xs.length + ys.length) * ei.size := by
        have := (List.getElem?_eq_some_iff.1 hq).1
        rwa [flat_append, List.length_append, hlx, hly, ← Nat.add_mul] at this
      have hval : c'[p]? = some (c'.getD p undef) := by
        have : p < c'.size := by omega
        simp [Array.getD, this]
      have hrep : Rep μ F w q (c'.getD p undef) ∧ (c'.getD p undef).oneCell' = true := by
        have hv := hval
        rw [hget] at hv
        rw [flat_append] at hq
        by_cases hpx : p < (flat xs).length
        · rw [List.getElem?_append_left hpx] at hq
          rw [if_neg (by omega)] at hv
          have ha := hat p q hq
          have hcell := ha.cell
          rw [cell_mk hb, hv] at hcell
          injection hcell with hcell
          rw [hcell]
          exact ⟨ha.rep, ha.one⟩
        · rw [List.getElem?_append_right (by omega)] at hq
          have hnp : p - (flat xs).length < news.length := by
            have := (List.getElem?_eq_some_iff.1 hq).1
            rw [hnl, ← hly]
            exact this
          rw [if_pos (by omega), ← hlx] at hv
          exact ⟨hnew _ q _ hq hv, hsrc.one _ (List.mem_of_getElem? hv)⟩
      refine ⟨hrep.2, by rw [Nat.zero_add, cell_mk hc']; exact hval, ?_, hrep.1.evo hev⟩
      have hbl : b < w.heap.size := (Array.getElem?_eq_some_iff.1 hb).1
      refine ⟨hg.frm b p |> fun h hF => ?_, ?_⟩
      · by_cases hpx : p < (flat xs).length
        · rw [flat_append, List.getElem?_append_left hpx] at hq
          exact (hat p q hq).free.1 (by simpa using hF)
        · exact h ⟨id, .inr ⟨_, g0, hid, by omega⟩⟩ (by simpa using hF)
      · rintro ⟨i, h1 | ⟨e', g', h1, he⟩⟩
        · unfold Mu.put at h1
          split at h1
          · cases h1
          · rename_i hi
            exact hi (hg.inj i id b (.inl h1) (.inr ⟨_, _, hid⟩))
        · unfold Mu.put at h1
          split at h1
          · cases h1
            omega
          · rename_i hi
            exact hi (hg.inj i id b (.inr ⟨_, _, h1⟩) (.inr ⟨_, _, hid⟩))) (by
      refine .inr ⟨some (b, (xs.length + ys.length) * ei.size), g0 + 1, by simp [Mu.put], Nat.le_refl _, fun _ => ⟨rfl, by rw [List.length_append], c', tb, fr, hc', by rw [hs']; exact hcap⟩⟩)
  rw [List.length_append] at hR
  exact hR

/-- Nothing is appended. -/
theorem append_none {μ : Mu} {F : Frm} {M : Mem} {w : World} (hg : Gam μ F M w) {sz : Nat} {xs : List AV} {A : Option Addr} {tag : Tag} {cap : Nat} (hr : Rep μ F w (.sl sz xs tag) (.slice A xs.length cap)) (hc : cap = xs.length)
    {sz' : Nat} (hsx : sz' = sz ∨ xs = []) {id g : Nat} (hid : (id = M.next ∧ g = 0) ∨ ∃ q g0, M.get id = some (.spare g0) ∧ μ id = some (.spare q g0) ∧ g0 < g) :
    ∃ μ', Evo w μ w μ' ∧ (∀ M', M'.next = (if id = M.next then M.next + 1 else M.next) → (∀ i, M'.get i = if i = id then some (.spare g) else M.get i) → Gam μ' F M' w) ∧ Rep μ' F w (.sl sz' xs (.tok id g)) (.slice A xs.length cap) := by
  obtain ⟨hev, hG⟩ := gam_room hg (w' := w) (p := none) rfl rfl rfl (Nat.le_refl _) (id := id) (g := g) (by
      rcases hid with ⟨h1, _⟩ | ⟨q, g0, h1, h2, h3⟩
      · exact .inl ⟨h1, fun _ _ => rfl⟩
      · exact .inr ⟨q, g0, h1, h2, h3, fun _ _ _ => rfl, fun k e hq c ty fr hc => ⟨c, hc, rfl, fun _ _ => rfl⟩⟩) (by intro b e h; cases h)
  refine ⟨_, hev, hG, ?_⟩
  have hr' := hr.evo hev
  obtain ⟨A', cap', b, o, vals, hv, hsz, hcap, hA, hat, htag⟩ := hr'.sl_flat
  cases hv
  refine rep_sl (b := b) (o := o) (vals := vals) ?_ hcap hA hat (.inr ⟨none, g, by simp [Mu.put], Nat.le_refl _, fun _ => hc⟩)
  rcases hsx with rfl | rfl
  · exact hsz
  · simp

/-- append(s, x): s has no spare room, or the one who appends owns it. -/
theorem opE_append {P : Program} {τ : Tab} (hτ : TabOK P τ) {t tx e : TypeId} {ti ei xi : TI} (hin : AppIn P τ t e ti ei) (hxi : lookup τ tx = some xi) {s x : Operand} {ty : TypeId} {ρ : Operand → AV} {M M' : Mem}
    {sz : Nat} {xs ys : List AV} {tag : Tag} (hS : ρ s = .sl sz xs tag) (hsz : sz = ei.size ∨ xs = []) (hf : srcFits xi.k (ρ x) = true) (hX : srcOf ei.size (ρ x) = some ys)
    (hb : (xs.length + ys.length) * ei.bytes ≤ 140737488355328) (hl : xs.length + ys.length ≤ 140737488355328) {id g : Nat}
    (hid : (tag = .full ∧ id = M.next ∧ g = 0 ∧ M' = M.push (.spare 0)) ∨ ∃ g0, sz = ei.size ∧ tag = .tok id g0 ∧ M.get id = some (.spare g0) ∧ g = g0 + 1 ∧ M' = M.set id (.spare g)) :
    OpE P (.call { callee := .builtin .append, args := #[s, x], argTypes := #[t, tx] }) ty ρ M (.sl ei.size (xs ++ ys) (.tok id g)) M' := by
  intro μ F w ρc o hg ho hty hr
  have hs := hr s (by simp [Op.operands, Call.operands])
  have hx := hr x (by simp [Op.operands, Call.operands])
  rw [hS] at hs
  obtain ⟨hsy, news, hsrc, hnew⟩ := src_of hτ hxi hf hX hx
  have hM' : M'.next = (if id = M.next then M.next + 1 else M.next) ∧ ∀ i, M'.get i = if i = id then some (.spare g) else M.get i := by
    rcases hid with ⟨_, rfl, rfl, rfl⟩ | ⟨g0, _, _, hM, rfl, rfl⟩
    · exact ⟨by simp [Mem.push], fun i => Mem.get_push _ _ _⟩
    · refine ⟨?_, fun i => Mem.get_set _ _ _ _⟩
      have : id < M.next := by
        obtain ⟨p, h1, _⟩ := hg.spare id g0 hM
        exact (hg.dom id).1 (by rw [h1]; simp)
      rw [if_neg (by omega)]
      rfl
  have hrun : ∀ v w', (Builtin.append_ #[t, tx] o.type #[ρc s, ρc x]).run P w = .ok v w' → (execOp ρc o).run P w = .ok (.value v) w' := by
    intro v w' h
    simp [execOp, ho, resolve, invoke, builtin, h]
  suffices h : ∃ μ' v w', (Builtin.append_ #[t, tx] o.type #[ρc s, ρc x]).run P w = .ok v w' ∧ Evo w μ w' μ' ∧
      (∀ M', M'.next = (if id = M.next then M.next + 1 else M.next) → (∀ i, M'.get i = if i = id then some (.spare g) else M.get i) → Gam μ' F M' w') ∧ Rep μ' F w' (.sl ei.size (xs ++ ys) (.tok id g)) v by
    obtain ⟨μ', v, w', h1, h2, h3, h4⟩ := h
    exact ⟨μ', .value v, v, w', hrun v w' h1, .inl rfl, h2, h3 M' hM'.1 hM'.2, h4⟩
  have hs0 := hs
  obtain ⟨A, cap, b, off, vals, hv, hsx0, hcap, hA, hat, htag⟩ := hs.sl_flat
  rw [hv] at hs0
  have hsx : ∀ y, y ∈ xs → y.cells.length = ei.size := by
    rcases hsz with rfl | rfl
    · exact hsx0
    · simp
  rw [hv]
  have hid' : (id = M.next ∧ g = 0) ∨ ∃ q g0, M.get id = some (.spare g0) ∧ μ id = some (.spare q g0) ∧ g0 < g := by
    rcases hid with ⟨_, h1, h2, _⟩ | ⟨g0, _, _, hM, rfl, _⟩
    · exact .inl ⟨h1, h2⟩
    · obtain ⟨p, h1, _⟩ := hg.spare id g0 hM
      exact .inr ⟨p, g0, hM, h1, Nat.lt_succ_self _⟩
  by_cases hgrow : cap < xs.length + ys.length
  · exact append_grow hτ hin hg hsx hsy hA hat hsrc hnew hgrow hb hl hid'
  · -- there is room: nothing comes, or the room is ours
    have none_ : cap = xs.length → ∃ μ' v w', (Builtin.append_ #[t, tx] o.type #[.slice A xs.length cap, ρc x]).run P w = .ok v w' ∧ Evo w μ w' μ' ∧
        (∀ M', M'.next = (if id = M.next then M.next + 1 else M.next) → (∀ i, M'.get i = if i = id then some (.spare g) else M.get i) → Gam μ' F M' w') ∧ Rep μ' F w' (.sl ei.size (xs ++ ys) (.tok id g)) v := by
      intro hc
      have hy : ys = [] := List.eq_nil_of_length_eq_zero (by omega)
      subst hy
      have hn : news = [] := by
        have := hsrc.newsLen
        simp at this
        exact this
      subst hn
      obtain ⟨ft, dt, zt, HT⟩ := TI.spec hτ hin.tl
      obtain ⟨fe, de, ze, HE⟩ := TI.spec hτ hin.el
      have hfi := HT.fits
      rw [hin.tk] at hfi
      have hdd : dt = .slice e := by
        cases dt <;> simp [TK.fits] at hfi
        rw [hfi]
      subst hdd
      obtain ⟨μ', h1, h2, h3⟩ := append_none hg hs0 hc (hsz.imp Eq.symm (fun h => h)) hid'
      refine ⟨μ', _, w, run_append_nothing' HT.und HE.info (by rw [HE.size]; exact hsrc) (by omega), h1, h2, ?_⟩
      rw [List.append_nil]
      exact h3
    rcases hid with ⟨rfl, rfl, rfl, rfl⟩ | ⟨g0, hsze, rfl, hM, rfl, rfl⟩
    · exact none_ htag
    · obtain ⟨p, hp, hpb⟩ := hg.spare id g0 hM
      rcases htag with hd | ⟨q, g', hq, hle, hroom⟩
      · rw [hp] at hd; cases hd
      · rw [hp] at hq
        cases hq
        have hro := hroom rfl
        cases p with
        | none => exact none_ hro
        | some be =>
          obtain ⟨b', e'⟩ := be
          obtain ⟨hA', he', c, tb, fr, hc, hcs⟩ := hro
          obtain ⟨c2, tb2, fr2, hc2, _, hsoft⟩ := hpb b' e' rfl
          rw [hc] at hc2
          cases hc2
          subst hsze
          subst he'
          have hat' : ∀ (p : Nat) (c : AV), (flat xs)[p]? = some c → At μ F w b' p c (vals p) := by
            intro p c h
            have h1 : 0 < xs.length := by
              rcases Nat.eq_zero_or_pos xs.length with h0 | h0
              · rw [List.eq_nil_of_length_eq_zero h0] at h
                simp [flat] at h
              · exact h0
            have h2 := hA h1
            rw [h2] at hA'
            cases hA'
            have := hat p c h
            rwa [Nat.zero_add] at this
          rw [hA']
          exact append_room hτ hin hg hsx hsy hat' hsrc hnew (by omega) hM hp hc hcs hsoft

end Go.Ab
