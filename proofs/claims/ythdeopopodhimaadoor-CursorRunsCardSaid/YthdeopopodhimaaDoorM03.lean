/- Parts of the proof, one behind the other: AbA9, AbB1, AbB2. No further condition. -/
import Derived.Test.YthdeopopodhimaaDoorM02
set_option linter.unusedVariables false
set_option linter.unusedSimpArgs false
/- append, at the operation. -/
set_option linter.unusedVariables false
set_option linter.unusedSimpArgs false
namespace Go.Ab
open Go.RowKit

/-- The arm that has room. -/
theorem append_room {P : Program} {τ : Tab} (hτ : TabOK P τ) {t tx ty e : TypeId} {ti ei : TI} (hin : AppIn P τ t e ti ei) {μ : Mu} {F : Frm} {M : Mem} {w : World} (hg : Gam μ F M w)
    {b cap : Nat} {vals : Nat → Value} {xs ys : List AV} (hsx : ∀ x, x ∈ xs → x.cells.length = ei.size) (hsy : ∀ x, x ∈ ys → x.cells.length = ei.size)
    (hat : ∀ (p : Nat) (c : AV), (flat xs)[p]? = some c → At μ F w b p c (vals p))
    {x : Value} {news : List Value} (hsrc : Src P ei.size tx x ys.length news w) (hnew : ∀ (p : Nat) (c : AV) (u : Value), (flat ys)[p]? = some c → news[p]? = some u → Rep μ F w c u)
    (hroom : xs.length + ys.length ≤ cap) {id g0 : Nat} (hM : M.get id = some (.spare g0)) (hid : μ id = some (.spare (some (b, xs.length * ei.size)) g0))
    {c : Array Value} {tb : TypeId} {fr : Nat × Nat} (hb : w.heap[b]? = some (.cells c tb fr)) (hcap : cap * ei.size ≤ c.size) (hsoft : Soft fr c.size) :
    ∃ μ' v w', (Builtin.append_ #[t, tx] ty #[.slice (some ⟨b, 0, none⟩) xs.length cap, x]).run P w = .ok v w' ∧ Evo w μ w' μ' ∧
      (∀ M', M'.next = (if id = M.next then M.next + 1 else M.next) → (∀ i, M'.get i = if i = id then some (.spare (g0 + 1)) else M.get i) → Gam μ' F M' w') ∧ Rep μ' F w' (.sl ei.size (xs ++ ys) (.tok id (g0 + 1))) v := by
  obtain ⟨ft, dt, zt, HT⟩ := TI.spec hτ hin.tl
  obtain ⟨fe, de, ze, HE⟩ := TI.spec hτ hin.el
  have hf := HT.fits
  rw [hin.tk] at hf
  have hdd : dt = .slice e := by
    cases dt <;> simp [TK.fits] at hf
    rw [hf]
  subst hdd
  have hlx := flat_length hsx
  have hly := flat_length hsy
  have hnl := hsrc.newsLen
  have hsrc' : Src P fe.size tx x ys.length news w := by rw [HE.size]; exact hsrc
  have hfl : (xs.length + ys.length) * ei.size ≤ c.size := Nat.le_trans (Nat.mul_le_mul_right _ hroom) hcap
  have hfl' : xs.length * ei.size + news.length ≤ c.size := by rw [hnl, ← Nat.add_mul]; exact hfl
  have hrun := run_append_room_src (P := P) w t tx ty e fe HT.und HE.info b 0 xs.length cap x ys.length news hsrc' hroom (fun j hj => by
      rw [HE.size, cell_mk hb, Nat.zero_add, Array.getElem?_eq_getElem (by omega)]; rfl) (fun j hj => by
      rw [HE.size]
      have hs := hsoft (0 + xs.length * ei.size + j) (by omega)
      simp only [World.frozen?, hb]
      simp only [Bool.and_eq_false_iff, decide_eq_false_iff_not]
      rcases Nat.lt_or_ge (0 + xs.length * ei.size + j) fr.1 with h | h
      · exact .inl (by omega)
      · exact .inr (fun h' => hs ⟨h, h'⟩))
  rw [HE.size, Nat.zero_add] at hrun
  obtain ⟨hw, c', hc', hs', hget⟩ := setCells_row b news (xs.length * ei.size) c tb fr w hb hfl'
  obtain ⟨hev, hG⟩ := gam_room hg (w' := w.setCells b (xs.length * ei.size) news) (p := some (b, (xs.length + ys.length) * ei.size)) hw.os hw.tape hw.output (Nat.le_of_eq hw.size.symm) (id := id) (g := g0 + 1) (.inr
      ⟨some (b, xs.length * ei.size), g0, hM, hid, Nat.lt_succ_self _, fun k hk hne => hw.other k (fun e => hne (xs.length * ei.size) (by rw [e])), fun k e' hq c1 ty1 fr1 hc1 => by
        cases hq
        rw [hb] at hc1
        cases hc1
        exact ⟨c', hc', hs', fun o ho => by rw [hget, if_neg (by omega)]⟩⟩) (by
      intro b' e' hbe
      cases hbe
      exact ⟨⟨c', tb, fr, hc', by rw [hs']; exact hfl, by rw [hs']; exact hsoft⟩, .inr ⟨xs.length * ei.size, g0, hid, Nat.mul_le_mul_right _ (Nat.le_add_right _ _)⟩⟩)
  refine ⟨_, _, _, hrun, hev, hG, ?_⟩
  have hR := rep_sl (μ := μ.put id (.spare (some (b, (xs.length + ys.length) * ei.size)) (g0 + 1))) (F := F) (w := w.setCells b (xs.length * ei.size) news) (sz := ei.size) (xs := xs ++ ys) (t := .tok id (g0 + 1)) (A := some ⟨b, 0, none⟩) (cap := cap) (b := b) (o := 0)
    (vals := fun p => c'.getD p undef) (by
      intro y hy
      rcases List.mem_append.1 hy with h | h
      · exact hsx y h
      · exact hsy y h) (by rw [List.length_append]; exact hroom) (fun _ => rfl) (by
      intro p q hq
      have hp : p < (xs.length + ys.length) * ei.size := by
        have := (List.getElem?_eq_some_iff.1 hq).1
        rwa [flat_append, List.length_append, hlx, hly, ← Nat.add_mul] at this
      have hval : c'[p]? = some (c'.getD p undef) := by
        have : p < c'.size := by omega
        simp [Array.getD, this]
      have hrep : Rep μ F w q (c'.getD p undef) ∧ (c'.getD p undef).oneCell' = true := by
        have hv := hval
        rw [hget] at hv
        rw [flat_append] at hq
        by_cases hpx : p < (flat xs).length
        · rw [List.getElem?_append_left hpx] at hq
          rw [if_neg (by omega)] at hv
          have ha := hat p q hq
          have hcell := ha.cell
          rw [cell_mk hb, hv] at hcell
          injection hcell with hcell
          rw [hcell]
          exact ⟨ha.rep, ha.one⟩
        · rw [List.getElem?_append_right (by omega)] at hq
          have hnp : p - (flat xs).length < news.length := by
            have := (List.getElem?_eq_some_iff.1 hq).1
            rw [hnl, ← hly]
            exact this
          rw [if_pos (by omega), ← hlx] at hv
          exact ⟨hnew _ q _ hq hv, hsrc.one _ (List.mem_of_getElem? hv)⟩
      refine ⟨hrep.2, by rw [Nat.zero_add, cell_mk hc']; exact hval, ?_, hrep.1.evo hev⟩
      have hbl : b < w.heap.size := (Array.getElem?_eq_some_iff.1 hb).1
      refine ⟨hg.frm b p |> fun h hF => ?_, ?_⟩
      · by_cases hpx : p < (flat xs).length
        · rw [flat_append, List.getElem?_append_left hpx] at hq
          exact (hat p q hq).free.1 (by simpa using hF)
        · exact h ⟨id, .inr ⟨_, g0, hid, by omega⟩⟩ (by simpa using hF)
      · rintro ⟨i, h1 | ⟨e', g', h1, he⟩⟩
        · unfold Mu.put at h1
          split at h1
          · cases h1
          · rename_i hi
            exact hi (hg.inj i id b (.inl h1) (.inr ⟨_, _, hid⟩))
        · unfold Mu.put at h1
          split at h1
          · cases h1
            omega
          · rename_i hi
            exact hi (hg.inj i id b (.inr ⟨_, _, h1⟩) (.inr ⟨_, _, hid⟩))) (by
      refine .inr ⟨some (b, (xs.length + ys.length) * ei.size), g0 + 1, by simp [Mu.put], Nat.le_refl _, fun _ => ⟨rfl, by rw [List.length_append], c', tb, fr, hc', by rw [hs']; exact hcap⟩⟩)
  rw [List.length_append] at hR
  exact hR

/-- Nothing is appended. -/
theorem append_none {μ : Mu} {F : Frm} {M : Mem} {w : World} (hg : Gam μ F M w) {sz : Nat} {xs : List AV} {A : Option Addr} {tag : Tag} {cap : Nat} (hr : Rep μ F w (.sl sz xs tag) (.slice A xs.length cap)) (hc : cap = xs.length)
    {sz' : Nat} (hsx : sz' = sz ∨ xs = []) {id g : Nat} (hid : (id = M.next ∧ g = 0) ∨ ∃ q g0, M.get id = some (.spare g0) ∧ μ id = some (.spare q g0) ∧ g0 < g) :
    ∃ μ', Evo w μ w μ' ∧ (∀ M', M'.next = (if id = M.next then M.next + 1 else M.next) → (∀ i, M'.get i = if i = id then some (.spare g) else M.get i) → Gam μ' F M' w) ∧ Rep μ' F w (.sl sz' xs (.tok id g)) (.slice A xs.length cap) := by
  obtain ⟨hev, hG⟩ := gam_room hg (w' := w) (p := none) rfl rfl rfl (Nat.le_refl _) (id := id) (g := g) (by
      rcases hid with ⟨h1, _⟩ | ⟨q, g0, h1, h2, h3⟩
      · exact .inl ⟨h1, fun _ _ => rfl⟩
      · exact .inr ⟨q, g0, h1, h2, h3, fun _ _ _ => rfl, fun k e hq c ty fr hc => ⟨c, hc, rfl, fun _ _ => rfl⟩⟩) (by intro b e h; cases h)
  refine ⟨_, hev, hG, ?_⟩
  have hr' := hr.evo hev
  obtain ⟨A', cap', b, o, vals, hv, hsz, hcap, hA, hat, htag⟩ := hr'.sl_flat
  cases hv
  refine rep_sl (b := b) (o := o) (vals := vals) ?_ hcap hA hat (.inr ⟨none, g, by simp [Mu.put], Nat.le_refl _, fun _ => hc⟩)
  rcases hsx with rfl | rfl
  · exact hsz
  · simp

/-- append(s, x): s has no spare room, or the one who appends owns it. -/
theorem opE_append {P : Program} {τ : Tab} (hτ : TabOK P τ) {t tx e : TypeId} {ti ei xi : TI} (hin : AppIn P τ t e ti ei) (hxi : lookup τ tx = some xi) {s x : Operand} {ty : TypeId} {ρ : Operand → AV} {M M' : Mem}
    {sz : Nat} {xs ys : List AV} {tag : Tag} (hS : ρ s = .sl sz xs tag) (hsz : sz = ei.size ∨ xs = []) (hf : srcFits xi.k (ρ x) = true) (hX : srcOf ei.size (ρ x) = some ys)
    (hb : (xs.length + ys.length) * ei.bytes ≤ 140737488355328) (hl : xs.length + ys.length ≤ 140737488355328) {id g : Nat}
    (hid : (tag = .full ∧ id = M.next ∧ g = 0 ∧ M' = M.push (.spare 0)) ∨ ∃ g0, sz = ei.size ∧ tag = .tok id g0 ∧ M.get id = some (.spare g0) ∧ g = g0 + 1 ∧ M' = M.set id (.spare g)) :
    OpE P (.call { callee := .builtin .append, args := #[s, x], argTypes := #[t, tx] }) ty ρ M (.sl ei.size (xs ++ ys) (.tok id g)) M' := by
  intro μ F w ρc o hg ho hty hr
  have hs := hr s (by simp [Op.operands, Call.operands])
  have hx := hr x (by simp [Op.operands, Call.operands])
  rw [hS] at hs
  obtain ⟨hsy, news, hsrc, hnew⟩ := src_of hτ hxi hf hX hx
  have hM' : M'.next = (if id = M.next then M.next + 1 else M.next) ∧ ∀ i, M'.get i = if i = id then some (.spare g) else M.get i := by
    rcases hid with ⟨_, rfl, rfl, rfl⟩ | ⟨g0, _, _, hM, rfl, rfl⟩
    · exact ⟨by simp [Mem.push], fun i => Mem.get_push _ _ _⟩
    · refine ⟨?_, fun i => Mem.get_set _ _ _ _⟩
      have : id < M.next := by
        obtain ⟨p, h1, _⟩ := hg.spare id g0 hM
        exact (hg.dom id).1 (by rw [h1]; simp)
      rw [if_neg (by omega)]
      rfl
  have hrun : ∀ v w', (Builtin.append_ #[t, tx] o.type #[ρc s, ρc x]).run P w = .ok v w' → (execOp ρc o).run P w = .ok (.value v) w' := by
    intro v w' h
    simp [execOp, ho, resolve, invoke, builtin, h]
  suffices h : ∃ μ' v w', (Builtin.append_ #[t, tx] o.type #[ρc s, ρc x]).run P w = .ok v w' ∧ Evo w μ w' μ' ∧
      (∀ M', M'.next = (if id = M.next then M.next + 1 else M.next) → (∀ i, M'.get i = if i = id then some (.spare g) else M.get i) → Gam μ' F M' w') ∧ Rep μ' F w' (.sl ei.size (xs ++ ys) (.tok id g)) v by
    obtain ⟨μ', v, w', h1, h2, h3, h4⟩ := h
    exact ⟨μ', .value v, v, w', hrun v w' h1, .inl rfl, h2, h3 M' hM'.1 hM'.2, h4⟩
  have hs0 := hs
  obtain ⟨A, cap, b, off, vals, hv, hsx0, hcap, hA, hat, htag⟩ := hs.sl_flat
  rw [hv] at hs0
  have hsx : ∀ y, y ∈ xs → y.cells.length = ei.size := by
    rcases hsz with rfl | rfl
    · exact hsx0
    · simp
  rw [hv]
  have hid' : (id = M.next ∧ g = 0) ∨ ∃ q g0, M.get id = some (.spare g0) ∧ μ id = some (.spare q g0) ∧ g0 < g := by
    rcases hid with ⟨_, h1, h2, _⟩ | ⟨g0, _, _, hM, rfl, _⟩
    · exact .inl ⟨h1, h2⟩
    · obtain ⟨p, h1, _⟩ := hg.spare id g0 hM
      exact .inr ⟨p, g0, hM, h1, Nat.lt_succ_self _⟩
  by_cases hgrow : cap < xs.length + ys.length
  · exact append_grow hτ hin hg hsx hsy hA hat hsrc hnew hgrow hb hl hid'
  · -- there is room: nothing comes, or the room is ours
    have none_ : cap = xs.length → ∃ μ' v w', (Builtin.append_ #[t, tx] o.type #[.slice A xs.length cap, ρc x]).run P w = .ok v w' ∧ Evo w μ w' μ' ∧
        (∀ M', M'.next = (if id = M.next then M.next + 1 else M.next) → (∀ i, M'.get i = if i = id then some (.spare g) else M.get i) → Gam μ' F M' w') ∧ Rep μ' F w' (.sl ei.size (xs ++ ys) (.tok id g)) v := by
      intro hc
      have hy : ys = [] := List.eq_nil_of_length_eq_zero (by omega)
      subst hy
      have hn : news = [] := by
        have := hsrc.newsLen
        simp at this
        exact this
      subst hn
      obtain ⟨ft, dt, zt, HT⟩ := TI.spec hτ hin.tl
      obtain ⟨fe, de, ze, HE⟩ := TI.spec hτ hin.el
      have hfi := HT.fits
      rw [hin.tk] at hfi
      have hdd : dt = .slice e := by
        cases dt <;> simp [TK.fits] at hfi
        rw [hfi]
      subst hdd
      obtain ⟨μ', h1, h2, h3⟩ := append_none hg hs0 hc (hsz.imp Eq.symm (fun h => h)) hid'
      refine ⟨μ', _, w, run_append_nothing' HT.und HE.info (by rw [HE.size]; exact hsrc) (by omega), h1, h2, ?_⟩
      rw [List.append_nil]
      exact h3
    rcases hid with ⟨rfl, rfl, rfl, rfl⟩ | ⟨g0, hsze, rfl, hM, rfl, rfl⟩
    · exact none_ htag
    · obtain ⟨p, hp, hpb⟩ := hg.spare id g0 hM
      rcases htag with hd | ⟨q, g', hq, hle, hroom⟩
      · rw [hp] at hd; cases hd
      · rw [hp] at hq
        cases hq
        have hro := hroom rfl
        cases p with
        | none => exact none_ hro
        | some be =>
          obtain ⟨b', e'⟩ := be
          obtain ⟨hA', he', c, tb, fr, hc, hcs⟩ := hro
          obtain ⟨c2, tb2, fr2, hc2, _, hsoft⟩ := hpb b' e' rfl
          rw [hc] at hc2
          cases hc2
          subst hsze
          subst he'
          have hat' : ∀ (p : Nat) (c : AV), (flat xs)[p]? = some c → At μ F w b' p c (vals p) := by
            intro p c h
            have h1 : 0 < xs.length := by
              rcases Nat.eq_zero_or_pos xs.length with h0 | h0
              · rw [List.eq_nil_of_length_eq_zero h0] at h
                simp [flat] at h
              · exact h0
            have h2 := hA h1
            rw [h2] at hA'
            cases hA'
            have := hat p c h
            rwa [Nat.zero_add] at this
          rw [hA']
          exact append_room hτ hin hg hsx hsy hat' hsrc hnew (by omega) hM hp hc hcs hsoft

end Go.Ab

/- The logic: code walked over abstract frames and memories; calls by contracts. -/
set_option linter.unusedVariables false
set_option linter.unusedSimpArgs false
namespace Go.Ab
open Go.RowKit

/-- How a piece of code ends. -/
inductive AX where
  | normal
  | exit (id : Nat)
  | ret
  | panic (v : AV)

/-- How a call ends. -/
inductive AEnd where
  | ret (v : AV)
  | pan (v : AV)

def RepL (μ : Mu) (F : Frm) (w : World) (l : List AV) (c : Array Value) : Prop :=
  c.size = l.length ∧ ∀ (i : Nat) (x : AV) (v : Value), l[i]? = some x → c[i]? = some v → Rep μ F w x v

theorem RepL.evo {μ μ' : Mu} {F : Frm} {w w' : World} (hev : Evo w μ w' μ') {l : List AV} {c : Array Value} (h : RepL μ F w l c) : RepL μ' F w' l c :=
  ⟨h.1, fun i x v hx hv => (h.2 i x v hx hv).evo hev⟩

theorem RepL.nil {μ : Mu} {F : Frm} {w : World} : RepL μ F w [] #[] := ⟨rfl, by simp⟩

theorem RepL.app {μ : Mu} {F : Frm} {w : World} {l m : List AV} {c d : Array Value} (h : RepL μ F w l c) (k : RepL μ F w m d) : RepL μ F w (l ++ m) (c ++ d) := by
  refine ⟨by simp [h.1, k.1], ?_⟩
  intro i x v hx hv
  by_cases hi : i < l.length
  · rw [List.getElem?_append_left hi] at hx
    rw [Array.getElem?_append_left (by rw [h.1]; exact hi)] at hv
    exact h.2 i x v hx hv
  · rw [List.getElem?_append_right (by omega)] at hx
    rw [Array.getElem?_append_right (by rw [h.1]; omega), h.1] at hv
    exact k.2 _ x v hx hv

theorem RepL.cons {μ : Mu} {F : Frm} {w : World} {x : AV} {v : Value} (h : Rep μ F w x v) : RepL μ F w [x] #[v] := by
  refine ⟨rfl, ?_⟩
  intro i y u hy hu
  cases i with
  | zero => simp at hy hu; subst hy; subst hu; exact h
  | succ i => simp at hy

theorem RepL.map {μ : Mu} {F : Frm} {w : World} {ρ : Operand → AV} {ρc : Operand → Value} {xs : Array Operand} (h : ∀ x ∈ xs, Rep μ F w (ρ x) (ρc x)) : RepL μ F w (xs.toList.map ρ) (xs.map ρc) := by
  refine ⟨by simp, ?_⟩
  intro i x v hx hv
  simp only [List.getElem?_map, Array.getElem?_toList, Array.getElem?_map] at hx hv
  cases e : xs[i]? with
  | none => simp [e] at hx
  | some y =>
    simp [e] at hx hv
    subst hx; subst hv
    exact h y (Array.mem_of_getElem? e)

/-- A deferred call: what it calls, what that captured, its arguments. -/
structure ADef where
  f : Fn
  cap : List AV
  args : List AV
  keep : List (Nat × AV) := []

/-- Temporaries that are never written behind the deferring, and what they stand for. -/
def keepT : List ADef → List (Nat × AV)
  | [] => []
  | d :: r => d.keep ++ keepT r

structure DefRep1 (μ : Mu) (F : Frm) (w : World) (x : ADef) (d : Deferred) : Prop where
  tgt : ∃ c, d.target = .fn x.f c ∧ RepL μ F w x.cap c
  args : RepL μ F w x.args d.args

def DefRep (μ : Mu) (F : Frm) (w : World) : List ADef → List Deferred → Prop
  | [], [] => True
  | x :: l, d :: r => DefRep1 μ F w x d ∧ DefRep μ F w l r
  | _, _ => False

theorem DefRep.evo {μ μ' : Mu} {F : Frm} {w w' : World} (hev : Evo w μ w' μ') : ∀ {l : List ADef} {r : List Deferred}, DefRep μ F w l r → DefRep μ' F w' l r
  | [], [], _ => trivial
  | _ :: _, _ :: _, ⟨⟨⟨c, h1, h2⟩, h3⟩, h4⟩ => ⟨⟨⟨c, h1, h2.evo hev⟩, h3.evo hev⟩, DefRep.evo hev h4⟩

/-- A frame: what its temporaries stand for, and its deferred calls. -/
structure AF where
  t : List (Nat × AV)
  d : List ADef

def AF.get (f : AF) (i : Nat) : AV := (lookup f.t i).getD .top
def AF.ev (f : AF) : Operand → AV
  | .tmp t => f.get t
  | .const v => ofV v
  | .global _ => .top
  | .func g => .fn (.func g) [] []
def AF.put (f : AF) (dst : Option Tmp) (x : AV) : AF :=
  match dst with
  | some d => ⟨(d, x) :: f.t, f.d⟩
  | none => f

structure RepF (μ : Mu) (F : Frm) (w : World) (n : Nat) (f : AF) (a : Act) : Prop where
  size : a.tmps.size = n
  tmps : ∀ t, Rep μ F w (f.get t) (a.tmps.getD t undef)
  defs : DefRep μ F w f.d a.defers
  kept : ∀ p, p ∈ keepT f.d → Rep μ F w p.2 (a.tmps.getD p.1 undef)

theorem RepF.evo {μ μ' : Mu} {F : Frm} {w w' : World} (hev : Evo w μ w' μ') {n : Nat} {f : AF} {a : Act} (h : RepF μ F w n f a) : RepF μ' F w' n f a :=
  ⟨h.size, fun t => (h.tmps t).evo hev, h.defs.evo hev, fun p hp => (h.kept p hp).evo hev⟩

theorem RepF.ev {μ : Mu} {F : Frm} {w : World} {n : Nat} {f : AF} {a : Act} (h : RepF μ F w n f a) (x : Operand) : Rep μ F w (f.ev x) (a.eval x) := by
  cases x with
  | tmp t => exact h.tmps t
  | const v => exact rep_ofV _ _ _ _
  | global g => exact .top _
  | func g => exact .fn _ _ _ _ _ rfl rfl (by simp) (by simp)

theorem RepF.put {μ : Mu} {F : Frm} {w : World} {n : Nat} {f : AF} {a : Act} (h : RepF μ F w n f a) {dst : Option Tmp} (hd : ∀ d, dst = some d → d < n ∧ ∀ p, p ∈ keepT f.d → p.1 ≠ d) {x : AV} {v : Value} (hr : Rep μ F w x v) : RepF μ F w n (f.put dst x) (a.put dst v) := by
  cases dst with
  | none => exact h
  | some d =>
    obtain ⟨hlt, hk⟩ := hd d rfl
    refine ⟨by simp [Act.put, h.size], ?_, h.defs, fun p hp => by
      have := h.kept p hp
      simp only [Act.put]
      rw [Array.getD_eq_getD_getElem?, Array.getElem?_setIfInBounds_ne (Ne.symm (hk p hp)), ← Array.getD_eq_getD_getElem?]
      exact this⟩
    intro t
    simp only [AF.put, AF.get, lookup, Act.put]
    by_cases ht : t = d
    · subst ht
      have : t < a.tmps.size := by rw [h.size]; exact hlt
      simp [Array.getElem?_setIfInBounds, this, hr]
    · rw [if_neg ht]
      have := h.tmps t
      rw [Array.getD_eq_getD_getElem?, Array.getElem?_setIfInBounds_ne (by omega), ← Array.getD_eq_getD_getElem?]
      exact this

/-- What stands for x stands for y, too. -/
def Sub (x y : AV) : Prop := ∀ (μ : Mu) (F : Frm) (w : World) (v : Value), Rep μ F w x v → Rep μ F w y v

theorem Sub.refl {x : AV} : Sub x x := fun _ _ _ _ h => h
theorem Sub.top {x : AV} : Sub x .top := fun _ _ _ v _ => .top v
theorem Sub.of_eq {x y : AV} (h : x = y) : Sub x y := by subst h; exact Sub.refl

/-- A frame of which less is known. -/
def AF.le (g f : AF) : Prop := g.d = f.d ∧ ∀ t, Sub (f.get t) (g.get t)

theorem RepF.le {μ : Mu} {F : Frm} {w : World} {n : Nat} {f g : AF} {a : Act} (h : RepF μ F w n f a) (hg : g.le f) : RepF μ F w n g a :=
  ⟨h.size, fun t => hg.2 t _ _ _ _ (h.tmps t), by rw [hg.1]; exact h.defs, by rw [hg.1]; exact h.kept⟩

/-- A memory of which less is known. -/
def Mem.le (N M : Mem) : Prop := N.next = M.next ∧ ∀ i o, N.get i = some o → M.get i = some o

theorem Gam.le {μ : Mu} {F : Frm} {M N : Mem} {w : World} (h : Gam μ F M w) (hl : N.le M) : Gam μ F N w :=
  ⟨fun id => by rw [hl.1]; exact h.dom id, fun id l hM => h.obj id l (hl.2 id _ hM), fun id g hM => h.spare id g (hl.2 id _ hM), h.inj, h.frm, h.fit⟩

/-- A step that only the proof takes: other abstract values stand for the same machine's state (n0: the objects that there were at the beginning). -/
def Joint (n0 : Nat) (f : AF) (M : Mem) (g : AF) (N : Mem) : Prop :=
  ∀ (μ0 μ : Mu) (F : Frm) (w0 w : World) (n : Nat) (a : Act), (∀ id, μ0 id ≠ none → id < n0) → Evo w0 μ0 w μ → Gam μ F M w → RepF μ F w n f a → ∃ μ', Evo w0 μ0 w μ' ∧ Gam μ' F N w ∧ RepF μ' F w n g a

theorem Joint.refl {n0 : Nat} {f : AF} {M : Mem} : Joint n0 f M f M := fun μ0 μ F w0 w n a _ he hg hr => ⟨μ, he, hg, hr⟩
theorem Joint.trans {n0 : Nat} {f g h : AF} {M N L : Mem} (h1 : Joint n0 f M g N) (h2 : Joint n0 g N h L) : Joint n0 f M h L := by
  intro μ0 μ F w0 w n a hn he hg hr
  obtain ⟨μ1, e1, g1, r1⟩ := h1 μ0 μ F w0 w n a hn he hg hr
  exact h2 μ0 μ1 F w0 w n a hn e1 g1 r1
theorem Joint.le {n0 : Nat} {f g : AF} {M N : Mem} (hf : g.le f) (hM : N.le M) : Joint n0 f M g N := fun μ0 μ F w0 w n a _ he hg hr => ⟨μ, he, hg.le hM, hr.le hf⟩

def XRel (μ : Mu) (F : Frm) (w : World) : Exit → AX → Prop
  | .normal, .normal => True
  | .exit i, .exit j => i = j
  | .ret, .ret => True
  | .panic ch, .panic x => ∃ v, ch = [{ v, recovered := false }] ∧ Rep μ F w x v
  | _, _ => False

def Post (n : Nat) (Q : AX → AF → Mem → Prop) (μ : Mu) (F : Frm) (w : World) : Exit → Act → World → Prop :=
  fun e a' w' => ∃ μ' f' M' x, Evo w μ w' μ' ∧ Gam μ' F M' w' ∧ RepF μ' F w' n f' a' ∧ XRel μ' F w' e x ∧ Q x f' M'

/-- The walk of a piece of code. -/
structure W (P : Program) (n : Nat) (c : Code) (Q : AX → AF → Mem → Prop) (f : AF) (M : Mem) : Prop where
  run : ∀ (μ : Mu) (F : Frm) (w : World) (a : Act), Gam μ F M w → RepF μ F w n f a → c.wp P (Post n Q μ F w) a w

theorem Post.trans {n : Nat} {Q : AX → AF → Mem → Prop} {μ μ1 : Mu} {F : Frm} {w w1 : World} (h : Evo w μ w1 μ1) {e : Exit} {a : Act} {w' : World} (hp : Post n Q μ1 F w1 e a w') : Post n Q μ F w e a w' := by
  obtain ⟨μ', f', M', x, h1, h2, h3, h4, h5⟩ := hp
  exact ⟨μ', f', M', x, h.trans h1, h2, h3, h4, h5⟩

theorem W.mono {P : Program} {n : Nat} {c : Code} {Q Q' : AX → AF → Mem → Prop} {f : AF} {M : Mem} (h : W P n c Q f M) (hq : ∀ x f M, Q x f M → Q' x f M) : W P n c Q' f M :=
  ⟨fun μ F w a hg hr => wp_mono (h.run μ F w a hg hr) fun e a' w' ⟨μ', f', M', x, h1, h2, h3, h4, h5⟩ => ⟨μ', f', M', x, h1, h2, h3, h4, hq x f' M' h5⟩⟩

theorem W.le {P : Program} {n : Nat} {c : Code} {Q : AX → AF → Mem → Prop} {f g : AF} {M N : Mem} (hf : g.le f) (hM : N.le M) (h : W P n c Q g N) : W P n c Q f M :=
  ⟨fun μ F w a hg hr => h.run μ F w a (hg.le hM) (hr.le hf)⟩

section
variable {P : Program} {n : Nat} {Q : AX → AF → Mem → Prop} {f : AF} {M : Mem}

theorem W_skip (h : Q .normal f M) : W P n .skip Q f M :=
  ⟨fun μ F w a hg hr => wp_skip ⟨μ, f, M, .normal, Evo.refl _ _, hg, hr, trivial, h⟩⟩
theorem W_ret (h : Q .ret f M) : W P n .ret Q f M :=
  ⟨fun μ F w a hg hr => wp_ret ⟨μ, f, M, .ret, Evo.refl _ _, hg, hr, trivial, h⟩⟩
theorem W_exit {id : Nat} (h : Q (.exit id) f M) : W P n (.exit id) Q f M :=
  ⟨fun μ F w a hg hr => wp_exit ⟨μ, f, M, .exit id, Evo.refl _ _, hg, hr, rfl, h⟩⟩

/-- What follows a normal end. -/
def thenX (K : AF → Mem → Prop) (Q : AX → AF → Mem → Prop) : AX → AF → Mem → Prop
  | .normal, f, M => K f M
  | x, f, M => Q x f M

theorem W_seq {c d : Code} (h : W P n c (thenX (fun f M => W P n d Q f M) Q) f M) : W P n (.seq c d) Q f M := by
  refine ⟨fun μ F w a hg hr => ?_⟩
  refine wp_seq (wp_mono (h.run μ F w a hg hr) ?_)
  rintro e a' w' ⟨μ', f', M', x, h1, h2, h3, h4, h5⟩
  cases e with
  | normal =>
    cases x <;> simp only [XRel] at h4
    exact wp_mono (h5.run μ' F w' a' h2 h3) fun e a w hp => hp.trans h1
  | exit id => cases x <;> first | exact h4.elim | exact ⟨μ', f', M', _, h1, h2, h3, h4, h5⟩
  | goto l => cases x <;> exact h4.elim
  | ret => cases x <;> first | exact h4.elim | exact ⟨μ', f', M', _, h1, h2, h3, h4, h5⟩
  | panic ch => cases x <;> first | exact h4.elim | exact ⟨μ', f', M', _, h1, h2, h3, h4, h5⟩
  | outgrown => cases x <;> exact h4.elim

def blockX (id : Nat) (Q : AX → AF → Mem → Prop) : AX → AF → Mem → Prop
  | .exit j, f, M => if j = id then Q .normal f M else Q (.exit j) f M
  | x, f, M => Q x f M

theorem W_block {id : Nat} {c : Code} (h : W P n c (blockX id Q) f M) : W P n (.block id c) Q f M := by
  refine ⟨fun μ F w a hg hr => ?_⟩
  refine wp_block (wp_mono (h.run μ F w a hg hr) ?_)
  rintro e a' w' ⟨μ', f', M', x, h1, h2, h3, h4, h5⟩
  cases e with
  | normal => cases x <;> simp only [XRel] at h4; exact ⟨μ', f', M', .normal, h1, h2, h3, trivial, h5⟩
  | exit j =>
    cases x <;> simp only [XRel] at h4
    subst h4
    simp only [Exit.inBlock, blockX] at h5 ⊢
    split
    · rename_i e
      rw [if_pos e] at h5
      exact ⟨μ', f', M', .normal, h1, h2, h3, trivial, h5⟩
    · rename_i e
      rw [if_neg e] at h5
      exact ⟨μ', f', M', .exit j, h1, h2, h3, rfl, h5⟩
  | goto l => cases x <;> exact h4.elim
  | ret => cases x <;> first | exact h4.elim | exact ⟨μ', f', M', _, h1, h2, h3, h4, h5⟩
  | panic ch => cases x <;> first | exact h4.elim | exact ⟨μ', f', M', _, h1, h2, h3, h4, h5⟩
  | outgrown => cases x <;> exact h4.elim

theorem W_cond {c : Operand} {d e : Code} {b : Bool} (hc : f.ev c = .bool b) (h1 : b = true → W P n d Q f M) (h2 : b = false → W P n e Q f M) : W P n (.cond c d e) Q f M := by
  refine ⟨fun μ F w a hg hr => ?_⟩
  have hv := hr.ev c
  rw [hc] at hv
  generalize hva : a.eval c = v at hv
  cases hv
  exact wp_cond_split hva (fun h => (h1 h).run μ F w a hg hr) (fun h => (h2 h).run μ F w a hg hr)

theorem W_true {c : Operand} {d e : Code} (hc : f.ev c = .bool true) (h1 : W P n d Q f M) : W P n (.cond c d e) Q f M := W_cond hc (fun _ => h1) (fun h => by cases h)
theorem W_false {c : Operand} {d e : Code} (hc : f.ev c = .bool false) (h1 : W P n e Q f M) : W P n (.cond c d e) Q f M := W_cond hc (fun h => by cases h) (fun _ => h1)

theorem W_ghost {c : Code} {g : AF} {N : Mem} (hj : Joint M.next f M g N) (h : W P n c Q g N) : W P n c Q f M := by
  refine ⟨fun μ F w a hg hr => ?_⟩
  obtain ⟨μ', e, hg', hr'⟩ := hj μ μ F w w n a (fun id h => (hg.dom id).1 h) (Evo.refl _ _) hg hr
  exact wp_mono (h.run μ' F w a hg' hr') fun e' a' w' hp => hp.trans e

/-- A loop: what holds at each round's head, by a number that each round lowers. -/
theorem W_loop {c : Code} (I : Nat → AF → Mem → Prop) {k : Nat} {f0 : AF} {M0 : Mem} (h0 : I k f0 M0) (hj : Joint M.next f M f0 M0)
    (round : ∀ k f' N, I k f' N → W P n c (thenX (fun f1 M1 => ∃ k' f'' M'', k' < k ∧ I k' f'' M'' ∧ Joint M.next f1 M1 f'' M'') Q) f' N) : W P n (.loop c) Q f M := by
  refine ⟨fun μ F w a hg hr => ?_⟩
  have hdom : ∀ id, μ id ≠ none → id < M.next := fun id h => (hg.dom id).1 h
  -- the relation of the machine's frames and worlds
  let J : Nat → Act → World → Prop := fun k a' w' => ∃ μ' f' M', Evo w μ w' μ' ∧ Gam μ' F M' w' ∧ RepF μ' F w' n f' a' ∧ I k f' M'
  intro b K cs
  have key : ∀ (k : Nat) (a' : Act) (w' : World), J k a' w' → ∃ e a2 w2, Post n Q μ F w e a2 w2 ∧ Arrives P (lone (b.at a' (.code c :: .inLoop c :: K)) cs w') b K cs e a2 w2 := by
    intro k
    induction k using Nat.strongRecOn with
    | _ k ih =>
      intro a' w' ⟨μ', f', M', h1, h2, h3, h4⟩
      obtain ⟨e, a1, w1, ⟨μ1, f1, M1, x, g1, g2, g3, g4, g5⟩, harr⟩ := (round k f' M' h4).run μ' F w' a' h2 h3 b (.inLoop c :: K) cs
      have hev := h1.trans g1
      cases e with
      | normal =>
        cases x <;> simp only [XRel] at g4
        obtain ⟨k', f'', M'', hlt, hI, hjj⟩ := g5
        obtain ⟨μ2, j1, j2, j3⟩ := hjj μ μ1 F w w1 n a1 hdom hev g2 g3
        obtain ⟨e2, a2, w2, hq2, harr2⟩ := ih k' hlt a1 w1 ⟨μ2, f'', M'', j1, j2, j3, hI⟩
        exact ⟨e2, a2, w2, hq2, .of_steps (Steps.trans harr (.one step_inLoop)) harr2⟩
      | exit id =>
        cases x <;> first | exact g4.elim | skip
        exact ⟨_, a1, w1, ⟨μ1, f1, M1, _, hev, g2, g3, g4, g5⟩, .pass (x := .inLoop c) rfl (fun _ _ => .inl (by simp)) harr⟩
      | goto l => cases x <;> exact g4.elim
      | ret =>
        cases x <;> first | exact g4.elim | skip
        exact ⟨_, a1, w1, ⟨μ1, f1, M1, _, hev, g2, g3, g4, g5⟩, .pass (x := .inLoop c) rfl (fun _ _ => .inl (by simp)) harr⟩
      | panic ch =>
        cases x <;> first | exact g4.elim | skip
        exact ⟨_, a1, w1, ⟨μ1, f1, M1, _, hev, g2, g3, g4, g5⟩, .pass (x := .inLoop c) rfl (fun _ _ => .inl (by simp)) harr⟩
      | outgrown => cases x <;> exact g4.elim
  obtain ⟨μ0, j1, j2, j3⟩ := hj μ μ F w w n a hdom (Evo.refl _ _) hg hr
  obtain ⟨e, a', w', hq, harr⟩ := key k a w ⟨μ0, f0, M0, j1, j2, j3, h0⟩
  exact ⟨e, a', w', hq, .of_steps (.one step_loop) harr⟩
end

end Go.Ab

/- Regions in the order of the text; calls; functions. -/
set_option linter.unusedVariables false
set_option linter.unusedSimpArgs false
namespace Go.Ab
open Go.RowKit

/-- The rest of a region whose order is the text's. -/
def WL (P : Program) (n : Nat) (ops : Array Oper) (Q : AX → AF → Mem → Prop) (rest : List Oper) (f : AF) (M : Mem) : Prop :=
  ∀ (μ : Mu) (F : Frm) (w : World) (a : Act), Gam μ F M w → RepF μ F w n f a → ∀ Q' : Exit → Act → World → Prop, (∀ e a' w', Post n Q μ F w e a' w' → Q' e a' w') → wpList P ops Q' rest a w

def wantedA (ops : Array Oper) (f : AF) (o : Oper) : Option Bool :=
  match o.guard with
  | none => some true
  | some (j, b) =>
    match (ops[j]?).bind (·.dst) with
    | some d => (match f.get d with | .bool c => some (c == b) | .tup [] => some false | _ => none)
    | none => none

theorem rep_undef {μ : Mu} {F : Frm} {w : World} : Rep μ F w (.tup []) undef := .tup _ _ rfl (by simp)

theorem wanted_undef {μ : Mu} {F : Frm} {w : World} {ops : Array Oper} {o : Oper} {tmps : Array Value} {j d : Nat} {want : Bool} (hg : o.guard = some (j, want)) (hd : (ops[j]?).bind (·.dst) = some d) (hv : Rep μ F w (.tup []) (tmps.getD d undef)) :
    Region.wanted o (yielded ops tmps) = false := by
  simp only [Region.wanted, hg, yielded, hd, Option.bind_some]
  cases ht : tmps[d]? with
  | none => rfl
  | some u =>
    rw [Array.getD_eq_getD_getElem?, ht] at hv
    simp only [Option.getD_some] at hv
    obtain ⟨c, rfl, _⟩ := hv.tup_inv
    rfl

theorem wanted_of {μ : Mu} {F : Frm} {w : World} {n : Nat} {f : AF} {a : Act} (hr : RepF μ F w n f a) {ops : Array Oper} {o : Oper} {b : Bool} (h : wantedA ops f o = some b) : Region.wanted o (yielded ops a.tmps) = b := by
  unfold wantedA at h
  split at h
  · rename_i hg
    cases h
    simp [Region.wanted, hg]
  · rename_i j want hg
    split at h
    · rename_i d hd
      split at h
      · rename_i c hc
        cases h
        have hv := hr.tmps d
        rw [hc] at hv
        generalize hu : a.tmps.getD d undef = u at hv
        cases hv
        have hlt : d < a.tmps.size := by
          rcases Nat.lt_or_ge d a.tmps.size with h | h
          · exact h
          · simp [Array.getD, Nat.not_lt.2 h, undef] at hu
        have hget : a.tmps[d]? = some (.bool c) := by
          rw [Array.getElem?_eq_getElem hlt]
          simp [Array.getD, hlt] at hu
          rw [hu]
        simp only [Region.wanted, hg, yielded, hd, Option.bind_some, hget]
        cases c <;> cases want <;> rfl
      · rename_i hc
        cases h
        have hv := hr.tmps d
        rw [hc] at hv
        exact wanted_undef hg hd hv
      · cases h
    · cases h

def dstOK (ds : List ADef) (o : Oper) (n : Nat) : Bool := match o.dst with | some d => decide (d < n) && (keepT ds).all (fun p => !(p.1 == d)) | none => true

theorem dstOK_spec {ds : List ADef} {o : Oper} {n : Nat} (h : dstOK ds o n = true) : ∀ d, o.dst = some d → d < n ∧ ∀ p, p ∈ keepT ds → p.1 ≠ d := by
  intro d hd
  simp only [dstOK, hd, Bool.and_eq_true, decide_eq_true_eq, List.all_eq_true, Bool.not_eq_true', beq_eq_false_iff_ne] at h
  exact h

section
variable {P : Program} {n : Nat} {ops : Array Oper} {Q : AX → AF → Mem → Prop} {rest : List Oper} {o : Oper} {f : AF} {M : Mem}

theorem W_region {id : Nat} {ops : Array Oper} (h : WL P n ops Q ops.toList f M) : W P n (.region id ops false) Q f M :=
  ⟨fun μ F w a hg hr => wp_region_list (h μ F w a hg hr _ fun _ _ _ hp => hp)⟩

theorem WL_nil (h : Q .normal f M) : WL P n ops Q [] f M :=
  fun μ F w a hg hr Q' hQ => hQ _ _ _ ⟨μ, f, M, .normal, Evo.refl _ _, hg, hr, trivial, h⟩

theorem WL_skip (hw : wantedA ops f o = some false) (hd : dstOK f.d o n = true) (h : WL P n ops Q rest (f.put o.dst (.tup [])) M) : WL P n ops Q (o :: rest) f M := by
  intro μ F w a hg hr Q' hQ
  unfold wpList
  rw [wanted_of hr hw]
  exact h μ F w _ hg (hr.put (dstOK_spec hd) rep_undef) Q' hQ

theorem WL_op (hw : wantedA ops f o = some true) (hd : dstOK f.d o n = true) {x : AV} {M' : Mem} (ho : OpE P o.op o.type f.ev M x M') (h : WL P n ops Q rest (f.put o.dst x) M') : WL P n ops Q (o :: rest) f M := by
  intro μ F w a hg hr Q' hQ
  unfold wpList
  rw [wanted_of hr hw]
  obtain ⟨μ', nx, v, w', h1, h2, h3, h4, h5⟩ := ho μ F w a.eval o hg rfl rfl (fun y _ => hr.ev y)
  refine .inl ?_
  unfold Oper.wp
  rw [h1]
  have hgo : wpList P ops Q' rest (a.put o.dst v) w' := h μ' F w' _ h4 ((hr.evo h3).put (dstOK_spec hd) h5) Q' fun e a' w'' hp => hQ _ _ _ (hp.trans h3)
  rcases h2 with rfl | ⟨rfl, rfl⟩
  · exact hgo
  · exact hgo

/-- An operation that only reckons. -/
theorem WL_P (hw : wantedA ops f o = some true) (hd : dstOK f.d o n = true) {x : AV} (ho : OpP P o.op o.type f.ev x) (h : WL P n ops Q rest (f.put o.dst x) M) : WL P n ops Q (o :: rest) f M := WL_op hw hd ho.toR.toE h
theorem WL_R (hw : wantedA ops f o = some true) (hd : dstOK f.d o n = true) {x : AV} (ho : OpR P o.op o.type f.ev M x) (h : WL P n ops Q rest (f.put o.dst x) M) : WL P n ops Q (o :: rest) f M := WL_op hw hd ho.toE h

theorem WL_le {g : AF} {N : Mem} (hf : g.le f) (hM : N.le M) (h : WL P n ops Q rest g N) : WL P n ops Q rest f M :=
  fun μ F w a hg hr => h μ F w a (hg.le hM) (hr.le hf)
end

/-! ### Calls -/
/-- A function of the program's own text. -/
def Enters (P : Program) (g : FuncId) : Prop := ∃ fn c, P.funcs[g]? = some fn ∧ fn.body = some c ∧ fn.name ≠ "runtime.NumGoroutine"

theorem run_enter {P : Program} {g : FuncId} (h : Enters P g) (args : Array Value) (w : World) : (callFunc g args).run P w = .ok (.enter g args) w := by
  obtain ⟨fn, c, h1, h2, h3⟩ := h
  simp [callFunc, h1, h2, h3]

/-- A call's contract. -/
def ACalls (P : Program) (g : FuncId) (args : List AV) (M : Mem) (R : AEnd → Mem → Prop) : Prop :=
  Enters P g ∧ ∀ (μ : Mu) (F : Frm) (w : World) (vs : Array Value), Gam μ F M w → RepL μ F w args vs →
    Calls P g vs w fun e w' => ∃ μ' M', Evo w μ w' μ' ∧ Gam μ' F M' w' ∧
      match e with
      | .returned v => ∃ x, Rep μ' F w' x v ∧ R (.ret x) M'
      | .panicked ch => ∃ x v, ch = [{ v, recovered := false }] ∧ Rep μ' F w' x v ∧ R (.pan x) M'
      | .outgrown => False

theorem ACalls.mono {P : Program} {g : FuncId} {args : List AV} {M : Mem} {R R' : AEnd → Mem → Prop} (h : ACalls P g args M R) (hr : ∀ e M, R e M → R' e M) : ACalls P g args M R' := by
  refine ⟨h.1, fun μ F w vs hg hv => (h.2 μ F w vs hg hv).mono ?_⟩
  rintro e w' ⟨μ', M', h1, h2, h3⟩
  refine ⟨μ', M', h1, h2, ?_⟩
  cases e with
  | returned v => obtain ⟨x, h4, h5⟩ := h3; exact ⟨x, h4, hr _ _ h5⟩
  | panicked ch => obtain ⟨x, v, h4, h5, h6⟩ := h3; exact ⟨x, v, h4, h5, hr _ _ h6⟩
  | outgrown => exact h3

theorem ACalls.le {P : Program} {g : FuncId} {args : List AV} {M N : Mem} {R : AEnd → Mem → Prop} (hM : N.le M) (h : ACalls P g args N R) : ACalls P g args M R :=
  ⟨h.1, fun μ F w vs hg hv => h.2 μ F w vs (hg.le hM) hv⟩

/-- It hands back just this, whatever the objects are, and leaves them. -/
def APure (P : Program) (g : FuncId) (args : List AV) (r : AV) : Prop := ∀ M, ACalls P g args M fun e M' => e = .ret r ∧ M' = M

/-- The call of a function value. -/
theorem call_wp {P : Program} {n : Nat} {o : Oper} {x : Operand} {ags : Array Operand} {ts : Array TypeId} (ho : o.op = .call { callee := .value x, args := ags, argTypes := ts }) {f : AF} {M : Mem} {g : FuncId} {fi ca : List AV}
    (hx : f.ev x = .fn (.func g) fi ca) {R : AEnd → Mem → Prop} (hc : ACalls P g (fi ++ ags.toList.map f.ev ++ ca) M R) {μ : Mu} {F : Frm} {w : World} {a : Act} (hg : Gam μ F M w) (hr : RepF μ F w n f a)
    {next : Act → World → Prop} {Q' : Exit → Act → World → Prop}
    (hret : ∀ μ' M' w' v u, Evo w μ w' μ' → Gam μ' F M' w' → Rep μ' F w' u v → R (.ret u) M' → next (a.put o.dst v) w')
    (hpan : ∀ μ' M' w' v u, Evo w μ w' μ' → Gam μ' F M' w' → Rep μ' F w' u v → R (.pan u) M' → Q' (.panic [{ v, recovered := false }]) a w') : o.wp P a w next Q' := by
  have hv := hr.ev x
  rw [hx] at hv
  obtain ⟨c1, c2, he, hs1, hs2, h1, h2⟩ := hv.fn_inv
  have hargs : RepL μ F w (ags.toList.map f.ev) (ags.map a.eval) := RepL.map fun y _ => hr.ev y
  have hall : RepL μ F w (fi ++ ags.toList.map f.ev ++ ca) (c1 ++ ags.map a.eval ++ c2) := (RepL.app ⟨hs1, h1⟩ hargs).app ⟨hs2, h2⟩
  have hcall := hc.2 μ F w _ hg hall
  have hrun : (execOp a.eval o).run P w = .ok (.enter g (c1 ++ ags.map a.eval ++ c2)) w := by
    simp [execOp, ho, resolve, he, Deferred.ofValue, invoke, run_enter hc.1]
  unfold Oper.wp
  rw [hrun]
  simp only [Oper.upon]
  refine hcall.mono ?_
  rintro e w' ⟨μ', M', g1, g2, g3⟩
  cases e with
  | returned v =>
    obtain ⟨u, g4, g5⟩ := g3
    exact hret μ' M' w' v u g1 g2 g4 g5
  | panicked ch =>
    obtain ⟨u, v, rfl, g4, g5⟩ := g3
    exact hpan μ' M' w' v u g1 g2 g4 g5
  | outgrown => exact g3.elim

section
variable {P : Program} {n : Nat} {ops : Array Oper} {Q : AX → AF → Mem → Prop} {rest : List Oper} {o : Oper} {f : AF} {M : Mem}

theorem WL_call (hw : wantedA ops f o = some true) (hd : dstOK f.d o n = true) {x : Operand} {ags : Array Operand} {ts : Array TypeId} (ho : o.op = .call { callee := .value x, args := ags, argTypes := ts }) {g : FuncId} {fi ca : List AV}
    (hx : f.ev x = .fn (.func g) fi ca) {R : AEnd → Mem → Prop} (hc : ACalls P g (fi ++ ags.toList.map f.ev ++ ca) M R)
    (hret : ∀ u M', R (.ret u) M' → WL P n ops Q rest (f.put o.dst u) M') (hpan : ∀ u M', R (.pan u) M' → Q (.panic u) f M') : WL P n ops Q (o :: rest) f M := by
  intro μ F w a hg hr Q' hQ
  unfold wpList
  rw [wanted_of hr hw]
  refine .inl (call_wp ho hx hc hg hr ?_ ?_)
  · intro μ' M' w' v u g1 g2 g3 g4
    exact hret u M' g4 μ' F w' _ g2 ((hr.evo g1).put (dstOK_spec hd) g3) Q' fun e a' w'' hp => hQ _ _ _ (hp.trans g1)
  · intro μ' M' w' v u g1 g2 g3 g4
    exact hQ _ _ _ ⟨μ', f, M', .panic u, g1, g2, hr.evo g1, ⟨v, rfl, g3⟩, hpan u M' g4⟩

theorem WL_pure (hw : wantedA ops f o = some true) (hd : dstOK f.d o n = true) {x : Operand} {ags : Array Operand} {ts : Array TypeId} (ho : o.op = .call { callee := .value x, args := ags, argTypes := ts }) {g : FuncId} {fi ca : List AV}
    (hx : f.ev x = .fn (.func g) fi ca) {r : AV} (hc : APure P g (fi ++ ags.toList.map f.ev ++ ca) r) (h : WL P n ops Q rest (f.put o.dst r) M) : WL P n ops Q (o :: rest) f M :=
  WL_call hw hd ho hx (hc M) (fun u M' ⟨e, e'⟩ => by cases e; subst e'; exact h) (fun u M' ⟨e, _⟩ => by cases e)

/-- The program's own panic. -/
theorem WL_panic (hw : wantedA ops f o = some true) {x : Operand} (ho : o.op = .panic x) {t : TypeId} {y : AV} (hx : f.ev x = .iface t y) (h : Q (.panic (.iface t y)) f M) : WL P n ops Q (o :: rest) f M := by
  intro μ F w a hg hr Q' hQ
  unfold wpList
  rw [wanted_of hr hw]
  have hv := hr.ev x
  rw [hx] at hv
  generalize hu : a.eval x = u at hv
  have hv0 := hv
  cases hv with
  | iface _ _ v hy =>
    refine .inl ?_
    unfold Oper.wp
    have hrun : (execOp a.eval o).run P w = .halt (.panic (.iface t v)) w := by
      simp [execOp, ho, hu, Instr.panic]
    rw [hrun]
    exact hQ _ _ _ ⟨μ, f, M, .panic (.iface t y), Evo.refl _ _, hg, hr, ⟨_, rfl, hv0⟩, h⟩
end

/-! ### Functions -/
def initT : List AV → Nat → List (Nat × AV)
  | [], _ => []
  | a :: r, i => (i, a) :: initT r (i + 1)

theorem lookup_initT : ∀ (l : List AV) (k i : Nat), lookup (initT l k) i = if k ≤ i ∧ i < k + l.length then l[i - k]? else none
  | [], k, i => by simp [initT, lookup]
  | a :: r, k, i => by
    simp only [initT, lookup, List.length_cons]
    by_cases h : i = k
    · subst h
      simp
    · rw [if_neg h, lookup_initT r (k + 1) i]
      by_cases h2 : k + 1 ≤ i ∧ i < k + 1 + r.length
      · rw [if_pos h2, if_pos (by omega)]
        obtain ⟨m, rfl⟩ : ∃ m, i = k + 1 + m := ⟨i - (k + 1), by omega⟩
        rw [show k + 1 + m - (k + 1) = m from by omega, show k + 1 + m - k = m + 1 from by omega]
        rfl
      · rw [if_neg h2, if_neg (by omega)]

def initF (args : List AV) : AF := ⟨initT args 0, []⟩

/-- A result. -/
def resOf (τ : Tab) (M : Mem) (f : AF) : ResultVar → Option AV
  | .tmp t => some (f.get t)
  | .cell a t => aloadM M τ t (f.get a)

def ress (τ : Tab) (M : Mem) (f : AF) : List ResultVar → Option (List AV)
  | [] => some []
  | r :: l => match resOf τ M f r, ress τ M f l with | some x, some xs => some (x :: xs) | _, _ => none

def resA (τ : Tab) (M : Mem) (f : AF) (rs : Array ResultVar) : Option AV :=
  match ress τ M f rs.toList with
  | some [x] => some x
  | some xs => some (.tup xs)
  | none => none

/-- What one result runs to. -/
def resSem (tmps : Array Value) : ResultVar → Sem Value
  | .tmp t => pure (tmps.getD t undef)
  | .cell a t => do loadVar t (← asAddr (tmps.getD a undef))

theorem run_resOf {P : Program} {τ : Tab} (hτ : TabOK P τ) {μ : Mu} {F : Frm} {M : Mem} {w : World} {n : Nat} {f : AF} {a : Act} (hg : Gam μ F M w) (hr : RepF μ F w n f a) {r : ResultVar} {x : AV} (h : resOf τ M f r = some x) :
    ∃ v, (resSem a.tmps r).run P w = .ok v w ∧ Rep μ F w x v := by
  cases r with
  | tmp t =>
    simp only [resOf, Option.some.injEq] at h
    subst h
    exact ⟨_, rfl, hr.tmps t⟩
  | cell c t =>
    simp only [resOf] at h
    obtain ⟨b, off, v, hv, hl, hrep⟩ := run_aloadM (P := P) hτ h hg (hr.tmps c)
    refine ⟨v, ?_, hrep⟩
    simp only [resSem, hv, asAddr, Sem.run_bind, Sem.run_pure, Result.andThen_ok, hl]

theorem run_ress {P : Program} {τ : Tab} (hτ : TabOK P τ) {μ : Mu} {F : Frm} {M : Mem} {w : World} {n : Nat} {f : AF} {a : Act} (hg : Gam μ F M w) (hr : RepF μ F w n f a) : ∀ {rs : List ResultVar} {xs : List AV}, ress τ M f rs = some xs →
    ∃ vs : List Value, (rs.mapM (resSem a.tmps)).run P w = .ok vs w ∧ vs.length = xs.length ∧ ∀ (i : Nat) (x : AV) (v : Value), xs[i]? = some x → vs[i]? = some v → Rep μ F w x v
  | [], xs, h => by
    simp only [ress, Option.some.injEq] at h
    subst h
    exact ⟨[], by simp, rfl, by simp⟩
  | r :: l, xs, h => by
    simp only [ress] at h
    split at h
    case h_2 => cases h
    rename_i x ys h1 h2
    cases h
    obtain ⟨v, hv, hx⟩ := run_resOf (P := P) hτ hg hr h1
    obtain ⟨vs, hvs, hl, hxs⟩ := run_ress hτ hg hr h2
    refine ⟨v :: vs, by simp [List.mapM_cons, hv, hvs], by simp [hl], ?_⟩
    intro i y u hy hu
    cases i with
    | zero => simp at hy hu; subst hy; subst hu; exact hx
    | succ i => exact hxs i y u (by simpa using hy) (by simpa using hu)

theorem run_resA {P : Program} {τ : Tab} (hτ : TabOK P τ) {μ : Mu} {F : Frm} {M : Mem} {w : World} {n : Nat} {f : AF} {a : Act} (hg : Gam μ F M w) (hr : RepF μ F w n f a) {fn : Func} {x : AV} (h : resA τ M f fn.results = some x) :
    ∃ v, (results fn a.tmps).run P w = .ok v w ∧ Rep μ F w x v := by
  unfold resA at h
  have hres : results fn a.tmps = (do let vs ← fn.results.mapM (resSem a.tmps); pure (if h : vs.size = 1 then vs[0] else .tuple vs)) := by
    unfold results
    congr 1
  cases hx : ress τ M f fn.results.toList with
  | none => rw [hx] at h; simp at h
  | some xs =>
    rw [hx] at h
    obtain ⟨vs, hvs, hl, hxs⟩ := run_ress (P := P) hτ hg hr hx
    have hrun : (fn.results.mapM (resSem a.tmps)).run P w = .ok vs.toArray w := by
      rw [Array.mapM_eq_mapM_toList]
      simp [hvs]
    rw [hres]
    simp only [Sem.run_bind, hrun, Result.andThen_ok, Sem.run_pure]
    match xs, vs, hl, hxs, h with
    | [y], [v], _, hxs, h =>
      simp only [Option.some.injEq] at h
      subst h
      exact ⟨v, rfl, hxs 0 y v rfl rfl⟩
    | [], [], _, hxs, h =>
      simp only [Option.some.injEq] at h
      subst h
      exact ⟨.tuple #[], rfl, .tup _ _ rfl (by simp)⟩
    | y :: z :: l, v :: u :: r, hl, hxs, h =>
      simp only [Option.some.injEq] at h
      subst h
      refine ⟨.tuple (v :: u :: r).toArray, ?_, .tup _ _ (by simpa using hl) (fun i x q hx hq => hxs i x q hx (by simpa using hq))⟩
      rw [dif_neg (by simp)]

/-- A function's contract out of the walk of its body (no deferred calls). -/
def fnPost (τ : Tab) (fn : Func) (R : AEnd → Mem → Prop) : AX → AF → Mem → Prop
  | .normal, f, M | .ret, f, M => f.d = [] ∧ ∃ r, resA τ M f fn.results = some r ∧ R (.ret r) M
  | .panic v, f, M => f.d = [] ∧ R (.pan v) M
  | .exit _, _, _ => False

theorem defrep_nil {μ : Mu} {F : Frm} {w : World} {l : List Deferred} (h : DefRep μ F w [] l) : l = [] := by
  cases l with
  | nil => rfl
  | cons d r => exact h.elim

theorem initF_rep {μ : Mu} {F : Frm} {w : World} {n : Nat} {args : List AV} {vs : Array Value} (hlen : args.length ≤ n) (hv : RepL μ F w args vs) : RepF μ F w n (initF args) { tmps := vs ++ Array.replicate (n - vs.size) undef, defers := [] } := by
  refine ⟨by simp [hv.1]; omega, ?_, trivial, fun p hp => by cases hp⟩
  intro t
  simp only [AF.get, initF, lookup_initT, Nat.zero_le, true_and, Nat.zero_add, Nat.sub_zero]
  by_cases ht : t < args.length
  · rw [if_pos ht]
    have hvt : t < vs.size := by rw [hv.1]; exact ht
    have h1 := hv.2 t _ _ (List.getElem?_eq_getElem ht) (Array.getElem?_eq_getElem hvt)
    rw [List.getElem?_eq_getElem ht]
    simp only [Option.getD_some]
    rw [Array.getD_eq_getD_getElem?, Array.getElem?_append_left hvt, Array.getElem?_eq_getElem hvt]
    exact h1
  · rw [if_neg ht]
    exact .top _

theorem acalls_of {P : Program} {τ : Tab} (hτ : TabOK P τ) {g : FuncId} {fn : Func} {c : Code} (hf : P.funcs[g]? = some fn) (hb : fn.body = some c) (hn : fn.name ≠ "runtime.NumGoroutine") {args : List AV} {M : Mem} {R : AEnd → Mem → Prop}
    (hlen : args.length ≤ fn.ntmps) (h : W P fn.ntmps c (fnPost τ fn R) (initF args) M) : ACalls P g args M R := by
  refine ⟨⟨fn, c, hf, hb, hn⟩, fun μ F w vs hg hv => ?_⟩
  refine calls_of_wp hf hb ?_
  have hr := initF_rep (μ := μ) (F := F) (w := w) hlen hv
  refine wp_mono (h.run μ F w _ hg hr) ?_
  rintro e a' w' ⟨μ', f', M', x, h1, h2, h3, h4, h5⟩
  cases e with
  | normal =>
    cases x <;> first | exact h4.elim | skip
    obtain ⟨hd, r, hr', hR⟩ := h5
    obtain ⟨v, hv', hrep⟩ := run_resA (P := P) hτ h2 h3 hr'
    have hdd := h3.defs
    rw [hd] at hdd
    exact ⟨defrep_nil hdd, v, hv', μ', M', h1, h2, r, hrep, hR⟩
  | exit id => cases x <;> first | exact h4.elim | exact h5.elim
  | goto l => cases x <;> exact h4.elim
  | ret =>
    cases x <;> first | exact h4.elim | skip
    obtain ⟨hd, r, hr', hR⟩ := h5
    obtain ⟨v, hv', hrep⟩ := run_resA (P := P) hτ h2 h3 hr'
    have hdd := h3.defs
    rw [hd] at hdd
    exact ⟨defrep_nil hdd, v, hv', μ', M', h1, h2, r, hrep, hR⟩
  | panic ch =>
    cases x <;> first | exact h4.elim | skip
    obtain ⟨hd, hR⟩ := h5
    obtain ⟨v, rfl, hrep⟩ := h4
    have hdd := h3.defs
    rw [hd] at hdd
    exact ⟨defrep_nil hdd, μ', M', h1, h2, _, v, rfl, hrep, hR⟩
  | outgrown => cases x <;> exact h4.elim

/-! ### What needs no objects needs none of the caller's -/
/-- What stands for x does so whatever objects there are, as long as its memory is no object's. -/
def Closed (x : AV) : Prop := ∀ (μ μ' : Mu) (F F' : Frm) (w : World) (v : Value), (∀ b o, Free μ F b o → Free μ' F' b o) → Rep μ F w x v → Rep μ' F' w x v

theorem closed_int {k : IntKind} {n : Int} : Closed (.int k n) := by intro μ μ' F F' w v hf h; cases h; exact .int _ _
theorem closed_bool {b : Bool} : Closed (.bool b) := by intro μ μ' F F' w v hf h; cases h; exact .bool _
theorem closed_str {s : List UInt8} : Closed (.str s) := by intro μ μ' F F' w v hf h; cases h; exact .str _
theorem closed_nilptr : Closed .nilptr := by intro μ μ' F F' w v hf h; cases h; exact .nilptr
theorem closed_nilIface : Closed .nilIface := by intro μ μ' F F' w v hf h; cases h; exact .nilIface
theorem closed_nilFunc : Closed .nilFunc := by intro μ μ' F F' w v hf h; cases h; exact .nilFunc
theorem closed_nilmap : Closed .nilmap := by intro μ μ' F F' w v hf h; cases h; exact .nilmap
theorem closed_top : Closed .top := by intro μ μ' F F' w v hf h; exact .top _
theorem closed_iface {t : TypeId} {x : AV} (hx : Closed x) : Closed (.iface t x) := by
  intro μ μ' F F' w v hf h
  cases h with
  | iface _ _ u hu => exact .iface _ _ _ (hx μ μ' F F' w u hf hu)
theorem closed_agg {l : List AV} (hl : ∀ x, x ∈ l → Closed x) : Closed (.agg l) := by
  intro μ μ' F F' w v hf h
  obtain ⟨c, rfl, h1, h2, h3⟩ := h.agg_inv
  exact .agg _ _ h1 (fun i x u hx hu => hl x (List.mem_of_getElem? hx) μ μ' F F' w u hf (h2 i x u hx hu)) h3
theorem closed_tup {l : List AV} (hl : ∀ x, x ∈ l → Closed x) : Closed (.tup l) := by
  intro μ μ' F F' w v hf h
  obtain ⟨c, rfl, h1, h2⟩ := h.tup_inv
  exact .tup _ _ h1 (fun i x u hx hu => hl x (List.mem_of_getElem? hx) μ μ' F F' w u hf (h2 i x u hx hu))
theorem closed_fn {g : Fn} {l1 l2 : List AV} (h1 : ∀ x, x ∈ l1 → Closed x) (h2 : ∀ x, x ∈ l2 → Closed x) : Closed (.fn g l1 l2) := by
  intro μ μ' F F' w v hf h
  obtain ⟨c1, c2, rfl, g1, g2, g3, g4⟩ := h.fn_inv
  exact .fn _ _ _ _ _ g1 g2 (fun i x u hx hu => h1 x (List.mem_of_getElem? hx) μ μ' F F' w u hf (g3 i x u hx hu)) (fun i x u hx hu => h2 x (List.mem_of_getElem? hx) μ μ' F F' w u hf (g4 i x u hx hu))
theorem closed_ref {l : List AV} (hl : ∀ x, x ∈ l → Closed x) : Closed (.ref l) := by
  intro μ μ' F F' w v hf h
  obtain ⟨b, o, vals, rfl, h1, h2, h3⟩ := h.ref_inv
  exact .ref _ _ _ vals h1 (fun j c hc => ⟨(h2 j c hc).1, hf _ _ (h2 j c hc).2⟩) (fun j c hc => hl c (List.mem_of_getElem? hc) μ μ' F F' w _ hf (h3 j c hc))
theorem closed_sl {sz : Nat} {xs : List AV} {t : Tag} (ht : t = .none ∨ t = .full) (hl : ∀ x, x ∈ xs → Closed x) (hc : ∀ x, x ∈ xs → (∀ c, c ∈ x.cells → Closed c)) : Closed (.sl sz xs t) := by
  intro μ μ' F F' w v hf h
  obtain ⟨A, cap, ad, vals, rfl, h1, h2, h3, h4, h5, h6, h7⟩ := h.sl_inv
  refine .sl _ _ _ _ _ ad vals h1 h2 h3 h4 (fun i x j c hx hj => ⟨(h5 i x j c hx hj).1, hf _ _ (h5 i x j c hx hj).2⟩)
    (fun i x j c hx hj => hc x (List.mem_of_getElem? hx) c (List.mem_of_getElem? hj) μ μ' F F' w _ hf (h6 i x j c hx hj)) ?_
  rcases ht with rfl | rfl
  · trivial
  · exact h7

/-- What a slice's tag said is forgotten. -/
theorem rep_untag {μ : Mu} {F : Frm} {w : World} {sz : Nat} {xs : List AV} {t : Tag} {v : Value} (h : Rep μ F w (.sl sz xs t) v) : Rep μ F w (.sl sz xs .none) v := by
  obtain ⟨A, cap, ad, vals, rfl, h1, h2, h3, h4, h5, h6, h7⟩ := h.sl_inv
  exact .sl _ _ _ _ _ ad vals h1 h2 h3 h4 h5 h6 trivial

/-- A call that needs no objects: it leaves the caller's alone. -/
theorem acalls_frame {P : Program} {g : FuncId} {args : List AV} {R : AEnd → Prop} (ha : ∀ x, x ∈ args → Closed x) (h : ACalls P g args ⟨0, []⟩ fun e _ => R e) (hR : ∀ e, R e → match e with | .ret x => Closed x | .pan x => Closed x) (M : Mem) :
    ACalls P g args M fun e M' => R e ∧ M' = M := by
  refine ⟨h.1, fun μ F w vs hg hv => ?_⟩
  let μ0 : Mu := fun _ => none
  let F0 : Frm := fun b o => F b o ∨ Own μ b o
  have hno : ∀ b o, ¬ Own μ0 b o := by rintro b o ⟨id, h | ⟨e, g, h, _⟩⟩ <;> cases h
  have hfree : ∀ b o, Free μ F b o → Free μ0 F0 b o := fun b o hf => ⟨fun h => h.elim hf.1 hf.2, hno b o⟩
  have hg0 : Gam μ0 F0 ⟨0, []⟩ w := by
    refine { dom := fun id => (by simp [μ0]), obj := fun id l hM => (by cases hM), spare := fun id g hM => (by cases hM), inj := ?_, frm := fun b o ho => absurd ho (hno b o), fit := ⟨fun b o ho => absurd ho (hno b o), ?_⟩ }
    · rintro i j b (h | ⟨_, _, h⟩) _ <;> cases h
    · rintro b o (h | h)
      · exact hg.fit.frm b o h
      · exact hg.fit.own b o h
  refine (h.2 μ0 F0 w vs hg0 ⟨hv.1, fun i x v hx hv' => ha x (List.mem_of_getElem? hx) μ μ0 F F0 w v hfree (hv.2 i x v hx hv')⟩).mono ?_
  rintro e w' ⟨μ', M', h1, h2, h3⟩
  have hb : Below w.heap.size w w' := ⟨h1.os, h1.tape, h1.output, h1.size, fun k hk => h1.same k hk (hno k)⟩
  have hfree' : ∀ b o, Free μ' F0 b o → Free μ F b o := fun b o hf => ⟨fun h => hf.1 (.inl h), fun h => hf.1 (.inr h)⟩
  refine ⟨μ, M, Evo.of_below μ hb, hg.below hb, ?_⟩
  cases e with
  | returned v =>
    obtain ⟨x, h4, h5⟩ := h3
    exact ⟨x, hR _ h5 μ' μ F0 F w' v hfree' h4, h5, rfl⟩
  | panicked ch =>
    obtain ⟨x, v, h4, h5, h6⟩ := h3
    exact ⟨x, v, h4, hR _ h6 μ' μ F0 F w' v hfree' h5, h6, rfl⟩
  | outgrown => exact h3

theorem apure_of {P : Program} {g : FuncId} {args : List AV} {r : AV} (ha : ∀ x, x ∈ args → Closed x) (hr : Closed r) (h : ACalls P g args ⟨0, []⟩ fun e _ => e = .ret r) : APure P g args r :=
  fun M => acalls_frame (R := fun e => e = .ret r) ha h (fun e he => by subst he; exact hr) M

end Go.Ab
