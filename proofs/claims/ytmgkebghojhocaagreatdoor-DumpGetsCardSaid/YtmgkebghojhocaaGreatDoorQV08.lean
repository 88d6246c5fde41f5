/- Parts of the proof, one behind the other: AbD3, AbD4, AbE1. No further condition. -/
import Derived.Test.YtmgkebghojhocaaGreatDoorQV07
set_option linter.unusedVariables false
set_option linter.unusedSimpArgs false
/- Slices of own objects: appended to, cut, given another number, frozen. -/
set_option linter.unusedVariables false
set_option linter.unusedSimpArgs false
namespace Go.Ab
open Go.RowKit
def Mem.drop (M : Mem) (id : Nat) : Mem := ⟨M.next, M.objs.filter fun p => !(p.1 == id)⟩
theorem Mem.get_drop (M : Mem) (id i : Nat) : (M.drop id).get i = if i = id then none else M.get i := by
 unfold Mem.drop Mem.get
 simp only
 generalize M.objs = l
 induction l with
 | nil => simp [lookup]
 | cons p r ih =>
  obtain ⟨k, v⟩ := p
  by_cases h : k = id
  ·subst h
   simp only [List.filter_cons, beq_self_eq_true, Bool.not_true, Bool.false_eq_true, if_false, ih, lookup]
   by_cases h2 : i = k
   ·simp [h2]
   ·simp [h2]
  ·have : (k == id) = false := by simpa using h
   simp only [List.filter_cons, this, Bool.not_false, if_true, lookup, ih]
   by_cases h2 : i = k
   ·subst h2; simp [h]
   ·simp [h2]
/-- An object is given the next number; its own is no one's any more. -/
theorem gam_relabel {μ : Mu} {F : Frm} {M : Mem} {w : World} (hg : Gam μ F M w) {id b : Nat} {l : List AV} (hM : M.get id = some (.cells l)) (hb : μ id = some (.at b)) :
  ∃ μ2 : Mu, μ2 M.next = some (.at b) ∧ Evo w μ w μ2 ∧ ∀ N : Mem, N.next = M.next + 1 → (∀ i, N.get i = if i = M.next then some (.cells l) else if i = id then none else M.get i) → Gam μ2 F N w := by
 have hn := gam_next hg
 have hid : id < M.next := (hg.dom id).1 (by rw [hb]; simp)
 let μ2 : Mu := fun i => if i = M.next then some (.at b) else if i = id then some .dead else μ i
 have hnew : μ2 M.next = some (.at b) := by simp [μ2]
 have hlies : ∀ i k, Lies μ2 i k → (i = M.next ∧ k = b) ∨ (i ≠ M.next ∧ i ≠ id ∧ Lies μ i k) := by
  rintro i k (h1 | ⟨e, g, h1⟩)
  ·simp only [μ2] at h1
   split at h1
   ·rename_i e; cases h1; exact .inl ⟨e, rfl⟩
   ·split at h1
    ·cases h1
    ·rename_i e1 e2; exact .inr ⟨e1, e2, .inl h1⟩
  ·simp only [μ2] at h1
   split at h1
   ·cases h1
   ·split at h1
    ·cases h1
    ·rename_i e1 e2; exact .inr ⟨e1, e2, .inr ⟨e, g, h1⟩⟩
 have hown : ∀ k o, Own μ2 k o → Own μ k o := by
  rintro k o ⟨i, h1 | ⟨e, g, h1, he⟩⟩
  ·simp only [μ2] at h1
   split at h1
   ·cases h1; exact ⟨id, .inl hb⟩
   ·split at h1
    ·cases h1
    ·exact ⟨i, .inl h1⟩
  ·simp only [μ2] at h1
   split at h1
   ·cases h1
   ·split at h1
    ·cases h1
    ·exact ⟨i, .inr ⟨e, g, h1, he⟩⟩
 have hev : Evo w μ w μ2 := by
  refine ⟨rfl, rfl, rfl, Nat.le_refl _, ?_, fun _ _ _ => rfl, fun k e c ty fr _ _ hc => ⟨c, fr, hc, rfl, fun _ _ => rfl⟩, fun k o _ ho => hown k o ho⟩
  intro i hi
  have h1 : i ≠ M.next := by rintro rfl; exact hi hn
  simp only [μ2, if_neg h1]
  split
  ·exact .inr (.inl rfl)
  ·exact .inl rfl
 refine ⟨μ2, hnew, hev, fun N hN hget => ?_⟩
 refine { dom := ?_, obj := ?_, spare := ?_, inj := ?_, frm := fun k o ho => hg.frm k o (hown k o ho), fit := ⟨fun k o ho => hg.fit.own k o (hown k o ho), hg.fit.frm⟩, raw := ?_ }
 ·intro i
  rw [hN]
  simp only [μ2]
  split
  ·rename_i e; subst e; simp
  ·split
   ·rename_i e; subst e; simp; omega
   ·rename_i e1 e2
    rw [hg.dom i]
    omega
 ·intro i m hi
  rw [hget] at hi
  split at hi
  ·rename_i e
   cases hi
   subst e
   obtain ⟨b', c, ty, h1, h2, h3, h4, h5⟩ := hg.obj id l hM
   rw [hb] at h1
   cases h1
   exact ⟨b, c, ty, hnew, h2, h3, h4, fun j x v hx hv => (h5 j x v hx hv).evo hev⟩
  ·split at hi
   ·cases hi
   ·rename_i e1 e2
    obtain ⟨b', c, ty, h1, h2, h3, h4, h5⟩ := hg.obj i m hi
    exact ⟨b', c, ty, by simp only [μ2, if_neg e1, if_neg e2]; exact h1, h2, h3, h4, fun j x v hx hv => (h5 j x v hx hv).evo hev⟩
 ·intro i g hi
  rw [hget] at hi
  split at hi
  ·cases hi
  ·split at hi
   ·cases hi
   ·rename_i e1 e2
    obtain ⟨p, h1, h2⟩ := hg.spare i g hi
    exact ⟨p, by simp only [μ2, if_neg e1, if_neg e2]; exact h1, h2⟩
 ·intro i j k hi hj
  rcases hlies i k hi with ⟨a1, a2⟩ | ⟨a1, a2, a3⟩ <;> rcases hlies j k hj with ⟨b1, b2⟩ | ⟨b1, b2, b3⟩
  ·exact a1.trans b1.symm
  ·exact absurd (hg.inj j id _ b3 (.inl (a2 ▸ hb))) b2
  ·exact absurd (hg.inj i id _ a3 (.inl (b2 ▸ hb))) a2
  ·exact hg.inj i j k a3 b3
 ·intro i gg o vs t hi
  rw [hget] at hi
  split at hi
  ·cases hi
  ·split at hi
   ·cases hi
   ·rename_i e1 e2
    obtain ⟨b', h1, h2, h3⟩ := hg.raw i gg o vs t hi
    exact ⟨b', h1.congr (by simp only [μ2, if_neg e1, if_neg e2]), h2, fun i => (h3 i).evo hev⟩
/-- An object is forgotten. -/
theorem gam_kill {μ : Mu} {F : Frm} {M : Mem} {w : World} (hg : Gam μ F M w) {id : Nat} (hid : id < M.next) :
  ∃ μ2 : Mu, (∀ i, i ≠ id → μ2 i = μ i) ∧ (∀ b o, Own μ2 b o → ∃ i, i ≠ id ∧ (μ i = some (.at b) ∨ ∃ e g, μ i = some (.spare (some (b, e)) g) ∧ e ≤ o)) ∧ Evo w μ w μ2 ∧ ∀ N : Mem, N.next = M.next → (∀ i, N.get i = if i = id then none else M.get i) → Gam μ2 F N w := by
 let μ2 : Mu := fun i => if i = id then some .dead else μ i
 have hne : ∀ i, i ≠ id → μ2 i = μ i := fun i h => by simp [μ2, h]
 have hown2 : ∀ b o, Own μ2 b o → ∃ i, i ≠ id ∧ (μ i = some (.at b) ∨ ∃ e g, μ i = some (.spare (some (b, e)) g) ∧ e ≤ o) := by
  rintro k o ⟨i, h1 | ⟨e, g, h1, he⟩⟩
  ·by_cases hi : i = id
   ·simp only [μ2, if_pos hi] at h1; cases h1
   ·rw [hne i hi] at h1; exact ⟨i, hi, .inl h1⟩
  ·by_cases hi : i = id
   ·simp only [μ2, if_pos hi] at h1; cases h1
   ·rw [hne i hi] at h1; exact ⟨i, hi, .inr ⟨e, g, h1, he⟩⟩
 have hown : ∀ k o, Own μ2 k o → Own μ k o := fun k o h => by
  obtain ⟨i, _, h1⟩ := hown2 k o h
  exact ⟨i, h1⟩
 have hlies : ∀ i k, Lies μ2 i k → i ≠ id ∧ Lies μ i k := by
  rintro i k (h1 | ⟨e, g, h1⟩)
  ·by_cases hi : i = id
   ·simp only [μ2, if_pos hi] at h1; cases h1
   ·rw [hne i hi] at h1; exact ⟨hi, .inl h1⟩
  ·by_cases hi : i = id
   ·simp only [μ2, if_pos hi] at h1; cases h1
   ·rw [hne i hi] at h1; exact ⟨hi, .inr ⟨e, g, h1⟩⟩
 have hev : Evo w μ w μ2 := by
  refine ⟨rfl, rfl, rfl, Nat.le_refl _, ?_, fun _ _ _ => rfl, fun k e c ty fr _ _ hc => ⟨c, fr, hc, rfl, fun _ _ => rfl⟩, fun k o _ ho => hown k o ho⟩
  intro i hi
  by_cases h : i = id
  ·exact .inr (.inl (by simp [μ2, h]))
  ·exact .inl (hne i h)
 refine ⟨μ2, hne, hown2, hev, fun N hN hget => ?_⟩
 refine { dom := ?_, obj := ?_, spare := ?_, inj := fun i j k hi hj => hg.inj i j k (hlies i k hi).2 (hlies j k hj).2, frm := fun k o ho => hg.frm k o (hown k o ho), fit := ⟨fun k o ho => hg.fit.own k o (hown k o ho), hg.fit.frm⟩, raw := ?_ }
 ·intro i
  rw [hN]
  by_cases h : i = id
  ·subst h
   simp [μ2]
   exact hid
  ·rw [hne i h]
   exact hg.dom i
 ·intro i m hi
  rw [hget] at hi
  split at hi
  ·cases hi
  ·rename_i e1
   obtain ⟨b', c, ty, h1, h2, h3, h4, h5⟩ := hg.obj i m hi
   exact ⟨b', c, ty, by rw [hne i e1]; exact h1, h2, h3, h4, fun j x v hx hv => (h5 j x v hx hv).evo hev⟩
 ·intro i g hi
  rw [hget] at hi
  split at hi
  ·cases hi
  ·rename_i e1
   obtain ⟨p, h1, h2⟩ := hg.spare i g hi
   exact ⟨p, by rw [hne i e1]; exact h1, h2⟩
 ·intro i gg o vs t hi
  rw [hget] at hi
  split at hi
  ·cases hi
  ·rename_i e1
   obtain ⟨b', h1, h2, h3⟩ := hg.raw i gg o vs t hi
   exact ⟨b', h1.congr (hne i e1), h2, fun i => (h3 i).evo hev⟩
theorem rep_osl {μ : Mu} {F : Frm} {w : World} {id b n cap sz : Nat} (h : μ id = some (.at b)) : Rep μ F w (.osl id 0 n cap sz) (.slice (some ⟨b, 0, none⟩) n cap) :=
 .osl _ _ _ _ _ _ rfl (by rw [h]; simp) (fun b' hb => by rw [h] at hb; cases hb; rfl)
/-- What append leaves: the old elements, and the new ones, in an object of the next number. -/
def Appended (M : Mem) (old : List AV) (n sz : Nat) (ys : List AV) (N : Mem) (u : AV) (M' : Mem) : Prop :=
 ∃ (cap' : Nat) (l' : List AV), n + ys.length ≤ cap' ∧ l'.length = cap' * sz ∧ l'.take ((n + ys.length) * sz) = old ++ flat ys ∧ u = .osl M.next 0 (n + ys.length) cap' sz ∧ M' = N.push (.cells l')
theorem writeAt_take {l cs : List AV} {n : Nat} (h : n + cs.length ≤ l.length) : (writeAt l n cs).take (n + cs.length) = l.take n ++ cs := by
 apply List.ext_getElem?
 intro i
 rw [List.getElem?_take]
 by_cases hi : i < n + cs.length
 ·rw [if_pos hi, writeAt_get _ _ _ _ h]
  by_cases h2 : n ≤ i
  ·rw [if_pos ⟨h2, hi⟩, List.getElem?_append_right (by simp; omega)]
   congr 1
   simp
   omega
  ·rw [if_neg (by omega), List.getElem?_append_left (by simp; omega), List.getElem?_take, if_pos (by omega)]
 ·rw [if_neg hi]
  symm
  apply List.getElem?_eq_none
  simp
  omega
/-- append, where the slice lies in an own object. -/
theorem opG_append_osl {P : Program} {τ : Tab} (hτ : TabOK P τ) {t tx e : TypeId} {ti ei xi : TI} (hin : AppIn P τ t e ti ei) (hxi : lookup τ tx = some xi) {o : Oper} {s x : Operand}
  (ho : o.op = .call { callee := .builtin .append, args := #[s, x], argTypes := #[t, tx] }) {ρ : Operand → AV} {M : Mem} {id n cap sz : Nat} {l ys : List AV} (hS : ρ s = .osl id 0 n cap sz) (hsz : sz = ei.size) (hM : M.get id = some (.cells l)) (hl : l.length = cap * sz) (hnc : n ≤ cap)
  (hf : srcFits xi.k (ρ x) = true) (hX : srcOf ei.size (ρ x) = some ys) (hb : (n + ys.length) * ei.bytes ≤ 140737488355328) (hlen : n + ys.length ≤ 140737488355328) {Kp : AV → Mem → Prop} :
  OpG P o ρ M (fun u M' => Appended M (l.take (n * sz)) n sz ys (M.drop id) u M') Kp := by
 subst hsz
 intro μ F w a hg hr next Q' hnext _
 have hs := hr s (by simp [ho, Op.operands, Call.operands])
 have hx := hr x (by simp [ho, Op.operands, Call.operands])
 rw [hS] at hs
 obtain ⟨b, hbm, hv⟩ := gam_osl hg hM hs
 obtain ⟨b', c, tb, hb1, hb2, hb3, hb4, hb5⟩ := hg.obj id l hM
 rw [hbm] at hb1
 cases hb1
 obtain ⟨hsy, news, hsrc, hnew⟩ := src_of hτ hxi hf hX hx
 obtain ⟨ft, dt, zt, HT⟩ := TI.spec hτ hin.tl
 obtain ⟨fe, de, ze, HE⟩ := TI.spec hτ hin.el
 have hfi := HT.fits
 rw [hin.tk] at hfi
 have hdd : dt = .slice e := by
  cases dt <;> simp [TK.fits] at hfi
  rw [hfi]
 subst hdd
 have hly := flat_length hsy
 have hnl := hsrc.newsLen
 have hsrc' : Src P fe.size tx (a.eval x) ys.length news w := by rw [HE.size]; exact hsrc
 have hex : ∀ v w', (Builtin.append_ #[t, tx] o.type #[a.eval s, a.eval x]).run P w = .ok v w' → (execOp a.eval o).run P w = .ok (.value v) w' := by
  intro v w' h
  simp [execOp, ho, resolve, invoke, builtin, h]
 have hidn : id < M.next := (hg.dom id).1 (by rw [hbm]; simp)
 have hpn : ∀ l' : List AV, ((M.drop id).push (.cells l')).next = M.next + 1 := fun _ => rfl
 have hpg : ∀ (l' : List AV) (i : Nat), ((M.drop id).push (.cells l')).get i = if i = M.next then some (.cells l') else if i = id then none else M.get i := by
  intro l' i
  rw [Mem.get_push, Mem.get_drop]
  rfl
 unfold Oper.wp
 by_cases hroom : n + ys.length ≤ cap
 ·have hfl : n * ei.size + news.length ≤ c.size := by
   rw [hnl, hb3, hl, ← Nat.add_mul]
   exact Nat.mul_le_mul_right _ hroom
  have hrun := run_append_room_src (P := P) w t tx o.type e fe HT.und HE.info b 0 n cap (a.eval x) ys.length news hsrc' hroom (fun j hj => by
    rw [HE.size, cell_mk hb2, Nat.zero_add, Array.getElem?_eq_getElem (by omega)]; rfl) (fun j hj => by simp [World.frozen?, hb2])
  rw [HE.size, Nat.zero_add] at hrun
  obtain ⟨hw, c', hc', hs', hget⟩ := setCells_row b news (n * ei.size) c tb (0, 0) w hb2 hfl
  have hle : n * ei.size + (flat ys).length ≤ l.length := by
   rw [hly, hl, ← Nat.add_mul]
   exact Nat.mul_le_mul_right _ hroom
  have hin' : ∀ k v, c'[k]? = some v → (n * ei.size ≤ k ∧ k < n * ei.size + (flat ys).length ∧ news[k - n * ei.size]? = some v) ∨ (¬ (n * ei.size ≤ k ∧ k < n * ei.size + (flat ys).length) ∧ c[k]? = some v) := by
   intro k v hk
   rw [hget, hnl, ← hly] at hk
   split at hk
   ·rename_i h; exact .inl ⟨h.1, h.2, hk⟩
   ·rename_i h; exact .inr ⟨h, hk⟩
  obtain ⟨he, hG⟩ := gam_write hg hbm hb2 hw (l := writeAt l (n * ei.size) (flat ys)) hc' hs' (by rw [hs', hb3, writeAt_length]) (fun k v hk => by
    rcases hin' k v hk with ⟨_, _, h⟩ | ⟨_, h⟩
    ·exact hsrc.one _ (List.mem_of_getElem? h)
    ·exact hb4 _ _ h) (fun k q v hq hk => by
    rw [writeAt_get _ _ _ _ hle] at hq
    rcases hin' k v hk with ⟨ha, hb', h⟩ | ⟨hn', h⟩
    ·rw [if_pos ⟨ha, hb'⟩] at hq
     exact hnew _ _ _ hq h
    ·rw [if_neg hn'] at hq
     exact hb5 _ _ _ hq h)
  obtain ⟨μ2, m1, m2, m3⟩ := gam_relabel hG (id := id) (b := b) (l := writeAt l (n * ei.size) (flat ys)) (by rw [Mem.get_set]; simp) hbm
  have hnx : (M.set id (.cells (writeAt l (n * ei.size) (flat ys)))).next = M.next := rfl
  rw [hnx] at m1 m3
  rw [hv] at hex
  rw [hex _ _ hrun]
  refine hnext μ2 _ _ _ _ (he.trans m2) (m3 ((M.drop id).push (.cells (writeAt l (n * ei.size) (flat ys)))) (hpn _) ?_) (rep_osl m1) ⟨cap, writeAt l (n * ei.size) (flat ys), hroom, by rw [writeAt_length, hl], ?_, rfl, rfl⟩
  ·intro i
   rw [hpg, Mem.get_set]
   by_cases h1 : i = M.next
   ·simp [h1]
   ·by_cases h2 : i = id
    ·simp [h2]
    ·simp [h1, h2]
  ·have := writeAt_take hle
   rw [hly, ← Nat.add_mul] at this
   exact this
 ·have hgrow : cap < n + ys.length := by omega
  have hcs : n * ei.size ≤ c.size := by rw [hb3, hl]; exact Nat.mul_le_mul_right _ hnc
  let olds := c.toList.take (n * ei.size)
  have hol : olds.length = n * ei.size := by simp [olds]; omega
  have hold : (Builtin.firstCells fe.size n (.slice (some ⟨b, 0, none⟩) n cap)).run P w.drew = .ok olds.toArray w.drew := by
   rw [HE.size]
   refine run_firstCells_some w.drew ei.size n _ _ _ olds hol (fun j u hu => ?_)
   have hj : olds[j]? = c[j]? := by
    have : j < n * ei.size := by rw [← hol]; exact (List.getElem?_eq_some_iff.1 hu).1
    simp only [olds, List.getElem?_take, if_pos this, Array.getElem?_toList]
   rw [hj] at hu
   have := cell_mk (o := 0 + j) hb2
   rw [Addr.add_lit]
   show w.cell? ⟨b, 0 + j, none⟩ = some u
   rw [this, Nat.zero_add]
   exact hu
  have hfit : Builtin.nextslicecap (n + ys.length) cap * fe.bytes ≤ 281474976710656 := by
   rw [HE.bytes]
   exact growslice_fits hgrow hb
  have hrun := run_append_grow_src (P := P) w t tx o.type e fe ze HT.und HE.info HE.zero (some ⟨b, 0, none⟩) n cap olds hold (a.eval x) ys.length news hsrc' hgrow (by omega) hfit
  have hge := grownCap_ge w (n + ys.length) cap e
  generalize hcap : grownCap w (n + ys.length) cap e = cap' at hrun hge
  let c' : Array Value := (olds ++ news).toArray ++ Builtin.zeroCells ze.cells (cap' - (n + ys.length))
  let w' : World := w.drew.alloc (.cells c' e)
  have hzs : ze.cells.size = ei.size := by
   have := (sameCells_get HE.cells).1
   simp only [Array.length_toList] at this
   rw [this, HE.len]
  have hc's : c'.size = cap' * ei.size := by
   simp only [c', Array.size_append, List.size_toArray, List.length_append, hol, hnl, size_zeroCells, hzs, ← Nat.add_mul]
   rw [Nat.add_sub_cancel' hge]
  have hheap : w'.heap[w.heap.size]? = some (.cells c' e (0, 0)) := heap_alloc_new w.drew _
  have hbelow : Below w.heap.size w w' := ⟨rfl, rfl, rfl, by simp [w', World.alloc], fun k hk => heap_alloc_old w.drew _ hk⟩
  let l' : List AV := l.take (n * ei.size) ++ flat ys ++ List.replicate ((cap' - (n + ys.length)) * ei.size) .top
  have hlt : (l.take (n * ei.size)).length = n * ei.size := by rw [List.length_take, hl]; exact Nat.min_eq_left (Nat.mul_le_mul_right _ hnc)
  have hl' : l'.length = cap' * ei.size := by
   simp only [l', List.length_append, List.length_replicate, hlt, hly, ← Nat.add_mul]
   rw [Nat.add_sub_cancel' hge]
  obtain ⟨hev, hG⟩ := gam_push hg hbelow (l := l') (c := c') (ty := e) (b := w.heap.size) (Nat.le_refl _) hheap (by rw [hc's, hl']) (by
    intro i v hi
    simp only [c'] at hi
    by_cases h1 : i < (olds ++ news).length
    ·rw [Array.getElem?_append_left (by simpa using h1)] at hi
     simp only [List.getElem?_toArray] at hi
     rcases List.mem_append.1 (List.mem_of_getElem? hi) with h | h
     ·obtain ⟨j, hj⟩ := List.getElem?_of_mem (List.mem_of_mem_take h)
      exact hb4 j v (by simpa using hj)
     ·exact hsrc.one _ h
    ·rw [Array.getElem?_append_right (by simpa using h1)] at hi
     exact zeroCells_one (z := ze.cells) (fun u hu => by
      obtain ⟨j, hj⟩ := List.getElem?_of_mem (Array.mem_toList_iff.2 hu)
      have hjl : j < ei.zero.length := by
       rw [HE.len, ← hzs, ← Array.length_toList]
       exact (List.getElem?_eq_some_iff.1 hj).1
      obtain ⟨rfl, hp⟩ := (sameCells_get HE.cells).2 j u _ (by simpa using hj) (List.getElem?_eq_getElem hjl)
      exact one_toV hp) (by rw [hzs]; exact hin.pos) _ v (Array.mem_of_getElem? hi)) (by
    intro i q v hq hi
    simp only [l'] at hq
    simp only [c'] at hi
    by_cases h1 : i < n * ei.size
    ·rw [List.append_assoc, List.getElem?_append_left (by rw [hlt]; exact h1), List.getElem?_take, if_pos h1] at hq
     rw [Array.getElem?_append_left (by simp only [List.size_toArray, List.length_append]; omega)] at hi
     simp only [List.getElem?_toArray] at hi
     rw [List.getElem?_append_left (by rw [hol]; exact h1)] at hi
     simp only [olds, List.getElem?_take, if_pos h1, Array.getElem?_toList] at hi
     exact hb5 i q v hq hi
    ·by_cases h2 : i < n * ei.size + (flat ys).length
     ·rw [List.append_assoc, List.getElem?_append_right (by omega), hlt, List.getElem?_append_left (by omega)] at hq
      rw [Array.getElem?_append_left (by simp only [List.size_toArray, List.length_append]; omega)] at hi
      simp only [List.getElem?_toArray] at hi
      rw [List.getElem?_append_right (by omega), hol] at hi
      exact hnew _ q v hq hi
     ·rw [List.getElem?_append_right (by simp only [List.length_append]; omega)] at hq
      have := List.mem_of_getElem? hq
      rw [List.mem_replicate] at this
      rw [this.2]
      exact .top _)
  obtain ⟨μ2, n1, n2, n3, n4⟩ := gam_kill hG (id := id) (by show id < M.next + 1; omega)
  have hne : M.next ≠ id := by omega
  rw [hv] at hex
  rw [hex _ _ hrun]
  refine hnext μ2 _ _ _ _ (hev.trans n3) (n4 ((M.drop id).push (.cells l')) rfl ?_) (rep_osl (b := w.heap.size) (by rw [n1 _ hne]; simp [Mu.put])) ⟨cap', l', hge, hl', ?_, rfl, rfl⟩
  ·intro i
   rw [hpg, Mem.get_push]
   by_cases h1 : i = M.next
   ·simp [h1, hne]
   ·by_cases h2 : i = id
    ·simp [h2, hne.symm]
    ·simp [h1, h2]
  ·simp only [l']
   rw [List.take_append_of_le_length (by rw [List.length_append, hlt, hly, ← Nat.add_mul]; exact Nat.le_refl _)]
   apply List.take_of_length_le
   rw [List.length_append, hlt, hly, ← Nat.add_mul]
   exact Nat.le_refl _
end Go.Ab
/- Own slices: rules of a walk; objects renumbered; slices frozen. -/
set_option linter.unusedVariables false
set_option linter.unusedSimpArgs false
namespace Go.Ab
open Go.RowKit
theorem opR_oslice {P : Program} {τ : Tab} (hτ : TabOK P τ) {t e : TypeId} {ti ei : TI} (ht : lookup τ t = some ti) (hk : ti.k = .slice e) (he : lookup τ e = some ei) {X : Operand} {H : Option Operand} {ty : TypeId} {ρ : Operand → AV} {M : Mem} {id n cap sz : Nat} {l : List AV} {h : Int}
  (hX : ρ X = .osl id 0 n cap sz) (hM : M.get id = some (.cells l)) (hH : bnd (H.map ρ) n = some h) (h0 : 0 ≤ h) (h2 : h ≤ n) (hnc : n ≤ cap) : OpR P (.slice t X none H none) ty ρ M (.osl id 0 h.toNat cap sz) := by
 intro μ F w ρc o hg ho hty hr
 have hx := hr X (by simp [Op.operands])
 rw [hX] at hx
 obtain ⟨b, hb, hv⟩ := gam_osl hg hM hx
 obtain ⟨ft, dt, zt, HT⟩ := TI.spec hτ ht
 obtain ⟨fe, de, ze, HE⟩ := TI.spec hτ he
 have hf := HT.fits
 rw [hk] at hf
 have hdd : dt = .slice e := by
  cases dt <;> simp [TK.fits] at hf
  rw [hf]
 subst hdd
 have hbd := run_bounds (P := P) (w := w) (isS := true) (n := n) (m := cap) (L := none) (.inl ⟨rfl, rfl⟩) (bnd_spec hH fun x hx => hr x (by simp [Op.operands, hx])) (Int.le_refl 0) h0 (by omega)
 obtain ⟨hn, rfl⟩ := Int.eq_ofNat_of_zero_le h0
 simp only [Int.toNat_natCast] at hbd ⊢
 refine ⟨.slice (some ⟨b, 0, none⟩) hn cap, w, ?_, Below.refl _ _, rep_osl hb⟩
 simp only [execOp, ho, hv, Instr.sliceAt, Sem.run_bind, run_underlying HT.und, Result.andThen_ok, Instr.slice, Option.map_none, hbd, run_sizeOf w HE.info, HE.cellsOf, Sem.run_pure]
 simp [Addr.add_lit]
section
variable {P : Program} {τ : Tab} {ops : Array Oper} {cls : Nat → Cls} {Q : AX → AF → Mem → Prop} {ds : List ADef} {ls : List Nat} {i : Nat} {o : Oper} {t : List (Nat × AV)} {M : Mem}
/-- len of an own slice. -/
theorem DW_olen (hτ : TabOK P τ) {d : Nat} (hi : ops[i]? = some o) (hw : wantedA ops ⟨t, ds⟩ o = some true) (hd : o.dst = some d) (hc : notP (cls i) = true) {x : Operand} {ts e : TypeId} (ho : o.op = .call { callee := .builtin .len, args := #[x], argTypes := #[ts] })
  {id off n cap sz : Nat} {l : List AV} (hx : AF.ev ⟨t, ds⟩ x = .osl id off n cap sz) (hM : M.get id = some (.cells l)) {ti : TI} (ht : lookup τ ts = some ti) (hk : ti.k = .slice e) (h : DW P ops cls Q ds ls ((d, .int .i64 n) :: t) M) : DW P ops cls Q ds (i :: ls) t M :=
 DW_ofR hi hw hd hc (by rw [ho]; exact opR_olen hτ ht hk hx hM) h
/-- x[:h] of an own slice. -/
theorem DW_oslice (hτ : TabOK P τ) {d : Nat} (hi : ops[i]? = some o) (hw : wantedA ops ⟨t, ds⟩ o = some true) (hd : o.dst = some d) (hc : notP (cls i) = true) {ty e : TypeId} {X : Operand} {H : Option Operand} (ho : o.op = .slice ty X none H none)
  {id n cap sz : Nat} {l : List AV} (hX : AF.ev ⟨t, ds⟩ X = .osl id 0 n cap sz) (hM : M.get id = some (.cells l)) {ti ei : TI} (ht : lookup τ ty = some ti) (hk : ti.k = .slice e) (he : lookup τ e = some ei) {h : Int} (hH : bnd (H.map (AF.ev ⟨t, ds⟩)) n = some h) (h0 : 0 ≤ h) (h2 : h ≤ n) (hnc : n ≤ cap)
  (hh : DW P ops cls Q ds ls ((d, .osl id 0 h.toNat cap sz) :: t) M) : DW P ops cls Q ds (i :: ls) t M :=
 DW_ofR hi hw hd hc (by rw [ho]; exact opR_oslice hτ ht hk he hX hM hH h0 h2 hnc) hh
/-- append to an own slice. -/
theorem DW_oapp (hτ : TabOK P τ) {d : Nat} (hi : ops[i]? = some o) (hw : wantedA ops ⟨t, ds⟩ o = some true) (hd : o.dst = some d) (hc : isE (cls i) = true) {ty tx e : TypeId} {s x : Operand} (ho : o.op = .call { callee := .builtin .append, args := #[s, x], argTypes := #[ty, tx] })
  {id n cap sz : Nat} {l ys : List AV} (hS : AF.ev ⟨t, ds⟩ s = .osl id 0 n cap sz) (hM : M.get id = some (.cells l)) {ti ei xi : TI} (ht : lookup τ ty = some ti) (hk : ti.k = .slice e) (he : lookup τ e = some ei) (hp : decide (0 < ei.size) = true) (hxi : lookup τ tx = some xi)
  (hsz : sz = ei.size) (hf : srcFits xi.k (AF.ev ⟨t, ds⟩ x) = true) (hX : srcOf ei.size (AF.ev ⟨t, ds⟩ x) = some ys) (hl : l.length = cap * sz) (hnc : n ≤ cap) (hb : (n + ys.length) * ei.bytes ≤ 140737488355328) (hlen : n + ys.length ≤ 140737488355328)
  (h : ∀ (cap' : Nat) (l' : List AV), n + ys.length ≤ cap' → l'.length = cap' * sz → l'.take ((n + ys.length) * sz) = l.take (n * sz) ++ flat ys → DW P ops cls Q ds ls ((d, .osl M.next 0 (n + ys.length) cap' sz) :: t) ((M.drop id).push (.cells l'))) : DW P ops cls Q ds (i :: ls) t M := by
 refine DW_run hi hw ?_
 refine SC.of_G hc (by intro c hc; rw [ho] at hc; cases hc) ?_
 ·refine OpG.mono (opG_append_osl hτ ⟨ht, hk, he, of_decide_eq_true hp⟩ hxi ho hS hsz hM hl hnc hf hX hb hlen) ?_
  rintro u M' ⟨cap', l', h1, h2, h3, rfl, rfl⟩
  have := h cap' l' h1 h2 h3
  simpa [AF.put, hd] using this
end
def ren (μ : Mu) (k id : Nat) : Mu := fun i => if i < k then μ i else if i = k then μ id else none
theorem ren_own {μ : Mu} {k id b o : Nat} (h : Own (ren μ k id) b o) : Own μ b o := by
 have key : ∀ i x, ren μ k id i = some x → ∃ j, μ j = some x := by
  intro i x hx
  unfold ren at hx
  split at hx
  ·exact ⟨i, hx⟩
  ·split at hx
   ·exact ⟨id, hx⟩
   ·cases hx
 obtain ⟨i, h1 | ⟨e, g, h1, he⟩⟩ := h
 ·obtain ⟨j, hj⟩ := key i _ h1
  exact ⟨j, .inl hj⟩
 ·obtain ⟨j, hj⟩ := key i _ h1
  exact ⟨j, .inr ⟨e, g, hj, he⟩⟩
theorem ren_free {μ : Mu} {F : Frm} {k id b o : Nat} (h : Free μ F b o) : Free (ren μ k id) F b o := ⟨h.1, fun ho => h.2 (ren_own ho)⟩
/-- What stands for x stands for y when object id is given the number k, and those from k on are forgotten. -/
def SubK (k id : Nat) (x y : AV) : Prop := ∀ (μ : Mu) (F : Frm) (w : World) (v : Value), Rep μ F w x v → Rep (ren μ k id) F w y v
theorem SubK.of_closed {k id : Nat} {x : AV} (h : Closed x) : SubK k id x x := fun μ F w v hr => h μ (ren μ k id) F F w v (fun _ _ hf => ren_free hf) hr
theorem SubK.top {k id : Nat} {x : AV} : SubK k id x .top := fun _ _ _ v _ => .top v
theorem SubK.pre {k id : Nat} {x y z : AV} (h : Sub x y) (h2 : SubK k id y z) : SubK k id x z := fun μ F w v hr => h2 _ _ _ _ (h μ F w v hr)
theorem SubK.ptr {k id j off : Nat} (h : decide (j < k) = true) : SubK k id (.ptr j off) (.ptr j off) := by
 intro μ F w v hr
 have h' := of_decide_eq_true h
 cases hr with
 | ptr _ _ _ h1 h2 h3 => exact .ptr _ _ _ h1 (by simp [ren, h', h2]) (fun b hb => h3 b (by simpa [ren, h'] using hb))
theorem SubK.osl {k id off n cap sz : Nat} : SubK k id (.osl id off n cap sz) (.osl k off n cap sz) := by
 intro μ F w v hr
 cases hr with
 | osl _ _ _ _ _ _ h1 h2 h3 => exact .osl _ _ _ _ _ _ h1 (by simp [ren, h2]) (fun b hb => h3 b (by simpa [ren] using hb))
def SubsK (k id : Nat) (f : AF) : List (Nat × AV) → Prop
 | [] => True
 | (i, x) :: r => SubK k id (f.get i) x ∧ SubsK k id f r
theorem subsK_get {k id : Nat} {f : AF} : ∀ {l : List (Nat × AV)} {d : List ADef}, SubsK k id f l → ∀ t, SubK k id (f.get t) (AF.get ⟨l, d⟩ t)
 | [], d, _, t => SubK.top
 | (i, x) :: r, d, h, t => by
  by_cases e : t = i
  ·subst e
   have : AF.get ⟨(t, x) :: r, d⟩ t = x := by simp [AF.get, lookup]
   rw [this]; exact h.1
  ·have : AF.get ⟨(i, x) :: r, d⟩ t = AF.get ⟨r, d⟩ t := by simp [AF.get, lookup, e]
   rw [this]; exact subsK_get h.2 t
def AllK (k id : Nat) (l : List AV) : Prop := ∀ x, x ∈ l → SubK k id x x
def DefsK (k id : Nat) : List ADef → Prop
 | [] => True
 | d :: r => d.mark = none ∧ AllK k id d.cap ∧ AllK k id d.args ∧ AllK k id (d.keep.map (·.2)) ∧ DefsK k id r
def ObjsK (k id : Nat) (M : Mem) : List (Nat × AObj) → Prop
 | [] => True
 | (i, o) :: r => i < k ∧ M.get i = some o ∧ (match o with | .cells l => AllK k id l | .spare _ => True | .raw _ _ _ _ => False) ∧ ObjsK k id M r
theorem objsK_get {k id : Nat} {M : Mem} : ∀ {l : List (Nat × AObj)} {i : Nat} {o : AObj}, ObjsK k id M l → lookup l i = some o → i < k ∧ M.get i = some o ∧ (match o with | .cells l => AllK k id l | .spare _ => True | .raw _ _ _ _ => False)
 | [], i, o, _, h => by cases h
 | (j, p) :: r, i, o, h, hl => by
  simp only [lookup] at hl
  split at hl
  ·rename_i e
   subst e
   cases hl
   exact ⟨h.1, h.2.1, h.2.2.1⟩
  ·exact objsK_get h.2.2.2 hl
theorem repL_K {k id : Nat} {μ : Mu} {F : Frm} {w : World} {l : List AV} {c : Array Value} (h : AllK k id l) (hr : RepL μ F w l c) : RepL (ren μ k id) F w l c :=
 ⟨hr.1, fun i x v hx hv => h x (List.mem_of_getElem? hx) _ _ _ _ (hr.2 i x v hx hv)⟩
theorem defs_K {k id : Nat} {μ : Mu} {F : Frm} {w : World} : ∀ {ds : List ADef} {rs : List Deferred}, DefsK k id ds → DefRep μ F w ds rs → DefRep (ren μ k id) F w ds rs
 | [], [], _, _ => trivial
 | [], _ :: _, _, h => h.elim
 | _ :: _, [], _, h => h.elim
 | _ :: _, _ :: _, ⟨k0, k1, k2, _, k4⟩, ⟨⟨h1, h3, _⟩, h4⟩ => ⟨⟨fun h => (h1 h).imp fun _ h => ⟨h.1, repL_K k1 h.2⟩, repL_K k2 h3, fun y hy => by rw [k0] at hy; cases hy⟩, defs_K k4 h4⟩
theorem kept_K {k id : Nat} : ∀ {ds : List ADef}, DefsK k id ds → ∀ p, p ∈ keepT ds → SubK k id p.2 p.2
 | [], _, p, hp => by cases hp
 | d :: r, ⟨_, _, _, k3, k4⟩, p, hp => by
  simp only [keepT, List.mem_append] at hp
  rcases hp with hp | hp
  ·exact k3 _ (List.mem_map.2 ⟨p, hp, rfl⟩)
  ·exact kept_K k4 p hp
theorem Joint.move {n0 : Nat} {f : AF} {M : Mem} {k id : Nat} {l : List AV} (hk : n0 ≤ k) (hki : k ≤ id) (hM : M.get id = some (.cells l)) {l2 : List AV} (hl2 : l2.length = l.length) (hl : ∀ (j : Nat) (x y : AV), l[j]? = some x → l2[j]? = some y → SubK k id x y) {t : List (Nat × AV)} {ol : List (Nat × AObj)} (hd : DefsK k id f.d) (ht : SubsK k id f t) (ho : ObjsK k id M ol) :
  Joint n0 f M ⟨t, f.d⟩ ⟨k + 1, (k, .cells l2) :: ol⟩ := by
 intro μ0 μ F w0 w n a hn he hg hr
 obtain ⟨b, c, ty, o1, o2, o3, o4, o5⟩ := hg.obj id l hM
 have hid : id < M.next := (hg.dom id).1 (by rw [o1]; simp)
 have hlies : ∀ i b', Lies (ren μ k id) i b' → (i < k ∧ Lies μ i b') ∨ (i = k ∧ Lies μ id b') := by
  intro i b' h
  by_cases h1 : i < k
  ·refine .inl ⟨h1, ?_⟩
   rcases h with h | ⟨e, g, h⟩
   ·exact .inl (by simpa [ren, h1] using h)
   ·exact .inr ⟨e, g, by simpa [ren, h1] using h⟩
  ·by_cases h2 : i = k
   ·refine .inr ⟨h2, ?_⟩
    subst h2
    rcases h with h | ⟨e, g, h⟩
    ·exact .inl (by simpa [ren] using h)
    ·exact .inr ⟨e, g, by simpa [ren] using h⟩
   ·rcases h with h | ⟨e, g, h⟩ <;> simp [ren, h1, h2] at h
 refine ⟨ren μ k id, ?_, ?_, ⟨hr.size, fun i => subsK_get ht i μ F w _ (hr.tmps i), defs_K hd hr.defs, fun p hp => kept_K hd p hp _ _ _ _ (hr.kept p hp)⟩⟩
 ·refine ⟨he.os, he.tape, he.output, he.size, ?_, he.same, he.part, fun b o hb ho => he.own b o hb (ren_own ho)⟩
  intro i hi
  have := Nat.lt_of_lt_of_le (hn i hi) hk
  simp only [ren, this, if_true]
  exact he.mu i hi
 ·refine { dom := ?_, obj := ?_, spare := ?_, inj := ?_, frm := fun b o h => hg.frm b o (ren_own h), fit := ⟨fun b o h => hg.fit.own b o (ren_own h), hg.fit.frm⟩, raw := ?_ }
  ·intro i
   show ren μ k id i ≠ none ↔ i < k + 1
   unfold ren
   split
   ·rename_i h
    have : μ i ≠ none := (hg.dom i).2 (by omega)
    exact ⟨fun _ => by omega, fun _ => this⟩
   ·split
    ·rename_i h
     exact ⟨fun _ => by omega, fun _ => by rw [o1]; simp⟩
    ·exact ⟨fun h => absurd rfl h, fun h => by omega⟩
  ·intro i m hm
   simp only [Mem.get, lookup] at hm
   split at hm
   ·rename_i e
    subst e
    cases hm
    refine ⟨b, c, ty, by simp [ren, o1], o2, by rw [o3, hl2], o4, fun j y v hy hv => ?_⟩
    have hj : j < l.length := by rw [← hl2]; exact (List.getElem?_eq_some_iff.1 hy).1
    exact hl j _ y (List.getElem?_eq_getElem hj) hy _ _ _ _ (o5 j _ v (List.getElem?_eq_getElem hj) hv)
   ·obtain ⟨h1, h2, h3⟩ := objsK_get ho hm
    obtain ⟨b', c', ty', p1, p2, p3, p4, p5⟩ := hg.obj i m h2
    exact ⟨b', c', ty', by simp [ren, h1, p1], p2, p3, p4, fun j x v hx hv => h3 x (List.mem_of_getElem? hx) _ _ _ _ (p5 j x v hx hv)⟩
  ·intro i g hm
   simp only [Mem.get, lookup] at hm
   split at hm
   ·cases hm
   ·obtain ⟨h1, h2, _⟩ := objsK_get ho hm
    obtain ⟨p, q1, q2⟩ := hg.spare i g h2
    exact ⟨p, by simp [ren, h1, q1], q2⟩
  ·intro i j b' hi hj
   rcases hlies i b' hi with ⟨a1, a2⟩ | ⟨a1, a2⟩ <;> rcases hlies j b' hj with ⟨b1, b2⟩ | ⟨b1, b2⟩
   ·exact hg.inj i j b' a2 b2
   ·have := hg.inj i id b' a2 b2; omega
   ·have := hg.inj j id b' b2 a2; omega
   ·omega
  ·intro i gg o vs t hm
   simp only [Mem.get, lookup] at hm
   split at hm
   ·cases hm
   ·exact (objsK_get ho hm).2.2.elim
/-- An own slice whose object nobody writes to any more. -/
theorem Joint.freeze {n0 : Nat} {t : List (Nat × AV)} {ds : List ADef} {M : Mem} (i : Nat) {id n cap : Nat} {l xs : List AV} (h : AF.get ⟨t, ds⟩ i = .osl id 0 n cap 1) (hM : M.get id = some (.cells l)) (hx : l.take n = xs) (hnl : n ≤ l.length) (hnc : n ≤ cap) (h1 : ∀ x, x ∈ xs → x.cells = [x]) :
  Joint n0 ⟨t, ds⟩ M ⟨(i, .sl 1 xs .none) :: t, ds⟩ (M.drop id) := by
 intro μ0 μ F w0 w m a hn he hg hr
 obtain ⟨b, c, ty, o1, o2, o3, o4, o5⟩ := hg.obj id l hM
 have hid : id < M.next := (hg.dom id).1 (by rw [o1]; simp)
 obtain ⟨μ2, k1, k2, k3, k4⟩ := gam_kill hg hid
 have hv := hr.tmps i
 rw [h] at hv
 obtain ⟨b', hb', hv'⟩ := gam_osl hg hM hv
 rw [o1] at hb'
 cases hb'
 have hlen : xs.length = n := by rw [← hx, List.length_take]; omega
 refine ⟨μ2, he.trans k3, k4 _ rfl (fun j => Mem.get_drop M id j), hr.size, ?_, hr.defs.evo k3, fun p hp => (hr.kept p hp).evo k3⟩
 intro j
 by_cases e : j = i
 ·subst e
  have : AF.get ⟨(j, .sl 1 xs .none) :: t, ds⟩ j = .sl 1 xs .none := by simp [AF.get, lookup]
  rw [this, hv', ← hlen]
  have key : ∀ (p : Nat) (x : AV) (q : Nat) (y : AV), xs[p]? = some x → x.cells[q]? = some y → q = 0 ∧ y = x ∧ l[p]? = some x ∧ p < l.length := by
   intro p x q y hp hq
   rw [h1 x (List.mem_of_getElem? hp)] at hq
   have hpn : p < n := by rw [← hlen]; exact (List.getElem?_eq_some_iff.1 hp).1
   rw [← hx, List.getElem?_take, if_pos hpn] at hp
   cases q with
   | zero => simp at hq; exact ⟨rfl, hq.symm, hp, by omega⟩
   | succ q => simp at hq
  have hcell : ∀ p, p < l.length → c[p]? = some (c.getD p undef) := by
   intro p hp
   have : p < c.size := by omega
   simp [Array.getD, this]
  refine .sl 1 xs .none _ _ ⟨b, 0, none⟩ (fun p => c.getD p undef) ?_ (by omega) (fun _ => ⟨rfl, rfl⟩) ?_ ?_ ?_ trivial
  ·intro x hx'
   rw [h1 x hx']
   rfl
  ·intro p x q y hp hq
   obtain ⟨rfl, rfl, h2, h3⟩ := key p x q y hp hq
   simp only [Nat.mul_one, Nat.add_zero]
   exact o4 p _ (hcell p h3)
  ·intro p x q y hp hq
   obtain ⟨rfl, rfl, h2, h3⟩ := key p x q y hp hq
   simp only [Nat.mul_one, Nat.add_zero, Nat.zero_add]
   refine ⟨by rw [cell_mk o2]; exact hcell p h3, hg.frm b p ⟨id, .inl o1⟩, ?_⟩
   intro ho
   obtain ⟨i', hi', h4 | ⟨e', g', h4, _⟩⟩ := k2 b p ho
   ·exact hi' (hg.inj i' id b (.inl h4) (.inl o1))
   ·exact hi' (hg.inj i' id b (.inr ⟨e', g', h4⟩) (.inl o1))
  ·intro p x q y hp hq
   obtain ⟨rfl, rfl, h2, h3⟩ := key p x q y hp hq
   simp only [Nat.mul_one, Nat.add_zero]
   exact (o5 p _ _ h2 (hcell p h3)).evo k3
 ·have : AF.get ⟨(i, .sl 1 xs .none) :: t, ds⟩ j = AF.get ⟨t, ds⟩ j := by simp [AF.get, lookup, e]
  rw [this]
  exact (hr.tmps j).evo k3
end Go.Ab
/- Methods called through interface values. -/
set_option linter.unusedVariables false
set_option linter.unusedSimpArgs false
namespace Go.Ab
open Go.RowKit
def notPtrD : Option TypeDesc → Bool
 | some (.pointer _) => false
 | some _ => true
 | none => false
/-- A type's own method, of a value, by its name. -/
def methF (P : Program) (t : TypeId) (name : String) : Option FuncId :=
 match P.info? t with
 | some i => (match i.methods.find? (·.name == name) with
  | some m => (match m.path.toList, m.func, notPtrD (P.underlying t) with
   | [], some (g, false), true => some g
   | _, _, _ => none)
  | none => none)
 | none => none
theorem run_method {P : Program} {t : TypeId} {name : String} {g : FuncId} (h : methF P t name = some g) (v : Value) (w : World) (k : Nat) : (method (k + 1) t v name).run P w = .ok (g, v) w := by
 unfold methF at h
 split at h
 case h_2 => cases h
 rename_i i hi
 split at h
 case h_2 => cases h
 rename_i m hm
 split at h
 case h_2 => cases h
 rename_i hp hf hn
 cases h
 have hu : ∃ d, P.underlying t = some d ∧ ∀ e, d ≠ .pointer e := by
  cases hd : P.underlying t with
  | none => rw [hd] at hn; cases hn
  | some d =>
   refine ⟨d, rfl, ?_⟩
   rintro e rfl
   rw [hd] at hn
   cases hn
 obtain ⟨d, hd, hne⟩ := hu
 unfold method
 simp only [Sem.run_bind, typeInfo, hi, hm, hp, hf, follow, Result.andThen_ok]
 simp [hi, hm, hp, hf, follow, receiverAt, run_underlying hd, Place.get]
theorem opG_invoke {P : Program} {o : Oper} {x : Operand} {name : String} {ags : Array Operand} {ts : Array TypeId} (ho : o.op = .call { callee := .invoke x name, args := ags, argTypes := ts }) {ρ : Operand → AV} {M : Mem} {t : TypeId} {y : AV}
  (hx : ρ x = .iface t y) {g : FuncId} (hm : methF P t name = some g) {R : AEnd → Mem → Prop} (hc : ACalls P g (y :: ags.toList.map ρ) M R) {K Kp : AV → Mem → Prop} (h1 : ∀ u M', R (.ret u) M' → K u M') (h2 : ∀ u M', R (.pan u) M' → Kp u M') : OpG P o ρ M K Kp := by
 intro μ F w a hg hr next Q' g1 g2
 have hv := hr x (by simp [ho, Op.operands, Call.operands])
 rw [hx] at hv
 generalize hxv : a.eval x = xv at hv
 cases hv with
 | iface _ _ u hu =>
 have hargs : RepL μ F w (ags.toList.map ρ) (ags.map a.eval) := RepL.map fun y hy => hr y (by simp [ho, Op.operands, Call.operands, hy])
 have hall : RepL μ F w (y :: ags.toList.map ρ) (#[u] ++ ags.map a.eval) := (RepL.cons hu).app hargs
 have hcall := hc.2 μ F w _ hg hall
 have hrun : (execOp a.eval o).run P w = .ok (.enter g (#[u] ++ ags.map a.eval)) w := by
  have hk : ∃ k, P.types.size + Made.depth = k + 1 := ⟨P.types.size + (Made.depth - 1), rfl⟩
  obtain ⟨k, hk⟩ := hk
  have e0 : (#[Value.iface t u] ++ ags.map a.eval)[0]? = some (Value.iface t u) := by rw [Array.getElem?_append_left (by simp)]; rfl
  have e1 : (#[Value.iface t u] ++ ags.map a.eval).extract 1 (#[Value.iface t u] ++ ags.map a.eval).size = ags.map a.eval := by
   apply Array.ext'
   simp only [Array.toList_extract, Array.toList_append, Array.size_append, Array.toList_map, List.extract_eq_take_drop]
   simp
   exact List.take_of_length_le (by simp)
  have e2 : (callMethod (.iface t u) name (ags.map a.eval)).run P w = .ok (.enter g (#[u] ++ ags.map a.eval)) w := by
   simp [callMethod, hk, run_method hm, run_enter hc.1]
  have e3 : (invoke (.fn (.method name) #[]) (#[Value.iface t u] ++ ags.map a.eval)).run P w = .ok (.enter g (#[u] ++ ags.map a.eval)) w := by
   unfold invoke
   simp only
   rw [e0, e1]
   exact e2
  simp only [execOp, ho, resolve, hxv]
  simpa using e3
 unfold Oper.wp
 rw [hrun]
 simp only [Oper.upon]
 refine hcall.mono ?_
 rintro e w' ⟨μ', M', e1, e2, e3⟩
 cases e with
 | returned v =>
  obtain ⟨u, e4, e5⟩ := e3
  exact g1 μ' M' w' v u e1 e2 e4 (h1 u M' e5)
 | panicked ch =>
  obtain ⟨u, v, rfl, e4, e5⟩ := e3
  exact g2 μ' M' w' v u e1 e2 e4 (h2 u M' e5)
 | outgrown => exact e3.elim
section
variable {P : Program} {τ : Tab} {ops : Array Oper} {cls : Nat → Cls} {Q : AX → AF → Mem → Prop} {ds : List ADef} {l : List Nat} {i : Nat} {o : Oper} {t : List (Nat × AV)} {M M' : Mem} {x : AV}
/-- A method that hands back just this, and leaves the objects. -/
theorem DW_invoke {d : Nat} (hi : ops[i]? = some o) (hw : wantedA ops ⟨t, ds⟩ o = some true) (hd : o.dst = some d) {y : Operand} {name : String} {ags : Array Operand} {ts : Array TypeId} (ho : o.op = .call { callee := .invoke y name, args := ags, argTypes := ts })
  {ty : TypeId} {z : AV} (hx : AF.ev ⟨t, ds⟩ y = .iface ty z) {g : FuncId} (hm : methF P ty name = some g) (hcall : APure P g (z :: ags.toList.map (AF.ev ⟨t, ds⟩)) x)
  (h : DW P ops cls Q ds l ((d, x) :: t) M) : DW P ops cls Q ds (i :: l) t M := by
 refine DW_run hi hw ?_
 have key : ∀ N, OpG P o (AF.ev ⟨t, ds⟩) N (fun u M' => u = x ∧ M' = N) fun _ _ => False := fun N =>
  opG_invoke ho hx hm (hcall N) (fun u M' hu => by obtain ⟨e1, e2⟩ := hu; cases e1; exact ⟨rfl, e2⟩) (fun u M' hu => by cases hu.1)
 have hk : DW P ops cls Q ds l (AF.put ⟨t, ds⟩ o.dst x).t M := by simpa [AF.put, hd] using h
 generalize cls i = c
 cases c with
 | P => exact ⟨x, key, hk⟩
 | R => exact ⟨x, key M, hk⟩
 | E =>
  refine (opG_invoke ho hx hm (hcall M) (fun u M' hu => ?_) (fun u M' hu => by cases hu.1) : OpG P o _ M _ _)
  obtain ⟨e1, e2⟩ := hu
  cases e1
  subst e2
  exact hk
 | Y =>
  refine OpG.toI (by intro c hc; rw [ho] at hc; cases hc) ?_
  refine opG_invoke ho hx hm (hcall M) ?_ (fun u M' ⟨e, _⟩ => by cases e)
  intro u M' ⟨e, e'⟩
  cases e
  subst e'
  exact hk
/-- A method that turns objects. -/
theorem DW_invokeM {d : Nat} (hi : ops[i]? = some o) (hw : wantedA ops ⟨t, ds⟩ o = some true) (hd : o.dst = some d) {y : Operand} {name : String} {ags : Array Operand} {ts : Array TypeId} (ho : o.op = .call { callee := .invoke y name, args := ags, argTypes := ts })
  {ty : TypeId} {z : AV} (hx : AF.ev ⟨t, ds⟩ y = .iface ty z) {g : FuncId} (hm : methF P ty name = some g) (hc : isE (cls i) = true) {R : AEnd → Mem → Prop} (hcall : ACalls P g (z :: ags.toList.map (AF.ev ⟨t, ds⟩)) M R)
  (h1 : ∀ u M', R (.ret u) M' → DW P ops cls Q ds l ((d, u) :: t) M') (h2 : ∀ u M', R (.pan u) M' → Q (.panic u) ⟨keepT ds, ds⟩ M') : DW P ops cls Q ds (i :: l) t M := by
 refine DW_run hi hw ?_
 have : SC P o .E (AF.ev ⟨t, ds⟩) M (fun x M' => DW P ops cls Q ds l (AF.put ⟨t, ds⟩ o.dst x).t M') fun v M' => Q (.panic v) ⟨keepT ds, ds⟩ M' :=
  opG_invoke ho hx hm hcall (fun u M' hu => by simpa [AF.put, hd] using h1 u M' hu) h2
 generalize cls i = c at hc ⊢
 cases c with
 | E => exact this
 | Y => exact OpG.toI (by intro c hc; rw [ho] at hc; cases hc) this
 | _ => cases hc
end
end Go.Ab
