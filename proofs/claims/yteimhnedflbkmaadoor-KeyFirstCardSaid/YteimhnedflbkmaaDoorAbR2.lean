/- A law's row out of its function's contract. -/
import Derived.Test.YteimhnedflbkmaaDoorAbR1
set_option linter.unusedVariables false
set_option linter.unusedSimpArgs false
namespace Go.Ab
open Go.RowKit Go.ChangeShapes

section
variable {H : Type} {enc : TypeId × Value → H} {P : Program}

/-- An argument of one cell, read. -/
theorem arg_one {τ : Tab} (hτ : TabOK P τ) {n : Nat} {t : TypeId} (hp : plainT τ n t = true) {w : World} {base : Nat} {spare : Nat → Bool} {held : Bool} {v : Value} {d : DataW H} {p : List MemPlace} (h : DataW.Trod enc P w base spare held t v d p)
    (hv : v.cells.toList = [v]) : ∃ x, Rep mu0 fr0 w x v ∧ shape τ n t [x] := by
  obtain ⟨fuel, hf⟩ := h
  rw [hv] at hf
  obtain ⟨l, h1, h2⟩ := trod_rep hτ n fuel t [v] _ hp hf
  have hl := h1.len
  match l, hl with
  | [x], _ => exact ⟨x, (h1.rep 0 x v rfl rfl).1, h2⟩

/-- An argument that is a struct. -/
theorem arg_agg {τ : Tab} (hτ : TabOK P τ) {n : Nat} {t : TypeId} (hp : plainT τ n t = true) {w : World} {base : Nat} {spare : Nat → Bool} {held : Bool} {cs : Array Value} {d : DataW H} {p : List MemPlace} (h : DataW.Trod enc P w base spare held t (.agg cs) d p) :
    ∃ l, Rep mu0 fr0 w (.agg l) (.agg cs) ∧ shape τ n t l := by
  obtain ⟨fuel, hf⟩ := h
  obtain ⟨l, h1, h2⟩ := trod_rep hτ n fuel t _ _ hp hf
  refine ⟨l, ?_, h2⟩
  refine .agg _ _ (by have := h1.len; simpa [Value.cells] using this.symm) ?_ ?_
  · intro i x v hx hv
    exact (h1.rep i x v hx (by simpa [Value.cells] using hv)).1
  · intro i v hv
    have hi : i < l.length := by
      rw [h1.len]
      have := (Array.getElem?_eq_some_iff.1 hv).1
      simpa [Value.cells] using this
    exact (h1.rep i _ v (List.getElem?_eq_getElem hi) (by simpa [Value.cells] using hv)).2

theorem trodAll_stays (hl : laidOutB P = true) {W W' : World} (hb : Below W.heap.size W W') {sp : Nat → Bool} : ∀ {ts : List TypeId} {vs : List Value} {ds : List (DataW H)} {ps : List MemPlace}, (∀ t ∈ ts, P.readableRec t = true ∧ t < P.types.size) →
    DataW.TrodAll enc P W 0 (fun _ => true) true ts vs ds ps → (∀ p ∈ ps, p.block < W.heap.size) → (∀ p ∈ ps, sp p.block = true) → DataW.TrodAll enc P W' 0 sp true ts vs ds ps
  | [], [], [], _, _, h, _, _ => h
  | t :: ts, v :: vs, d :: ds, _, hts, ⟨p, q, h1, h2, e⟩, hlt, hs => by
    subst e
    refine ⟨p, q, ?_, trodAll_stays hl hb (fun t ht => hts t (List.mem_cons_of_mem _ ht)) h2 (fun x hx => hlt x (List.mem_append_right _ hx)) (fun x hx => hs x (List.mem_append_right _ hx)), rfl⟩
    exact WideElems.Trod_stays hl (hts t List.mem_cons_self).1 (hts t List.mem_cons_self).2 h1 (fun x hx => hb.same (hlt x (List.mem_append_left _ hx))) (fun x hx => hs x (List.mem_append_left _ hx))
  | [], _ :: _, _, _, _, h, _, _ => h.elim
  | [], [], _ :: _, _, _, h, _, _ => h.elim
  | _ :: _, [], _, _, _, h, _, _ => h.elim
  | _ :: _, _ :: _, [], _, _, h, _, _ => h.elim

/-- What a law's row asks behind the call. -/
theorem law_post (hl : laidOutB P = true) {f : Func} {s : ChangeSpec} (hv : s.vars = []) {tb : TypeId} (htb : P.underlying tb = some .bool) (hrt : f.resultTypes = #[tb]) (hts : ∀ t ∈ f.params.toList, P.readableRec t = true ∧ t < P.types.size)
    {W W' : World} {args : Array Value} {ds gs : List (DataW H)} {before : List MemPlace} (hW : DataW.Whole enc P f.params.toList s.vars false W args.toList ds gs before) (hb : Below W.heap.size W W')
    (hres : (s.fn H (ds ++ gs)).results = [.lit (.bool true)]) (hargs : (s.fn H (ds ++ gs)).args = ds) (hvars : (s.fn H (ds ++ gs)).vars = []) : s.post enc P f false true false false W args (.bool true) W' := by
  have hlt := hW.lt
  obtain ⟨p, q, hA, hV, hps, _, _⟩ := id hW
  rw [hv] at hV
  obtain ⟨hgs, hq⟩ := trodVars_none hV
  refine ⟨ds, gs, before, [], p, [], hW, ?_, ?_, ?_, hb.frame _, fun h => by cases h⟩
  · rw [hres, hrt]
    exact trodAll_mk1 (shut_bool htb true)
  · rw [hargs]
    refine trodAll_stays hl hb hts hA ?_ ?_
    · intro x hx
      exact hlt x (by rw [hps]; exact List.mem_append_left _ hx)
    · intro x hx
      simpa using hlt x (by rw [hps]; exact List.mem_append_left _ hx)
  · rw [hvars, hv]
    rfl

/-- A contract, at the row's start. -/
theorem law_calls {g : FuncId} {args : List AV} (h : APure P g args (.bool true)) {w : World} {vs : Array Value} (hv : RepL mu0 fr0 w args vs) : Calls P g vs w fun e w' => e = .returned (.bool true) ∧ Below w.heap.size w w' := by
  have hno : ∀ b o, ¬ Own mu0 b o := by rintro b o ⟨id, h | ⟨e, g, h, _⟩⟩ <;> cases h
  have hg : Gam mu0 fr0 ⟨0, []⟩ w := by
    refine { dom := fun id => (by simp [mu0]), obj := fun id l hM => (by cases hM), spare := fun id g hM => (by cases hM), inj := ?_, frm := fun b o ho => absurd ho (hno b o), fit := ⟨fun b o ho => absurd ho (hno b o), fun b o h => h.elim⟩ }
    rintro i j b (h | ⟨_, _, h⟩) _ <;> cases h
  refine ((h ⟨0, []⟩).2 mu0 fr0 w vs hg hv).mono ?_
  rintro e w' ⟨μ', M', h1, h2, h3⟩
  have hb : Below w.heap.size w w' := ⟨h1.os, h1.tape, h1.output, h1.size, fun k hk => h1.same k hk (hno k)⟩
  cases e with
  | returned v =>
    obtain ⟨x, h4, h5⟩ := h3
    obtain ⟨e, _⟩ := h5
    cases e
    cases h4
    exact ⟨rfl, hb⟩
  | panicked ch =>
    obtain ⟨x, v, _, _, e, _⟩ := h3
    cases e
  | outgrown => exact h3.elim

theorem list_of {α : Type} {f : α → AV} : ∀ {xs : List AV}, (∀ x, x ∈ xs → ∃ a, x = f a) → ∃ l : List α, xs = l.map f
  | [], _ => ⟨[], rfl⟩
  | x :: r, h => by
    obtain ⟨a, rfl⟩ := h _ List.mem_cons_self
    obtain ⟨l, rfl⟩ := list_of fun x hx => h x (List.mem_cons_of_mem _ hx)
    exact ⟨a :: l, rfl⟩

theorem list_all {α : Type} {f : α → AV} {q : α → Prop} : ∀ {xs : List AV}, (∀ x, x ∈ xs → ∃ a, x = f a ∧ q a) → ∃ l : List α, xs = l.map f ∧ ∀ a, a ∈ l → q a
  | [], _ => ⟨[], rfl, by simp⟩
  | x :: r, h => by
    obtain ⟨a, rfl, hq⟩ := h _ List.mem_cons_self
    obtain ⟨l, rfl, hl⟩ := list_all fun x hx => h x (List.mem_cons_of_mem _ hx)
    exact ⟨a :: l, rfl, by
      intro y hy
      rcases List.mem_cons.1 hy with rfl | hy
      · exact hq
      · exact hl y hy⟩
end
end Go.Ab
