/- Parts of the proof, one behind the other: AbR2, Row4, RowS. No further condition. -/
import Derived.Test.YthdeopopodhimaaGreatDoorM25
import Derived.Test.YthdeopopodhimaaGreatDoorTie
import Derived.Test.YthdeopopodhimaaGreatDoorCards
import Derived.Test.YthdeopopodhimaaGreatDoorM19
import Derived.ProofKit
import Derived.OpenShut
import Derived.LaidMore
import Derived.Lay
import Derived.SevenTiedAt
import Derived.Stop.Joined
import Derived.Test.YthdeopopodhimaaGreatDoorM23
set_option linter.unusedVariables false
set_option linter.unusedSimpArgs false
/- A law's row out of its function's contract. -/
set_option linter.unusedVariables false
set_option linter.unusedSimpArgs false
namespace Go.Ab
open Go.RowKit Go.ChangeShapes

section
variable {H : Type} {enc : TypeId × Value → H} {P : Program}

/-- An argument of one cell, read. -/
theorem arg_one {τ : Tab} (hτ : TabOK P τ) {n : Nat} {t : TypeId} (hp : plainT τ n t = true) {w : World} {base : Nat} {spare : Nat → Bool} {held : Bool} {v : Value} {d : DataW H} {p : List MemPlace} (h : DataW.Trod enc P w base spare held t v d p)
    (hw : (d.weights P t).all (· ≤ reachBytes) = true) (hv : v.cells.toList = [v]) : ∃ x, Rep mu0 fr0 w x v ∧ shape τ n t [x] := by
  obtain ⟨fuel, hf⟩ := h
  rw [hv] at hf
  obtain ⟨l, h1, h2⟩ := trod_rep hτ n fuel t [v] _ hp hf hw
  have hl := h1.len
  match l, hl with
  | [x], _ => exact ⟨x, (h1.rep 0 x v rfl rfl).1, h2⟩

/-- An argument that is a struct. -/
theorem arg_agg {τ : Tab} (hτ : TabOK P τ) {n : Nat} {t : TypeId} (hp : plainT τ n t = true) {w : World} {base : Nat} {spare : Nat → Bool} {held : Bool} {cs : Array Value} {d : DataW H} {p : List MemPlace} (h : DataW.Trod enc P w base spare held t (.agg cs) d p)
    (hw : (d.weights P t).all (· ≤ reachBytes) = true) : ∃ l, Rep mu0 fr0 w (.agg l) (.agg cs) ∧ shape τ n t l := by
  obtain ⟨fuel, hf⟩ := h
  obtain ⟨l, h1, h2⟩ := trod_rep hτ n fuel t _ _ hp hf hw
  refine ⟨l, ?_, h2⟩
  refine .agg _ _ (by have := h1.len; simpa [Value.cells] using this.symm) ?_ ?_
  · intro i x v hx hv
    exact (h1.rep i x v hx (by simpa [Value.cells] using hv)).1
  · intro i v hv
    have hi : i < l.length := by
      rw [h1.len]
      have := (Array.getElem?_eq_some_iff.1 hv).1
      simpa [Value.cells] using this
    exact (h1.rep i _ v (List.getElem?_eq_getElem hi) (by simpa [Value.cells] using hv)).2

theorem trodAll_stays (hl : laidOutB P = true) {W W' : World} (hb : Below W.heap.size W W') {sp : Nat → Bool} : ∀ {ts : List TypeId} {vs : List Value} {ds : List (DataW H)} {ps : List MemPlace}, (∀ t ∈ ts, P.readableRec t = true ∧ t < P.types.size) →
    DataW.TrodAll enc P W 0 (fun _ => true) true ts vs ds ps → (∀ p ∈ ps, p.block < W.heap.size) → (∀ p ∈ ps, sp p.block = true) → DataW.TrodAll enc P W' 0 sp true ts vs ds ps
  | [], [], [], _, _, h, _, _ => h
  | t :: ts, v :: vs, d :: ds, _, hts, ⟨p, q, h1, h2, e⟩, hlt, hs => by
    subst e
    refine ⟨p, q, ?_, trodAll_stays hl hb (fun t ht => hts t (List.mem_cons_of_mem _ ht)) h2 (fun x hx => hlt x (List.mem_append_right _ hx)) (fun x hx => hs x (List.mem_append_right _ hx)), rfl⟩
    exact WideElems.Trod_stays hl (hts t List.mem_cons_self).1 (hts t List.mem_cons_self).2 h1 (fun x hx => hb.same (hlt x (List.mem_append_left _ hx))) (fun x hx => hs x (List.mem_append_left _ hx))
  | [], _ :: _, _, _, _, h, _, _ => h.elim
  | [], [], _ :: _, _, _, h, _, _ => h.elim
  | _ :: _, [], _, _, _, h, _, _ => h.elim
  | _ :: _, _ :: _, [], _, _, h, _, _ => h.elim

/-- What a law's row asks behind the call. -/
theorem law_post (hl : laidOutB P = true) {f : Func} {s : ChangeSpec} (hv : s.vars = []) {tb : TypeId} (htb : P.underlying tb = some .bool) (hrt : f.resultTypes = #[tb]) (hts : ∀ t ∈ f.params.toList, P.readableRec t = true ∧ t < P.types.size)
    {W W' : World} {args : Array Value} {ds gs : List (DataW H)} {before : List MemPlace} (hW : DataW.Whole enc P f.params.toList s.vars false W args.toList ds gs before) (hb : Below W.heap.size W W')
    (hres : (s.fn H (ds ++ gs)).results = [.lit (.bool true)]) (hargs : (s.fn H (ds ++ gs)).args = ds) (hvars : (s.fn H (ds ++ gs)).vars = []) : s.post enc P f false true false false W args (.bool true) W' := by
  have hlt := hW.lt
  obtain ⟨p, q, hA, hV, hps, _, _⟩ := id hW
  rw [hv] at hV
  obtain ⟨hgs, hq⟩ := trodVars_none hV
  refine ⟨ds, gs, before, [], p, [], hW, ?_, ?_, ?_, hb.frame _, fun h => by cases h⟩
  · rw [hres, hrt]
    exact trodAll_mk1 (shut_bool htb true)
  · rw [hargs]
    refine trodAll_stays hl hb hts hA ?_ ?_
    · intro x hx
      exact hlt x (by rw [hps]; exact List.mem_append_left _ hx)
    · intro x hx
      simpa using hlt x (by rw [hps]; exact List.mem_append_left _ hx)
  · rw [hvars, hv]
    rfl

/-- A contract, at the row's start. -/
theorem law_calls {g : FuncId} {args : List AV} (h : APure P g args (.bool true)) {w : World} {vs : Array Value} (hv : RepL mu0 fr0 w args vs) : Calls P g vs w fun e w' => e = .returned (.bool true) ∧ Below w.heap.size w w' := by
  have hno : ∀ b o, ¬ Own mu0 b o := by rintro b o ⟨id, h | ⟨e, g, h, _⟩⟩ <;> cases h
  have hg : Gam mu0 fr0 ⟨0, []⟩ w := by
    refine { dom := fun id => (by simp [mu0]), obj := fun id l hM => (by cases hM), spare := fun id g hM => (by cases hM), raw := fun id g o vs t hM => (by cases hM), inj := ?_, frm := fun b o ho => absurd ho (hno b o), fit := ⟨fun b o ho => absurd ho (hno b o), fun b o h => h.elim⟩ }
    rintro i j b (h | ⟨_, _, h⟩) _ <;> cases h
  refine ((h ⟨0, []⟩).2 mu0 fr0 w vs hg hv).mono ?_
  rintro e w' ⟨μ', M', h1, h2, h3⟩
  have hb : Below w.heap.size w w' := ⟨h1.os, h1.tape, h1.output, h1.size, fun k hk => h1.same k hk (hno k)⟩
  cases e with
  | returned v =>
    obtain ⟨x, h4, h5⟩ := h3
    obtain ⟨e, _⟩ := h5
    cases e
    cases h4
    exact ⟨rfl, hb⟩
  | panicked ch =>
    obtain ⟨x, v, _, _, e, _⟩ := h3
    cases e
  | outgrown => exact h3.elim

theorem list_of {α : Type} {f : α → AV} : ∀ {xs : List AV}, (∀ x, x ∈ xs → ∃ a, x = f a) → ∃ l : List α, xs = l.map f
  | [], _ => ⟨[], rfl⟩
  | x :: r, h => by
    obtain ⟨a, rfl⟩ := h _ List.mem_cons_self
    obtain ⟨l, rfl⟩ := list_of fun x hx => h x (List.mem_cons_of_mem _ hx)
    exact ⟨a :: l, rfl⟩

theorem list_all {α : Type} {f : α → AV} {q : α → Prop} : ∀ {xs : List AV}, (∀ x, x ∈ xs → ∃ a, x = f a ∧ q a) → ∃ l : List α, xs = l.map f ∧ ∀ a, a ∈ l → q a
  | [], _ => ⟨[], rfl, by simp⟩
  | x :: r, h => by
    obtain ⟨a, rfl, hq⟩ := h _ List.mem_cons_self
    obtain ⟨l, rfl, hl⟩ := list_all fun x hx => h x (List.mem_cons_of_mem _ hx)
    exact ⟨a :: l, rfl, by
      intro y hy
      rcases List.mem_cons.1 hy with rfl | hy
      · exact hq
      · exact hl y hy⟩
end
end Go.Ab

/- Helps for the rows: arguments read as values. No further condition. -/
set_option linter.unusedVariables false
set_option linter.unusedSimpArgs false
namespace Go.Proofs.YthdeopopodhimaaGreatDoor
open Go.Ab Go.RowKit Go.ChangeShapes Go.WideShapes Go.ChangeAt

theorem Tryz.own : ownKnob Tryz.prog.godebug = none := by kernel_rfl
theorem Tryz.laidOut : laidOutB Tryz.prog = true := by kernel_rfl

set_option maxRecDepth 100000 in
theorem one_str {t : TypeId} {W : World} {base : Nat} {v : Value} (ht : Tryz.prog.underlying t = some .string) (h : Value.okWide Tryz.prog W .any base t v) : v.cells.toList = [v] := by
  obtain ⟨s, rfl⟩ := okWide_string ht h
  rfl
set_option maxRecDepth 100000 in
theorem one_int {t : TypeId} {k : IntKind} {W : World} {base : Nat} {v : Value} (ht : Tryz.prog.underlying t = some (.int k)) (h : Value.okWide Tryz.prog W .any base t v) : v.cells.toList = [v] := by
  obtain ⟨n, rfl⟩ := okWide_int ht h
  rfl
set_option maxRecDepth 100000 in
theorem one_slice {e t : TypeId} {W : World} {base : Nat} {v : Value} (ht : Tryz.prog.underlying t = some (.slice e)) (h : Value.okWide Tryz.prog W .any base t v) : v.cells.toList = [v] := by
  obtain ⟨a, l, c, rfl⟩ := okWide_slice ht h
  rfl
theorem str_of {n : Nat} {t : TypeId} {x : AV} (h : Go.Ab.shape tab n t [x]) (hk : (lookup tab t).map (·.k) = some .str) : ∃ s : Bytes, x = .str s ∧ s.length ≤ reachBytes := by
  cases n with
  | zero => exact h.elim
  | succ n =>
    simp only [Go.Ab.shape] at h
    cases hl : lookup tab t with
    | none => rw [hl] at h; exact h.elim
    | some i =>
      rw [hl] at h hk
      simp only [Option.map_some, Option.some.injEq] at hk
      simp only [hk] at h
      obtain ⟨s, hs, hb⟩ := h
      cases hs
      exact ⟨s, rfl, hb⟩
theorem int_of {n : Nat} {t : TypeId} {k : IntKind} {x : AV} (h : Go.Ab.shape tab n t [x]) (hk : (lookup tab t).map (·.k) = some (.int k)) : ∃ m : Int, x = .int k m ∧ (Lit.int k m).wf = true := by
  cases n with
  | zero => exact h.elim
  | succ n =>
    simp only [Go.Ab.shape] at h
    cases hl : lookup tab t with
    | none => rw [hl] at h; exact h.elim
    | some i =>
      rw [hl] at h hk
      simp only [Option.map_some, Option.some.injEq] at hk
      simp only [hk] at h
      obtain ⟨s, hs, hb⟩ := h
      cases hs
      exact ⟨s, rfl, hb⟩
theorem i64_of {m : Int} (h : (Lit.int .i64 m).wf = true) : -9223372036854775808 ≤ m ∧ m < 9223372036854775808 := by
  simp [Lit.wf, IntKind.min, IntKind.max, IntKind.signed, IntKind.bits] at h
  omega

theorem key_of {l : List AV} (h : Go.Ab.shape tab 8 94 l) : ∃ k : Ky, AV.agg l = k.av ∧ k.path.length ≤ reachBytes := by
  obtain ⟨a, b, rfl, ⟨p, rfl, hb⟩, a2, b2, rfl, ⟨t, rfl, _⟩, rfl⟩ := h
  exact ⟨⟨p, t⟩, rfl, hb⟩
theorem prs_of {x : AV} (h : Go.Ab.shape tab 8 22 [x]) : ∃ l : List Pr, x = .sl 3 (l.map Pr.av) .none ∧ l.length ≤ reachBytes := by
  obtain ⟨xs, hx, hb, hall⟩ := h
  cases hx
  obtain ⟨l, rfl⟩ := list_of (f := Pr.av) (xs := xs) fun y hy => by
    obtain ⟨c, rfl, a, b, rfl, ⟨c1, d1, rfl, ⟨p, rfl, _⟩, c2, d2, rfl, ⟨t, rfl, _⟩, rfl⟩, a2, b2, rfl, ⟨v, rfl, _⟩, rfl⟩ := hall y hy
    exact ⟨⟨⟨p, t⟩, v⟩, rfl⟩
  exact ⟨l, rfl, by simpa using hb⟩
end Go.Proofs.YthdeopopodhimaaGreatDoor

/- Batches as arguments, read as values. No further condition. -/
set_option linter.unusedVariables false
set_option linter.unusedSimpArgs false
namespace Go.Proofs.YthdeopopodhimaaGreatDoor
open Go.Ab Go.RowKit Go.ChangeShapes Go.WideShapes Go.ChangeAt
theorem list_of2 {α : Type} {f : α → AV} {q : α → Prop} : ∀ {xs : List AV}, (∀ y, y ∈ xs → ∃ a, y = f a ∧ q a) → ∃ l : List α, xs = l.map f ∧ ∀ a, a ∈ l → q a
  | [], _ => ⟨[], rfl, by simp⟩
  | x :: r, h => by
    obtain ⟨a, rfl, ha⟩ := h x (by simp)
    obtain ⟨l, rfl, hl⟩ := list_of2 (f := f) (q := q) (xs := r) (fun y hy => h y (by simp [hy]))
    refine ⟨a :: l, rfl, fun b hb => ?_⟩
    rcases List.mem_cons.1 hb with rfl | hb
    · exact ha
    · exact hl b hb
theorem lds_of {x : AV} (h : Go.Ab.shape tab 8 55 [x]) : ∃ l : List Ld, x = ldA l .none ∧ ldsB l := by
  obtain ⟨xs, hx, hb, hall⟩ := h
  cases hx
  obtain ⟨l, rfl, hl⟩ := list_of2 (f := Ld.av) (q := fun x => x.batch.length < 4611686018427387904) (xs := xs) fun y hy => by
    obtain ⟨c, rfl, a, b, rfl, ⟨t, rfl, _⟩, a2, b2, rfl, ⟨ys, rfl, hb2, hall2⟩, rfl⟩ := hall y hy
    obtain ⟨m, rfl, _⟩ := list_of2 (f := Ch.av) (q := fun _ => True) (xs := ys) fun z hz => by
      obtain ⟨c, rfl, a, b, rfl, ⟨p, rfl, _⟩, a2, b2, rfl, ⟨g, rfl⟩, a3, b3, rfl, ⟨d1, e1, rfl, ⟨s, rfl, _⟩, d2, e2, rfl, ⟨m, rfl, _⟩, d3, e3, rfl, ⟨ns, rfl, _, hn⟩, rfl⟩, rfl⟩ := hall2 z hz
      obtain ⟨k, rfl, _⟩ := list_of2 (f := fun n : Int => AV.int .i64 n) (q := fun _ => True) (xs := ns) fun u hu => by
        obtain ⟨c, rfl, n, rfl, _⟩ := hn u hu
        exact ⟨n, rfl, trivial⟩
      exact ⟨⟨p, g, ⟨s, m, k⟩⟩, rfl, trivial⟩
    exact ⟨⟨t, m⟩, rfl, Nat.lt_of_le_of_lt (by simpa using hb2) (by decide)⟩
  exact ⟨l, rfl, Nat.lt_of_le_of_lt (by simpa using hb) (by decide), hl⟩
theorem chs_of {x : AV} (h : Go.Ab.shape tab 8 51 [x]) : ∃ l : List Ch, x = chA l .none ∧ l.length ≤ reachBytes := by
  obtain ⟨ys, hx, hb2, hall2⟩ := h
  cases hx
  obtain ⟨m, rfl, _⟩ := list_of2 (f := Ch.av) (q := fun _ => True) (xs := ys) fun z hz => by
    obtain ⟨c, rfl, a, b, rfl, ⟨p, rfl, _⟩, a2, b2, rfl, ⟨g, rfl⟩, a3, b3, rfl, ⟨d1, e1, rfl, ⟨s, rfl, _⟩, d2, e2, rfl, ⟨m, rfl, _⟩, d3, e3, rfl, ⟨ns, rfl, _, hn⟩, rfl⟩, rfl⟩ := hall2 z hz
    obtain ⟨k, rfl, _⟩ := list_of2 (f := fun n : Int => AV.int .i64 n) (q := fun _ => True) (xs := ns) fun u hu => by
      obtain ⟨c, rfl, n, rfl, _⟩ := hn u hu
      exact ⟨n, rfl, trivial⟩
    exact ⟨⟨p, g, ⟨s, m, k⟩⟩, rfl, trivial⟩
  exact ⟨m, rfl, by simpa using hb2⟩
end Go.Proofs.YthdeopopodhimaaGreatDoor
