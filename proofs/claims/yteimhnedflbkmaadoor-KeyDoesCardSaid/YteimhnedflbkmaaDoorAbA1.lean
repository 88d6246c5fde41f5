/- Abstract values and memory over the model's worlds: what a value stands for, and how worlds grow. -/
import Derived.Calls
import Derived.Orders
import Derived.Below
import Derived.Tactics
import Derived.Deep.Draws
import Derived.OwnWalk
set_option linter.unusedVariables false
namespace Go.Ab
open Go.RowKit

/-- Who may append in place: nobody; a slice without spare room; the owner of a token, of a generation. -/
inductive Tag where
  | none
  | full
  | tok (id g : Nat)

/-- Abstract values. -/
inductive AV where
  | int (k : IntKind) (n : Int)
  | bool (b : Bool)
  | str (s : List UInt8)
  | sl (sz : Nat) (xs : List AV) (t : Tag)
  | ptr (id off : Nat)
  | ref (cells : List AV)
  | nilptr
  | nilIface
  | iface (t : TypeId) (v : AV)
  | nilFunc
  | fn (f : Fn) (first captured : List AV)
  | agg (cells : List AV)
  | tup (vs : List AV)
  | map (id : Nat)
  | nilmap
  | osl (id off n cap sz : Nat)
  | top

instance : Inhabited AV := ⟨.top⟩

def AV.cells : AV → List AV
  | .agg cs => cs
  | v => [v]

/-- Where an object lies: a block of its own; the places of a block from e on (or no room at all), of generation g; nowhere any more. -/
inductive Loc where
  | at (b : Nat)
  | spare (p : Option (Nat × Nat)) (g : Nat)
  | dead

abbrev Mu := Nat → Option Loc
abbrev Frm := Nat → Nat → Prop

/-- Place o of block b is one of the objects'. -/
def Own (μ : Mu) (b o : Nat) : Prop := ∃ id, μ id = some (.at b) ∨ ∃ e g, μ id = some (.spare (some (b, e)) g) ∧ e ≤ o
def Free (μ : Mu) (F : Frm) (b o : Nat) : Prop := ¬ F b o ∧ ¬ Own μ b o

def RoomOK (w : World) (A : Option Addr) (n cap sz : Nat) : Option (Nat × Nat) → Prop
  | none => cap = n
  | some (b, e) => A = some ⟨b, 0, none⟩ ∧ n * sz = e ∧ ∃ c ty fr, w.heap[b]? = some (.cells c ty fr) ∧ cap * sz ≤ c.size

def TagOK (μ : Mu) (w : World) (A : Option Addr) (n cap sz : Nat) : Tag → Prop
  | .none => True
  | .full => cap = n
  | .tok id g => μ id = some .dead ∨ ∃ p g', μ id = some (.spare p g') ∧ g ≤ g' ∧ (g = g' → RoomOK w A n cap sz p)

/-- What a value stands for in a world. -/
inductive Rep (μ : Mu) (F : Frm) (w : World) : AV → Value → Prop where
  | int (k : IntKind) (n : Int) : Rep μ F w (.int k n) (.int k n)
  | bool (b : Bool) : Rep μ F w (.bool b) (.bool b)
  | str (s : List UInt8) : Rep μ F w (.str s) (.string ⟨s.toArray⟩)
  | sl (sz : Nat) (xs : List AV) (t : Tag) (A : Option Addr) (cap : Nat) (ad : Addr) (vals : Nat → Value)
      (hsz : ∀ x, x ∈ xs → x.cells.length = sz) (hcap : xs.length ≤ cap)
      (hA : 0 < xs.length → A = some ad ∧ ad.spot = none)
      (hone : ∀ (i : Nat) (x : AV) (j : Nat) (c : AV), xs[i]? = some x → x.cells[j]? = some c → (vals (i * sz + j)).oneCell' = true)
      (hcell : ∀ (i : Nat) (x : AV) (j : Nat) (c : AV), xs[i]? = some x → x.cells[j]? = some c → w.cell? ⟨ad.block, ad.off + (i * sz + j), none⟩ = some (vals (i * sz + j)) ∧ Free μ F ad.block (ad.off + (i * sz + j)))
      (hrep : ∀ (i : Nat) (x : AV) (j : Nat) (c : AV), xs[i]? = some x → x.cells[j]? = some c → Rep μ F w c (vals (i * sz + j)))
      (htag : TagOK μ w A xs.length cap sz t) : Rep μ F w (.sl sz xs t) (.slice A xs.length cap)
  | ptr (id off : Nat) (v : Value) (h1 : v.oneCell' = true) (h : μ id ≠ none) (hv : ∀ b, μ id = some (.at b) → v = .pointer (some ⟨b, off, none⟩)) : Rep μ F w (.ptr id off) v
  | ref (cells : List AV) (b o : Nat) (vals : Nat → Value)
      (hone : ∀ (j : Nat) (c : AV), cells[j]? = some c → (vals j).oneCell' = true)
      (hcell : ∀ (j : Nat) (c : AV), cells[j]? = some c → w.cell? ⟨b, o + j, none⟩ = some (vals j) ∧ Free μ F b (o + j))
      (hrep : ∀ (j : Nat) (c : AV), cells[j]? = some c → Rep μ F w c (vals j)) : Rep μ F w (.ref cells) (.pointer (some ⟨b, o, none⟩))
  | nilptr : Rep μ F w .nilptr (.pointer none)
  | nilIface : Rep μ F w .nilIface .nilIface
  | iface (t : TypeId) (x : AV) (v : Value) (h : Rep μ F w x v) : Rep μ F w (.iface t x) (.iface t v)
  | nilFunc : Rep μ F w .nilFunc .nilFunc
  | fn (f : Fn) (l1 l2 : List AV) (c1 c2 : Array Value) (hs1 : c1.size = l1.length) (hs2 : c2.size = l2.length)
      (h1 : ∀ (i : Nat) (x : AV) (v : Value), l1[i]? = some x → c1[i]? = some v → Rep μ F w x v) (h2 : ∀ (i : Nat) (x : AV) (v : Value), l2[i]? = some x → c2[i]? = some v → Rep μ F w x v) :
      Rep μ F w (.fn f l1 l2) (.func f c1 c2)
  | agg (l : List AV) (c : Array Value) (hs : c.size = l.length) (h : ∀ (i : Nat) (x : AV) (v : Value), l[i]? = some x → c[i]? = some v → Rep μ F w x v)
      (hone : ∀ (i : Nat) (v : Value), c[i]? = some v → v.oneCell' = true) : Rep μ F w (.agg l) (.agg c)
  | tup (l : List AV) (c : Array Value) (hs : c.size = l.length) (h : ∀ (i : Nat) (x : AV) (v : Value), l[i]? = some x → c[i]? = some v → Rep μ F w x v) :
      Rep μ F w (.tup l) (.tuple c)
  | map (id : Nat) (v : Value) (h1 : v.oneCell' = true) (h : μ id ≠ none) (hv : ∀ b, μ id = some (.at b) → v = .map (some b)) : Rep μ F w (.map id) v
  | nilmap : Rep μ F w .nilmap (.map none)
  | osl (id off n cap sz : Nat) (v : Value) (h1 : v.oneCell' = true) (h : μ id ≠ none) (hv : ∀ b, μ id = some (.at b) → v = .slice (some ⟨b, off, none⟩) n cap) : Rep μ F w (.osl id off n cap sz) v
  | top (v : Value) : Rep μ F w .top v

theorem Rep.sl_inv {μ : Mu} {F : Frm} {w : World} {sz : Nat} {xs : List AV} {t : Tag} {v : Value} (h : Rep μ F w (.sl sz xs t) v) :
    ∃ (A : Option Addr) (cap : Nat) (ad : Addr) (vals : Nat → Value), v = .slice A xs.length cap ∧ (∀ x, x ∈ xs → x.cells.length = sz) ∧ xs.length ≤ cap ∧ (0 < xs.length → A = some ad ∧ ad.spot = none) ∧
      (∀ (i : Nat) (x : AV) (j : Nat) (c : AV), xs[i]? = some x → x.cells[j]? = some c → (vals (i * sz + j)).oneCell' = true) ∧
      (∀ (i : Nat) (x : AV) (j : Nat) (c : AV), xs[i]? = some x → x.cells[j]? = some c → w.cell? ⟨ad.block, ad.off + (i * sz + j), none⟩ = some (vals (i * sz + j)) ∧ Free μ F ad.block (ad.off + (i * sz + j))) ∧
      (∀ (i : Nat) (x : AV) (j : Nat) (c : AV), xs[i]? = some x → x.cells[j]? = some c → Rep μ F w c (vals (i * sz + j))) ∧ TagOK μ w A xs.length cap sz t := by
  cases h with
  | sl _ _ _ A cap ad vals hsz hcap hA hone hcell hrep htag => exact ⟨A, cap, ad, vals, rfl, hsz, hcap, hA, hone, hcell, hrep, htag⟩

theorem Rep.ref_inv {μ : Mu} {F : Frm} {w : World} {cells : List AV} {v : Value} (h : Rep μ F w (.ref cells) v) :
    ∃ (b o : Nat) (vals : Nat → Value), v = .pointer (some ⟨b, o, none⟩) ∧ (∀ (j : Nat) (c : AV), cells[j]? = some c → (vals j).oneCell' = true) ∧
      (∀ (j : Nat) (c : AV), cells[j]? = some c → w.cell? ⟨b, o + j, none⟩ = some (vals j) ∧ Free μ F b (o + j)) ∧ (∀ (j : Nat) (c : AV), cells[j]? = some c → Rep μ F w c (vals j)) := by
  cases h with
  | ref _ b o vals hone hcell hrep => exact ⟨b, o, vals, rfl, hone, hcell, hrep⟩

theorem Rep.agg_inv {μ : Mu} {F : Frm} {w : World} {l : List AV} {v : Value} (h : Rep μ F w (.agg l) v) :
    ∃ c, v = .agg c ∧ c.size = l.length ∧ (∀ (i : Nat) (x : AV) (u : Value), l[i]? = some x → c[i]? = some u → Rep μ F w x u) ∧ (∀ (i : Nat) (u : Value), c[i]? = some u → u.oneCell' = true) := by
  cases h with
  | agg _ c hs h hone => exact ⟨c, rfl, hs, h, hone⟩

theorem Rep.tup_inv {μ : Mu} {F : Frm} {w : World} {l : List AV} {v : Value} (h : Rep μ F w (.tup l) v) :
    ∃ c, v = .tuple c ∧ c.size = l.length ∧ (∀ (i : Nat) (x : AV) (u : Value), l[i]? = some x → c[i]? = some u → Rep μ F w x u) := by
  cases h with
  | tup _ c hs h => exact ⟨c, rfl, hs, h⟩

theorem Rep.fn_inv {μ : Mu} {F : Frm} {w : World} {f : Fn} {l1 l2 : List AV} {v : Value} (h : Rep μ F w (.fn f l1 l2) v) :
    ∃ c1 c2, v = .func f c1 c2 ∧ c1.size = l1.length ∧ c2.size = l2.length ∧ (∀ (i : Nat) (x : AV) (u : Value), l1[i]? = some x → c1[i]? = some u → Rep μ F w x u) ∧
      (∀ (i : Nat) (x : AV) (u : Value), l2[i]? = some x → c2[i]? = some u → Rep μ F w x u) := by
  cases h with
  | fn _ _ _ c1 c2 hs1 hs2 h1 h2 => exact ⟨c1, c2, rfl, hs1, hs2, h1, h2⟩

/-- From one world to a later one: what is no object's is as it was. -/
structure Evo (w : World) (μ : Mu) (w' : World) (μ' : Mu) : Prop where
  os : w'.os = w.os
  tape : w'.tape = w.tape
  output : w'.output = w.output
  size : w.heap.size ≤ w'.heap.size
  mu : ∀ id, μ id ≠ none → μ' id = μ id ∨ μ' id = some .dead ∨ ∃ p g p' g', μ id = some (.spare p g) ∧ μ' id = some (.spare p' g') ∧ g < g'
  same : ∀ b, b < w.heap.size → (∀ o, ¬ Own μ b o) → w'.heap[b]? = w.heap[b]?
  part : ∀ b e c ty fr, b < w.heap.size → (∀ o, Own μ b o → e ≤ o) → w.heap[b]? = some (.cells c ty fr) →
    ∃ c', w'.heap[b]? = some (.cells c' ty fr) ∧ c'.size = c.size ∧ ∀ o, o < e → c'[o]? = c[o]?
  own : ∀ b o, b < w.heap.size → Own μ' b o → Own μ b o

theorem Evo.refl (w : World) (μ : Mu) : Evo w μ w μ :=
  ⟨rfl, rfl, rfl, Nat.le_refl _, fun _ _ => .inl rfl, fun _ _ _ => rfl, fun b e c ty fr _ _ h => ⟨c, h, rfl, fun _ _ => rfl⟩, fun _ _ _ h => h⟩

theorem Evo.trans {w w1 w2 : World} {μ μ1 μ2 : Mu} (h : Evo w μ w1 μ1) (k : Evo w1 μ1 w2 μ2) : Evo w μ w2 μ2 := by
  refine ⟨k.os.trans h.os, k.tape.trans h.tape, k.output.trans h.output, Nat.le_trans h.size k.size, ?_, ?_, ?_, ?_⟩
  · intro id hid
    rcases h.mu id hid with h1 | h1 | ⟨p, g, p', g', h1, h1', hg⟩
    · rcases k.mu id (by rw [h1]; exact hid) with h2 | h2 | ⟨p, g, p', g', h2, h2', hg⟩
      · exact .inl (h2.trans h1)
      · exact .inr (.inl h2)
      · exact .inr (.inr ⟨p, g, p', g', h1 ▸ h2, h2', hg⟩)
    · rcases k.mu id (by rw [h1]; simp) with h2 | h2 | ⟨p, g, p', g', h2, _⟩
      · exact .inr (.inl (h2.trans h1))
      · exact .inr (.inl h2)
      · rw [h1] at h2; cases h2
    · rcases k.mu id (by rw [h1']; simp) with h2 | h2 | ⟨q, r, q', r', h2, h2', hr⟩
      · exact .inr (.inr ⟨p, g, p', g', h1, h2.trans h1', hg⟩)
      · exact .inr (.inl h2)
      · rw [h1'] at h2
        cases h2
        exact .inr (.inr ⟨p, g, q', r', h1, h2', Nat.lt_trans hg hr⟩)
  · intro b hb hn
    rw [k.same b (Nat.lt_of_lt_of_le hb h.size) (fun o ho => hn o (h.own b o hb ho)), h.same b hb hn]
  · intro b e c ty fr hb hn hc
    obtain ⟨c1, h1, s1, e1⟩ := h.part b e c ty fr hb hn hc
    obtain ⟨c2, h2, s2, e2⟩ := k.part b e c1 ty fr (Nat.lt_of_lt_of_le hb h.size) (fun o ho => hn o (h.own b o hb ho)) h1
    exact ⟨c2, h2, s2.trans s1, fun o ho => (e2 o ho).trans (e1 o ho)⟩
  · intro b o hb ho
    exact h.own b o hb (k.own b o (Nat.lt_of_lt_of_le hb h.size) ho)

theorem cell_lt {w : World} {b o : Nat} {v : Value} (h : w.cell? ⟨b, o, none⟩ = some v) : b < w.heap.size := World.block_lt_of_cell? w ⟨b, o, none⟩ h

theorem cell_split {w : World} {b o : Nat} {v : Value} (h : w.cell? ⟨b, o, none⟩ = some v) : ∃ c ty fr, w.heap[b]? = some (.cells c ty fr) ∧ c[o]? = some v := by
  simp only [World.cell?] at h
  split at h
  · rename_i c ty fr hb
    exact ⟨c, ty, fr, hb, by simpa using h⟩
  · cases h

theorem cell_mk {w : World} {b o : Nat} {c : Array Value} {ty : TypeId} {fr : Nat × Nat} (h : w.heap[b]? = some (.cells c ty fr)) : w.cell? ⟨b, o, none⟩ = c[o]? := by
  simp [World.cell?, h]

theorem own_mono {μ : Mu} {b o o' : Nat} (h : Own μ b o) (hle : o ≤ o') : Own μ b o' := by
  obtain ⟨id, h | ⟨e, g, h, he⟩⟩ := h
  · exact ⟨id, .inl h⟩
  · exact ⟨id, .inr ⟨e, g, h, by omega⟩⟩

/-- A cell that is no object's reads as it did. -/
theorem Evo.cell {w w' : World} {μ μ' : Mu} (h : Evo w μ w' μ') {b o : Nat} {v : Value} (hc : w.cell? ⟨b, o, none⟩ = some v) (hf : ¬ Own μ b o) : w'.cell? ⟨b, o, none⟩ = some v := by
  obtain ⟨c, ty, fr, hb, hv⟩ := cell_split hc
  obtain ⟨c', h', _, e'⟩ := h.part b (o + 1) c ty fr (cell_lt hc) (fun o' ho' => by
    rcases Nat.lt_or_ge o o' with hlt | hge
    · exact hlt
    · exact absurd (own_mono ho' hge) hf) hb
  rw [cell_mk h', e' o (Nat.lt_succ_self o)]
  exact hv

theorem Evo.free {w w' : World} {μ μ' : Mu} {F : Frm} (h : Evo w μ w' μ') {b o : Nat} (hb : b < w.heap.size) (hf : Free μ F b o) : Free μ' F b o :=
  ⟨hf.1, fun ho => hf.2 (h.own b o hb ho)⟩

theorem RoomOK.evo {w w' : World} {μ μ' : Mu} (hev : Evo w μ w' μ') {A : Option Addr} {n cap sz : Nat} {p : Option (Nat × Nat)} (h : RoomOK w A n cap sz p) : RoomOK w' A n cap sz p := by
  cases p with
  | none => exact h
  | some be =>
    obtain ⟨b, e⟩ := be
    obtain ⟨hA, he, c, ty, fr, hh, hs⟩ := h
    have hlt : b < w.heap.size := (Array.getElem?_eq_some_iff.1 hh).1
    obtain ⟨c', h', s', _⟩ := hev.part b 0 c ty fr hlt (fun o' _ => Nat.zero_le _) hh
    exact ⟨hA, he, c', ty, fr, h', by rw [s']; exact hs⟩

theorem TagOK.evo {w w' : World} {μ μ' : Mu} (hev : Evo w μ w' μ') {A : Option Addr} {n cap sz : Nat} {t : Tag} (h : TagOK μ w A n cap sz t) : TagOK μ' w' A n cap sz t := by
  cases t with
  | none => trivial
  | full => exact h
  | tok id g =>
    rcases h with h1 | ⟨p, g', h1, hg, hr⟩
    · rcases hev.mu id (by rw [h1]; simp) with h | h | ⟨_, _, _, _, h, _⟩
      · exact .inl (h.trans h1)
      · exact .inl h
      · rw [h1] at h; cases h
    · rcases hev.mu id (by rw [h1]; simp) with h | h | ⟨q, r, q', r', h, h', hlt⟩
      · exact .inr ⟨p, g', h.trans h1, hg, fun e => (hr e).evo hev⟩
      · exact .inl h
      · rw [h1] at h
        cases h
        exact .inr ⟨q', r', h', by omega, fun e => by omega⟩

/-- What a value stands for lasts. -/
theorem Rep.evo {w w' : World} {μ μ' : Mu} {F : Frm} (hev : Evo w μ w' μ') {x : AV} {v : Value} (h : Rep μ F w x v) : Rep μ' F w' x v := by
  induction h with
  | int k n => exact .int k n
  | bool b => exact .bool b
  | str s => exact .str s
  | sl sz xs t A cap ad vals hsz hcap hA hone hcell hrep htag ih =>
    refine .sl sz xs t A cap ad vals hsz hcap hA hone ?_ ih (htag.evo hev)
    intro i x j c hx hc
    obtain ⟨h1, h2⟩ := hcell i x j c hx hc
    exact ⟨hev.cell h1 h2.2, hev.free (cell_lt h1) h2⟩
  | ptr id off v h1 h hv =>
    refine .ptr id off v h1 ?_ ?_
    · rcases hev.mu id h with h' | h' | ⟨_, _, _, _, _, h', _⟩ <;> rw [h'] <;> first | exact h | simp
    · intro b hb
      rcases hev.mu id h with h' | h' | ⟨_, _, _, _, _, h', _⟩ <;> rw [h'] at hb
      · exact hv b hb
      · cases hb
      · cases hb
  | ref cells b o vals hone hcell hrep ih =>
    refine .ref cells b o vals hone ?_ ih
    intro j c hc
    obtain ⟨h1, h2⟩ := hcell j c hc
    exact ⟨hev.cell h1 h2.2, hev.free (cell_lt h1) h2⟩
  | nilptr => exact .nilptr
  | nilIface => exact .nilIface
  | iface t x v h ih => exact .iface t x v ih
  | nilFunc => exact .nilFunc
  | fn f l1 l2 c1 c2 hs1 hs2 h1 h2 ih1 ih2 => exact .fn f l1 l2 c1 c2 hs1 hs2 ih1 ih2
  | agg l c hs h hone ih => exact .agg l c hs ih hone
  | tup l c hs h ih => exact .tup l c hs ih
  | map id v h1 h hv =>
    refine .map id v h1 ?_ ?_
    · rcases hev.mu id h with h' | h' | ⟨_, _, _, _, _, h', _⟩ <;> rw [h'] <;> first | exact h | simp
    · intro b hb
      rcases hev.mu id h with h' | h' | ⟨_, _, _, _, _, h', _⟩ <;> rw [h'] at hb
      · exact hv b hb
      · cases hb
      · cases hb
  | nilmap => exact .nilmap
  | osl id off n cap sz v h1 h hv =>
    refine .osl id off n cap sz v h1 ?_ ?_
    · rcases hev.mu id h with h' | h' | ⟨_, _, _, _, _, h', _⟩ <;> rw [h'] <;> first | exact h | simp
    · intro b hb
      rcases hev.mu id h with h' | h' | ⟨_, _, _, _, _, h', _⟩ <;> rw [h'] at hb
      · exact hv b hb
      · cases hb
      · cases hb
  | top v => exact .top v

/-- Abstract objects. -/
inductive AObj where
  | cells (l : List AV)
  | spare (g : Nat)

/-- The objects of a call, by number. -/
structure Mem where
  next : Nat
  objs : List (Nat × AObj)

def lookup {α : Type} : List (Nat × α) → Nat → Option α
  | [], _ => none
  | (k, v) :: r, i => if i = k then some v else lookup r i

def Mem.get (M : Mem) (id : Nat) : Option AObj := lookup M.objs id

/-- Objects and the frame's places lie in the heap. -/
structure Fit (μ : Mu) (F : Frm) (w : World) : Prop where
  own : ∀ b o, Own μ b o → b < w.heap.size
  frm : ∀ b o, F b o → b < w.heap.size

theorem Fit.new {μ : Mu} {F : Frm} {w : World} (h : Fit μ F w) {b o : Nat} (hb : w.heap.size ≤ b) : Free μ F b o :=
  ⟨fun hf => by have := h.frm b o hf; omega, fun ho => by have := h.own b o ho; omega⟩

theorem Evo.of_below {w w' : World} (μ : Mu) (h : Below w.heap.size w w') : Evo w μ w' μ :=
  ⟨h.os, h.tape, h.output, h.size, fun _ _ => .inl rfl, fun b hb _ => h.block b hb, fun b e c ty fr hb _ hc => ⟨c, (h.block b hb).trans hc, rfl, fun _ _ => rfl⟩, fun _ _ _ h => h⟩

theorem Rep.later {w w' : World} {μ : Mu} {F : Frm} (hb : Below w.heap.size w w') {x : AV} {v : Value} (h : Rep μ F w x v) : Rep μ F w' x v := h.evo (Evo.of_below μ hb)

theorem Fit.below {w w' : World} {μ : Mu} {F : Frm} (hb : Below w.heap.size w w') (h : Fit μ F w) : Fit μ F w' :=
  ⟨fun b o ho => Nat.lt_of_lt_of_le (h.own b o ho) hb.size, fun b o ho => Nat.lt_of_lt_of_le (h.frm b o ho) hb.size⟩

def Lies (μ : Mu) (i b : Nat) : Prop := μ i = some (.at b) ∨ ∃ e g, μ i = some (.spare (some (b, e)) g)

def Soft (fr : Nat × Nat) (n : Nat) : Prop := ∀ o, o < n → ¬ (fr.1 ≤ o ∧ o < fr.2)

/-- The memory lies in the world. -/
structure Gam (μ : Mu) (F : Frm) (M : Mem) (w : World) : Prop where
  dom : ∀ id, μ id ≠ none ↔ id < M.next
  obj : ∀ id l, M.get id = some (.cells l) → ∃ b c ty, μ id = some (.at b) ∧ w.heap[b]? = some (.cells c ty (0, 0)) ∧ c.size = l.length ∧
    (∀ (i : Nat) (v : Value), c[i]? = some v → v.oneCell' = true) ∧ ∀ (i : Nat) (x : AV) (v : Value), l[i]? = some x → c[i]? = some v → Rep μ F w x v
  spare : ∀ id g, M.get id = some (.spare g) → ∃ p, μ id = some (.spare p g) ∧ ∀ b e, p = some (b, e) → ∃ c ty fr, w.heap[b]? = some (.cells c ty fr) ∧ e ≤ c.size ∧ Soft fr c.size
  inj : ∀ i j b, Lies μ i b → Lies μ j b → i = j
  frm : ∀ b o, Own μ b o → ¬ F b o
  fit : Fit μ F w

theorem Gam.below {w w' : World} {μ : Mu} {F : Frm} {M : Mem} (hb : Below w.heap.size w w') (h : Gam μ F M w) : Gam μ F M w' := by
  refine ⟨h.dom, ?_, ?_, h.inj, h.frm, h.fit.below hb⟩
  · intro id l hl
    obtain ⟨b, c, ty, h1, h2, h3, h4, h5⟩ := h.obj id l hl
    have hlt : b < w.heap.size := (Array.getElem?_eq_some_iff.1 h2).1
    exact ⟨b, c, ty, h1, (hb.block b hlt).trans h2, h3, h4, fun i x v hx hv => (h5 i x v hx hv).later hb⟩
  · intro id g hl
    obtain ⟨p, h1, h2⟩ := h.spare id g hl
    refine ⟨p, h1, fun b e hp => ?_⟩
    obtain ⟨c, ty, fr, h3, h4, h5⟩ := h2 b e hp
    have hlt : b < w.heap.size := (Array.getElem?_eq_some_iff.1 h3).1
    exact ⟨c, ty, fr, (hb.block b hlt).trans h3, h4, h5⟩

end Go.Ab
