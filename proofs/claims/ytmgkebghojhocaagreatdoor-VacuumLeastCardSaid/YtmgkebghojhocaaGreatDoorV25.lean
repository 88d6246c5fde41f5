/- Parts of the proof, one behind the other: VacA, VacB, VacC, VacP, VacD, VLawA, VLawB. No further condition. -/
import Derived.Test.YtmgkebghojhocaaGreatDoorV23
import Derived.Test.YtmgkebghojhocaaGreatDoorV24
import Derived.Test.YtmgkebghojhocaaGreatDoorV11
import Derived.Test.YtmgkebghojhocaaGreatDoorV19
set_option linter.unusedVariables false
set_option linter.unusedSimpArgs false
/- Versions that are dead: the iterator's parts. No further condition. -/
set_option linter.unusedVariables false
set_option linter.unusedSimpArgs false
namespace Go.Proofs.YtmgkebghojhocaaGreatDoor
open Go.Ab

theorem ACalls.frame2 {g : FuncId} {args args1 c1 c2 d1 d2 : List AV} {r : AV} {M : Mem} (i j : Nat) (hne : i ≠ j) (hM1 : M.get i = some (.cells c1)) (hM2 : M.get j = some (.cells c2)) (h1 : i < M.next) (h2 : j < M.next) (k1 : ∀ x, x ∈ c1 → Closed x) (k2 : ∀ x, x ∈ c2 → Closed x)
  (h : ACalls Tryz.prog g args1 ⟨2, [(0, .cells c1), (1, .cells c2)]⟩ fun e N => e = .ret r ∧ N = ⟨2, [(0, .cells d1), (1, .cells d2)]⟩) (hargs : InL [i, j] args args1) (hr : Closed r) (q1 : ∀ x, x ∈ d1 → Closed x) (q2 : ∀ x, x ∈ d2 → Closed x) :
  ACalls Tryz.prog g args M fun e N => e = .ret r ∧ N = (M.set i (.cells d1)).set j (.cells d2) := by
 refine ACalls.frame [i, j] (by simp [hne]) (by intro k hk; simp at hk; rcases hk with rfl | rfl <;> assumption) (N0 := ⟨2, [(0, .cells c1), (1, .cells c2)]⟩) rfl ?_ h hargs ?_
 ·intro k o1 hk
  have hk' : (if k = 0 then some (AObj.cells c1) else if k = 1 then some (.cells c2) else none) = some o1 := hk
  split at hk'
  ·rename_i h0
   subst h0
   cases hk'
   exact ⟨i, _, rfl, hM1, InL.closed k1⟩
  ·split at hk'
   ·rename_i h0
    subst h0
    cases hk'
    exact ⟨j, _, rfl, hM2, InL.closed k2⟩
   ·cases hk'
 ·rintro e M1 ⟨rfl, rfl⟩
  refine ⟨.ret r, (M.set i (.cells d1)).set j (.cells d2), OutV.closed hr, ⟨by show M.next = M.next + (2 - 2); omega, ?_⟩, rfl, rfl⟩
  intro k o hk
  rw [Mem.get_set] at hk
  split at hk
  ·rename_i h0
   cases hk
   exact .inl ⟨1, _, .inl (by rw [h0]; rfl), rfl, OutL.closed q2⟩
  ·rename_i h0
   rw [Mem.get_set] at hk
   split at hk
   ·rename_i h3
    cases hk
    exact .inl ⟨0, _, .inl (by rw [h3]; rfl), rfl, OutL.closed q1⟩
   ·rename_i h3
    exact .inr ⟨by simp; exact ⟨h3, h0⟩, hk⟩

def keptS (s : Option Bytes) (p : Pr) (w : Int) : Bool × Option Bytes := if w < p.key.time then (true, s) else (!decide (s = some p.key.path) && !(readM p.val).2.1, some p.key.path)
def kC (s : Option Bytes) : List AV := [.str (s.getD [])]
def kA (s : Option Bytes) : List AV := [.bool s.isSome]
set_option maxRecDepth 100000 in
set_option maxHeartbeats 8000000 in
theorem kept0_ok (p : Pr) (s : Option Bytes) (w : Int) (hv : p.val.length < 1000000) : ACalls Tryz.prog 159 [p.av, .ref [.int .i64 w], .ptr 1 0, .ptr 0 0] ⟨2, [(0, .cells (kC s)), (1, .cells (kA s))]⟩ (fun e N => ∃ x, e = .ret x ∧ SubC 2 x (.bool (keptS s p w).1) ∧ 2 ≤ N.next ∧ ObjsC 2 N [(0, .cells (kC (keptS s p w).2)), (1, .cells (kA (keptS s p w).2))]) := by
 refine acalls_of tabOK Tryz.func159 rfl (by decide) (by simp [Tryz.f159]) ?_
 have kr := read_ok p.val hv
 have fin : ∀ (N : Mem) (s : Option Bytes), N.get 0 = some (.cells (kC s)) → N.get 1 = some (.cells (kA s)) → ObjsC 2 N [(0, .cells (kC s)), (1, .cells (kA s))] := fun N s h0 h1 => objsC_closed (by decide) h0 (closed1 closed_str) (objsC_closed (by decide) h1 (closed1 closed_bool) trivial)
 unfold keptS
 by_cases h : w < p.key.time
 ·have d1 : decide (w < p.key.time) = true := by simp [h]
  rw [if_pos h]
  unfold kC kA
  repeat' (first | refine DW_VB tabs rfl d1 ?_ | refine DW_A tabs rfl ?_ | refine DW_nil ?_ | refine W_A rfl ?_)
  exact ⟨rfl, _, rfl, _, rfl, SubC.of_closed closed_bool, Nat.le_refl 2, fin _ s rfl rfl⟩
 ·have d1 : decide (w < p.key.time) = false := by simp [h]
  rw [if_neg h]
  generalize readM p.val = x at *
  obtain ⟨m, g, e⟩ := x
  unfold rmA at kr
  cases s with
  | none =>
   unfold kC kA
   cases g
   ·repeat' (first | refine DW_VB tabs rfl d1 ?_ | refine DW_A tabs rfl ?_ | refine DW_nil ?_ | refine W_A rfl ?_ | refine DW_C rfl kr ?_)
    exact ⟨rfl, _, rfl, _, rfl, SubC.of_closed closed_bool, (by show 2 ≤ 3; omega), fin _ (some p.key.path) rfl rfl⟩
   ·repeat' (first | refine DW_VB tabs rfl d1 ?_ | refine DW_A tabs rfl ?_ | refine DW_nil ?_ | refine W_A rfl ?_ | refine DW_C rfl kr ?_)
    exact ⟨rfl, _, rfl, _, rfl, SubC.of_closed closed_bool, (by show 2 ≤ 3; omega), fin _ (some p.key.path) rfl rfl⟩
  | some q =>
   have e1 : decide (some q = some p.key.path) = (p.key.path == q) := by
    rw [Bool.eq_iff_iff]
    simp
    exact ⟨fun h => h.symm, fun h => h.symm⟩
   rw [e1]
   unfold kC kA
   cases hq : p.key.path == q
   ·have d2 : (!(p.key.path == q)) = true := by rw [hq]; rfl
    cases g
    ·repeat' (first | refine DW_VB tabs rfl (by first | exact d1 | exact d2) ?_ | refine DW_A tabs rfl ?_ | refine DW_nil ?_ | refine W_A rfl ?_ | refine DW_C rfl kr ?_)
     exact ⟨rfl, _, rfl, _, rfl, SubC.of_closed closed_bool, (by show 2 ≤ 3; omega), fin _ (some p.key.path) rfl rfl⟩
    ·repeat' (first | refine DW_VB tabs rfl (by first | exact d1 | exact d2) ?_ | refine DW_A tabs rfl ?_ | refine DW_nil ?_ | refine W_A rfl ?_ | refine DW_C rfl kr ?_)
     exact ⟨rfl, _, rfl, _, rfl, SubC.of_closed closed_bool, (by show 2 ≤ 3; omega), fin _ (some p.key.path) rfl rfl⟩
   ·have d2 : (!(p.key.path == q)) = false := by rw [hq]; rfl
    cases g
    ·repeat' (first | refine DW_VB tabs rfl (by first | exact d1 | exact d2) ?_ | refine DW_A tabs rfl ?_ | refine DW_nil ?_ | refine W_A rfl ?_ | refine DW_C rfl kr ?_)
     exact ⟨rfl, _, rfl, _, rfl, SubC.of_closed closed_bool, (by show 2 ≤ 3; omega), fin _ (some p.key.path) rfl rfl⟩
    ·repeat' (first | refine DW_VB tabs rfl (by first | exact d1 | exact d2) ?_ | refine DW_A tabs rfl ?_ | refine DW_nil ?_ | refine W_A rfl ?_ | refine DW_C rfl kr ?_)
     exact ⟨rfl, _, rfl, _, rfl, SubC.of_closed closed_bool, (by show 2 ≤ 3; omega), fin _ (some p.key.path) rfl rfl⟩
theorem kept1_ok (p : Pr) (s : Option Bytes) (w : Int) (hv : p.val.length < 1000000) : ACalls Tryz.prog 159 [p.av, .ref [.int .i64 w], .ptr 1 0, .ptr 0 0] ⟨2, [(0, .cells (kC s)), (1, .cells (kA s))]⟩ fun e N => e = .ret (.bool (keptS s p w).1) ∧ N = ⟨2, [(0, .cells (kC (keptS s p w).2)), (1, .cells (kA (keptS s p w).2))]⟩ :=
 ACalls.cutL (kept0_ok p s w hv)
theorem kept_ok (p : Pr) (s : Option Bytes) (w : Int) (hv : p.val.length < 1000000) {M : Mem} (h2 : M.get 1 = some (.cells (kC s))) (h3 : M.get 2 = some (.cells (kA s))) (hn : 3 ≤ M.next) : ACalls Tryz.prog 159 [p.av, .ref [.int .i64 w], .ptr 2 0, .ptr 1 0] M fun e N => e = .ret (.bool (keptS s p w).1) ∧ N = (M.set 1 (.cells (kC (keptS s p w).2))).set 2 (.cells (kA (keptS s p w).2)) :=
 ACalls.frame2 1 2 (by decide) h2 h3 (by omega) (by omega) (closed1 closed_str) (closed1 closed_bool) (kept1_ok p s w hv) ⟨InV.closed (closed_pr p), InV.closed (closed_ref (closed1 closed_int)), InV.ptr rfl, InV.ptr rfl, trivial⟩ closed_bool (closed1 closed_str) (closed1 closed_bool)
end Go.Proofs.YtmgkebghojhocaaGreatDoor

/- Versions that are dead: the iterator. No further condition. -/
set_option linter.unusedVariables false
set_option linter.unusedSimpArgs false
namespace Go.Proofs.YtmgkebghojhocaaGreatDoor
open Go.Ab

def keptF (w : Int) : AV := .fn (.func 159) [] [.ref [.int .i64 w], .ptr 2 0, .ptr 1 0]
def deadF (t : Tr) : AV := .fn (.func 160) [] [.ref [t.av], .ptr 3 0]
set_option maxRecDepth 100000 in
set_option maxHeartbeats 8000000 in
theorem dead1_ok (o : AObj) (w : Int) : ACalls Tryz.prog 158 [.ref [.int .i64 w]] ⟨1, [(0, o)]⟩ (fun e N => e = .ret (keptF w) ∧ N = ⟨3, [(2, .cells (kA none)), (1, .cells (kC none)), (2, .cells (kA none)), (1, .cells (kC none)), (0, o)]⟩) := by
 refine acalls_of tabOK Tryz.func158 rfl (by decide) (by simp [Tryz.f158]) ?_
 repeat' (first | refine DW_A tabs rfl ?_ | refine DW_nil ?_ | refine W_A rfl ?_)
 exact ⟨rfl, _, rfl, rfl, rfl⟩
set_option maxRecDepth 100000 in
set_option maxHeartbeats 8000000 in
theorem dead_ok (t : Tr) (o : AObj) (w : Int) : ACalls Tryz.prog 128 [t.av, .int .i64 w] ⟨1, [(0, o)]⟩ (fun e N => e = .ret (deadF t) ∧ Mem.le ⟨4, [(0, o), (1, .cells (kC none)), (2, .cells (kA none)), (3, .cells [keptF w])]⟩ N) := by
 refine acalls_of tabOK Tryz.func128 rfl (by decide) (by simp [Tryz.f128]) ?_
 have k1 := dead1_ok o w
 unfold deadF Tr.av
 repeat' (first | refine DW_A tabs rfl ?_ | refine DW_nil ?_ | refine W_A rfl ?_ | refine DW_CM rfl rfl (k1) ?_ ?_)
 rotate_left
 ·intro u N h
  cases h.1
 rintro u N ⟨e, rfl⟩
 cases e
 repeat' (first | refine DW_A tabs rfl ?_ | refine DW_nil ?_ | refine W_A rfl ?_)
 exact ⟨rfl, _, rfl, rfl, Mem.le_cons rfl (Mem.le_cons rfl (Mem.le_cons rfl (Mem.le_cons rfl (Mem.le_nil rfl))))⟩

def stepD (w : Int) (st : Option Bytes × List Ky) (p : Pr) : Option Bytes × List Ky := ((keptS st.1 p w).2, if (keptS st.1 p w).1 = true then st.2 else st.2 ++ [p.key])
def scanD (w : Int) (l : List Pr) : Option Bytes × List Ky := l.foldl (stepD w) (none, [])
theorem scanD_step {w : Int} {l : List Pr} {i : Nat} {x : Pr} (h : l.take (i + 1) = l.take i ++ [x]) : scanD w (l.take (i + 1)) = stepD w (scanD w (l.take i)) x := by
 unfold scanD
 rw [h, List.foldl_append]
 rfl
def vM (w : Int) (s : Option Bytes) (L : List Ky) (g : Nat) (O : AObj) : Mem := ⟨7, [(0, .cells [.sl 2 (L.map Ky.av) (.tok 4 g)]), (1, .cells (kC s)), (2, .cells (kA s)), (3, .cells [keptF w]), (4, .spare g), (5, deferO), (6, O)]⟩
theorem ky_cells (l : List Ky) : ∀ x, x ∈ l.map Ky.av → ∀ c, c ∈ x.cells → Closed c := by
 intro x hx c hc
 obtain ⟨k, _, rfl⟩ := List.mem_map.1 hx
 have : c ∈ [AV.str k.path, .int .i64 k.time] := hc
 exact closed2 closed_str closed_int c this
def rawOK (O : AObj) : Prop := ∃ o vs t, O = .raw none o vs t ∧ ∀ i, SubC 7 ((lookup t i).getD .top) ((lookup t i).getD .top)
theorem vM_objs {w : Int} {s : Option Bytes} {L : List Ky} {g : Nat} {O : AObj} {N : Mem} (hO : rawOK O) (h : ∀ i o, (vM w s L g O).get i = some o → N.get i = some o) : ObjsC 7 N (vM w s L g O).objs := by
 obtain ⟨o, vs, t, rfl, ht⟩ := hO
 refine ⟨by decide, ?_, ?_⟩
 ·rw [h 0 _ rfl]
  refine ⟨rfl, fun i x y hx hy => ?_⟩
  rw [hx] at hy
  cases hy
  have : x ∈ [AV.sl 2 (L.map Ky.av) (.tok 4 g)] := List.mem_of_getElem? hx
  simp at this
  subst this
  exact SubC.tok rfl (ky_cells L)
 refine objsC_closed (by decide) (h 1 _ rfl) (closed1 closed_str) (objsC_closed (by decide) (h 2 _ rfl) (closed1 closed_bool) ⟨by decide, ?_, by decide, ?_, by decide, ?_, by decide, ?_, trivial⟩)
 ·rw [h 3 _ rfl]
  refine ⟨rfl, fun i x y hx hy => ?_⟩
  rw [hx] at hy
  cases hy
  have : x ∈ [keptF w] := List.mem_of_getElem? hx
  simp at this
  subst this
  refine SubC.fn (by simp) ?_
  intro x hx
  simp at hx
  rcases hx with rfl | rfl | rfl
  ·exact SubC.of_closed (closed_ref (closed1 closed_int))
  ·exact SubC.ptr rfl
  ·exact SubC.ptr rfl
 ·rw [h 4 _ rfl]
  rfl
 ·rw [h 5 _ rfl]
  exact ⟨rfl, rfl, rfl, fun i => SubC.top⟩
 ·rw [h 6 _ rfl]
  exact ⟨rfl, rfl, rfl, ht⟩
def vM8 (w : Int) (s : Option Bytes) (L : List Ky) (g : Nat) (O : AObj) (c : List AV) : Mem := ⟨8, (7, .cells c) :: (vM w s L g O).objs⟩
theorem vM8_get {w : Int} {s : Option Bytes} {L : List Ky} {g : Nat} {O : AObj} {c : List AV} {j : Nat} {o : AObj} (h : (vM w s L g O).get j = some o) : (vM8 w s L g O c).get j = some o := by
 show (if j = 7 then some (AObj.cells c) else (vM w s L g O).get j) = some o
 by_cases e : j = 7
 ·subst e
  cases h
 ·rw [if_neg e]
  exact h
theorem SubC.yld {k id : Nat} (h : decide (id < k) = true) : SubC k (.yld id) (.yld id) := by
 have h' := of_decide_eq_true h
 intro μ F w v hr
 cases hr with
 | yld _ _ h1 h2 h3 => exact .yld id v h1 (by simp [cut, h']; exact h2) (fun b hb => h3 b (by simpa [cut, h'] using hb))
def d2F (A : List Pr) (i : Nat) : AF := ⟨[(0, .yld 6), (2, .ptr 3 0), (7, .sl 3 (A.map Pr.av) .none), (8, .int .i64 (A.length : Int)), (9, .int .i64 (i : Int))], []⟩
set_option maxRecDepth 100000 in
set_option maxHeartbeats 8000000 in
theorem dead2_ok (t : Tr) (hs : t.all.length < 10000000) (hv : ∀ p, p ∈ t.all → p.val.length < 1000000) (w : Int) (O : AObj) (hO : rawOK O) (hY : ∀ (s : Option Bytes) (L : List Ky) (g : Nat) (k : Ky) (c : List AV), L.length < 10000000 → AYields Tryz.prog 6 [k.av] (vM8 w s L g O c) fun e N' => e = .ret (.bool true) ∧ 8 ≤ N'.next ∧ ∀ i o, (vM w s (L ++ [k]) (g + 1) O).get i = some o → N'.get i = some o) : ACalls Tryz.prog 160 [.yld 6, .ref [t.av], .ptr 3 0] (vM w none [] 0 O) (fun e N => e = .ret (.tup []) ∧ ∃ g, (vM w (scanD w t.all).1 (scanD w t.all).2 g O).le N) := by
 refine acalls_of tabOK Tryz.func160 rfl (by decide) (by simp [Tryz.f160]) ?_
 have ka := tAll_ok t hs
 have lA := len_map Pr.av t.all
 unfold Tr.av at ka ⊢
 repeat' (first | refine DW_VI tabs rfl lA ?_ | refine DW_A tabs rfl ?_ | refine DW_nil ?_ | refine W_A rfl ?_ | refine DW_C rfl ka ?_)
 generalize t.all = A at *
 refine W_count A.length (fun i f N => (∃ g, (scanD w (A.take i)).2.length ≤ i ∧ N = vM w (scanD w (A.take i)).1 (scanD w (A.take i)).2 g O) ∧ f = d2F A i) (Nat.zero_le _) ⟨⟨0, Nat.zero_le _, rfl⟩, rfl⟩ (Joint.le ?_ (Mem.le_refl _)) ?_
 ·unfold d2F
  repeat (refine AF.le_cons rfl ?_)
  exact AF.le_nil rfl
 rintro i f N hi ⟨⟨g, hLi, rfl⟩, rfl⟩
 by_cases h1 : i < A.length
 ·have d1 : decide ((i : Int) < (A.length : Int)) = true := by simp; omega
  have hx : A[i]? = some A[i] := List.getElem?_eq_getElem h1
  have fi := wrap_succ (i := i) (by omega)
  have hb := hv _ (List.getElem_mem h1)
  have hst := scanD_step (w := w) (take_succ hx)
  generalize A[i] = x at hx hb hst
  generalize scanD w (A.take i) = st at *
  generalize scanD w (A.take (i + 1)) = st2 at *
  obtain ⟨s, L⟩ := st
  unfold d2F vM
  repeat' (first | refine DW_VB tabs rfl d1 ?_ | refine DW_VI tabs rfl fi ?_ | refine DW_A tabs rfl ?_ | refine DW_nil ?_ | refine W_A rfl ?_ | refine DW_ix tabOK rfl (ixN hx) ?_)
  have hk : ∀ (e : AEnd) (N : Mem), True := fun _ _ => trivial
  refine DW_CM rfl rfl (kept_ok x s w hb rfl rfl (by show 3 ≤ 8; decide)) ?_ (fun u M' h => by cases h.1)
  rintro u N ⟨e, rfl⟩
  cases e
  have fin : ∀ (g2 : Nat) (f2 : AF) (M2 : Mem), st2.2.length ≤ i + 1 → f2.d = [] → SubsC 7 f2 (d2F A (i + 1)).t → 7 ≤ M2.next → (∀ j o, (vM w st2.1 st2.2 g2 O).get j = some o → M2.get j = some o) →
    i < A.length ∧ ∃ f'' M'', ((∃ g, st2.2.length ≤ i + 1 ∧ M'' = vM w st2.1 st2.2 g O) ∧ f'' = d2F A (i + 1)) ∧ Joint 7 f2 M2 f'' M'' := by
   intro g2 f2 M2 q1 q2 q3 q4 q5
   exact ⟨h1, d2F A (i + 1), vM w st2.1 st2.2 g2 O, ⟨⟨g2, q1, rfl⟩, rfl⟩, Joint.cut (n0 := 7) (k := 7) (t := (d2F A (i + 1)).t) (l := (vM w st2.1 st2.2 g2 O).objs) (Nat.le_refl _) q4 q2 q3 (vM_objs hO q5)⟩
  have hLi : L.length ≤ i := hLi
  cases hkp : (keptS s x w).1
  ·have e2 : st2 = ((keptS s x w).2, L ++ [x.key]) := by rw [hst]; unfold stepD; rw [hkp]; rfl
   obtain ⟨o, vs, t0, rfl, _⟩ := hO
   repeat' (first | refine DW_A tabs rfl ?_ | refine DW_nil ?_ | refine W_A rfl ?_)
   refine DW_Y rfl (ob := o) (vs := vs) (t0 := t0) rfl (AYields.le (N := vM8 w (keptS s x w).2 L g (.raw none o vs t0) x.av.cells) ?_ (hY (keptS s x w).2 L g x.key x.av.cells (by omega))) ?_ (by rintro u M' ⟨h, _⟩; cases h)
   ·exact Mem.le_cons rfl (Mem.le_cons rfl (Mem.le_cons rfl (Mem.le_cons rfl (Mem.le_cons rfl (Mem.le_cons rfl (Mem.le_cons rfl (Mem.le_cons rfl (Mem.le_nil rfl))))))))
   rintro u M' ⟨h, hn, hget⟩
   cases h
   repeat' (first | refine DW_VI tabs rfl fi ?_ | refine DW_A tabs rfl ?_ | refine DW_nil ?_ | refine W_A rfl ?_)
   refine fin (g + 1) _ _ (by rw [e2]; simp; omega) rfl ⟨?_, ?_, ?_, ?_, ?_, trivial⟩ (by omega) (by rw [e2]; exact hget)
   ·exact SubC.yld rfl
   ·exact SubC.ptr rfl
   ·exact SubC.of_closed (closed_prs A)
   ·exact SubC.of_closed closed_int
   ·exact SubC.of_closed closed_int
  ·have e2 : st2 = ((keptS s x w).2, L) := by rw [hst]; unfold stepD; rw [hkp]; rfl
   repeat' (first | refine DW_VI tabs rfl fi ?_ | refine DW_A tabs rfl ?_ | refine DW_nil ?_ | refine W_A rfl ?_)
   refine fin g _ _ (by rw [e2]; show L.length ≤ _; omega) rfl ⟨?_, ?_, ?_, ?_, ?_, trivial⟩ (by show 7 ≤ 8; decide) ?_
   ·exact SubC.yld rfl
   ·exact SubC.ptr rfl
   ·exact SubC.of_closed (closed_prs A)
   ·exact SubC.of_closed closed_int
   ·exact SubC.of_closed closed_int
   ·rw [e2]
    have key : ∀ M2 : Mem, (vM8 w (keptS s x w).2 L g O x.av.cells).le M2 → (∀ j o, (vM w (keptS s x w).2 L g O).get j = some o → M2.get j = some o) := fun M2 h j o hj => h.2 j o (vM8_get hj)
    refine key _ ?_
    exact Mem.le_cons rfl (Mem.le_cons rfl (Mem.le_cons rfl (Mem.le_cons rfl (Mem.le_cons rfl (Mem.le_cons rfl (Mem.le_cons rfl (Mem.le_cons rfl (Mem.le_nil rfl))))))))
 ·have d1 : decide ((i : Int) < (A.length : Int)) = false := by simp; omega
  obtain rfl : i = A.length := by omega
  rw [List.take_length]
  unfold d2F vM
  repeat' (first | refine DW_VB tabs rfl d1 ?_ | refine DW_A tabs rfl ?_ | refine DW_nil ?_ | refine W_A rfl ?_)
  exact ⟨rfl, _, rfl, rfl, g, Mem.le_refl _⟩
end Go.Proofs.YtmgkebghojhocaaGreatDoor

/- Versions that are dead: Of. No further condition. -/
set_option linter.unusedVariables false
set_option linter.unusedSimpArgs false
namespace Go.Proofs.YtmgkebghojhocaaGreatDoor
open Go.Ab

def ofO (l : List Pr) (w : Int) : List Ky × Int := if isSt l = true ∧ ¬ w < 0 then ((scanD w l).2, 0) else ([], 1)
def ofA (x : List Ky × Int) : AV := .tup [.sl 2 (x.1.map Ky.av) .none, .int .i64 x.2]
theorem closed_kys (l : List Ky) : Closed (.sl 2 (l.map Ky.av) .none) := closed_slmap (fun k => closed_ky k) (fun k c hc => by
 have : c ∈ [AV.str k.path, .int .i64 k.time] := hc
 exact closed2 closed_str closed_int c this)
theorem closed_ofA (x : List Ky × Int) : Closed (ofA x) := closed_tup (closed2 (closed_kys _) closed_int)
def ofT (t : Tr) : List (Nat × AV) := [(6, .ptr 0 0), (17, deadF t)]
theorem ofT_ok (t : Tr) (o : Obj) (vs : Array Value) : rawOK (.raw none o vs (ofT t)) := by
 refine ⟨o, vs, _, rfl, fun i => ?_⟩
 unfold ofT
 simp only [lookup]
 split
 ·exact SubC.ptr rfl
 ·split
  ·refine SubC.fn (by simp) ?_
   intro x hx
   simp at hx
   rcases hx with rfl | rfl
   ·exact SubC.of_closed (closed_ref (closed1 (closed_tr t)))
   ·exact SubC.ptr rfl
  ·exact SubC.top
def vM5 (w : Int) : Mem := ⟨5, [(0, .cells [.sl 2 [] (.tok 4 0)]), (1, .cells (kC none)), (2, .cells (kA none)), (3, .cells [keptF w]), (4, .spare 0)]⟩
theorem range_vac {n : Nat} {ps : Array Tmp} {assign body : Code} {Q : AX → AF → Mem → Prop} (t : Tr) (hs : t.all.length < 10000000) (hv : ∀ p, p ∈ t.all → p.val.length < 1000000) (w : Int) (hps : ps.toList.length = 1) (hpn : (ps.toList.all fun p => decide (p < n)) = true)
  (hround : ∀ (O O1 : AObj) (s : Option Bytes) (L : List Ky) (g : Nat) (k : Ky) (c : List AV) (l : Nat), L.length < 10000000 →
   W (some l) Tryz.prog n assign (thenX (fun f1 M1 => M1.get 6 = some O ∧ W (some l) Tryz.prog n body (fun e _ N' => e = .normal ∧ N'.get 6 = some O1 ∧ 8 ≤ (N'.set 6 O).next ∧ ∀ i o, (vM w s (L ++ [k]) (g + 1) O).get i = some o → (N'.set 6 O).get i = some o) f1 (M1.set 6 O1)) (fun _ _ _ => False)) ⟨parT ps.toList [k.av] (ofT t), []⟩ (vM8 w s L g O c))
  (hdone : ∀ g N O, (vM w (scanD w t.all).1 (scanD w t.all).2 g O).le N → ∃ N', N'.le N ∧ N'.get 6 = none ∧ Q .normal ⟨ofT t, [markD 5]⟩ N') :
  W none Tryz.prog n (.rangeFunc (.tmp 17) ps assign body) Q ⟨ofT t, []⟩ (vM5 w) := by
 refine W_range (gf := 160) (lb := [.ref [t.av], .ptr 3 0]) rfl fun fn tmps D hn => ?_
 refine (ACalls.le (N := vM w none [] 0 (.raw none (.loop (loopR fn tmps ps assign body D .ready none)) tmps (ofT t))) ?_ (dead2_ok t hs hv w _ (ofT_ok t _ _) ?_)).mono ?_
 ·exact Mem.le_cons rfl (Mem.le_cons rfl (Mem.le_cons rfl (Mem.le_cons rfl (Mem.le_cons rfl (Mem.le_cons rfl (Mem.le_cons rfl (Mem.le_nil rfl)))))))
 ·intro s L g k c hL
  refine ayields_of rfl hn hps hpn fun l => ?_
  refine (hround _ (.raw none (.loop (loopR fn tmps ps assign body D .busy none)) tmps (ofT t)) s L g k c l hL).mono ?_
  rintro x1 f1 M1 h1
  cases x1 with
  | normal =>
   refine ⟨h1.1, h1.2.mono ?_⟩
   rintro x2 f2 M2 ⟨rfl, h3, h4⟩
   exact ⟨h3, rfl, h4⟩
  | exit id => exact h1.elim
  | ret => exact h1.elim
  | panic v => exact h1.elim
 ·rintro e N ⟨rfl, g, hle⟩
  obtain ⟨N', h1, h2, h3⟩ := hdone _ N _ hle
  exact ⟨.ready, none, N', by simp, hle.2 6 _ rfl, h1, h2, h3⟩
set_option maxRecDepth 100000 in
set_option maxHeartbeats 8000000 in
theorem of_ok (t : Tr) (hs : t.all.length < 10000000) (hv : valsB t.all) (w : Int) : APure Tryz.prog 81 [t.av, .int .i64 w] (ofA (ofO t.all w)) := by
 refine pure_sub (closed2 (closed_tr t) closed_int) (closed_ofA _) ?_
 refine acalls_of_m tabOK Tryz.func81 rfl (by decide) (by simp [Tryz.f81]) ?_
 have kis := isStore_ok t hs hv
 have kd := dead_ok t (.cells [.sl 0 [] .full]) w
 unfold ofO
 cases h : isSt t.all
 ·rw [h] at kis
  rw [if_neg (by simp)]
  unfold Tr.av at kis ⊢
  repeat' (first | refine DW_A tabs rfl ?_ | refine DW_nil ?_ | refine W_A rfl ?_ | refine DW_C rfl kis ?_ | refine DW_row tabOK rfl ?_ | refine DW_app tabOK rfl rfl (by simp; omega) (by simp; omega) ?_ | refine DW_app0 tabOK rfl (by simp; omega) (by simp; omega) ?_)
  exact ⟨_, rfl, _, rfl, SubC.tup2 SubC.nil (SubC.of_closed closed_int)⟩
 ·rw [h] at kis
  by_cases hw : w < 0
  ·have d1 : decide (w < 0) = true := by simp [hw]
   rw [if_neg (by simp [hw])]
   unfold Tr.av at kis ⊢
   repeat' (first | refine DW_VB tabs rfl d1 ?_ | refine DW_A tabs rfl ?_ | refine DW_nil ?_ | refine W_A rfl ?_ | refine DW_C rfl kis ?_ | refine DW_row tabOK rfl ?_ | refine DW_app tabOK rfl rfl (by simp; omega) (by simp; omega) ?_ | refine DW_app0 tabOK rfl (by simp; omega) (by simp; omega) ?_)
   exact ⟨_, rfl, _, rfl, SubC.tup2 SubC.nil (SubC.of_closed closed_int)⟩
  ·have d1 : decide (w < 0) = false := by simp [hw]
   rw [if_pos ⟨rfl, hw⟩]
   unfold Tr.av at kis kd ⊢
   repeat' (first | refine DW_VB tabs rfl d1 ?_ | refine DW_A tabs rfl ?_ | refine DW_nil ?_ | refine W_A rfl ?_ | refine DW_C rfl kis ?_ | refine DW_CM rfl rfl (kd) ?_ ?_ | refine DW_row tabOK rfl ?_ | refine DW_app tabOK rfl rfl (by simp; omega) (by simp; omega) ?_ | refine DW_app0 tabOK rfl (by simp; omega) (by simp; omega) ?_)
   rotate_left
   ·intro u N h
    cases h.1
   rintro u N ⟨e, hle⟩
   cases e
   repeat' (first | refine DW_A tabs rfl ?_ | refine DW_nil ?_ | refine W_A rfl ?_ | refine DW_row tabOK rfl ?_ | refine DW_app tabOK rfl rfl (by simp; omega) (by simp; omega) ?_ | refine DW_app0 tabOK rfl (by simp; omega) (by simp; omega) ?_)
   refine W.le (g := ⟨ofT t, []⟩) (N := ⟨4, [(0, .cells [.sl 0 [] .full]), (1, .cells (kC none)), (2, .cells (kA none)), (3, .cells [keptF w])]⟩) ?_ hle ?_
   ·unfold ofT
    repeat (refine AF.le_cons rfl ?_)
    exact AF.le_nil rfl
   refine W_ghost ((Joint.tokM 0 0 rfl rfl (sz' := 2) (.inr rfl)).trans (Joint.le (g := ⟨ofT t, []⟩) (N := vM5 w) ⟨rfl, fun _ => Sub.refl⟩ ?_)) ?_
   ·exact Mem.le_cons rfl (Mem.le_cons rfl (Mem.le_cons rfl (Mem.le_cons rfl (Mem.le_cons rfl (Mem.le_nil rfl)))))
   refine range_vac t hs (fun p hp => (hv p hp).2) w rfl (by decide) ?_ ?_
   ·intro O O1 s L g k c l hL
    have lk := len_map Ky.av L
    unfold vM8 vM ofT
    repeat' (first | refine DW_A tabs rfl ?_ | refine DW_nil ?_ | refine W_A rfl ?_ | refine DW_row tabOK rfl ?_ | refine DW_app tabOK rfl rfl (by simp; omega) (by simp; omega) ?_ | refine DW_app0 tabOK rfl (by simp; omega) (by simp; omega) ?_)
    refine ⟨rfl, ?_⟩
    repeat' (first | refine DW_VI tabs rfl lk ?_ | refine DW_A tabs rfl ?_ | refine DW_nil ?_ | refine W_A rfl ?_ | refine DW_row tabOK rfl ?_ | refine DW_app tabOK rfl rfl (by simp; omega) (by simp; omega) ?_ | refine DW_app0 tabOK rfl (by simp; omega) (by simp; omega) ?_)
    have e : AV.sl 2 ((L ++ [k]).map Ky.av) (.tok 4 (g + 1)) = .sl 2 (L.map Ky.av ++ [k.av]) (.tok 4 (g + 1)) := by simp
    refine ⟨rfl, rfl, by show 8 ≤ 9; decide, ?_⟩
    have key : ∀ M2 : Mem, Mem.le ⟨9, (vM w s (L ++ [k]) (g + 1) O).objs⟩ M2 → (∀ j o, (vM w s (L ++ [k]) (g + 1) O).get j = some o → M2.get j = some o) := fun M2 h j o hj => h.2 j o hj
    refine key _ ?_
    unfold vM
    rw [e]
    exact Mem.le_cons rfl (Mem.le_cons rfl (Mem.le_cons rfl (Mem.le_cons rfl (Mem.le_cons rfl (Mem.le_cons rfl (Mem.le_cons rfl (Mem.le_nil rfl)))))))
   ·intro g N O hle2
    refine ⟨⟨7, [(0, .cells [.sl 2 ((scanD w t.all).2.map Ky.av) (.tok 4 g)]), (5, deferO)]⟩, Mem.le_trans (Mem.le_cons (i := 0) rfl (Mem.le_cons (i := 5) rfl (Mem.le_nil rfl))) hle2, rfl, ?_⟩
    unfold ofT
    repeat' (first | refine DW_A tabs rfl ?_ | refine DW_nil ?_ | refine W_A rfl ?_ | refine DW_row tabOK rfl ?_ | refine DW_app tabOK rfl rfl (by simp; omega) (by simp; omega) ?_ | refine DW_app0 tabOK rfl (by simp; omega) (by simp; omega) ?_)
    refine marks1 (N := ⟨_, []⟩) rfl (Mem.le_nil rfl) rfl ⟨_, rfl, _, rfl, SubC.tup2 (SubC.untag (closed_kys _)) (SubC.of_closed closed_int)⟩
end Go.Proofs.YtmgkebghojhocaaGreatDoor

/- Plain facts on dead versions. No further condition. -/
set_option linter.unusedVariables false
set_option linter.unusedSimpArgs false
namespace Go.Proofs.YtmgkebghojhocaaGreatDoor
open Go.Ab

/-- Is a version dead at w? -/
def newer (l : List Pr) (w : Int) (x : Pr) : Prop := ∃ y, y ∈ l ∧ y.key.path = x.key.path ∧ x.key.time < y.key.time ∧ y.key.time ≤ w
def isGone (x : Pr) : Bool := (readM x.val).2.1
def Dead (l : List Pr) (w : Int) (x : Pr) : Prop := x.key.time ≤ w ∧ (newer l w x ∨ isGone x = true)
noncomputable def deadB (l : List Pr) (w : Int) (x : Pr) : Bool := @decide (Dead l w x) (Classical.propDecidable _)
theorem deadB_iff {l : List Pr} {w : Int} {x : Pr} : deadB l w x = true ↔ Dead l w x := by
 unfold deadB
 exact @decide_eq_true_iff _ (Classical.propDecidable _)
/-- The path that the scan has kept: that of a version up to w. -/
def Seen (a : List Pr) (w : Int) (s : Option Bytes) : Prop := ∀ p, (∀ y, y ∈ a → y.key.path = p ∨ bl y.key.path p = true) → (s = some p ↔ ∃ y, y ∈ a ∧ y.key.path = p ∧ y.key.time ≤ w)
theorem scan_app (w : Int) (a b : List Pr) : scanD w (a ++ b) = b.foldl (stepD w) (scanD w a) := by
 unfold scanD
 rw [List.foldl_append]
theorem rise_le {a b : List Pr} {x y : Pr} (hr : Rise (a ++ b)) (hx : x ∈ a) (hy : y ∈ b) : x.key.path = y.key.path ∨ bl x.key.path y.key.path = true := by
 have := (List.pairwise_append.1 hr).2.2 x hx y hy
 rcases (rless_def _ _).1 this with h | ⟨h, _⟩
 ·exact .inr h
 ·exact .inl h
theorem seen_step {a : List Pr} {w : Int} {s : Option Bytes} {x : Pr} (hr : Rise (a ++ [x])) (h : Seen a w s) : Seen (a ++ [x]) w (keptS s x w).2 := by
 intro p hp
 unfold keptS
 have hxp := hp x (by simp)
 by_cases hx : w < x.key.time
 ·rw [if_pos hx]
  rw [h p (fun y hy => hp y (by simp [hy]))]
  constructor
  ·rintro ⟨y, hy, h1, h2⟩
   exact ⟨y, by simp [hy], h1, h2⟩
  ·rintro ⟨y, hy, h1, h2⟩
   rcases List.mem_append.1 hy with hy | hy
   ·exact ⟨y, hy, h1, h2⟩
   ·simp at hy
    subst hy
    omega
 ·rw [if_neg hx]
  constructor
  ·intro e
   have e : x.key.path = p := Option.some.inj e
   exact ⟨x, by simp, e, by omega⟩
  ·rintro ⟨y, hy, h1, h2⟩
   show some x.key.path = some p
   congr 1
   rcases List.mem_append.1 hy with hy | hy
   ·rcases rise_le hr hy (y := x) (by simp) with h3 | h3
    ·rw [← h3, h1]
    ·rw [h1] at h3
     rcases hxp with h4 | h4
     ·exact h4
     ·have := bl_asymm h3
      rw [h4] at this
      cases this
   ·simp at hy
    rw [← hy]
    exact h1
theorem scan_ok (w : Int) : ∀ (b a : List Pr), Rise (a ++ b) → Seen a w (scanD w a).1 → (scanD w a).2 = (a.filter (deadB (a ++ b) w)).map (·.key) → Seen (a ++ b) w (scanD w (a ++ b)).1 ∧ (scanD w (a ++ b)).2 = ((a ++ b).filter (deadB (a ++ b) w)).map (·.key)
 | [], a, hr, hs, he => by
  rw [List.append_nil] at *
  exact ⟨hs, he⟩
 | x :: b, a, hr, hs, he => by
  have e : a ++ x :: b = (a ++ [x]) ++ b := by simp
  have hr1 : Rise (a ++ [x]) := by
   rw [e] at hr
   exact (List.pairwise_append.1 hr).1
  have h1 : scanD w (a ++ [x]) = stepD w (scanD w a) x := by rw [scan_app]; rfl
  have hs1 := seen_step hr1 hs
  have hk : (keptS (scanD w a).1 x w).1 = !deadB (a ++ x :: b) w x := by
   rw [Bool.eq_iff_iff]
   simp only [Bool.not_eq_true', ← Bool.not_eq_true, deadB_iff]
   unfold keptS
   by_cases hx : w < x.key.time
   ·rw [if_pos hx]
    simp only [true_iff]
    rintro ⟨h2, _⟩
    omega
   ·rw [if_neg hx]
    have hq := hs x.key.path (fun y hy => rise_le hr1 hy (by simp))
    simp only [Bool.and_eq_true, Bool.not_eq_true', decide_eq_false_iff_not, hq]
    have hn : newer (a ++ x :: b) w x ↔ ∃ y, y ∈ a ∧ y.key.path = x.key.path ∧ y.key.time ≤ w := by
     constructor
     ·rintro ⟨y, hy, h2, h3, h4⟩
      rcases List.mem_append.1 hy with hy | hy
      ·exact ⟨y, hy, h2, h4⟩
      ·exfalso
       rcases List.mem_cons.1 hy with rfl | hy
       ·omega
       ·have := (List.pairwise_cons.1 (List.pairwise_append.1 hr).2.1).1 y hy
        rcases (rless_def _ _).1 this with h5 | ⟨_, h5⟩
        ·rw [h2, bl_irrefl] at h5
         cases h5
        ·omega
     ·rintro ⟨y, hy, h2, h4⟩
      refine ⟨y, by simp [hy], h2, ?_, h4⟩
      have := (List.pairwise_append.1 hr1).2.2 y hy x (by simp)
      rcases (rless_def _ _).1 this with h5 | ⟨_, h5⟩
      ·rw [h2, bl_irrefl] at h5
       cases h5
      ·exact h5
    unfold Dead
    rw [hn]
    unfold isGone
    constructor
    ·rintro ⟨h2, h3⟩ ⟨_, h4 | h4⟩
     ·exact h2 h4
     ·rw [h3] at h4
      cases h4
    ·intro h2
     refine ⟨fun h3 => h2 ⟨by omega, .inl h3⟩, ?_⟩
     cases hg : (readM x.val).2.1
     ·rfl
     ·exact absurd ⟨by omega, .inr hg⟩ h2
  rw [e] at hr ⊢
  refine scan_ok w b (a ++ [x]) hr (by rw [h1]; exact hs1) ?_
  rw [h1, ← e]
  unfold stepD
  rw [hk, List.filter_append, List.map_append, ← he]
  cases hd : deadB (a ++ x :: b) w x
  ·simp [hd]
  ·simp [hd]
theorem scan_dead {l : List Pr} (hr : Rise l) (w : Int) : (scanD w l).2 = (l.filter (deadB l w)).map (·.key) :=
 (scan_ok w l [] hr (fun p _ => by simp [scanD]) rfl).2

/-! ### What is left -/
noncomputable def runL (l : List Pr) (w : Int) : List Pr := l.filter fun x => !deadB l w x
theorem dropP_filter {l : List Pr} (hr : Rise l) (k : Ky) : dropP l k = l.filter fun x => !decide (x.key = k) := by
 induction l with
 | nil => rfl
 | cons q r ih =>
  obtain ⟨h1, h2⟩ := List.pairwise_cons.1 hr
  simp only [dropP]
  by_cases hq : rless q.key k = true
  ·rw [if_pos hq, ih h2, List.filter_cons, if_pos]
   have : q.key ≠ k := by
    rintro rfl
    rw [rless_irrefl] at hq
    cases hq
   simp [this]
  ·rw [if_neg hq]
   have hrest : r.filter (fun x => !decide (x.key = k)) = r := by
    refine List.filter_eq_self.2 fun x hx => ?_
    have : x.key ≠ k := by
     rintro rfl
     exact hq (h1 x hx)
    simp [this]
   by_cases he : q.key = k
   ·rw [if_pos he, List.filter_cons, if_neg (by simp [he]), hrest]
   ·rw [if_neg he, List.filter_cons, if_pos (by simp [he]), hrest]
theorem drops_filter : ∀ (ks : List Ky) {l : List Pr}, Rise l → ks.foldl dropP l = l.filter fun x => !decide (x.key ∈ ks)
 | [], l, _ => by
  show l = _
  exact (List.filter_eq_self.2 (by simp)).symm
 | k :: ks, l, hr => by
  rw [List.foldl_cons, drops_filter ks (dropP_rise hr), dropP_filter hr, List.filter_filter]
  congr 1
  funext x
  by_cases h1 : x.key = k <;> by_cases h2 : x.key ∈ ks <;> simp [h1, h2]
  all_goals (first | (subst h1; simp [h2]) | simp_all)
theorem run_drops {l : List Pr} (hr : Rise l) (w : Int) : (scanD w l).2.foldl dropP l = runL l w := by
 rw [drops_filter _ hr, scan_dead hr]
 unfold runL
 refine List.filter_congr fun x hx => ?_
 congr 1
 rw [Bool.eq_iff_iff, decide_eq_true_iff]
 constructor
 ·intro h
  obtain ⟨y, hy, he⟩ := List.mem_map.1 h
  rw [List.mem_filter] at hy
  have := rise_inj hr hy.1 hx he
  rw [← this]
  exact hy.2
 ·intro h
  exact List.mem_map.2 ⟨x, List.mem_filter.2 ⟨hx, h⟩, rfl⟩
theorem dead_mono {l : List Pr} {w v : Int} {x : Pr} (h : w ≤ v) (hd : Dead l w x) : Dead l v x := by
 obtain ⟨h1, h2⟩ := hd
 refine ⟨by omega, ?_⟩
 rcases h2 with ⟨y, hy, a, b, c⟩ | h2
 ·exact .inl ⟨y, hy, a, b, by omega⟩
 ·exact .inr h2
theorem run_mem {l : List Pr} {w : Int} {x : Pr} : x ∈ runL l w ↔ x ∈ l ∧ ¬ Dead l w x := by
 unfold runL
 rw [List.mem_filter]
 simp only [Bool.not_eq_true', ← Bool.not_eq_true, deadB_iff]
theorem run_sub (l : List Pr) (w : Int) : (runL l w).Sublist l := List.filter_sublist
theorem run_rise {l : List Pr} (hr : Rise l) (w : Int) : Rise (runL l w) := hr.sublist (run_sub l w)
theorem run_none {l : List Pr} {w : Int} {x : Pr} (hx : x ∈ runL l w) : ¬ Dead (runL l w) w x := by
 obtain ⟨h1, h2⟩ := run_mem.1 hx
 rintro ⟨h3, ⟨y, hy, a⟩ | h4⟩
 ·exact h2 ⟨h3, .inl ⟨y, (run_mem.1 hy).1, a⟩⟩
 ·exact h2 ⟨h3, .inr h4⟩
theorem run_scan {l : List Pr} (hr : Rise l) (w : Int) : (scanD w (runL l w)).2 = [] := by
 rw [scan_dead (run_rise hr w)]
 have : (runL l w).filter (deadB (runL l w) w) = [] := by
  refine List.filter_eq_nil_iff.2 fun x hx => ?_
  rw [deadB_iff]
  exact run_none hx
 rw [this]
 rfl
theorem filter_len {α : Type} (q : α → Bool) (l : List α) : (l.filter fun x => !q x).length + (l.filter q).length = l.length := by
 induction l with
 | nil => rfl
 | cons x r ih =>
  rw [List.filter_cons, List.filter_cons]
  cases q x
  ·simp
   omega
  ·simp
   omega
theorem run_len {l : List Pr} (hr : Rise l) (w : Int) : (runL l w).length + (scanD w l).2.length = l.length := by
 rw [scan_dead hr, List.length_map]
 exact filter_len _ l
theorem scan_mono {l : List Pr} (hr : Rise l) {w v : Int} (h : w ≤ v) : (scanD w l).2.length ≤ (scanD v l).2.length := by
 have h1 := run_len hr w
 have h2 := run_len hr v
 have h3 : (runL l v).length ≤ (runL l w).length := by
  unfold runL
  have e : (l.filter fun x => !deadB l v x) = (l.filter fun x => !deadB l w x).filter fun x => !deadB l v x := by
   rw [List.filter_filter]
   refine List.filter_congr fun x _ => ?_
   cases hv : deadB l v x
   ·cases hw : deadB l w x
    ·rfl
    ·have := dead_mono h (deadB_iff.1 hw)
     rw [← deadB_iff, hv] at this
     cases this
   ·rfl
  rw [e]
  exact List.length_filter_le _ _
 omega
/-- The newest one of the versions that are newer, up to v. -/
theorem newest {l : List Pr} (v : Int) (p : Bytes) : ∀ (n : Nat) (y : Pr), y ∈ l → y.key.path = p → y.key.time ≤ v → v - y.key.time ≤ (n : Int) → ∃ z, z ∈ l ∧ z.key.path = p ∧ y.key.time ≤ z.key.time ∧ z.key.time ≤ v ∧ ∀ u, u ∈ l → u.key.path = p → u.key.time ≤ v → u.key.time ≤ z.key.time
 | 0, y, hy, hp, hv, hn => ⟨y, hy, hp, Int.le_refl _, hv, fun u _ _ hu => by omega⟩
 | n + 1, y, hy, hp, hv, hn => by
  by_cases h : ∃ u, u ∈ l ∧ u.key.path = p ∧ u.key.time ≤ v ∧ y.key.time < u.key.time
  ·obtain ⟨u, h1, h2, h3, h4⟩ := h
   obtain ⟨z, a, b, c, d, e⟩ := newest v p n u h1 h2 h3 (by omega)
   exact ⟨z, a, b, by omega, d, e⟩
  ·refine ⟨y, hy, hp, Int.le_refl _, hv, fun u h1 h2 h3 => ?_⟩
   by_cases h4 : u.key.time ≤ y.key.time
   ·exact h4
   ·exact absurd ⟨u, h1, h2, h3, by omega⟩ h
theorem run_run {l : List Pr} {w v : Int} (h : w ≤ v) : runL (runL l w) v = runL l v := by
 have key : ∀ x, x ∈ l → (¬ Dead l w x ∧ ¬ Dead (runL l w) v x ↔ ¬ Dead l v x) := by
  intro x hx
  constructor
  ·rintro ⟨h1, h2⟩ ⟨h3, h4 | h4⟩
   ·obtain ⟨y, hy, a, b, c⟩ := h4
    obtain ⟨z, q1, q2, q3, q4, q5⟩ := newest v x.key.path (v - y.key.time).toNat y hy a c (by omega)
    by_cases hz : Dead l w z
    ·obtain ⟨r1, r2⟩ := hz
     exact h1 ⟨by omega, .inl ⟨z, q1, q2, by omega, r1⟩⟩
    ·exact h2 ⟨h3, .inl ⟨z, run_mem.2 ⟨q1, hz⟩, q2, by omega, q4⟩⟩
   ·exact h2 ⟨h3, .inr h4⟩
  ·intro h1
   refine ⟨fun h2 => h1 (dead_mono h h2), ?_⟩
   rintro ⟨h3, ⟨y, hy, a⟩ | h4⟩
   ·exact h1 ⟨h3, .inl ⟨y, (run_mem.1 hy).1, a⟩⟩
   ·exact h1 ⟨h3, .inr h4⟩
 show (runL l w).filter (fun x => !deadB (runL l w) v x) = _
 unfold runL
 rw [List.filter_filter]
 refine List.filter_congr fun x hx => ?_
 have hk := key x hx
 rw [Bool.eq_iff_iff]
 simp only [Bool.and_eq_true, Bool.not_eq_true', ← Bool.not_eq_true, deadB_iff]
 rw [← hk]
 exact ⟨fun h => ⟨h.2, h.1⟩, fun h => ⟨h.2, h.1⟩⟩
theorem run_st {l : List Pr} (h : isSt l = true) (w : Int) : isSt (runL l w) = true := isSt_of fun p hp => isSt_mem h (run_mem.1 hp).1
theorem run_vals {l : List Pr} (h : valsB l) (w : Int) : valsB (runL l w) := fun p hp => h p (run_mem.1 hp).1
end Go.Proofs.YtmgkebghojhocaaGreatDoor

/- Versions that are dead: Run and Live. No further condition. -/
set_option linter.unusedVariables false
set_option linter.unusedSimpArgs false
namespace Go.Proofs.YtmgkebghojhocaaGreatDoor
open Go.Ab

noncomputable def dropsT (t : Tr) (ks : List Ky) : Tr := ks.foldl dropT t
theorem drops_all : ∀ (ks : List Ky) (t : Tr), t.all.length < 10000000 → (dropsT t ks).all = ks.foldl dropP t.all ∧ (dropsT t ks).all.length ≤ t.all.length
 | [], t, h => ⟨rfl, Nat.le_refl _⟩
 | k :: r, t, h => by
  have h1 : (dropT t k).all = dropP t.all k := dropT_all h
  have h2 := (dropP_sub t.all k).length_le
  obtain ⟨h3, h4⟩ := drops_all r (dropT t k) (by rw [h1]; omega)
  unfold dropsT at h3 h4 ⊢
  rw [h1] at h3 h4
  exact ⟨h3, by simp only [List.foldl_cons]; omega⟩
theorem dropsT_step {t : Tr} {l : List Ky} {i : Nat} {x : Ky} (ht : l.take (i + 1) = l.take i ++ [x]) : dropsT t (l.take (i + 1)) = dropT (dropsT t (l.take i)) x := by
 unfold dropsT
 rw [ht, List.foldl_append]
 rfl
noncomputable def runT (t : Tr) (w : Int) : Tr := dropsT t (scanD w t.all).2
theorem runT_all {t : Tr} (h : t.all.length < 10000000) (w : Int) : (runT t w).all = runL t.all w := by
 unfold runT
 rw [(drops_all _ t h).1]
 exact run_drops (l := t.all) t.rise w
def vOk (l : List Pr) (w : Int) : Bool := isSt l && !decide (w < 0)
theorem ofO_yes {l : List Pr} {w : Int} (h : vOk l w = true) : ofO l w = ((scanD w l).2, 0) := by
 unfold vOk at h
 simp at h
 unfold ofO
 rw [if_pos ⟨h.1, by omega⟩]
theorem ofO_no {l : List Pr} {w : Int} (h : vOk l w = false) : ofO l w = ([], 1) := by
 unfold vOk at h
 unfold ofO
 rw [if_neg]
 rintro ⟨h1, h2⟩
 rw [h1] at h
 simp at h
 omega
noncomputable def runA (t : Tr) (w : Int) : AV := if vOk t.all w = true then .tup [(runT t w).av, .int .i64 ((scanD w t.all).2.length : Int), .int .i64 0] else .tup [.nilptr, .int .i64 0, .int .i64 1]
theorem closed_runA (t : Tr) (w : Int) : Closed (runA t w) := by
 unfold runA
 split
 ·exact closed_tup (closed3 (closed_tr _) closed_int closed_int)
 ·exact closed_tup (closed3 closed_nilptr closed_int closed_int)
noncomputable def runF (t : Tr) (w : Int) (l : List Ky) (i : Nat) : AF := ⟨[(0, t.av), (7, .sl 2 (l.map Ky.av) .none), (20, .sl 2 (l.map Ky.av) .none), (21, .int .i64 (l.length : Int)), (22, .int .i64 (i : Int))], []⟩
theorem scan_len (w : Int) (l : List Pr) (hr : Rise l) : (scanD w l).2.length ≤ l.length := by
 have := run_len hr w
 omega
set_option maxRecDepth 100000 in
set_option maxHeartbeats 8000000 in
theorem run_ok (t : Tr) (hs : t.all.length < 1000000) (hv : valsB t.all) (w : Int) : APure Tryz.prog 28 [t.av, .int .i64 w] (runA t w) := by
 refine pure_sub (closed2 (closed_tr t) closed_int) (closed_runA _ _) ?_
 refine acalls_of tabOK Tryz.func28 rfl (by decide) (by simp [Tryz.f28]) ?_
 have ko := of_ok t (by omega) hv w
 unfold runA
 cases h : vOk t.all w
 ·rw [ofO_no h] at ko
  rw [if_neg (by simp)]
  unfold ofA at ko
  unfold Tr.av at ko ⊢
  repeat' (first | refine DW_A tabs rfl ?_ | refine DW_nil ?_ | refine W_A rfl ?_ | refine DW_C rfl ko ?_ | refine DW_nilc tabOK rfl ?_)
  exact ⟨rfl, _, rfl, _, rfl, SubC.of_closed (closed_tup (closed3 closed_nilptr closed_int closed_int))⟩
 ·rw [ofO_yes h] at ko
  rw [if_pos rfl]
  have hl := scan_len w t.all t.rise
  unfold runT
  generalize (scanD w t.all).2 = l at ko hl ⊢
  have la := len_map Ky.av l
  have hR := closed_tr (dropsT t l)
  have hcl := closed_kys l
  unfold ofA at ko
  unfold Tr.av at ko ⊢
  repeat' (first | refine DW_VI tabs rfl la ?_ | refine DW_A tabs rfl ?_ | refine DW_nil ?_ | refine W_A rfl ?_ | refine DW_C rfl ko ?_ | refine DW_nilc tabOK rfl ?_)
  refine W_count l.length (fun i f N => N = ⟨0, []⟩ ∧ f = runF (dropsT t (l.take i)) w l i) (Nat.zero_le _) ⟨rfl, rfl⟩ (Joint.le ?_ (Mem.le_nil rfl)) ?_
  ·unfold runF Tr.av
   repeat (refine AF.le_cons rfl ?_)
   exact AF.le_nil rfl
  rintro i f N hi ⟨rfl, rfl⟩
  unfold runF
  by_cases g1 : i < l.length
  ·have d1 : decide ((i : Int) < (l.length : Int)) = true := by simp; omega
   have hx : l[i]? = some l[i] := List.getElem?_eq_getElem g1
   have fi := wrap_succ (i := i) (by omega)
   have ht := take_succ hx
   generalize l[i] = x at hx ht
   have hl2 := (drops_all (l.take i) t (by omega)).2
   have kp := dropT_ok (t := dropsT t (l.take i)) (k := x) (by omega)
   rw [← dropsT_step ht] at kp
   generalize dropsT t (l.take i) = u at kp
   generalize hU : dropsT t (l.take (i + 1)) = U at kp
   have hUc := closed_tr U
   unfold Tr.av at kp ⊢
   repeat' (first | refine DW_VB tabs rfl d1 ?_ | refine DW_VI tabs rfl fi ?_ | refine DW_A tabs rfl ?_ | refine DW_nil ?_ | refine W_A rfl ?_ | refine DW_C rfl kp ?_ | refine DW_ix tabOK rfl (ixN hx) ?_ | refine DW_nilc tabOK rfl ?_)
   refine ⟨g1, runF U w l (i + 1), ⟨0, []⟩, ⟨rfl, by rw [← hU]; rfl⟩, Joint.cut (k := 0) (t := (runF U w l (i + 1)).t) (l := []) (Nat.le_refl _) (Nat.zero_le _) rfl ⟨?_, ?_, ?_, ?_, ?_, trivial⟩ trivial⟩
   ·exact SubC.of_closed hUc
   ·exact SubC.of_closed hcl
   ·exact SubC.of_closed hcl
   ·exact SubC.of_closed closed_int
   ·exact SubC.of_closed closed_int
  ·have d1 : decide ((i : Int) < (l.length : Int)) = false := by simp; omega
   obtain rfl : i = l.length := by omega
   rw [List.take_length]
   unfold Tr.av at hR ⊢
   repeat' (first | refine DW_VB tabs rfl d1 ?_ | refine DW_VI tabs rfl la ?_ | refine DW_A tabs rfl ?_ | refine DW_nil ?_ | refine W_A rfl ?_ | refine DW_nilc tabOK rfl ?_)
   exact ⟨rfl, _, rfl, _, rfl, SubC.of_closed (closed_tup (closed3 hR closed_int closed_int))⟩

def liveA (l : List Pr) (w : Int) : AV := if vOk l w = true then .tup [.int .i64 ((l.length : Int) - ((scanD w l).2.length : Int)), .int .i64 0] else .tup [.int .i64 0, .int .i64 1]
set_option maxRecDepth 100000 in
set_option maxHeartbeats 8000000 in
theorem live_ok (t : Tr) (hs : t.all.length < 1000000) (hv : valsB t.all) (w : Int) : APure Tryz.prog 86 [t.av, .int .i64 w] (liveA t.all w) := by
 intro M
 refine acalls_of tabOK Tryz.func86 rfl (by decide) (by simp [Tryz.f86]) ?_
 have ko := of_ok t (by omega) hv w
 have kl := len_ok t
 unfold liveA
 cases h : vOk t.all w
 ·rw [ofO_no h] at ko
  rw [if_neg (by simp)]
  unfold ofA at ko
  unfold Tr.av at ko ⊢
  repeat' (first | refine DW_A tabs rfl ?_ | refine DW_nil ?_ | refine W_A rfl ?_ | refine DW_C rfl ko ?_)
  exact ⟨rfl, _, rfl, rfl, rfl⟩
 ·rw [ofO_yes h] at ko
  rw [if_pos rfl]
  have hl := scan_len w t.all t.rise
  generalize (scanD w t.all).2 = l at ko hl ⊢
  have la := len_map Ky.av l
  have f1 : IntKind.wrap .i64 ((t.all.length : Int) - (l.length : Int)) = (t.all.length : Int) - (l.length : Int) := Go.Ab.wrap_small (by omega) (by omega)
  generalize t.all.length = n at *
  unfold ofA at ko
  unfold Tr.av at ko kl ⊢
  repeat' (first | refine DW_VI tabs rfl (by first | exact la | exact f1) ?_ | refine DW_A tabs rfl ?_ | refine DW_nil ?_ | refine W_A rfl ?_ | refine DW_C rfl ko ?_ | refine DW_C rfl kl ?_)
  exact ⟨rfl, _, rfl, rfl, rfl⟩
end Go.Proofs.YtmgkebghojhocaaGreatDoor

/- The document's rows on dead versions. No further condition. -/
set_option linter.unusedVariables false
set_option linter.unusedSimpArgs false
namespace Go.Proofs.YtmgkebghojhocaaGreatDoor
open Go.Ab

theorem ky_neB (p q : Ky) : (!((p.path == q.path) && ((decide (p.time = q.time)) && true))) = !decide (p = q) := by
 obtain ⟨a, b⟩ := p
 obtain ⟨d, e⟩ := q
 congr 1
 rw [Bool.eq_iff_iff]
 simp
set_option maxRecDepth 100000 in
set_option maxHeartbeats 8000000 in
theorem keys_ok (a b : List Ky) (ta tb : Tag) (ha : a.length < 1000000) (hb : b.length < 1000000) : APure Tryz.prog 87 [.sl 2 (a.map Ky.av) ta, .sl 2 (b.map Ky.av) tb] (.bool (decide (a = b))) := by
 intro M
 refine acalls_of tabOK Tryz.func87 rfl (by decide) (by simp [Tryz.f87]) ?_
 have la := len_map Ky.av a
 have lb := len_map Ky.av b
 by_cases hl : a.length = b.length
 ·have d0 : (!decide ((a.length : Int) = (b.length : Int))) = false := by simp; omega
  repeat' (first | refine DW_VB tabs rfl d0 ?_ | refine DW_VI tabs rfl (by first | exact la | exact lb) ?_ | refine DW_A tabs rfl ?_ | refine DW_nil ?_ | refine W_A rfl ?_ | refine W_draw mixed [0, 1, 4, 5, 2, 3, 6, 7, 8] [.P, .P, .R, .R, .P, .P, .R, .R, .P] rfl rfl (by kernel_rfl) ?_)
  refine W_count a.length (fun i f N => N = M ∧ (a.take i = b.take i) ∧ f = ⟨[(0, .sl 2 (a.map Ky.av) ta), (1, .sl 2 (b.map Ky.av) tb), (5, .int .i64 (i : Int))], []⟩) (Nat.zero_le _) ⟨rfl, by simp, rfl⟩ (Joint.le ?_ (Mem.le_refl _)) ?_
  ·skip
   repeat (refine AF.le_cons rfl ?_)
   exact AF.le_nil rfl
  rintro i f N hi ⟨rfl, hinv, rfl⟩
  by_cases h1 : i < a.length
  ·have d1 : decide ((i : Int) < (a.length : Int)) = true := by simp; omega
   have hx : a[i]? = some a[i] := List.getElem?_eq_getElem h1
   have fi := wrap_succ (i := i) (by omega)
   have ht := take_succ hx
   have hm := List.getElem_mem h1
   generalize a[i] = x at hx ht hm
   have hy : b[i]? = some b[i] := List.getElem?_eq_getElem (by omega)
   have hu := take_succ hy
   generalize b[i] = y at hy hu
   by_cases h3 : x = y
   ·have d3 := (ky_neB x y).trans (show (!decide (x = y)) = false by simp [h3])
    repeat' (first | refine DW_VB tabs rfl (by first | exact d1 | exact d3) ?_ | refine DW_VI tabs rfl (by first | exact fi | exact la | exact lb) ?_ | refine DW_A tabs rfl ?_ | refine DW_nil ?_ | refine W_A rfl ?_ | refine DW_ix tabOK rfl (ixN hx) ?_ | refine DW_ix tabOK rfl (ixN hy) ?_ | refine W_draw mixed [0, 1, 4, 5, 2, 3, 6, 7, 8] [.P, .P, .R, .R, .P, .P, .R, .R, .P] rfl rfl (by kernel_rfl) ?_)
    refine ⟨h1, _, _, ⟨rfl, by rw [ht, hu, hinv, h3], rfl⟩, Joint.le ?_ (Mem.le_refl _)⟩
    repeat (refine AF.le_cons rfl ?_)
    exact AF.le_nil rfl
   ·have d3 := (ky_neB x y).trans (show (!decide (x = y)) = true by simp [h3])
    have e : decide (a = b) = false := by
     refine decide_eq_false fun e => h3 ?_
     subst e
     rw [hx] at hy
     cases hy
     rfl
    rw [e]
    repeat' (first | refine DW_VB tabs rfl (by first | exact d1 | exact d3) ?_ | refine DW_VI tabs rfl (by first | exact fi | exact la | exact lb) ?_ | refine DW_A tabs rfl ?_ | refine DW_nil ?_ | refine W_A rfl ?_ | refine DW_ix tabOK rfl (ixN hx) ?_ | refine DW_ix tabOK rfl (ixN hy) ?_ | refine W_draw mixed [0, 1, 4, 5, 2, 3, 6, 7, 8] [.P, .P, .R, .R, .P, .P, .R, .R, .P] rfl rfl (by kernel_rfl) ?_)
    exact ⟨rfl, _, rfl, rfl, rfl⟩
  ·have d1 : decide ((i : Int) < (a.length : Int)) = false := by simp; omega
   obtain rfl : i = a.length := by omega
   rw [take_all, hl, take_all] at hinv
   have e : decide (a = b) = true := by simp [hinv]
   rw [e]
   repeat' (first | refine DW_VB tabs rfl d1 ?_ | refine DW_VI tabs rfl la ?_ | refine DW_A tabs rfl ?_ | refine DW_nil ?_ | refine W_A rfl ?_ | refine W_draw mixed [0, 1, 4, 5, 2, 3, 6, 7, 8] [.P, .P, .R, .R, .P, .P, .R, .R, .P] rfl rfl (by kernel_rfl) ?_)
   exact ⟨rfl, _, rfl, rfl, rfl⟩
 ·have d0 : (!decide ((a.length : Int) = (b.length : Int))) = true := by simp; omega
  have e : decide (a = b) = false := decide_eq_false fun e => hl (by rw [e])
  rw [e]
  repeat' (first | refine DW_VB tabs rfl d0 ?_ | refine DW_VI tabs rfl (by first | exact la | exact lb) ?_ | refine DW_A tabs rfl ?_ | refine DW_nil ?_ | refine W_A rfl ?_ | refine W_draw mixed [0, 1, 4, 5, 2, 3, 6, 7, 8] [.P, .P, .R, .R, .P, .P, .R, .R, .P] rfl rfl (by kernel_rfl) ?_)
  exact ⟨rfl, _, rfl, rfl, rfl⟩
set_option maxRecDepth 100000 in
set_option maxHeartbeats 8000000 in
theorem vkey_ok (p : Bytes) (n : Int) : APure Tryz.prog 85 [.str p, .int .i64 n] (Ky.av ⟨p, n⟩) := by
 refine pure_sub (closed2 closed_str closed_int) (closed_ky _) ?_
 refine acalls_of tabOK Tryz.func85 rfl (by decide) (by simp [Tryz.f85]) ?_
 repeat' (first | refine DW_A tabs rfl ?_ | refine DW_nil ?_ | refine W_A rfl ?_)
 exact ⟨rfl, _, rfl, _, rfl, SubC.of_closed (closed_ky ⟨p, n⟩)⟩
set_option maxRecDepth 100000 in
set_option maxHeartbeats 8000000 in
theorem made_ok (l : List Pr) (tg : Tag) (hl : l.length < 1000) : APure Tryz.prog 84 [.sl 3 (l.map Pr.av) tg] (laidT l).av := by
 intro M
 refine acalls_of tabOK Tryz.func84 rfl (by decide) (by simp [Tryz.f84]) ?_
 have la := len_map Pr.av l
 have k0 := new_ok
 repeat' (first | refine DW_A tabs rfl ?_ | refine DW_nil ?_ | refine W_A rfl ?_ | refine DW_C rfl k0 ?_ | refine DW_nilc tabOK rfl ?_)
 refine W_count l.length (fun i f N => N = M ∧ (True) ∧ f = ⟨[(0, .sl 3 (l.map Pr.av) tg), (3, (laidT (l.take i)).av), (4, .int .i64 (i : Int))], []⟩) (Nat.zero_le _) ⟨rfl, trivial, rfl⟩ (Joint.le ?_ (Mem.le_refl _)) ?_
 ·skip
  repeat (refine AF.le_cons rfl ?_)
  exact AF.le_nil rfl
 rintro i f N hi ⟨rfl, hinv, rfl⟩
 by_cases h1 : i < l.length
 ·have d1 : decide ((i : Int) < (l.length : Int)) = true := by simp; omega
  have hx : l[i]? = some l[i] := List.getElem?_eq_getElem h1
  have fi := wrap_succ (i := i) (by omega)
  have ht := take_succ hx
  have hm := List.getElem_mem h1
  generalize l[i] = x at hx ht hm
  have hall := (laid_all (l := l.take i) (by simp; omega))
  have kp := putT_ok (t := laidT (l.take i)) (p := x) (by rw [hall.1]; have := hall.2; simp at this; omega)
  rw [← laidT_step ht] at kp
  unfold Tr.av at kp ⊢
  repeat' (first | refine DW_VB tabs rfl d1 ?_ | refine DW_VI tabs rfl (by first | exact fi | exact la) ?_ | refine DW_A tabs rfl ?_ | refine DW_nil ?_ | refine W_A rfl ?_ | refine DW_C rfl kp ?_ | refine DW_ix tabOK rfl (ixN hx) ?_ | refine DW_nilc tabOK rfl ?_)
  refine ⟨h1, _, _, ⟨rfl, trivial, rfl⟩, Joint.le ?_ (Mem.le_refl _)⟩
  repeat (refine AF.le_cons rfl ?_)
  exact AF.le_nil rfl
 ·have d1 : decide ((i : Int) < (l.length : Int)) = false := by simp; omega
  obtain rfl : i = l.length := by omega
  rw [take_all]
  repeat' (first | refine DW_VB tabs rfl d1 ?_ | refine DW_VI tabs rfl la ?_ | refine DW_A tabs rfl ?_ | refine DW_nil ?_ | refine W_A rfl ?_ | refine DW_nilc tabOK rfl ?_)
  exact ⟨rfl, _, rfl, rfl, rfl⟩

/-! ### The rows -/
def wv : Bytes := (valueM zeroMt false).1
theorem read_wv : readM wv = (zeroMt, false, 0) := readM_there (by decide)
theorem wv_len : wv.length < 100 := by decide
def wk (p : UInt8) (n : Int) : Ky := ⟨[p], n⟩
def wIn : List Pr := [⟨wk 97 1, wv⟩, ⟨wk 97 2, wv⟩, ⟨wk 97 5, wv⟩, ⟨wk 98 1, wv⟩, ⟨wk 98 2, [0]⟩]
def wAll : List Pr := [⟨wk 97 5, wv⟩, ⟨wk 97 2, wv⟩, ⟨wk 97 1, wv⟩, ⟨wk 98 2, [0]⟩, ⟨wk 98 1, wv⟩]
theorem wIn_all : (laidT wIn).all = wAll := (laid_all (by decide)).1.trans rfl
theorem w_ok : ∀ (p : UInt8) (n : Int), p = 97 ∨ p = 98 → 0 ≤ n → n ≤ 1000000000 → okP ⟨wk p n, wv⟩ = true := by
 intro p n hp h1 h2
 unfold okP
 rw [read_wv]
 have h3 : isPathB [p] = true := by rcases hp with rfl | rfl <;> decide
 simp [wk, isKeyB, h1, h2, h3]
theorem w_st : isSt wAll = true := by
 have h0 : okP ⟨wk 98 2, [0]⟩ = true := by decide
 simp only [isSt, wAll, List.all_cons, List.all_nil, Bool.and_true, w_ok 97 1 (.inl rfl) (by decide) (by decide), w_ok 97 2 (.inl rfl) (by decide) (by decide), w_ok 97 5 (.inl rfl) (by decide) (by decide), w_ok 98 1 (.inr rfl) (by decide) (by decide), h0]
theorem w_vals : valsB wAll := by
 intro p hp
 have := wv_len
 simp [wAll] at hp
 rcases hp with rfl | rfl | rfl | rfl | rfl
 all_goals exact ⟨by show 1 < 1000000; decide, by first | (show 1 < 1000000; decide) | (show wv.length < _; omega)⟩
theorem read_w0 : readM [0] = (zeroMt, true, 0) := rfl
theorem w_scan3 : (scanD 3 wAll).2 = [wk 97 1, wk 98 2, wk 98 1] := by simp [scanD, stepD, keptS, wAll, wk, read_wv, read_w0]
theorem w_scan1 : (scanD 1 wAll).2 = [] := by simp [scanD, stepD, keptS, wAll, wk, read_wv, read_w0]
theorem w_scan9 : (scanD 9 wAll).2 = [wk 97 2, wk 97 1, wk 98 2, wk 98 1] := by simp [scanD, stepD, keptS, wAll, wk, read_wv, read_w0]
theorem w_run3 : (runT (laidT wIn) 3).all.length = 2 := by
 have h0 : wAll.length = 5 := rfl
 have h1 := run_len (l := (laidT wIn).all) (laidT wIn).rise 3
 rw [runT_all (by rw [wIn_all]; decide)]
 rw [wIn_all, w_scan3, h0] at h1
 rw [wIn_all]
 have h2 : [wk 97 1, wk 98 2, wk 98 1].length = 3 := rfl
 omega
set_option maxRecDepth 100000 in
set_option maxHeartbeats 8000000 in
theorem swept_ok : APure Tryz.prog 29 [] (.bool true) := by
 refine pure_sub (closedL_nil) (closed_bool) ?_
 refine acalls_of tabOK Tryz.func29 rfl (by decide) (by simp [Tryz.f29]) ?_
 have v1 := (value_ok zeroMt false (by decide)).sub (args := [.agg [.int .i64 0, .int .i64 0, .sl 0 [] .full], .bool false]) ⟨Sub.aggL ⟨Sub.refl, Sub.refl, Sub.nil, trivial⟩, Sub.refl, trivial⟩
 have v2 := (value_ok zeroMt true (by decide)).sub (args := [.agg [.int .i64 0, .int .i64 0, .sl 0 [] .full], .bool true]) ⟨Sub.aggL ⟨Sub.refl, Sub.refl, Sub.nil, trivial⟩, Sub.refl, trivial⟩
 rw [show strA (valueM zeroMt false) = .tup [.str wv, .int .i64 0] from rfl] at v1
 rw [show strA (valueM zeroMt true) = .tup [.str [0], .int .i64 0] from rfl] at v2
 have q1 := vkey_ok [97] 1
 have q2 := vkey_ok [97] 2
 have q3 := vkey_ok [97] 5
 have q4 := vkey_ok [98] 1
 have q5 := vkey_ok [98] 2
 have km := made_ok wIn .full (by decide)
 have hs : (laidT wIn).all.length < 1000000 := by rw [wIn_all]; decide
 have hv : valsB (laidT wIn).all := by rw [wIn_all]; exact w_vals
 have o3 := of_ok (laidT wIn) (by omega) hv 3
 have o1 := of_ok (laidT wIn) (by omega) hv 1
 have o9 := of_ok (laidT wIn) (by omega) hv 9
 have oo := of_ok (laidT wIn) (by omega) hv (-1)
 have r3 := run_ok (laidT wIn) hs hv 3
 have l3 := live_ok (laidT wIn) hs hv 3
 have kl := len_ok (runT (laidT wIn) 3)
 rw [w_run3] at kl
 have e3 : vOk (laidT wIn).all 3 = true := by unfold vOk; rw [wIn_all, w_st]; rfl
 have e1 : vOk (laidT wIn).all 1 = true := by unfold vOk; rw [wIn_all, w_st]; rfl
 have e9 : vOk (laidT wIn).all 9 = true := by unfold vOk; rw [wIn_all, w_st]; rfl
 have eo : vOk (laidT wIn).all (-1) = false := by unfold vOk; rw [wIn_all, w_st]; rfl
 rw [ofO_yes e3, wIn_all, w_scan3] at o3
 rw [ofO_yes e1, wIn_all, w_scan1] at o1
 rw [ofO_yes e9, wIn_all, w_scan9] at o9
 rw [ofO_no eo] at oo
 unfold runA at r3
 rw [if_pos e3, wIn_all, w_scan3] at r3
 unfold liveA at l3
 rw [if_pos e3, wIn_all, w_scan3] at l3
 have k3 := keys_ok [wk 97 1, wk 98 2, wk 98 1] [wk 97 1, wk 98 2, wk 98 1] .none .full (by decide) (by decide)
 have k9 := keys_ok [wk 97 2, wk 97 1, wk 98 2, wk 98 1] [wk 97 2, wk 97 1, wk 98 2, wk 98 1] .none .full (by decide) (by decide)
 rw [decide_eq_true rfl] at k3 k9
 generalize runT (laidT wIn) 3 = U at *
 generalize laidT wIn = T at *
 unfold Tr.av at *
 unfold ofA at *
 repeat' (first | refine DW_A tabs rfl ?_ | refine DW_nil ?_ | refine W_A rfl ?_ | refine DW_C rfl v1 ?_ | refine DW_C rfl v2 ?_ | refine DW_C rfl q1 ?_ | refine DW_C rfl q2 ?_ | refine DW_C rfl q3 ?_ | refine DW_C rfl q4 ?_ | refine DW_C rfl q5 ?_ | refine DW_C rfl km ?_ | refine DW_C rfl o3 ?_ | refine DW_C rfl o1 ?_ | refine DW_C rfl o9 ?_ | refine DW_C rfl r3 ?_ | refine DW_C rfl l3 ?_ | refine DW_C rfl oo ?_ | refine DW_C rfl k3 ?_ | refine DW_C rfl k9 ?_ | refine DW_C rfl kl ?_ | refine DW_row tabOK rfl ?_)
 exact ⟨rfl, _, rfl, _, rfl, SubC.of_closed closed_bool⟩
end Go.Proofs.YtmgkebghojhocaaGreatDoor

/- What lives. No further condition. -/
set_option linter.unusedVariables false
set_option linter.unusedSimpArgs false
namespace Go.Proofs.YtmgkebghojhocaaGreatDoor
open Go.Ab

theorem vOk_run {l : List Pr} {w v : Int} (h : vOk l w = true) (hm : w ≤ v) : vOk (runL l w) v = true := by
 unfold vOk at h ⊢
 simp at h ⊢
 exact ⟨run_st h.1 w, by omega⟩
theorem vOk_mono {l : List Pr} {w v : Int} (h : vOk l w = true) (hm : w ≤ v) : vOk l v = true := by
 unfold vOk at h ⊢
 simp at h ⊢
 exact ⟨h.1, by omega⟩
theorem made_small {l : List Pr} (h : bigB l = false) : (laidT l).all.length ≤ 80 ∧ valsB (laidT l).all := by
 obtain ⟨h1, h2⟩ := bigB_no h
 obtain ⟨h3, h4⟩ := laid_all (l := l) (by omega)
 refine ⟨by rw [h3]; omega, fun p hp => ?_⟩
 rw [h3] at hp
 have := h2 p (laid_mem hp)
 exact ⟨by omega, by omega⟩
end Go.Proofs.YtmgkebghojhocaaGreatDoor
