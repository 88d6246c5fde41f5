/- States' texts: Put by code and document. No further condition. -/
import Derived.Test.YtmgkebghojhocaaGreatDoorQDmpB
import Derived.Test.YtmgkebghojhocaaGreatDoorQDmpC
set_option linter.unusedVariables false
set_option linter.unusedSimpArgs false
namespace Go.Proofs.YtmgkebghojhocaaGreatDoor
open Go.Ab
def txA (l : List Bytes) (t : Tag) : AV := .sl 1 (l.map AV.str) t
theorem tx_cells (l : List Bytes) : ∀ x, x ∈ l.map AV.str → ∀ c, c ∈ x.cells → Closed c := by
 intro x hx c hc
 obtain ⟨s, _, rfl⟩ := List.mem_map.1 hx
 have : c ∈ [AV.str s] := hc
 exact closed1 closed_str c this
theorem closed_tx (l : List Bytes) {t : Tag} (h : t = .none ∨ t = .full) : Closed (txA l t) := closed_sl h (fun x hx => by obtain ⟨s, _, rfl⟩ := List.mem_map.1 hx; exact closed_str) (tx_cells l)
theorem tx_app (l : List Bytes) (x : Bytes) (t : Tag) : txA (l ++ [x]) t = .sl 1 (l.map AV.str ++ [.str x]) t := by simp [txA]
def dmA (x : List Bytes × Int) : AV := .tup [txA x.1 .none, .int .i64 x.2]
theorem closed_dmA (x : List Bytes × Int) : Closed (dmA x) := closed_tup (closed2 (closed_tx _ (.inl rfl)) closed_int)
theorem okNs_head {s : Sg} (h : IsState s) : okNs [s.last, s.mark, (s.pairs.length : Int), (s.pins.length : Int), (s.seen.length : Int)] := by
 intro x hx
 have := h.mark0
 have := h.mark
 have := h.last
 have := h.many
 have := h.pinsN
 have := h.seenN
 simp at hx
 rcases hx with rfl | rfl | rfl | rfl | rfl <;> omega
theorem okNs_pin {p : Pn} (h : mayPn p = true) : okNs [p.session, p.at_] := by
 unfold mayPn at h
 simp at h
 intro x hx
 simp at hx
 rcases hx with rfl | rfl <;> omega
theorem okNs_seen {p : Sn} (h : mayBn p = true) : okNs [p.client, p.seq, p.code, p.n] := by
 unfold mayBn at h
 simp at h
 intro x hx
 simp at hx
 rcases hx with rfl | rfl | rfl | rfl <;> omega
def ac1 (s : Sg) (i : Nat) : List Bytes := headT s :: (s.pairs.take i).map pairT
def ac2 (s : Sg) (i : Nat) : List Bytes := (headT s :: s.pairs.map pairT) ++ (s.pins.take i).map pinT
def ac3 (s : Sg) (i : Nat) : List Bytes := ((headT s :: s.pairs.map pairT) ++ s.pins.map pinT) ++ (s.seen.take i).map seenT
theorem ac1_step {s : Sg} {i : Nat} {x : Pr} (h : s.pairs.take (i + 1) = s.pairs.take i ++ [x]) : ac1 s (i + 1) = ac1 s i ++ [pairT x] := by
 unfold ac1
 rw [h, List.map_append]
 rfl
theorem ac2_step {s : Sg} {i : Nat} {x : Pn} (h : s.pins.take (i + 1) = s.pins.take i ++ [x]) : ac2 s (i + 1) = ac2 s i ++ [pinT x] := by
 unfold ac2
 rw [h]
 simp
theorem ac3_step {s : Sg} {i : Nat} {x : Sn} (h : s.seen.take (i + 1) = s.seen.take i ++ [x]) : ac3 s (i + 1) = ac3 s i ++ [seenT x] := by
 unfold ac3
 rw [h]
 simp
theorem ac12 (s : Sg) : ac1 s s.pairs.length = ac2 s 0 := by simp [ac1, ac2]
theorem ac23 (s : Sg) : ac2 s s.pins.length = ac3 s 0 := by simp [ac2, ac3]
theorem ac3_end (s : Sg) : ac3 s s.seen.length = texts s := by simp [ac3, texts]
theorem ac1_len (s : Sg) (i : Nat) : (ac1 s i).length ≤ s.pairs.length + 1 := by simp [ac1]; omega
theorem ac2_len (s : Sg) (i : Nat) : (ac2 s i).length ≤ s.pairs.length + s.pins.length + 1 := by simp [ac2]; omega
theorem ac3_len (s : Sg) (i : Nat) : (ac3 s i).length ≤ s.pairs.length + s.pins.length + s.seen.length + 1 := by simp [ac3]; omega
def dp1 (s : Sg) (i g : Nat) : AF := ⟨[(1, .ref s.cells), (4, txA (ac1 s i) (.tok 0 g)), (35, .sl 3 (s.pairs.map Pr.av) .none), (36, .int .i64 (s.pairs.length : Int)), (37, .int .i64 (i : Int))], []⟩
def dp2 (s : Sg) (i g : Nat) : AF := ⟨[(1, .ref s.cells), (4, txA (ac2 s i) (.tok 0 g)), (64, pinsA s.pins .none), (65, .int .i64 (s.pins.length : Int)), (66, .int .i64 (i : Int))], []⟩
def dp3 (s : Sg) (i g : Nat) : AF := ⟨[(4, txA (ac3 s i) (.tok 0 g)), (81, seenA s.seen .none), (82, .int .i64 (s.seen.length : Int)), (83, .int .i64 (i : Int))], []⟩
theorem subc_tx {k : Nat} (hk : 0 < k) (l : List Bytes) (x : Bytes) (g : Nat) : SubC k (.sl 1 (l.map AV.str ++ [.str x]) (.tok 0 (g + 1))) (txA (l ++ [x]) (.tok 0 (g + 1))) := by
 rw [tx_app]
 exact SubC.tok (decide_eq_true hk) (fun y hy c hc => by have h := tx_cells (l ++ [x]); rw [List.map_append] at h; exact h y hy c hc)
theorem pairT_cat {p : Pr} (hk : isKeyB p.key = true) (hv : p.val.length < 1000000) : (textT (putB p.key).1).length + p.val.length ≤ 9223372036854775807 ∧ textT (putB p.key).1 ++ p.val = pairT p := by
 refine ⟨?_, rfl⟩
 have := key_len hk
 unfold textT
 rw [if_neg (by omega)]
 have := putN_len (putB p.key).1.length
 simp
 omega
theorem closed_refs (s : Sg) {k : Nat} : SubC k (.ref s.cells) (.ref s.cells) := SubC.of_closed (closed_ref (closed_sgc s))
set_option maxRecDepth 100000 in
set_option maxHeartbeats 8000000 in
theorem dPut_ok (s : Sg) (hs : SmallSg s) : APure Tryz.prog 15 [s.av] (dmA (dumpO s)) := by
 refine pure_sub (closed1 (closed_sg s)) (closed_dmA _) ?_
 refine acalls_of tabOK Tryz.func15 rfl (by decide) (by simp [Tryz.f15]) ?_
 have ki := dIs_ok s hs
 have hn := hs.pairs
 have hn2 := hs.pins
 have hn3 := hs.seen
 unfold dumpO
 cases h : stateB s
 ·rw [h] at ki
  rw [if_neg (by simp)]
  unfold Sg.av Sg.cells at *
  repeat' (first | refine DW_box 6 tabOK rfl ?_ | refine DW_box 12 tabOK rfl ?_ | refine DW_box 14 tabOK rfl ?_ | refine DW_orow 6 tabOK rfl ?_ | refine DW_orow 12 tabOK rfl ?_ | refine DW_orow 14 tabOK rfl ?_ | refine DW_oix tabOK rfl ?_ | refine DW_olenA tabOK rfl ?_ | refine DW_A tabs rfl ?_ | refine DW_nil ?_ | refine W_A rfl ?_ | refine DW_C rfl ki ?_ | refine DW_row tabOK rfl ?_ | refine DW_app tabOK rfl rfl (by simp; omega) (by simp; omega) ?_ | refine DW_app0 tabOK rfl (by simp; omega) (by simp; omega) ?_)
  exact ⟨rfl, _, rfl, _, rfl, SubC.tup2 SubC.nil (SubC.of_closed closed_int)⟩
 ·rw [h] at ki
  rw [if_pos rfl]
  have hS := stateB_iff.1 h
  have kh := numbers_ok [s.last, s.mark, (s.pairs.length : Int), (s.pins.length : Int), (s.seen.length : Int)] .full (.inr rfl) (okNs_head hS) (by simp) (by simp)
  have la := len_map Pr.av s.pairs
  have lb := len_map Pn.av s.pins
  have lc := len_map Sn.av s.seen
  have hcr := @closed_refs s
  have c1 := closed_pins s.pins (t := .none) (.inl rfl)
  have c2 := closed_seen s.seen (t := .none) (.inl rfl)
  unfold iA at kh
  unfold Sg.av Sg.cells pinsA seenA at *
  repeat' (first | refine DW_VI tabs rfl (by first | exact la | exact lb | exact lc) ?_ | refine DW_box 6 tabOK rfl ?_ | refine DW_box 12 tabOK rfl ?_ | refine DW_box 14 tabOK rfl ?_ | refine DW_orow 6 tabOK rfl ?_ | refine DW_orow 12 tabOK rfl ?_ | refine DW_orow 14 tabOK rfl ?_ | refine DW_oix tabOK rfl ?_ | refine DW_olenA tabOK rfl ?_ | refine DW_A tabs rfl ?_ | refine DW_nil ?_ | refine W_A rfl ?_ | refine DW_C rfl ki ?_ | refine DW_C rfl kh ?_ | refine DW_row tabOK rfl ?_ | refine DW_app tabOK rfl rfl (by simp; omega) (by simp; omega) ?_ | refine DW_app0 tabOK rfl (by simp; omega) (by simp; omega) ?_)
  refine W_count s.pairs.length (fun i f N => ∃ g, N = tokM g ∧ f = dp1 s i g) (Nat.zero_le _) ⟨0, rfl, rfl⟩ ((Joint.tok 4 rfl (sz' := 1) (.inl rfl)).trans (Joint.le ?_ (tokM_of rfl rfl))) ?_
  ·unfold dp1 ac1 headT txA Sg.cells pinsA seenA
   repeat (refine AF.le_cons rfl ?_)
   exact AF.le_nil rfl
  rintro i f N hi ⟨g, rfl, rfl⟩
  unfold dp1 txA Sg.cells pinsA seenA
  have lo := len_map AV.str (ac1 s i)
  have lo2 := ac1_len s i
  by_cases h1 : i < s.pairs.length
  ·have d1 : decide ((i : Int) < (s.pairs.length : Int)) = true := decide_eq_true (by omega)
   have hx : s.pairs[i]? = some s.pairs[i] := List.getElem?_eq_getElem h1
   have fi := wrap_succ (i := i) (by omega)
   have ht := ac1_step (take_succ hx)
   have hm := List.getElem_mem h1
   generalize s.pairs[i] = x at hx ht hm
   have hk := okP_key (isSt_mem hS.st hm)
   have hv := hs.vals x hm
   have hkl := key_len hk
   have kp := put_ok x.key hv.1
   unfold putA at kp
   rw [show (putB x.key).2 = 0 by rw [putB_ok hk]] at kp
   have kt := ctext_ok (putB x.key).1 (by omega)
   rw [if_neg (by omega)] at kt
   have hcat := pairT_cat hk hv.2
   unfold Ky.av at kp
   repeat' (first | refine DW_VB tabs rfl d1 ?_ | refine DW_VI tabs rfl (by first | exact la | exact fi | exact lo) ?_ | refine DW_box 6 tabOK rfl ?_ | refine DW_box 12 tabOK rfl ?_ | refine DW_box 14 tabOK rfl ?_ | refine DW_orow 6 tabOK rfl ?_ | refine DW_orow 12 tabOK rfl ?_ | refine DW_orow 14 tabOK rfl ?_ | refine DW_oix tabOK rfl ?_ | refine DW_olenA tabOK rfl ?_ | refine DW_A tabs rfl ?_ | refine DW_nil ?_ | refine W_A rfl ?_ | refine DW_C rfl kp ?_ | refine DW_C rfl kt ?_ | refine DW_ix tabOK rfl (ixN hx) ?_ | refine DW_cat rfl (hcat) ?_ | refine DW_row tabOK rfl ?_ | refine DW_app tabOK rfl rfl (by simp; omega) (by simp; omega) ?_ | refine DW_app0 tabOK rfl (by simp; omega) (by simp; omega) ?_)
   refine ⟨h1, dp1 s (i + 1) (g + 1), tokM (g + 1), ⟨g + 1, rfl, rfl⟩, Joint.cut (k := 1) (t := (dp1 s (i + 1) (g + 1)).t) (l := (tokM (g + 1)).objs) (Nat.zero_le _) (by show 1 ≤ 2; omega) rfl ⟨?_, ?_, ?_, ?_, ?_, trivial⟩ ⟨by decide, rfl, trivial⟩⟩
   ·exact hcr
   ·rw [ht]
    exact subc_tx (by decide) _ _ _
   ·exact SubC.of_closed (closed_prs _)
   ·exact SubC.of_closed closed_int
   ·exact SubC.of_closed closed_int
  ·have d1 : decide ((i : Int) < (s.pairs.length : Int)) = false := decide_eq_false (by omega)
   obtain rfl : i = s.pairs.length := by omega
   rw [ac12]
   repeat' (first | refine DW_VB tabs rfl d1 ?_ | refine DW_VI tabs rfl (by first | exact la | exact lb) ?_ | refine DW_box 6 tabOK rfl ?_ | refine DW_box 12 tabOK rfl ?_ | refine DW_box 14 tabOK rfl ?_ | refine DW_orow 6 tabOK rfl ?_ | refine DW_orow 12 tabOK rfl ?_ | refine DW_orow 14 tabOK rfl ?_ | refine DW_oix tabOK rfl ?_ | refine DW_olenA tabOK rfl ?_ | refine DW_A tabs rfl ?_ | refine DW_nil ?_ | refine W_A rfl ?_ | refine DW_row tabOK rfl ?_ | refine DW_app tabOK rfl rfl (by simp; omega) (by simp; omega) ?_ | refine DW_app0 tabOK rfl (by simp; omega) (by simp; omega) ?_)
   refine W_count s.pins.length (fun i f N => ∃ g, N = tokM g ∧ f = dp2 s i g) (Nat.zero_le _) ⟨g, rfl, rfl⟩ (Joint.le ?_ (tokM_of rfl rfl)) ?_
   ·unfold dp2 txA Sg.cells pinsA seenA
    repeat (refine AF.le_cons rfl ?_)
    exact AF.le_nil rfl
   rintro i f N hi ⟨g, rfl, rfl⟩
   unfold dp2 txA Sg.cells pinsA seenA
   have lo := len_map AV.str (ac2 s i)
   have lo2 := ac2_len s i
   by_cases h1 : i < s.pins.length
   ·have d1 : decide ((i : Int) < (s.pins.length : Int)) = true := decide_eq_true (by omega)
    have hx : s.pins[i]? = some s.pins[i] := List.getElem?_eq_getElem h1
    have fi := wrap_succ (i := i) (by omega)
    have ht := ac2_step (take_succ hx)
    have hm := List.getElem_mem h1
    generalize s.pins[i] = x at hx ht hm
    have kp := numbers_ok [x.session, x.at_] .full (.inr rfl) (okNs_pin (upB_mem hS.pins x hm)) (by simp) (by simp)
    unfold iA at kp
    repeat' (first | refine DW_VB tabs rfl d1 ?_ | refine DW_VI tabs rfl (by first | exact lb | exact fi | exact lo) ?_ | refine DW_box 6 tabOK rfl ?_ | refine DW_box 12 tabOK rfl ?_ | refine DW_box 14 tabOK rfl ?_ | refine DW_orow 6 tabOK rfl ?_ | refine DW_orow 12 tabOK rfl ?_ | refine DW_orow 14 tabOK rfl ?_ | refine DW_oix tabOK rfl ?_ | refine DW_olenA tabOK rfl ?_ | refine DW_A tabs rfl ?_ | refine DW_nil ?_ | refine W_A rfl ?_ | refine DW_C rfl kp ?_ | refine DW_ix tabOK rfl (ixN hx) ?_ | refine DW_row tabOK rfl ?_ | refine DW_app tabOK rfl rfl (by simp; omega) (by simp; omega) ?_ | refine DW_app0 tabOK rfl (by simp; omega) (by simp; omega) ?_)
    refine ⟨h1, dp2 s (i + 1) (g + 1), tokM (g + 1), ⟨g + 1, rfl, rfl⟩, Joint.cut (k := 1) (t := (dp2 s (i + 1) (g + 1)).t) (l := (tokM (g + 1)).objs) (Nat.le_refl 1) (by show 1 ≤ 2; omega) rfl ⟨?_, ?_, ?_, ?_, ?_, trivial⟩ ⟨by decide, rfl, trivial⟩⟩
    ·exact hcr
    ·rw [ht]
     exact subc_tx (by decide) _ _ _
    ·exact SubC.of_closed c1
    ·exact SubC.of_closed closed_int
    ·exact SubC.of_closed closed_int
   ·have d1 : decide ((i : Int) < (s.pins.length : Int)) = false := decide_eq_false (by omega)
    obtain rfl : i = s.pins.length := by omega
    rw [ac23]
    repeat' (first | refine DW_VB tabs rfl d1 ?_ | refine DW_VI tabs rfl (by first | exact lb | exact lc) ?_ | refine DW_box 6 tabOK rfl ?_ | refine DW_box 12 tabOK rfl ?_ | refine DW_box 14 tabOK rfl ?_ | refine DW_orow 6 tabOK rfl ?_ | refine DW_orow 12 tabOK rfl ?_ | refine DW_orow 14 tabOK rfl ?_ | refine DW_oix tabOK rfl ?_ | refine DW_olenA tabOK rfl ?_ | refine DW_A tabs rfl ?_ | refine DW_nil ?_ | refine W_A rfl ?_ | refine DW_row tabOK rfl ?_ | refine DW_app tabOK rfl rfl (by simp; omega) (by simp; omega) ?_ | refine DW_app0 tabOK rfl (by simp; omega) (by simp; omega) ?_)
    refine W_count s.seen.length (fun i f N => ∃ g, N = tokM g ∧ f = dp3 s i g) (Nat.zero_le _) ⟨g, rfl, rfl⟩ (Joint.le ?_ (tokM_of rfl rfl)) ?_
    ·unfold dp3 txA seenA
     repeat (refine AF.le_cons rfl ?_)
     exact AF.le_nil rfl
    rintro i f N hi ⟨g, rfl, rfl⟩
    unfold dp3 txA seenA
    have lo := len_map AV.str (ac3 s i)
    have lo2 := ac3_len s i
    by_cases h1 : i < s.seen.length
    ·have d1 : decide ((i : Int) < (s.seen.length : Int)) = true := decide_eq_true (by omega)
     have hx : s.seen[i]? = some s.seen[i] := List.getElem?_eq_getElem h1
     have fi := wrap_succ (i := i) (by omega)
     have ht := ac3_step (take_succ hx)
     have hm := List.getElem_mem h1
     generalize s.seen[i] = x at hx ht hm
     have kp := numbers_ok [x.client, x.seq, x.code, x.n] .full (.inr rfl) (okNs_seen (upB_mem hS.seen x hm)) (by simp) (by simp)
     unfold iA at kp
     repeat' (first | refine DW_VB tabs rfl d1 ?_ | refine DW_VI tabs rfl (by first | exact lc | exact fi | exact lo) ?_ | refine DW_box 6 tabOK rfl ?_ | refine DW_box 12 tabOK rfl ?_ | refine DW_box 14 tabOK rfl ?_ | refine DW_orow 6 tabOK rfl ?_ | refine DW_orow 12 tabOK rfl ?_ | refine DW_orow 14 tabOK rfl ?_ | refine DW_oix tabOK rfl ?_ | refine DW_olenA tabOK rfl ?_ | refine DW_A tabs rfl ?_ | refine DW_nil ?_ | refine W_A rfl ?_ | refine DW_C rfl kp ?_ | refine DW_ix tabOK rfl (ixN hx) ?_ | refine DW_row tabOK rfl ?_ | refine DW_app tabOK rfl rfl (by simp; omega) (by simp; omega) ?_ | refine DW_app0 tabOK rfl (by simp; omega) (by simp; omega) ?_)
     refine ⟨h1, dp3 s (i + 1) (g + 1), tokM (g + 1), ⟨g + 1, rfl, rfl⟩, Joint.cut (k := 1) (t := (dp3 s (i + 1) (g + 1)).t) (l := (tokM (g + 1)).objs) (Nat.le_refl 1) (by show 1 ≤ 2; omega) rfl ⟨?_, ?_, ?_, ?_, trivial⟩ ⟨by decide, rfl, trivial⟩⟩
     ·rw [ht]
      exact subc_tx (by decide) _ _ _
     ·exact SubC.of_closed c2
     ·exact SubC.of_closed closed_int
     ·exact SubC.of_closed closed_int
    ·have d1 : decide ((i : Int) < (s.seen.length : Int)) = false := decide_eq_false (by omega)
     obtain rfl : i = s.seen.length := by omega
     rw [ac3_end]
     have hc := closed_tx (texts s) (t := .none) (.inl rfl)
     unfold txA at hc
     repeat' (first | refine DW_VB tabs rfl d1 ?_ | refine DW_VI tabs rfl lc ?_ | refine DW_box 6 tabOK rfl ?_ | refine DW_box 12 tabOK rfl ?_ | refine DW_box 14 tabOK rfl ?_ | refine DW_orow 6 tabOK rfl ?_ | refine DW_orow 12 tabOK rfl ?_ | refine DW_orow 14 tabOK rfl ?_ | refine DW_oix tabOK rfl ?_ | refine DW_olenA tabOK rfl ?_ | refine DW_A tabs rfl ?_ | refine DW_nil ?_ | refine W_A rfl ?_ | refine DW_row tabOK rfl ?_ | refine DW_app tabOK rfl rfl (by simp; omega) (by simp; omega) ?_ | refine DW_app0 tabOK rfl (by simp; omega) (by simp; omega) ?_)
     exact ⟨rfl, _, rfl, _, rfl, SubC.tup2 (SubC.untag hc) (SubC.of_closed closed_int)⟩
end Go.Proofs.YtmgkebghojhocaaGreatDoor
