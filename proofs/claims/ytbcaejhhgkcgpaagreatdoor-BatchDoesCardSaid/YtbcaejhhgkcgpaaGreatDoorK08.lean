/- Parts of the proof, one behind the other. No further condition. -/
import Derived.Test.YtbcaejhhgkcgpaaGreatDoorK07
import Derived.Shelf.Strings.IndexAnyAll
import Derived.Shelf.Small.Utf8
import Derived.Shelf.RegionOpenPlain
import Derived.Laws.RangeAny
import Derived.WalkMore
import Derived.Lib.OthersKept
import Derived.Shelf.Strings.Split
import Derived.Shelf.Strings.LastIndex
import Derived.Shelf.Strings.OnBuilder
import Derived.Test.YtbcaejhhgkcgpaaGreatDoorProg
import Derived.KernelRfl
set_option linter.unusedVariables false
set_option linter.unusedSimpArgs false
namespace Go.Ab
open Go.Shelf Go.RowKit Go.Lib Go.Proofs
variable {P:Program} {ρ:Ren}
theorem encode_two (r:Int) (h0:128≤r) (h1:r≤2047):Utf8.encode r=⟨#[UInt8.ofNat (0xC0+r.toNat/64),UInt8.ofNat (0x80+r.toNat%64)]⟩:=by
 unfold Utf8.encode
 have hv:Utf8.valid r=true:=by simp[Utf8.valid];omega
 simp only[hv,if_true]
 rw[if_neg (by omega),if_pos (by omega)]
theorem encode_long (r:Int) (h0:2048≤r) (hv:Utf8.valid r=true):∃s:ByteArray,Utf8.encode r=s∧3≤s.size∧s.size≤4:=by
 refine⟨_,rfl,?_⟩
 unfold Utf8.encode
 simp only[hv,if_true]
 rw[if_neg (by omega),if_neg (by omega)]
 split
 ·exact⟨Nat.le_refl 3,by show 3≤4;omega⟩
 ·exact⟨by show 3≤4;omega,Nat.le_refl 4⟩
theorem conv_rune {src dst:TypeId} (hs:P.underlying src=some (.int .i32)) (hd:P.underlying dst=some .string) (r:Int) (w:World):
  (convert src dst (.int .i32 r)).run P w=.ok (.string (Utf8.encode r)) w:=by
 simp[convert,run_underlying hs,run_underlying hd,Conv.intToString]
theorem below_dn (w:World) (n:Nat):Below w.heap.size w (w.drewN n):=⟨rfl,rfl,rfl,Nat.le_refl _,fun _ _=>rfl⟩
set_option maxHeartbeats 4000000 in
set_option maxRecDepth 1000000 in
theorem indexRune_two (L:Lays.n152 P ρ) (r:Int) (w:World) (h0:128≤r) (h1:r≤2047):
  Calls P (ρ.f 152) #[.string ⟨#[47,0]⟩,.int .i32 r] w fun e w'=>e=.returned (.int .i64 (-1))∧Below w.heap.size w w':=by
 have mixed:=L.mixed
 have t3:=L.t3;have a3:=L.a3;have z3:=L.z3;have v3:=L.v3
 have t4:=L.t4;have a4:=L.a4;have z4:=L.z4;have v4:=L.v4
 have t5:=L.t5;have a5:=L.a5;have z5:=L.z5;have v5:=L.v5
 have t9:=L.t9;have a9:=L.a9;have z9:=L.z9;have v9:=L.v9
 have t21:=L.t21;have a21:=L.a21;have z21:=L.z21;have v21:=L.v21
 have e119:∀args w,(callFunc (ρ.f 119) args).run P w=.ok (.enter (ρ.f 119) args) w:=enters_of L.f119 (by kernel_rfl) rfl
 have e137:∀args w,(callFunc (ρ.f 137) args).run P w=.ok (.enter (ρ.f 137) args) w:=enters_of L.f137 (by kernel_rfl) rfl
 have g1:decide (r < 128)=false:=by simp;omega
 have g2:(r==65533)=false:=by simp;omega
 have g3:Lib.validRune r=true:=by simp[Lib.validRune];omega
 have hc:=fun w=>conv_rune (P:=P) t21 t9 r w
 obtain⟨b,hb,hbn⟩:∃b:UInt8,UInt8.ofNat (0x80+r.toNat%64)=b∧b≠0:=by
  refine⟨_,rfl,fun h=>?_⟩
  have:=congrArg UInt8.toNat h
  simp at this
  omega
 obtain⟨a,ha⟩:∃a:UInt8,UInt8.ofNat (0xC0+r.toNat/64)=a:=⟨_,rfl⟩
 rw[encode_two r h0 h1,hb,ha] at hc
 clear hb ha
 have hne:((((⟨#[47,0]⟩:ByteArray)[1]'(by decide)).toNat:Int) != (((⟨#[a,b]⟩:ByteArray)[1]'(by show 1 < 2;decide)).toNat:Int))=true:=by
  simp only[bne_iff_ne,ne_eq]
  intro h
  apply hbn
  apply UInt8.toNat_inj.1
  have h':((0:UInt8).toNat:Int)=(b.toNat:Int):=h
  omega
 go_enter L.f152,Body.n152_ntmps ρ
 go_wp2_with (first|(go_at_fn (ρ.f 119);refine (Any.utf8_ValidRune {L with} _ _).mono ?_;rintro e w' ⟨rfl,hw⟩;rw[hw,g3];clear hw))
 go_step3
 go_wp2
 apply wp_loop_once
 go_wp2
 go_step3
 go_wp2
 go_region_o
 all_goals go_wp2
 all_goals go_region_with_o (go_at_fn (ρ.f 137);refine (Any.strings_IndexByte {L with} _ _ _).mono ?_;rintro e w' ⟨rfl,hw⟩;rw[hw])
 all_goals go_wp2
 all_goals (change bodyPost P (Body.n152 ρ) (fun e w'=>e=.returned (.int .i64 (-1))∧Below w.heap.size w w') Exit.ret _ _;go_ret)
 all_goals exact⟨rfl,below_dn w 2⟩
set_option maxHeartbeats 4000000 in
set_option maxRecDepth 1000000 in
theorem indexRune_long (L:Lays.n152 P ρ) (r:Int) (w:World) (h0:2048≤r) (hv:Utf8.valid r=true) (hne:r≠65533):
  Calls P (ρ.f 152) #[.string ⟨#[47,0]⟩,.int .i32 r] w fun e w'=>e=.returned (.int .i64 (-1))∧Below w.heap.size w w':=by
 have mixed:=L.mixed
 have t3:=L.t3;have a3:=L.a3;have z3:=L.z3;have v3:=L.v3
 have t4:=L.t4;have a4:=L.a4;have z4:=L.z4;have v4:=L.v4
 have t5:=L.t5;have a5:=L.a5;have z5:=L.z5;have v5:=L.v5
 have t9:=L.t9;have a9:=L.a9;have z9:=L.z9;have v9:=L.v9
 have t21:=L.t21;have a21:=L.a21;have z21:=L.z21;have v21:=L.v21
 have e119:∀args w,(callFunc (ρ.f 119) args).run P w=.ok (.enter (ρ.f 119) args) w:=enters_of L.f119 (by kernel_rfl) rfl
 have g1:decide (r < 128)=false:=by simp;omega
 have g2:(r==65533)=false:=by simpa using hne
 have g3:Lib.validRune r=true:=by
  simp[Utf8.valid] at hv
  simp[Lib.validRune]
  omega
 have hc:=fun w=>conv_rune (P:=P) t21 t9 r w
 obtain⟨s,hs,hl,hl4⟩:=encode_long r h0 hv
 rw[hs] at hc
 have g5:wrap64 ((s.size:Int) - 1)=(s.size:Int) - 1:=by
  rcases (by omega:s.size=3∨s.size=4) with h|h<;>rw[h]<;>simp[wrap64]
 have g4:decide ((s.size:Int) - 1 < 2)=false:=by simp;omega
 go_enter L.f152,Body.n152_ntmps ρ
 go_wp2_with (first|(go_at_fn (ρ.f 119);refine (Any.utf8_ValidRune {L with} _ _).mono ?_;rintro e w' ⟨rfl,hw⟩;rw[hw,g3];clear hw))
 go_step3
 go_wp2
 apply wp_loop_once
 go_wp2
 (change bodyPost P (Body.n152 ρ) (fun e w'=>e=.returned (.int .i64 (-1))∧Below w.heap.size w w') Exit.ret _ _;go_ret)
 exact⟨rfl,Below.refl _ _⟩
set_option maxHeartbeats 4000000 in
set_option maxRecDepth 1000000 in
theorem indexRune_bad (L:Lays.n152 P ρ) (r:Int) (w:World) (h0:2048≤r) (hv:Lib.validRune r=false):
  Calls P (ρ.f 152) #[.string ⟨#[47,0]⟩,.int .i32 r] w fun e w'=>e=.returned (.int .i64 (-1))∧Below w.heap.size w w':=by
 have mixed:=L.mixed
 have t3:=L.t3;have a3:=L.a3;have z3:=L.z3;have v3:=L.v3
 have t4:=L.t4;have a4:=L.a4;have z4:=L.z4;have v4:=L.v4
 have t9:=L.t9;have a9:=L.a9;have z9:=L.z9;have v9:=L.v9
 have t21:=L.t21;have a21:=L.a21;have z21:=L.z21;have v21:=L.v21
 have e119:∀args w,(callFunc (ρ.f 119) args).run P w=.ok (.enter (ρ.f 119) args) w:=enters_of L.f119 (by kernel_rfl) rfl
 have g1:decide (r < 128)=false:=by simp;omega
 have g2:(r==65533)=false:=by
  simp
  rintro rfl
  cases hv
 go_enter L.f152,Body.n152_ntmps ρ
 go_wp2_with (first|(go_at_fn (ρ.f 119);refine (Any.utf8_ValidRune {L with} _ _).mono ?_;rintro e w' ⟨rfl,hw⟩;rw[hw,hv];clear hw))
 all_goals go_ret
 all_goals exact⟨rfl,Below.refl _ _⟩
theorem iter_below (w:World) (s:ByteArray) (p:Nat):Below w.heap.size w (w.iter s p):=(Below.refl _ _).alloc (Nat.le_refl _) _
set_option maxHeartbeats 4000000 in
set_option maxRecDepth 1000000 in
theorem indexRune_err (L:Lays.n152 P ρ) (w:World):
  Calls P (ρ.f 152) #[.string ⟨#[47,0]⟩,.int .i32 65533] w fun e w'=>e=.returned (.int .i64 (-1))∧Below w.heap.size w w':=by
 have mixed:=L.mixed
 have t3:=L.t3;have a3:=L.a3;have z3:=L.z3;have v3:=L.v3
 have t4:=L.t4;have a4:=L.a4;have z4:=L.z4;have v4:=L.v4
 have t9:=L.t9;have a9:=L.a9;have z9:=L.z9;have v9:=L.v9
 have t21:=L.t21;have a21:=L.a21;have z21:=L.z21;have v21:=L.v21
 go_enter L.f152,Body.n152_ntmps ρ
 go_wp2
 go_loopg [5,6] 2 (fun g _ _ wx=>∃i:Nat,i+g=2∧wx=w.iter ⟨#[47,0]⟩ i)
 case atStart=>exact⟨0,rfl,rfl⟩
 case round=>
  obtain⟨i,hig,rfl⟩:=hrel
  cases gk with
  |zero=>
   obtain rfl:i=2:=by omega
   have hnx:=run_next_end (P:=P) w ⟨#[47,0]⟩ 2
   go_wp2
   go_ret
   exact⟨rfl,iter_below _ _ _⟩
  |succ g=>
   have hi:i < (⟨#[47,0]⟩:ByteArray).size:=by show i < 2;omega
   have hx:(((⟨#[47,0]⟩:ByteArray)[i]'hi).toNat:Nat) < 128:=by
    rcases (by omega:i=0∨i=1) with rfl|rfl
    ·show (47:UInt8).toNat < 128
     decide
    ·show (0:UInt8).toNat < 128
     decide
   have hnx:=fun ty=>run_next_ascii (P:=P) w ⟨#[47,0]⟩ i ty hi hx
   obtain⟨x,hxe⟩:∃x:Nat,((⟨#[47,0]⟩:ByteArray)[i]'hi).toNat=x:=⟨_,rfl⟩
   rw[hxe] at hnx hx
   have g2:((x:Int)==65533)=false:=by simp;omega
   go_wp2
   go_roundg g
   case measure=>omega
   case rel=>exact⟨i+1,by omega,rfl⟩
theorem indexRune_high (L:Lays.n152 P ρ) (r:Int) (w:World) (h0:128≤r):
  Calls P (ρ.f 152) #[.string ⟨#[47,0]⟩,.int .i32 r] w fun e w'=>e=.returned (.int .i64 (-1))∧Below w.heap.size w w':=by
 by_cases h1:r≤2047
 ·exact indexRune_two L r w h0 h1
 by_cases h2:r=65533
 ·subst h2
  exact indexRune_err L w
 cases hv:Lib.validRune r with
 |false=>exact indexRune_bad L r w (by omega) hv
 |true=>
  refine indexRune_long L r w (by omega) ?_ h2
  simp[Lib.validRune] at hv
  simp[Utf8.valid]
  omega
theorem get_data (s:ByteArray) (i:Nat) (h:i < s.size) {b:UInt8} (hb:s.data.toList[i]? =some b):s.get! i=b:=by
 have h1:=get_at s i h
 have h2:=Lib.data_getElem? s i h
 rw[hb] at h2
 cases h2
 simpa using h1
theorem decode_skip (s:ByteArray) (pos:Nat) (h:pos < s.size) (ha:128≤(s[pos]'h).toNat):
  pos+(Utf8.decode s pos).2≤s.size∧∀(j:Nat) (b:UInt8),pos≤j→j < pos+(Utf8.decode s pos).2→s.data.toList[j]? =some b→128≤b.toNat:=by
 have h0:(s.get! (pos+0)).toNat=(s[pos]'h).toNat:=congrArg UInt8.toNat (get_at s pos h)
 have hn:¬(s[pos]'h).toNat < 128:=by omega
 have base:∀b:UInt8,s.data.toList[pos]? =some b→128≤b.toNat:=by
  intro b hb
  have:=get_data s pos h hb
  rw[←this]
  show 128≤(s.get! (pos+0)).toNat
  omega
 have one:pos+1≤s.size∧∀(j:Nat) (b:UInt8),pos≤j→j < pos+1→s.data.toList[j]? =some b→128≤b.toNat:=by
  refine⟨h,fun j b h1 h2 hb=>?_⟩
  obtain rfl:j=pos:=by omega
  exact base b hb
 have cont:∀k,(decide (pos+k < s.size)&&(s.get! (pos+k)).toNat/64==2)=true→pos+k < s.size∧∀b:UInt8,s.data.toList[pos+k]? =some b→128≤b.toNat:=by
  intro k hk
  simp only[Bool.and_eq_true,decide_eq_true_eq,beq_iff_eq] at hk
  refine⟨hk.1,fun b hb=>?_⟩
  have:=get_data s (pos+k) hk.1 hb
  rw[this] at hk
  omega
 unfold Utf8.decode
 simp only[h0,hn,if_false]
 split
 ·rename_i h1
  simp only[Bool.and_eq_true] at h1
  obtain⟨c1,d1⟩:=cont 1 (by simpa using h1.2)
  split
  ·refine⟨by show pos+2≤_;omega,fun j b g1 g2 hb=>?_⟩
   have g2':j < pos+2:=g2
   rcases (by omega:j=pos∨j=pos+1) with rfl|rfl
   ·exact base b hb
   ·exact d1 b hb
  ·exact one
 ·split
  ·rename_i h1
   simp only[Bool.and_eq_true] at h1
   obtain⟨c1,d1⟩:=cont 1 (by simpa using h1.1.2)
   obtain⟨c2,d2⟩:=cont 2 (by simpa using h1.2)
   split
   ·refine⟨by show pos+3≤_;omega,fun j b g1 g2 hb=>?_⟩
    have g2':j < pos+3:=g2
    rcases (by omega:j=pos∨j=pos+1∨j=pos+2) with rfl|rfl|rfl
    ·exact base b hb
    ·exact d1 b hb
    ·exact d2 b hb
   ·exact one
  ·split
   ·rename_i h1
    simp only[Bool.and_eq_true] at h1
    obtain⟨c1,d1⟩:=cont 1 (by simpa using h1.1.1.2)
    obtain⟨c2,d2⟩:=cont 2 (by simpa using h1.1.2)
    obtain⟨c3,d3⟩:=cont 3 (by simpa using h1.2)
    split
    ·refine⟨by show pos+4≤_;omega,fun j b g1 g2 hb=>?_⟩
     have g2':j < pos+4:=g2
     rcases (by omega:j=pos∨j=pos+1∨j=pos+2∨j=pos+3) with rfl|rfl|rfl|rfl
     ·exact base b hb
     ·exact d1 b hb
     ·exact d2 b hb
     ·exact d3 b hb
    ·exact one
   ·exact one
theorem noany_skip {s:ByteArray} {i k:Nat} (h:NoAny s.data.toList [47,0] i) (hk:∀(j:Nat) (b:UInt8),i≤j→j < i+k→s.data.toList[j]? =some b→128≤b.toNat):NoAny s.data.toList [47,0] (i+k):=by
 intro j b hj hb
 by_cases hji:j < i
 ·exact h j b hji hb
 ·have:=hk j b (by omega) hj hb
  simp only[List.contains_eq_mem,List.mem_cons,List.not_mem_nil,or_false,decide_eq_false_iff_not,not_or]
  constructor
  ·rintro rfl
   simp at this
  ·rintro rfl
   simp at this
set_option maxHeartbeats 8000000 in
set_option maxRecDepth 1000000 in
theorem indexAny_short (L:Lays.n153 P ρ) (s:ByteArray) (w:World) (h8:s.size≤8):
  Calls P (ρ.f 153) #[.string s,.string ⟨#[47,0]⟩] w fun e w'=>e=.returned (.int .i64 (Lib.indexAny s.data.toList [47,0]))∧Below w.heap.size w w':=by
 have h8z:decide ((8:Int) < (s.size:Int))=false:=decide_eq_false (by omega)
 have mixed:=L.mixed
 have t3:=L.t3;have a3:=L.a3;have z3:=L.z3;have v3:=L.v3
 have t4:=L.t4;have a4:=L.a4;have z4:=L.z4;have v4:=L.v4
 have t5:=L.t5;have a5:=L.a5;have z5:=L.z5;have v5:=L.v5
 have t9:=L.t9;have a9:=L.a9;have z9:=L.z9;have v9:=L.v9
 have t21:=L.t21;have a21:=L.a21;have z21:=L.z21;have v21:=L.v21
 have e152:∀args w,(callFunc (ρ.f 152) args).run P w=.ok (.enter (ρ.f 152) args) w:=enters_of L.f152 (by kernel_rfl) rfl
 have e226:∀args w,(callFunc (ρ.f 226) args).run P w=.ok (.enter (ρ.f 226) args) w:=enters_of L.f226 (by kernel_rfl) rfl
 go_enter L.f153,Body.n153_ntmps ρ
 go_wp2_with (go_at_fn (ρ.f 226);refine (Any.strings_shouldUseASCIISet {L with} _ _).mono ?_;rintro e w' ⟨rfl,hw⟩;rw[hw,h8z])
 go_loopg [9,10] s.size (fun g _ _ wx=>∃i:Nat,i+g=s.size∧wx.heap[w.heap.size]? =some (.stringIter s i)∧Below w.heap.size w wx∧Lib.NoAny s.data.toList [47,0] i)
 case atStart=>exact⟨0,by omega,World.iter_heap _ _ _,iter_below _ _ _,Lib.NoAny.zero _ _⟩
 case round=>
  obtain⟨i,hig,hk,hbw,hno⟩:=hrel
  have HN:Aside (Lib.NoAny s.data.toList [47,0] i):=hno
  have HB:Aside (Below w.heap.size w wr):=hbw
  clear hno hbw
  cases gk with
  |zero=>
   obtain rfl:i=s.size:=by omega
   have hnx:=fun ty=>run_next_end_at (P:=P) wr w.heap.size s s.size ty hk (by omega)
   go_wp2
   go_ret
   exact⟨by rw[Lib.indexAny_none (by rw[←Lib.size_eq];exact HN.out)];rfl,HB.out⟩
  |succ g=>
   have hi:i < s.size:=by omega
   obtain⟨x,hx⟩:∃x:UInt8,s[i]'hi=x:=⟨_,rfl⟩
   have hxl:s.data.toList[i]? =some x:=by rw[←hx];exact Lib.data_getElem? s i hi
   by_cases hlow:x.toNat < 128
   ·have hnx:=fun ty=>run_next_ascii_at (P:=P) wr w.heap.size s i ty hk hi (by rw[hx];exact hlow)
    rw[hx] at hnx
    have HK:Aside ((wr.iterAt w.heap.size s (i+1)).heap[w.heap.size]? =some (.stringIter s (i+1))):=iterAt_heap wr _ s i (i+1) hk
    have HB':Aside (Below w.heap.size w (wr.iterAt w.heap.size s (i+1))):=below_iterAt HB.out (Nat.le_refl _) _ _
    have Hx:Aside (s.data.toList[i]? =some x):=hxl
    clear hxl hx
    have hcon:=Lib.contains_iff_indexByte [47,0] x
    have hback:((x.toNat:Int)).toNat.toUInt8=x:=by simp
    cases hin:([47,0]:List UInt8).contains x
    ·rw[hin] at hcon
     have hlt:¬((0:Int)≤Lib.indexByte [47,0] x):=of_decide_eq_false hcon.symm
     clear hcon
     go_wp2_with (go_at_fn (ρ.f 152);refine (Any.strings_IndexRune_ascii {L with} _ _ _ (by omega) (by omega)).mono ?_;rintro e w' ⟨rfl,hw⟩;rw[hw,hback])
     go_roundg g
     case measure=>omega
     case rel=>exact⟨i+1,by omega,HK.out,HB'.out,HN.out.succ Hx.out hin⟩
    ·rw[hin] at hcon
     have hge:(0:Int)≤Lib.indexByte [47,0] x:=of_decide_eq_true hcon.symm
     clear hcon
     go_wp2_with (go_at_fn (ρ.f 152);refine (Any.strings_IndexRune_ascii {L with} _ _ _ (by omega) (by omega)).mono ?_;rintro e w' ⟨rfl,hw⟩;rw[hw,hback])
     go_ret
     exact⟨by rw[Lib.indexAny_hit HN.out Hx.out hin];rfl,HB'.out⟩
   ·have hhi:128≤(s[i]'hi).toNat:=by rw[hx];omega
    have hdh:=decode_high s i hi hhi
    have hsk:=decode_skip s i hi hhi
    have hnx:=fun ty=>run_next_any_at (P:=P) wr w.heap.size s i ty hk hi
    obtain⟨rk,hrk⟩:∃rk,Utf8.decode s i=rk:=⟨_,rfl⟩
    obtain⟨r,k⟩:=rk
    rw[hrk] at hnx hsk hdh
    simp only at hnx hsk hdh
    have HK:Aside ((wr.iterAt w.heap.size s (i+k)).heap[w.heap.size]? =some (.stringIter s (i+k))):=iterAt_heap wr _ s i (i+k) hk
    have HB':Aside (Below w.heap.size w (wr.iterAt w.heap.size s (i+k))):=below_iterAt HB.out (Nat.le_refl _) _ _
    have HNk:Aside (Lib.NoAny s.data.toList [47,0] (i+k)):=noany_skip HN.out hsk.2
    have hle:=hsk.1
    have hlt:w.heap.size < (wr.iterAt w.heap.size s (i+k)).heap.size:=(Array.getElem?_eq_some_iff.1 HK.out).1
    have HL:Aside (w.heap.size < (wr.iterAt w.heap.size s (i+k)).heap.size):=hlt
    clear hsk hx hxl hrk hlt
    go_wp2_with (go_at_fn (ρ.f 152);refine (indexRune_high {L with} _ _ (by omega)).mono ?_;rintro e w' ⟨rfl,hw⟩)
    go_roundg (s.size - (i+k))
    case measure=>omega
    case rel=>exact⟨i+k,by omega,(hw.block _ HL.out).trans HK.out,HB'.out.trans (hw.mono HB'.out.size),HNk.out⟩
theorem containsAny_two (L:Lays.n150 P ρ) (hv116:∀w,(zeroValue (ρ.t 116)).run P w=.ok (.agg (Array.replicate 256 (.bool false))) w) (hi116:(P.info? (ρ.t 116)).map (·.size)=some 256) (s:ByteArray) (w:World) (hs:s.size < 4294967281):
  Calls P (ρ.f 150) #[.string s,.string ⟨#[47,0]⟩] w fun e w'=>e=.returned (.bool (decide (0≤Lib.indexAny s.data.toList [47,0])))∧Below w.heap.size w w':=by
 have hac:∀(j:Nat) b,(⟨#[47,0]⟩:ByteArray).data.toList[j]? =some b→b.toNat < 128:=by
  intro j b h
  have hm:b∈([47,0]:List UInt8):=List.mem_of_getElem? h
  simp at hm
  rcases hm with rfl|rfl<;>decide
 have c:Calls P (ρ.f 153) #[.string s,.string ⟨#[47,0]⟩] w fun e w'=>e=.returned (.int .i64 (Lib.indexAny s.data.toList [47,0]))∧Below w.heap.size w w':=by
  by_cases h8:s.size≤8
  ·exact indexAny_short {L with} s w h8
  ·refine (Any.strings_IndexAny_long {L with} hv116 hi116 s ⟨#[47,0]⟩ w (by show 2≤2;omega) (by omega) hs (by show 2 < 4294967281;omega) hac).mono fun e w' ⟨h1,h2⟩=>⟨h1,?_⟩
   rw[h2]
   exact ((Below.refl _ _).alloc (Nat.le_refl _) _).alloc (by simp) _
 have t3:=L.t3;have a3:=L.a3;have z3:=L.z3;have v3:=L.v3
 have t4:=L.t4;have a4:=L.a4;have z4:=L.z4;have v4:=L.v4
 have t9:=L.t9;have a9:=L.a9;have z9:=L.z9;have v9:=L.v9
 have e153:∀args w,(callFunc (ρ.f 153) args).run P w=.ok (.enter (ρ.f 153) args) w:=enters_of L.f153 (by kernel_rfl) rfl
 go_enter L.f150,Body.n150_ntmps ρ
 go_wp2_with (go_at_fn (ρ.f 153);refine c.mono ?_;rintro e w' ⟨rfl,hw⟩)
 go_ret
 exact⟨rfl,hw⟩
theorem indexAny_neg (s:List UInt8):decide (0≤Lib.indexAny s [47,0])=s.any fun b=>b==47||b==0:=by
 induction s with
 |nil=>rfl
 |cons b l ih=>
  unfold Lib.indexAny
  have hc:([47,0]:List UInt8).contains b=(b==47||b==0):=by
   simp only[List.contains_cons,List.contains_nil,Bool.or_false]
  rw[hc,List.any_cons,←ih]
  cases hb:(b==47||b==0)
  ·have hge:=Lib.indexAny_ge [47,0] l
   simp only[Bool.false_eq_true,if_false,Bool.false_or]
   split
   ·rename_i h
    have:=beq_iff_eq.1 h
    simp[this]
   ·rename_i h
    have:¬Lib.indexAny l [47,0]=-1:=fun e=>h (beq_iff_eq.2 e)
    apply decide_eq_decide.2
    omega
  ·simp
end Go.Ab
namespace Go.Ab
open Go.Shelf Go.RowKit Go.Proofs
theorem apure_calls {P:Program} {g:FuncId} {args:List AV} {r:AV} (he:Enters P g) (h:∀(μ:Mu) (F:Frm) (w:World) (vs:Array Value),Fit μ F w→RepL μ F w args vs→
  Calls P g vs w fun e w'=>∃v,e=.returned v∧Below w.heap.size w w'∧Rep μ F w' r v):APure P g args r:=by
 intro M
 refine⟨he,fun μ F w vs hg hv=>(h μ F w vs hg.fit hv).mono ?_⟩
 rintro e w' ⟨v,rfl,hb,hr⟩
 exact⟨μ,M,Evo.of_below μ hb,hg.below hb,r,hr,rfl,rfl⟩
theorem args_ss {μ:Mu} {F:Frm} {w:World} {a b:List UInt8} {vs:Array Value} (h:RepL μ F w [.str a,.str b] vs):vs=#[.string ⟨a.toArray⟩,.string ⟨b.toArray⟩]:=by
 obtain⟨hl,hr⟩:=h
 match vs,hl with
 |⟨[x,y]⟩,_=>
  have h1:=hr 0 _ x rfl rfl
  have h2:=hr 1 _ y rfl rfl
  cases h1
  cases h2
  rfl
theorem rep_new_strs {μ:Mu} {F:Frm} {w:World} (hf:Fit μ F w) (l:List (List UInt8)) (ty:TypeId):
  Rep μ F (w.alloc (.cells ((l.map fun s=>Value.string ⟨s.toArray⟩).toArray) ty)) (.sl 1 (l.map .str) .none) (.slice (some ⟨w.heap.size,0,none⟩) l.length l.length):=by
 have hlen:(l.map AV.str).length=l.length:=by simp
 rw[←hlen]
 have key:∀(i:Nat) (x:AV) (j:Nat) (c:AV),(l.map AV.str)[i]? =some x→x.cells[j]? =some c→∃s,l[i]? =some s∧j=0∧c=.str s:=by
  intro i x j c hx hc
  simp only[List.getElem?_map,Option.map_eq_some_iff] at hx
  obtain⟨s,hs,rfl⟩:=hx
  cases j with
  |zero=>simp[AV.cells] at hc;exact⟨s,hs,rfl,hc.symm⟩
  |succ j=>simp[AV.cells] at hc
 refine .sl 1 _ .none _ _ ⟨w.heap.size,0,none⟩ (fun k=>Value.string ⟨(l.getD k []).toArray⟩) ?_ (Nat.le_refl _) (fun _=>⟨rfl,rfl⟩) ?_ ?_ ?_ trivial
 ·intro x hx
  obtain⟨s,_,rfl⟩:=List.mem_map.1 hx
  rfl
 ·intro i x j c _ _
  rfl
 ·intro i x j c hx hc
  obtain⟨s,hs,rfl,rfl⟩:=key i x j c hx hc
  refine⟨?_,hf.new (Nat.le_refl _)⟩
  have hb:(w.alloc (.cells ((l.map fun s=>Value.string ⟨s.toArray⟩).toArray) ty)).heap[w.heap.size]? =some (.cells ((l.map fun s=>Value.string ⟨s.toArray⟩).toArray) ty (0,0)):=Array.getElem?_push_size
  rw[cell_mk hb]
  simp[hs]
 ·intro i x j c hx hc
  obtain⟨s,hs,rfl,rfl⟩:=key i x j c hx hc
  simp[hs]
  exact .str s
def splitOn (c:UInt8):List UInt8→List (List UInt8)
 |[]=>[[]]
 |b::l=>if b=c then []::splitOn c l else
  match splitOn c l with
  |[]=>[[b]]
  |p::r=>(b::p)::r
theorem index_cons (b c:UInt8) (l:List UInt8) (h:b≠c):Lib.index (b::l) [c]=if Lib.index l [c]==-1 then -1 else Lib.index l [c]+1:=by
 rw[Lib.index]
 have:([c]:List UInt8).isPrefixOf (b::l)=false:=by simp[List.isPrefixOf,Ne.symm h]
 rw[this]
 simp
theorem splitK_one (c:UInt8):∀s:List UInt8,Lib.splitK [c] 0 (Lib.count s [c]) s=splitOn c s
 |[]=>rfl
 |b::l=>by
  have ih:=splitK_one c l
  by_cases h:b=c
  ·subst h
   rw[Lib.count_cons_eq,Nat.add_comm]
   have hi:Lib.index (b::l) [b]=0:=by rw[Lib.index];simp[List.isPrefixOf]
   unfold Lib.splitK splitOn
   rw[if_pos rfl,hi]
   simp[ih]
  ·rw[Lib.count_cons_ne b c l h]
   unfold splitOn
   rw[if_neg h,←ih]
   cases hk:Lib.count l [c] with
   |zero=>rfl
   |succ k=>
    unfold Lib.splitK
    rw[index_cons b c l h]
    by_cases hm:Lib.index l [c]=-1
    ·simp[hm]
    ·have hge:=Lib.index_ge l [c]
     have h1:(Lib.index l [c]==-1)=false:=by simpa using hm
     have h2:(Lib.index l [c]+1==-1)=false:=by simp;omega
     have h3:(Lib.index l [c]+1).toNat=(Lib.index l [c]).toNat+1:=by omega
     simp only[h1,h2,h3,Bool.false_eq_true,if_false]
     simp[Nat.add_right_comm]
theorem split_ok {P:Program} {ρ:Ren} (L:Lays.n146 P ρ) (hi9:(P.info? (ρ.t 9)).map (fun i=>(i.zero,i.size,i.bytes))=some (some (.string ByteArray.empty),1,16)) (he:Enters P (ρ.f 146)) (s:List UInt8) (c:UInt8) (hs:s.length < 4294967281):
  APure P (ρ.f 146) [.str s,.str [c]] (.sl 1 ((splitOn c s).map .str) .none):=by
 refine apure_calls he fun μ F w vs hf hv=>?_
 rw[args_ss hv]
 have t3:=L.t3;have t9:=L.t9;have t31:=L.t31
 have a3:=L.a3;have a9:=L.a9;have a31:=L.a31
 have z3:=L.z3;have v3:=L.v3;have z9:=L.z9;have v9:=L.v9;have z31:=L.z31;have v31:=L.v31
 have hle:=Lib.countB_le ⟨#[c]⟩ (Nat.le_refl 1) (⟨s.toArray⟩:ByteArray).size ⟨s.toArray⟩ (Nat.le_refl _)
 have hlen:=Lib.splitB_all ⟨#[c]⟩ (Nat.le_refl 1) 0 _ ⟨s.toArray⟩ rfl
 have hsz:(⟨s.toArray⟩:ByteArray).size < 4294967281:=by simpa [ByteArray.size] using hs
 have g:=Any.strings_genSplit_core {L with} hi9 ⟨s.toArray⟩ ⟨#[c]⟩ 0 (-1) (Lib.countB ⟨s.toArray⟩ ⟨#[c]⟩+1) w hsz (Nat.le_refl 1) (Nat.zero_le _)
  (fun x cc hx=>(Any.strings_Index_one {L with} x c _).mono fun e w' ⟨h1,h2⟩=>⟨by rw[h1,Lib.indexB,Lib.index_one],h2⟩)
  ((Any.strings_Count_one {L with} ⟨s.toArray⟩ c w).mono fun e w' ⟨h1,h2⟩=>⟨by rw[h1,Lib.countB,Lib.count_one];rfl,h2⟩) (by decide) (by decide) (by rw[if_pos (by decide)];omega)
 rw[Nat.add_sub_cancel,hlen] at g
 have e2:Lib.cellsOf (Lib.splitB ⟨#[c]⟩ 0 (Lib.countB ⟨s.toArray⟩ ⟨#[c]⟩) ⟨s.toArray⟩) (Lib.countB ⟨s.toArray⟩ ⟨#[c]⟩+1)=((splitOn c s).map fun s=>Value.string ⟨s.toArray⟩).toArray:=by
  rw[←hlen,Lib.cellsOf_full]
  have h1:=Lib.splitB_data ⟨#[c]⟩ 0 (Lib.countB ⟨s.toArray⟩ ⟨#[c]⟩) ⟨s.toArray⟩
  have h2:=splitK_one c s
  have h3:Lib.splitK [c] 0 (Lib.countB ⟨s.toArray⟩ ⟨#[c]⟩) s=splitOn c s:=h2
  rw[show ((⟨#[c]⟩:ByteArray).data.toList)=[c] from rfl,show ((⟨s.toArray⟩:ByteArray).data.toList)=s from rfl,h3] at h1
  rw[←h1]
  simp
 have e3:Lib.countB ⟨s.toArray⟩ ⟨#[c]⟩+1=(splitOn c s).length:=by
  rw[←hlen]
  have h1:=congrArg List.length (Lib.splitB_data ⟨#[c]⟩ 0 (Lib.countB ⟨s.toArray⟩ ⟨#[c]⟩) ⟨s.toArray⟩)
  rw[List.length_map] at h1
  rw[h1]
  have h2:=splitK_one c s
  exact congrArg List.length h2
 rw[e2,e3] at g
 have e221:∀args w,(callFunc (ρ.f 221) args).run P w=.ok (.enter (ρ.f 221) args) w:=enters_of L.f221 (by kernel_rfl) rfl
 go_enter L.f146,Body.n146_ntmps ρ
 go_wp2_with (go_at_fn (ρ.f 221);refine g.mono ?_;rintro e w' ⟨rfl,hw⟩;rw[hw])
 go_ret
 exact⟨_,rfl,(Below.refl _ _).alloc (Nat.le_refl _) _,rep_new_strs hf (splitOn c s) (ρ.t 9)⟩
theorem containsAny_ok {P:Program} {ρ:Ren} (L:Lays.n150 P ρ) (h116:(P.info? (ρ.t 116)).map (fun i=>(i.zero,i.size))=some (some (.agg (Array.replicate 256 (.bool false))),256)) (he:Enters P (ρ.f 150)) (s:List UInt8) (hs:s.length < 4294967281):
  APure P (ρ.f 150) [.str s,.str [47,0]] (.bool (s.any fun b=>b==47||b==0)):=by
 refine apure_calls he fun μ F w vs hf hv=>?_
 rw[args_ss hv,←indexAny_neg]
 refine (containsAny_two L (zero_of_info h116).1 (zero_of_info h116).2 ⟨s.toArray⟩ w (by simpa [ByteArray.size] using hs)).mono ?_
 rintro e w' ⟨rfl,hb⟩
 exact⟨_,rfl,hb,.bool _⟩
end Go.Ab
namespace Go.Proofs.YtbcaejhhgkcgpaaGreatDoor
open Go.Proofs Go.Shelf
def ren:Go.Shelf.Ren:=⟨fun|106=>107|119=>282|137=>281|138=>249|143=>250|146=>206|150=>235|152=>269|153=>251|169=>64|195=>265|197=>266|213=>173|217=>277|218=>267|219=>268|221=>234|224=>279|225=>278|226=>270|227=>271|228=>272|240=>116|260=>276|265=>213|266=>284|267=>280|268=>248|276=>176|314=>285|n=>n,fun|0=>0|3=>3|4=>4|5=>5|9=>9|20=>20|21=>21|31=>67|37=>91|46=>146|51=>202|70=>90|72=>93|105=>303|116=>308|117=>309|119=>317|124=>315|127=>156|138=>319|139=>320|146=>321|164=>208|n=>n,fun|1=>0|3=>1|4=>2|n=>n⟩
theorem lays146:Lays.n146 Tryz.prog ren:={ 
 mixed:=by kernel_rfl
 f138:=Tryz.func249.trans (congrArg some (by kernel_rfl))
 f143:=Tryz.func250.trans (congrArg some (by kernel_rfl))
 f146:=Tryz.func206.trans (congrArg some (by kernel_rfl))
 f195:=Tryz.func265.trans (congrArg some (by kernel_rfl))
 f197:=Tryz.func266.trans (congrArg some (by kernel_rfl))
 f217:=Tryz.func277.trans (congrArg some (by kernel_rfl))
 f218:=Tryz.func267.trans (congrArg some (by kernel_rfl))
 f219:=Tryz.func268.trans (congrArg some (by kernel_rfl))
 f221:=Tryz.func234.trans (congrArg some (by kernel_rfl))
 f224:=Tryz.func279.trans (congrArg some (by kernel_rfl))
 f225:=Tryz.func278.trans (congrArg some (by kernel_rfl))
 f260:=Tryz.func276.trans (congrArg some (by kernel_rfl))
 f266:=Tryz.func284.trans (congrArg some (by kernel_rfl))
 f267:=Tryz.func280.trans (congrArg some (by kernel_rfl))
 f268:=Tryz.func248.trans (congrArg some (by kernel_rfl))
 f314:=Tryz.func285.trans (congrArg some (by kernel_rfl))
 t0:=Tryz.underlying0
 a0:=Tryz.isAgg0
 z0:=Tryz.sizeOf0
 v0:=Tryz.zeroValue0
 t3:=Tryz.underlying3
 a3:=Tryz.isAgg3
 z3:=Tryz.sizeOf3
 v3:=Tryz.zeroValue3
 t4:=Tryz.underlying4
 a4:=Tryz.isAgg4
 z4:=Tryz.sizeOf4
 v4:=Tryz.zeroValue4
 t5:=Tryz.underlying5
 a5:=Tryz.isAgg5
 z5:=Tryz.sizeOf5
 v5:=Tryz.zeroValue5
 t9:=Tryz.underlying9
 a9:=Tryz.isAgg9
 z9:=Tryz.sizeOf9
 v9:=Tryz.zeroValue9
 t21:=Tryz.underlying21
 a21:=Tryz.isAgg21
 z21:=Tryz.sizeOf21
 v21:=Tryz.zeroValue21
 t31:=Tryz.underlying67
 a31:=Tryz.isAgg67
 z31:=Tryz.sizeOf67
 v31:=Tryz.zeroValue67
 t46:=Tryz.underlying146
 a46:=Tryz.isAgg146
 z46:=Tryz.sizeOf146
 v46:=Tryz.zeroValue146
 t51:=Tryz.underlying202
 a51:=Tryz.isAgg202
 z51:=Tryz.sizeOf202
 v51:=Tryz.zeroValue202
 t105:=Tryz.underlying303
 a105:=Tryz.isAgg303
 z105:=Tryz.sizeOf303
 v105:=Tryz.zeroValue303
 t119:=Tryz.underlying317
 a119:=Tryz.isAgg317
 z119:=Tryz.sizeOf317
 t138:=Tryz.underlying319
 a138:=Tryz.isAgg319
 z138:=Tryz.sizeOf319
 v138:=Tryz.zeroValue319
 t139:=Tryz.underlying320
 a139:=Tryz.isAgg320
 z139:=Tryz.sizeOf320
 v139:=Tryz.zeroValue320
 t146:=Tryz.underlying321
 a146:=Tryz.isAgg321
 z146:=Tryz.sizeOf321
 v146:=Tryz.zeroValue321
 g1:=by kernel_rfl
 g3:=by kernel_rfl
 g4:=by kernel_rfl}
theorem lays150:Lays.n150 Tryz.prog ren:={lays146 with
 f119:=Tryz.func282.trans (congrArg some (by kernel_rfl))
 f137:=Tryz.func281.trans (congrArg some (by kernel_rfl))
 f150:=Tryz.func235.trans (congrArg some (by kernel_rfl))
 f152:=Tryz.func269.trans (congrArg some (by kernel_rfl))
 f153:=Tryz.func251.trans (congrArg some (by kernel_rfl))
 f226:=Tryz.func270.trans (congrArg some (by kernel_rfl))
 f227:=Tryz.func271.trans (congrArg some (by kernel_rfl))
 f228:=Tryz.func272.trans (congrArg some (by kernel_rfl))
 t116:=Tryz.underlying308
 a116:=Tryz.isAgg308
 z116:=Tryz.sizeOf308
 t117:=Tryz.underlying309
 a117:=Tryz.isAgg309
 z117:=Tryz.sizeOf309
 v117:=Tryz.zeroValue309
 t124:=Tryz.underlying315
 a124:=Tryz.isAgg315
 z124:=Tryz.sizeOf315
 v124:=Tryz.zeroValue315}
theorem lays240:Lays.n240 Tryz.prog ren:={lays150 with
 f240:=Tryz.func116.trans (congrArg some (by kernel_rfl))
 f276:=Tryz.func176.trans (congrArg some (by kernel_rfl))
 t20:=Tryz.underlying20
 a20:=Tryz.isAgg20
 z20:=Tryz.sizeOf20
 v20:=Tryz.zeroValue20
 t70:=Tryz.underlying90
 a70:=Tryz.isAgg90
 z70:=Tryz.sizeOf90
 v70:=Tryz.zeroValue90
 t72:=Tryz.underlying93
 a72:=Tryz.isAgg93
 z72:=Tryz.sizeOf93
 v72:=Tryz.zeroValue93
 t164:=Tryz.underlying208
 a164:=Tryz.isAgg208
 z164:=Tryz.sizeOf208
 v164:=Tryz.zeroValue208}
theorem lays169:Lays.n169 Tryz.prog ren:={lays240,lays150 with
 f169:=Tryz.func64.trans (congrArg some (by kernel_rfl))
 t37:=Tryz.underlying91
 a37:=Tryz.isAgg91
 z37:=Tryz.sizeOf91
 v37:=Tryz.zeroValue91
 t127:=Tryz.underlying156
 a127:=Tryz.isAgg156
 z127:=Tryz.sizeOf156
 v127:=Tryz.zeroValue156}
theorem lays106:Lays.n106 Tryz.prog ren:={lays169 with
 f106:=Tryz.func107.trans (congrArg some (by kernel_rfl))
 f213:=Tryz.func173.trans (congrArg some (by kernel_rfl))
 f265:=Tryz.func213.trans (congrArg some (by kernel_rfl))}
theorem laysX:Builder.Extra Tryz.prog ren:={lays146,lays150 with
 sizeBuilder:=by kernel_rfl
 liesBuilder:=by kernel_rfl
 infoByte:=by kernel_rfl
 cellsByte:=by kernel_rfl
 sizeByte:=by kernel_rfl
 neB5:=by decide}
end Go.Proofs.YtbcaejhhgkcgpaaGreatDoor
namespace Go.Proofs.YtbcaejhhgkcgpaaGreatDoor
open Go.Ab
theorem split47_ok (s:Bytes) (hs:s.length < 4294967281):APure Tryz.prog 206 [.str s,.str [47]] (.sl 1 ((splitOn 47 s).map .str) .none):=
 split_ok lays146 (by kernel_rfl) ⟨_,_,Tryz.func206,rfl,by decide⟩ s 47 hs
theorem any470_ok (s:Bytes) (hs:s.length < 4294967281):APure Tryz.prog 235 [.str s,.str [47,0]] (.bool (s.any fun b=>b==47||b==0)):=
 containsAny_ok lays150 (by kernel_rfl) ⟨_,_,Tryz.func235,rfl,by decide⟩ s hs
end Go.Proofs.YtbcaejhhgkcgpaaGreatDoor
namespace Go.Proofs.YtbcaejhhgkcgpaaGreatDoor
open Go.Ab
def isNameB (s:Bytes):Bool:=!(s==[])&&decide (s.length≤30)&&!(s==[46])&&!(s==[46,46])&&!(s.any fun b=>b==47||b==0)
set_option maxRecDepth 100000 in
theorem isName_ok (s:Bytes) (hs:s.length < 4294967281):APure Tryz.prog 207 [.str s] (.bool (isNameB s)):=by
 intro M
 refine acalls_of tabOK Tryz.func207 rfl (by decide) (by simp[Tryz.f207]) ?_
 have k:=any470_ok s hs
 unfold isNameB
 cases h1:s==[]
 ·have n1:(!(s==[]))=true:=by rw[h1];rfl
  cases h2:decide (s.length≤30)
  ·have d2:decide ((s.length:Int)≤30)=false:=by
    simp at h2 ⊢
    omega
   repeat' (first|refine DW_VB tabs rfl (by first|exact n1|exact d2) ?_|refine DW_A tabs rfl ?_|refine DW_nil ?_|refine W_A rfl ?_)
   exact⟨rfl,_,rfl,rfl,rfl⟩
  ·have d2:decide ((s.length:Int)≤30)=true:=by
    simp at h2 ⊢
    omega
   cases h3:s==[46]
   ·have n3:(!(s==[46]))=true:=by rw[h3];rfl
    cases h4:s==[46,46]
    ·have n4:(!(s==[46,46]))=true:=by rw[h4];rfl
     repeat' (first|refine DW_VB tabs rfl (by first|exact n1|exact d2|exact n3|exact n4) ?_|refine DW_A tabs rfl ?_|refine DW_nil ?_|refine W_A rfl ?_)
     refine DW_pure rfl rfl rfl rfl rfl k ?_
     repeat' (first|refine DW_A tabs rfl ?_|refine DW_nil ?_|refine W_A rfl ?_)
     exact⟨rfl,_,rfl,rfl,rfl⟩
    ·have n4:(!(s==[46,46]))=false:=by rw[h4];rfl
     repeat' (first|refine DW_VB tabs rfl (by first|exact n1|exact d2|exact n3|exact n4) ?_|refine DW_A tabs rfl ?_|refine DW_nil ?_|refine W_A rfl ?_)
     exact⟨rfl,_,rfl,rfl,rfl⟩
   ·have n3:(!(s==[46]))=false:=by rw[h3];rfl
    repeat' (first|refine DW_VB tabs rfl (by first|exact n1|exact d2|exact n3) ?_|refine DW_A tabs rfl ?_|refine DW_nil ?_|refine W_A rfl ?_)
    exact⟨rfl,_,rfl,rfl,rfl⟩
 ·have n1:(!(s==[]))=false:=by rw[h1];rfl
  repeat' (first|refine DW_VB tabs rfl n1 ?_|refine DW_A tabs rfl ?_|refine DW_nil ?_|refine W_A rfl ?_)
  exact⟨rfl,_,rfl,rfl,rfl⟩
def isPathB (s:Bytes):Bool:=s==[]||((splitOn 47 s).all isNameB&&decide (s.length≤100))
theorem splitOn_len (c:UInt8):∀s:Bytes,(splitOn c s).length≤s.length+1∧∀p,p∈splitOn c s→p.length≤s.length
 |[]=>⟨by simp[splitOn],by simp[splitOn]⟩
 |b::l=>by
  have ih:=splitOn_len c l
  unfold splitOn
  split
  ·refine⟨by simp;omega,fun p hp=>?_⟩
   rcases List.mem_cons.1 hp with rfl|hp
   ·simp
   ·have:=ih.2 p hp
    simp;omega
  ·split
   ·simp
   ·rename_i p r hr
    rw[hr] at ih
    refine⟨by simp at ih ⊢;omega,fun q hq=>?_⟩
    rcases List.mem_cons.1 hq with rfl|hq
    ·have:=ih.2 p (by simp)
     simp;omega
    ·have:=ih.2 q (by simp[hq])
     simp;omega
set_option maxRecDepth 100000 in
theorem isPath_ok (s:Bytes) (hs:s.length < 4294967281):APure Tryz.prog 162 [.str s] (.bool (isPathB s)):=by
 intro M
 refine acalls_of tabOK Tryz.func162 rfl (by decide) (by simp[Tryz.f162]) ?_
 have k:=split47_ok s hs
 have kl:=splitOn_len 47 s
 unfold isPathB
 cases h1:s==[]
 ·generalize splitOn 47 s=l at k kl
  have la:((l.map AV.str).length:Int)=(l.length:Int):=by simp
  repeat' (first|refine DW_VB tabs rfl h1 ?_|refine DW_A tabs rfl ?_|refine DW_nil ?_|refine W_A rfl ?_)
  refine DW_pure rfl rfl rfl rfl rfl k ?_
  repeat' (first|refine DW_VI tabs rfl la ?_|refine DW_A tabs rfl ?_|refine DW_nil ?_|refine W_A rfl ?_)
  refine W_count l.length (fun i f N=>N=M∧(l.take i).all isNameB=true∧f=⟨[(0,.str s),(8,.sl 1 (l.map AV.str) .none),(9,.int .i64 (l.length:Int)),(10,.int .i64 (i:Int))],[]⟩) (Nat.zero_le _) ⟨rfl,by simp,rfl⟩ (Joint.le ?_ (Mem.le_refl _)) ?_
  ·skip
   repeat (refine AF.le_cons rfl ?_)
   exact AF.le_nil rfl
  ·rintro i f N hi ⟨rfl,hpre,rfl⟩
   by_cases h2:i < l.length
   ·have d1:decide ((i:Int) < (l.length:Int))=true:=by simp;omega
    have hx:l[i]? =some l[i]:=List.getElem?_eq_getElem h2
    have fi:=wrap_succ (i:=i) (by omega)
    have ht:=take_succ hx
    generalize l[i]=e at hx ht
    have he:=kl.2 e (List.mem_of_getElem? hx)
    have ke:=isName_ok e (by omega)
    cases h3:isNameB e
    ·have hall:l.all isNameB=false:=List.all_eq_false.2 ⟨e,List.mem_of_getElem? hx,by simp[h3]⟩
     rw[h3] at ke
     rw[hall]
     repeat' (first|refine DW_VB tabs rfl d1 ?_|refine DW_VI tabs rfl (by first|exact la|exact fi) ?_|refine DW_A tabs rfl ?_|refine DW_nil ?_|refine W_A rfl ?_)
     refine DW_ix tabOK rfl (ixN hx) ?_
     repeat' (first|refine DW_VB tabs rfl d1 ?_|refine DW_VI tabs rfl (by first|exact la|exact fi) ?_|refine DW_A tabs rfl ?_|refine DW_nil ?_|refine W_A rfl ?_)
     refine DW_pure rfl rfl rfl rfl rfl ke ?_
     repeat' (first|refine DW_VI tabs rfl (by first|exact la|exact fi) ?_|refine DW_A tabs rfl ?_|refine DW_nil ?_|refine W_A rfl ?_)
     exact⟨rfl,_,rfl,rfl,rfl⟩
    ·rw[h3] at ke
     repeat' (first|refine DW_VB tabs rfl d1 ?_|refine DW_VI tabs rfl (by first|exact la|exact fi) ?_|refine DW_A tabs rfl ?_|refine DW_nil ?_|refine W_A rfl ?_)
     refine DW_ix tabOK rfl (ixN hx) ?_
     repeat' (first|refine DW_VB tabs rfl d1 ?_|refine DW_VI tabs rfl (by first|exact la|exact fi) ?_|refine DW_A tabs rfl ?_|refine DW_nil ?_|refine W_A rfl ?_)
     refine DW_pure rfl rfl rfl rfl rfl ke ?_
     repeat' (first|refine DW_VI tabs rfl (by first|exact la|exact fi) ?_|refine DW_A tabs rfl ?_|refine DW_nil ?_|refine W_A rfl ?_)
     refine⟨h2,_,_,⟨rfl,?_,rfl⟩,Joint.le ?_ (Mem.le_refl _)⟩
     ·rw[ht,List.all_append,hpre]
      simp[h3]
     ·skip
      repeat (refine AF.le_cons rfl ?_)
      exact AF.le_nil rfl
   ·have d1:decide ((i:Int) < (l.length:Int))=false:=by simp;omega
    have hl2:l.take i=l:=List.take_of_length_le (by omega)
    rw[hl2] at hpre
    rw[hpre]
    repeat' (first|refine DW_VB tabs rfl d1 ?_|refine DW_VI tabs rfl la ?_|refine DW_A tabs rfl ?_|refine DW_nil ?_|refine W_A rfl ?_)
    exact⟨rfl,_,rfl,ret_bool (by rw[Bool.true_and,Bool.false_or];exact decide_eq_decide.2 (by omega)),rfl⟩
 ·repeat' (first|refine DW_VB tabs rfl h1 ?_|refine DW_A tabs rfl ?_|refine DW_nil ?_|refine W_A rfl ?_)
  exact⟨rfl,_,rfl,rfl,rfl⟩
end Go.Proofs.YtbcaejhhgkcgpaaGreatDoor
namespace Go.Proofs.YtbcaejhhgkcgpaaGreatDoor
open Go.Ab
theorem len_map {α:Type} (f:α→AV) (l:List α):((l.map f).length:Int)=(l.length:Int):=by simp
theorem take_all {α:Type} (l:List α):l.take l.length=l:=List.take_length
def byteAt (n j:Nat):UInt8:=UInt8.ofNat (n/256^j%256)
def be4 (n:Nat):Bytes:=[byteAt n 3,byteAt n 2,byteAt n 1,byteAt n 0]
theorem byteAt_u8 (n j:Nat) (x:Int) (hx:x=((n/256^j:Nat):Int)):IntKind.wrap .u8 x=((byteAt n j).toNat:Int):=by
 subst hx
 have e:(2:Int)^IntKind.u8.bits=256:=rfl
 have:IntKind.u8.signed=false:=rfl
 simp only[IntKind.wrap,e,this,Bool.false_and,Bool.false_eq_true,if_false,byteAt,UInt8.toNat_ofNat']
 generalize n/256^j=m
 omega
theorem byteAt_u8m (n j:Nat) (x:Int) (hx:x=((n/256^j%256:Nat):Int)):IntKind.wrap .u8 x=((byteAt n j).toNat:Int):=by
 subst hx
 have e:(2:Int)^IntKind.u8.bits=256:=rfl
 have:IntKind.u8.signed=false:=rfl
 simp only[IntKind.wrap,e,this,Bool.false_and,Bool.false_eq_true,if_false,byteAt,UInt8.toNat_ofNat']
 generalize n/256^j=m
 omega
theorem fdiv_pow (n:Nat) (m:Nat):Int.fdiv (n:Int) ((2:Int)^m)=((n/2^m:Nat):Int):=by
 have:((2:Int)^m)=((2^m:Nat):Int):=by push_cast;rfl
 rw[this]
 exact Int.fdiv_eq_ediv_of_nonneg _ (Int.natCast_nonneg _)
theorem tmod_256 (m:Nat):Int.tmod (m:Int) 256=((m%256:Nat):Int):=Int.tmod_eq_emod_of_nonneg (Int.natCast_nonneg _)
def num (l:Bytes):Nat:=l.foldl (fun n b=>n*256+b.toNat) 0
theorem num_app (l:Bytes) (b:UInt8):num (l++[b])=num l*256+b.toNat:=by simp[num]
theorem num_lt:∀(k:Nat) (l:Bytes),l.length≤k→num l < 256^k:=by
 intro k
 induction k with
 |zero=>
  intro l h
  have:l=[]:=List.eq_nil_of_length_eq_zero (by omega)
  subst this
  simp[num]
 |succ k ih=>
  intro l h
  rcases List.eq_nil_or_concat l with rfl|⟨m,b,rfl⟩
  ·have:0 < 256^(k+1):=Nat.pow_pos (by omega)
   simpa [num] using this
  ·rw[List.concat_eq_append,num_app]
   have h1:=ih m (by simp at h;omega)
   have h2:=b.toNat_lt
   rw[Nat.pow_succ]
   omega
theorem or_256 (n:Nat) (b:UInt8) (hn:n < 1000000000000):IntKind.wrap .i64 ((BitVec.ofInt IntKind.i64.bits ((n*256:Nat):Int)|||BitVec.ofInt IntKind.i64.bits ((b.toNat:Nat):Int)).toNat)=((n*256+b.toNat:Nat):Int):=by
 have hb:=b.toNat_lt
 have e:IntKind.i64.bits=64:=rfl
 have h:(BitVec.ofInt IntKind.i64.bits ((n*256:Nat):Int)|||BitVec.ofInt IntKind.i64.bits ((b.toNat:Nat):Int)).toNat=n*256+b.toNat:=by
  rw[BitVec.toNat_or,BitVec.ofInt_natCast,BitVec.ofInt_natCast,BitVec.toNat_ofNat,BitVec.toNat_ofNat,e,Nat.mod_eq_of_lt (by omega),Nat.mod_eq_of_lt (by omega)]
  have:=Nat.shiftLeft_add_eq_or_of_lt (a:=n) (b:=b.toNat) (i:=8) (by omega)
  rw[Nat.shiftLeft_eq] at this
  exact this.symm
 rw[h]
 exact Go.Ab.wrap_small (by omega) (by omega)
theorem byte_i64 (b:UInt8):IntKind.wrap .i64 ((b.toNat:Nat):Int)=((b.toNat:Nat):Int):=by
 have:=b.toNat_lt
 exact Go.Ab.wrap_small (by omega) (by omega)
theorem take_drop_succ {s:Bytes} {i e:Nat} {b:UInt8} (he:e≤i) (hb:s[i]? =some b):(s.take (i+1)).drop e=(s.take i).drop e++[b]:=by
 have hi:=(List.getElem?_eq_some_iff.1 hb).1
 rw[take_succ hb,List.drop_append_of_le_length (by simp;omega)]
end Go.Proofs.YtbcaejhhgkcgpaaGreatDoor
