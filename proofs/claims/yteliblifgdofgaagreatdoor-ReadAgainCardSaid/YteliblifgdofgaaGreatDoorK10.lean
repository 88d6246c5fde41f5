/- Parts of the proof, one behind the other. No further condition. -/
import Derived.Test.YteliblifgdofgaaGreatDoorK09
import Derived.Shelf.Strings.Split
import Derived.Shelf.Strings.LastIndex
import Derived.Shelf.Strings.OnBuilder
import Derived.Test.YteliblifgdofgaaGreatDoorProg
import Derived.KernelRfl
set_option linter.unusedVariables false
set_option linter.unusedSimpArgs false
set_option maxRecDepth 100000
set_option maxHeartbeats 8000000
namespace Go.Ab
open Go.Shelf Go.RowKit Go.Proofs
theorem nF {P:Program} {g:FuncId} {args:List AV} {r:AV} (he:jM P g) (h:∀(μ:Mu) (F:c8) (w:World) (vs:Array Value),Fit μ F w→cN μ F w args vs→
  Calls P g vs w fun e w'=>∃v,e=.returned v∧Below w.heap.size w w'∧bP μ F w' r v):aO P g args r:=by
 intro M
 refine⟨he,fun μ F w vs hg hv=>(h μ F w vs hg.fit hv).mono ?_⟩
 rintro e w' ⟨v,rfl,hb,hr⟩
 exact⟨μ,M,dQ.of_below μ hb,hg.below hb,r,hr,rfl,rfl⟩
theorem PN {μ:Mu} {F:c8} {w:World} {a b:List UInt8} {vs:Array Value} (h:cN μ F w [.str a,.str b] vs):vs=#[.string ⟨a.toArray⟩,.string ⟨b.toArray⟩]:=by
 obtain⟨hl,hr⟩:=h
 match vs,hl with
 |⟨[x,y]⟩,_=>
  have h1:=hr 0 _ x rfl rfl
  have h2:=hr 1 _ y rfl rfl
  cases h1
  cases h2
  rfl
theorem E4 {μ:Mu} {F:c8} {w:World} (hf:Fit μ F w) (l:List (List UInt8)) (ty:TypeId):
  bP μ F (w.alloc (.cells ((l.map fun s=>Value.string ⟨s.toArray⟩).toArray) ty)) (.sl 1 (l.map .str) .none) (.slice (some ⟨w.heap.size,0,none⟩) l.length l.length):=by
 have hlen:(l.map AV.str).length=l.length:=by simp
 rw[←hlen]
 have key:∀(i:Nat) (x:AV) (j:Nat) (c:AV),(l.map AV.str)[i]? =some x→x.cells[j]? =some c→∃s,l[i]? =some s∧j=0∧c=.str s:=by
  intro i x j c hx hc
  simp only[List.getElem?_map,Option.map_eq_some_iff] at hx
  obtain⟨s,hs,rfl⟩:=hx
  cases j with
  |zero=>simp[AV.cells] at hc;exact⟨s,hs,rfl,hc.symm⟩
  |succ j=>simp[AV.cells] at hc
 refine .sl 1 _ .none _ _ ⟨w.heap.size,0,none⟩ (fun k=>Value.string ⟨(l.getD k []).toArray⟩) ?_ (Nat.le_refl _) (fun _=>⟨rfl,rfl⟩) ?_ ?_ ?_ trivial
 ·intro x hx
  obtain⟨s,_,rfl⟩:=List.mem_map.1 hx
  rfl
 ·intro i x j c _ _
  rfl
 ·intro i x j c hx hc
  obtain⟨s,hs,rfl,rfl⟩:=key i x j c hx hc
  refine⟨?_,hf.new (Nat.le_refl _)⟩
  have hb:(w.alloc (.cells ((l.map fun s=>Value.string ⟨s.toArray⟩).toArray) ty)).heap[w.heap.size]? =some (.cells ((l.map fun s=>Value.string ⟨s.toArray⟩).toArray) ty (0,0)):=Array.getElem?_push_size
  rw[cF hb]
  simp[hs]
 ·intro i x j c hx hc
  obtain⟨s,hs,rfl,rfl⟩:=key i x j c hx hc
  simp[hs]
  exact .str s
def c6 (c:UInt8):List UInt8→List (List UInt8)
 |[]=>[[]]
 |b::l=>if b=c then []::c6 c l else
  match c6 c l with
  |[]=>[[b]]
  |p::r=>(b::p)::r
theorem KV (b c:UInt8) (l:List UInt8) (h:b≠c):Lib.index (b::l) [c]=if Lib.index l [c]==-1 then -1 else Lib.index l [c]+1:=by
 rw[Lib.index]
 have:([c]:List UInt8).isPrefixOf (b::l)=false:=by simp[List.isPrefixOf,Ne.symm h]
 rw[this]
 simp
theorem qI (c:UInt8):∀s:List UInt8,Lib.splitK [c] 0 (Lib.count s [c]) s=c6 c s
 |[]=>rfl
 |b::l=>by
  have ih:=qI c l
  by_cases h:b=c
  ·subst h
   rw[Lib.count_cons_eq,Nat.add_comm]
   have hi:Lib.index (b::l) [b]=0:=by rw[Lib.index];simp[List.isPrefixOf]
   unfold Lib.splitK c6
   rw[if_pos rfl,hi]
   simp[ih]
  ·rw[Lib.count_cons_ne b c l h]
   unfold c6
   rw[if_neg h,←ih]
   cases hk:Lib.count l [c] with
   |zero=>rfl
   |succ k=>
    unfold Lib.splitK
    rw[KV b c l h]
    by_cases hm:Lib.index l [c]=-1
    ·simp[hm]
    ·have hge:=Lib.index_ge l [c]
     have h1:(Lib.index l [c]==-1)=false:=by simpa using hm
     have h2:(Lib.index l [c]+1==-1)=false:=by simp;omega
     have h3:(Lib.index l [c]+1).toNat=(Lib.index l [c]).toNat+1:=by omega
     simp only[h1,h2,h3,Bool.false_eq_true,if_false]
     simp[Nat.add_right_comm]
theorem UN {P:Program} {ρ:Ren} (L:Lays.n146 P ρ) (hi9:(P.info? (ρ.t 9)).map (fun i=>(i.zero,i.size,i.bytes))=some (some (.string ByteArray.empty),1,16)) (he:jM P (ρ.f 146)) (s:List UInt8) (c:UInt8) (hs:s.length < 4294967281):
  aO P (ρ.f 146) [.str s,.str [c]] (.sl 1 ((c6 c s).map .str) .none):=by
 refine nF he fun μ F w vs hf hv=>?_
 rw[PN hv]
 have t3:=L.t3;have t9:=L.t9;have t31:=L.t31
 have a3:=L.a3;have a9:=L.a9;have a31:=L.a31
 have z3:=L.z3;have v3:=L.v3;have z9:=L.z9;have v9:=L.v9;have z31:=L.z31;have v31:=L.v31
 have hle:=Lib.countB_le ⟨#[c]⟩ (Nat.le_refl 1) (⟨s.toArray⟩:ByteArray).size ⟨s.toArray⟩ (Nat.le_refl _)
 have hlen:=Lib.splitB_all ⟨#[c]⟩ (Nat.le_refl 1) 0 _ ⟨s.toArray⟩ rfl
 have hsz:(⟨s.toArray⟩:ByteArray).size < 4294967281:=by simpa [ByteArray.size] using hs
 have g:=Any.strings_genSplit_core {L with} hi9 ⟨s.toArray⟩ ⟨#[c]⟩ 0 (-1) (Lib.countB ⟨s.toArray⟩ ⟨#[c]⟩+1) w hsz (Nat.le_refl 1) (Nat.zero_le _)
  (fun x cc hx=>(Any.strings_Index_one {L with} x c _).mono fun e w' ⟨h1,h2⟩=>⟨by rw[h1,Lib.indexB,Lib.index_one],h2⟩)
  ((Any.strings_Count_one {L with} ⟨s.toArray⟩ c w).mono fun e w' ⟨h1,h2⟩=>⟨by rw[h1,Lib.countB,Lib.count_one];rfl,h2⟩) (by decide) (by decide) (by rw[if_pos (by decide)];omega)
 rw[Nat.add_sub_cancel,hlen] at g
 have e2:Lib.cellsOf (Lib.splitB ⟨#[c]⟩ 0 (Lib.countB ⟨s.toArray⟩ ⟨#[c]⟩) ⟨s.toArray⟩) (Lib.countB ⟨s.toArray⟩ ⟨#[c]⟩+1)=((c6 c s).map fun s=>Value.string ⟨s.toArray⟩).toArray:=by
  rw[←hlen,Lib.cellsOf_full]
  have h1:=Lib.splitB_data ⟨#[c]⟩ 0 (Lib.countB ⟨s.toArray⟩ ⟨#[c]⟩) ⟨s.toArray⟩
  have h2:=qI c s
  have h3:Lib.splitK [c] 0 (Lib.countB ⟨s.toArray⟩ ⟨#[c]⟩) s=c6 c s:=h2
  rw[show ((⟨#[c]⟩:ByteArray).data.toList)=[c] from rfl,show ((⟨s.toArray⟩:ByteArray).data.toList)=s from rfl,h3] at h1
  rw[←h1]
  simp
 have e3:Lib.countB ⟨s.toArray⟩ ⟨#[c]⟩+1=(c6 c s).length:=by
  rw[←hlen]
  have h1:=congrArg List.length (Lib.splitB_data ⟨#[c]⟩ 0 (Lib.countB ⟨s.toArray⟩ ⟨#[c]⟩) ⟨s.toArray⟩)
  rw[List.length_map] at h1
  rw[h1]
  have h2:=qI c s
  exact congrArg List.length h2
 rw[e2,e3] at g
 have e221:∀args w,(callFunc (ρ.f 221) args).run P w=.ok (.enter (ρ.f 221) args) w:=enters_of L.f221 (by kernel_rfl) rfl
 go_enter L.f146,Body.n146_ntmps ρ
 go_wp2_with (go_at_fn (ρ.f 221);refine g.mono ?_;rintro e w' ⟨rfl,hw⟩;rw[hw])
 go_ret
 exact⟨_,rfl,(Below.refl _ _).alloc (Nat.le_refl _) _,E4 hf (c6 c s) (ρ.t 9)⟩
def DQ (sep:List UInt8):List (List UInt8)→List UInt8
 |[]=>[]
 |[x]=>x
 |x::r=>x++sep++DQ sep r
theorem DS (sep:List UInt8):∀l:List (List UInt8),Lib.join l sep=DQ sep l
 |[]=>rfl
 |[x]=>by rw[Lib.join_one];rfl
 |x::y::r=>by
  have ih:=DS sep (y::r)
  rw[Lib.join_cons] at ih ⊢
  rw[DQ,←ih]
  ·simp[Lib.joinTail]
  ·simp
theorem EY {P:Program} {ρ:Ren} (L:Lays.n156 P ρ) (X:Builder.Extra P ρ) (he:jM P (ρ.f 156)) (l:List (List UInt8)) (t:eE) (sep:List UInt8) (hN:l.length≤140737488355328) (hlen:(DQ sep l).length≤140737488355328):
  aO P (ρ.f 156) [.sl 1 (l.map .str) t,.str sep] (.str (DQ sep l)):=by
 refine nF he fun μ F w vs hf hv=>?_
 obtain⟨hl,hr⟩:=hv
 match vs,hl with
 |⟨[x,y]⟩,_=>
  have h1:=hr 0 _ x rfl rfl
  have h2:=hr 1 _ y rfl rfl
  cases h2
  obtain⟨A,cap,ad,vals,rfl,g1,g2,g3,g4,g5,g6,g7⟩:=h1.sl_inv
  have hlen':(l.map AV.str).length=l.length:=by simp
  rw[hlen'] at g2 g3 ⊢
  by_cases h0:l=[]
  ·subst h0
   refine (Any.strings_Join_none L X A cap ⟨sep.toArray⟩ w).mono ?_
   rintro e w' ⟨rfl,rfl⟩
   exact⟨_,rfl,Below.refl _ _,.str []⟩
  ·have hpos:0 < l.length:=List.length_pos_iff.2 h0
   obtain⟨rfl,hspot⟩:=g3 hpos
   have hcell:∀(j:Nat) (s:List UInt8),l[j]? =some s→w.cell? ⟨ad.block,ad.off+j,none⟩=some (.string ⟨s.toArray⟩):=by
    intro j s hs
    have k1:=g5 j (.str s) 0 (.str s) (by simp[hs]) rfl
    have k2:=g6 j (.str s) 0 (.str s) (by simp[hs]) rfl
    simp only[Nat.mul_one,Nat.add_zero] at k1 k2
    rw[k1.1]
    generalize vals j=v at k2
    cases k2
    rfl
   have hblk:ad.block < w.heap.size:=by
    obtain⟨s,hs⟩:∃s,l[0]? =some s:=⟨_,List.getElem?_eq_getElem hpos⟩
    exact t1 (hcell 0 s hs)
   have hm:(l.map fun s=>(⟨s.toArray⟩:ByteArray)).map (·.data.toList)=l:=by simp[Function.comp_def]
   have hj:Lib.join ((l.map fun s=>(⟨s.toArray⟩:ByteArray)).map (·.data.toList)) (⟨sep.toArray⟩:ByteArray).data.toList=DQ sep l:=by rw[hm];exact DS sep l
   have g:=Any.strings_Join L X ad.block ad.off cap (l.map fun s=>(⟨s.toArray⟩:ByteArray)) ⟨sep.toArray⟩ w (fun j b hb=>by
    simp only[List.getElem?_map,Option.map_eq_some_iff] at hb
    obtain⟨s,hs,rfl⟩:=hb
    exact hcell j s hs) hblk (by simpa using hN) (by simpa using g2) (by rw[hj];exact hlen)
   rw[hj] at g
   simp only[List.length_map] at g
   have had:ad=⟨ad.block,ad.off,none⟩:=by
    cases ad
    simp only at hspot
    subst hspot
    rfl
   rw[had]
   refine g.mono ?_
   rintro e w' ⟨rfl,hb⟩
   exact⟨_,rfl,hb,.str _⟩
def xU (c:UInt8):List UInt8→Int
 |[]=>-1
 |b::l=>if 0≤xU c l then xU c l+1 else if b=c then 0 else -1
theorem xK {P:Program} {ρ:Ren} (L:Lays.n150 P ρ) (h116:(P.info? (ρ.t 116)).map (fun i=>(i.zero,i.size))=some (some (.agg (Array.replicate 256 (.bool false))),256)) (he:jM P (ρ.f 150)) (s:List UInt8) (hs:s.length < 4294967281):
  aO P (ρ.f 150) [.str s,.str [47,0]] (.bool (s.any fun b=>b==47||b==0)):=by
 refine nF he fun μ F w vs hf hv=>?_
 rw[PN hv,←EO]
 refine (wI L (zero_of_info h116).1 (zero_of_info h116).2 ⟨s.toArray⟩ w (by simpa [ByteArray.size] using hs)).mono ?_
 rintro e w' ⟨rfl,hb⟩
 exact⟨_,rfl,hb,.bool _⟩
end Go.Ab
namespace Go.Proofs.YteliblifgdofgaaGreatDoor
open Go.Proofs Go.Shelf
def qP:Go.Shelf.Ren:=⟨fun|106=>187|119=>303|137=>302|138=>192|143=>193|146=>105|150=>152|152=>256|153=>194|169=>59|195=>252|197=>253|213=>239|217=>298|218=>254|219=>255|221=>151|224=>300|225=>299|226=>257|227=>258|228=>259|240=>96|260=>297|265=>290|266=>320|267=>301|268=>191|276=>144|314=>321|n=>n,fun|0=>0|3=>3|4=>4|5=>5|9=>9|20=>20|21=>21|31=>24|37=>116|46=>252|51=>312|70=>115|72=>118|105=>316|116=>321|117=>322|119=>373|124=>353|127=>177|138=>375|139=>376|146=>377|164=>226|n=>n,fun|1=>0|3=>1|4=>2|n=>n⟩
theorem FI:Lays.n146 Tryz.prog qP:={ 
 mixed:=by kernel_rfl
 f138:=Tryz.func192.trans (congrArg some (by kernel_rfl))
 f143:=Tryz.func193.trans (congrArg some (by kernel_rfl))
 f146:=Tryz.func105.trans (congrArg some (by kernel_rfl))
 f195:=Tryz.func252.trans (congrArg some (by kernel_rfl))
 f197:=Tryz.func253.trans (congrArg some (by kernel_rfl))
 f217:=Tryz.func298.trans (congrArg some (by kernel_rfl))
 f218:=Tryz.func254.trans (congrArg some (by kernel_rfl))
 f219:=Tryz.func255.trans (congrArg some (by kernel_rfl))
 f221:=Tryz.func151.trans (congrArg some (by kernel_rfl))
 f224:=Tryz.func300.trans (congrArg some (by kernel_rfl))
 f225:=Tryz.func299.trans (congrArg some (by kernel_rfl))
 f260:=Tryz.func297.trans (congrArg some (by kernel_rfl))
 f266:=Tryz.func320.trans (congrArg some (by kernel_rfl))
 f267:=Tryz.func301.trans (congrArg some (by kernel_rfl))
 f268:=Tryz.func191.trans (congrArg some (by kernel_rfl))
 f314:=Tryz.func321.trans (congrArg some (by kernel_rfl))
 t0:=Tryz.underlying0
 a0:=Tryz.isAgg0
 z0:=Tryz.sizeOf0
 v0:=Tryz.zeroValue0
 t3:=Tryz.underlying3
 a3:=Tryz.isAgg3
 z3:=Tryz.sizeOf3
 v3:=Tryz.zeroValue3
 t4:=Tryz.underlying4
 a4:=Tryz.isAgg4
 z4:=Tryz.sizeOf4
 v4:=Tryz.zeroValue4
 t5:=Tryz.underlying5
 a5:=Tryz.isAgg5
 z5:=Tryz.sizeOf5
 v5:=Tryz.zeroValue5
 t9:=Tryz.underlying9
 a9:=Tryz.isAgg9
 z9:=Tryz.sizeOf9
 v9:=Tryz.zeroValue9
 t21:=Tryz.underlying21
 a21:=Tryz.isAgg21
 z21:=Tryz.sizeOf21
 v21:=Tryz.zeroValue21
 t31:=Tryz.underlying24
 a31:=Tryz.isAgg24
 z31:=Tryz.sizeOf24
 v31:=Tryz.zeroValue24
 t46:=Tryz.underlying252
 a46:=Tryz.isAgg252
 z46:=Tryz.sizeOf252
 v46:=Tryz.zeroValue252
 t51:=Tryz.underlying312
 a51:=Tryz.isAgg312
 z51:=Tryz.sizeOf312
 v51:=Tryz.zeroValue312
 t105:=Tryz.underlying316
 a105:=Tryz.isAgg316
 z105:=Tryz.sizeOf316
 v105:=Tryz.zeroValue316
 t119:=Tryz.underlying373
 a119:=Tryz.isAgg373
 z119:=Tryz.sizeOf373
 t138:=Tryz.underlying375
 a138:=Tryz.isAgg375
 z138:=Tryz.sizeOf375
 v138:=Tryz.zeroValue375
 t139:=Tryz.underlying376
 a139:=Tryz.isAgg376
 z139:=Tryz.sizeOf376
 v139:=Tryz.zeroValue376
 t146:=Tryz.underlying377
 a146:=Tryz.isAgg377
 z146:=Tryz.sizeOf377
 v146:=Tryz.zeroValue377
 g1:=by kernel_rfl
 g3:=by kernel_rfl
 g4:=by kernel_rfl}
theorem wQ:Lays.n150 Tryz.prog qP:={FI with
 f119:=Tryz.func303.trans (congrArg some (by kernel_rfl))
 f137:=Tryz.func302.trans (congrArg some (by kernel_rfl))
 f150:=Tryz.func152.trans (congrArg some (by kernel_rfl))
 f152:=Tryz.func256.trans (congrArg some (by kernel_rfl))
 f153:=Tryz.func194.trans (congrArg some (by kernel_rfl))
 f226:=Tryz.func257.trans (congrArg some (by kernel_rfl))
 f227:=Tryz.func258.trans (congrArg some (by kernel_rfl))
 f228:=Tryz.func259.trans (congrArg some (by kernel_rfl))
 t116:=Tryz.underlying321
 a116:=Tryz.isAgg321
 z116:=Tryz.sizeOf321
 t117:=Tryz.underlying322
 a117:=Tryz.isAgg322
 z117:=Tryz.sizeOf322
 v117:=Tryz.zeroValue322
 t124:=Tryz.underlying353
 a124:=Tryz.isAgg353
 z124:=Tryz.sizeOf353
 v124:=Tryz.zeroValue353}
theorem EP:Lays.n240 Tryz.prog qP:={wQ with
 f240:=Tryz.func96.trans (congrArg some (by kernel_rfl))
 f276:=Tryz.func144.trans (congrArg some (by kernel_rfl))
 t20:=Tryz.underlying20
 a20:=Tryz.isAgg20
 z20:=Tryz.sizeOf20
 v20:=Tryz.zeroValue20
 t70:=Tryz.underlying115
 a70:=Tryz.isAgg115
 z70:=Tryz.sizeOf115
 v70:=Tryz.zeroValue115
 t72:=Tryz.underlying118
 a72:=Tryz.isAgg118
 z72:=Tryz.sizeOf118
 v72:=Tryz.zeroValue118
 t164:=Tryz.underlying226
 a164:=Tryz.isAgg226
 z164:=Tryz.sizeOf226
 v164:=Tryz.zeroValue226}
theorem wZ:Lays.n169 Tryz.prog qP:={EP,wQ with
 f169:=Tryz.func59.trans (congrArg some (by kernel_rfl))
 t37:=Tryz.underlying116
 a37:=Tryz.isAgg116
 z37:=Tryz.sizeOf116
 v37:=Tryz.zeroValue116
 t127:=Tryz.underlying177
 a127:=Tryz.isAgg177
 z127:=Tryz.sizeOf177
 v127:=Tryz.zeroValue177}
theorem TT:Builder.Extra Tryz.prog qP:={FI,wQ with
 sizeBuilder:=by kernel_rfl
 liesBuilder:=by kernel_rfl
 infoByte:=by kernel_rfl
 cellsByte:=by kernel_rfl
 sizeByte:=by kernel_rfl
 neB5:=by decide}
end Go.Proofs.YteliblifgdofgaaGreatDoor
namespace Go.Proofs.YteliblifgdofgaaGreatDoor
open Go.Ab
theorem LJ (s:aD) (hs:s.length < 4294967281):aO Tryz.prog 105 [.str s,.str [47]] (.sl 1 ((c6 47 s).map .str) .none):=
 UN FI (by kernel_rfl) ⟨_,_,Tryz.func105,rfl,by decide⟩ s 47 hs
theorem RH (s:aD) (hs:s.length < 4294967281):aO Tryz.prog 152 [.str s,.str [47,0]] (.bool (s.any fun b=>b==47||b==0)):=
 xK wQ (by kernel_rfl) ⟨_,_,Tryz.func152,rfl,by decide⟩ s hs
def oS (s:aD):Bool:=!(s==[])&&decide (s.length≤30)&&!(s==[46])&&!(s==[46,46])&&!(s.any fun b=>b==47||b==0)
theorem SG (s:aD) (hs:s.length < 4294967281):aO Tryz.prog 106 [.str s] (.bool (oS s)):=by
 intro M
 refine aC aF Tryz.func106 rfl (by decide) (by simp[Tryz.f106]) ?_
 have k:=RH s hs
 unfold oS
 cases h1:s==[]
 ·have n1:(!(s==[]))=true:=by rw[h1];rfl
  cases h2:decide (s.length≤30)
  ·have d2:decide ((s.length:Int)≤30)=false:=by
    simp at h2 ⊢
    omega
   repeat' (first|refine zB rfl (by first|exact n1|exact d2) ?_|refine zA rfl ?_|refine aA ?_|refine aL rfl ?_)
   exact⟨rfl,_,rfl,rfl,rfl⟩
  ·have d2:decide ((s.length:Int)≤30)=true:=by
    simp at h2 ⊢
    omega
   cases h3:s==[46]
   ·have n3:(!(s==[46]))=true:=by rw[h3];rfl
    cases h4:s==[46,46]
    ·have n4:(!(s==[46,46]))=true:=by rw[h4];rfl
     repeat' (first|refine zB rfl (by first|exact n1|exact d2|exact n3|exact n4) ?_|refine zA rfl ?_|refine aA ?_|refine aL rfl ?_)
     refine fG rfl rfl rfl rfl rfl k ?_
     repeat' (first|refine zA rfl ?_|refine aA ?_|refine aL rfl ?_)
     exact⟨rfl,_,rfl,rfl,rfl⟩
    ·have n4:(!(s==[46,46]))=false:=by rw[h4];rfl
     repeat' (first|refine zB rfl (by first|exact n1|exact d2|exact n3|exact n4) ?_|refine zA rfl ?_|refine aA ?_|refine aL rfl ?_)
     exact⟨rfl,_,rfl,rfl,rfl⟩
   ·have n3:(!(s==[46]))=false:=by rw[h3];rfl
    repeat' (first|refine zB rfl (by first|exact n1|exact d2|exact n3) ?_|refine zA rfl ?_|refine aA ?_|refine aL rfl ?_)
    exact⟨rfl,_,rfl,rfl,rfl⟩
 ·have n1:(!(s==[]))=false:=by rw[h1];rfl
  repeat' (first|refine zB rfl n1 ?_|refine zA rfl ?_|refine aA ?_|refine aL rfl ?_)
  exact⟨rfl,_,rfl,rfl,rfl⟩
def bN (s:aD):Bool:=s==[]||((c6 47 s).all oS&&decide (s.length≤100))
theorem vO (c:UInt8):∀s:aD,(c6 c s).length≤s.length+1∧∀p,p∈c6 c s→p.length≤s.length
 |[]=>⟨by simp[c6],by simp[c6]⟩
 |b::l=>by
  have ih:=vO c l
  unfold c6
  split
  ·refine⟨by simp;omega,fun p hp=>?_⟩
   rcases List.mem_cons.1 hp with rfl|hp
   ·simp
   ·have:=ih.2 p hp
    simp;omega
  ·split
   ·simp
   ·rename_i p r hr
    rw[hr] at ih
    refine⟨by simp at ih ⊢;omega,fun q hq=>?_⟩
    rcases List.mem_cons.1 hq with rfl|hq
    ·have:=ih.2 p (by simp)
     simp;omega
    ·have:=ih.2 q (by simp[hq])
     simp;omega
theorem gV (s:aD) (hs:s.length < 4294967281):aO Tryz.prog 65 [.str s] (.bool (bN s)):=by
 intro M
 refine aC aF Tryz.func65 rfl (by decide) (by simp[Tryz.f65]) ?_
 have k:=LJ s hs
 have kl:=vO 47 s
 unfold bN
 cases h1:s==[]
 ·generalize c6 47 s=l at k kl
  have la:((l.map AV.str).length:Int)=(l.length:Int):=by simp
  repeat' (first|refine zB rfl h1 ?_|refine zA rfl ?_|refine aA ?_|refine aL rfl ?_)
  refine fG rfl rfl rfl rfl rfl k ?_
  repeat' (first|refine zI rfl la ?_|refine zA rfl ?_|refine aA ?_|refine aL rfl ?_)
  refine bC l.length (fun i f N=>N=M∧(l.take i).all oS=true∧f=⟨[(0,.str s),(8,.sl 1 (l.map AV.str) .none),(9,.int .i64 (l.length:Int)),(10,.int .i64 (i:Int))],[]⟩) (Nat.zero_le _) ⟨rfl,by simp,rfl⟩ (aR.le ?_ (aG.le_refl _)) ?_
  ·skip
   repeat (refine AF.le_cons rfl ?_)
   exact AF.le_nil rfl
  ·rintro i f N hi ⟨rfl,hpre,rfl⟩
   by_cases h2:i < l.length
   ·have d1:decide ((i:Int) < (l.length:Int))=true:=by simp;omega
    have hx:l[i]? =some l[i]:=List.getElem?_eq_getElem h2
    have fi:=aZ (i:=i) (by omega)
    have ht:=bM hx
    generalize l[i]=e at hx ht
    have he:=kl.2 e (List.mem_of_getElem? hx)
    have ke:=SG e (by omega)
    cases h3:oS e
    ·have hall:l.all oS=false:=List.all_eq_false.2 ⟨e,List.mem_of_getElem? hx,by simp[h3]⟩
     rw[h3] at ke
     rw[hall]
     repeat' (first|refine zB rfl d1 ?_|refine aA ?_|refine aL rfl ?_)
     refine zX rfl (fB hx) ?_
     repeat' (first|refine zA rfl ?_|refine aA ?_|refine aL rfl ?_)
     refine fG rfl rfl rfl rfl rfl ke ?_
     repeat' (first|refine zA rfl ?_|refine aA ?_|refine aL rfl ?_)
     exact⟨rfl,_,rfl,rfl,rfl⟩
    ·rw[h3] at ke
     repeat' (first|refine zB rfl d1 ?_|refine aA ?_|refine aL rfl ?_)
     refine zX rfl (fB hx) ?_
     repeat' (first|refine zA rfl ?_|refine aA ?_|refine aL rfl ?_)
     refine fG rfl rfl rfl rfl rfl ke ?_
     repeat' (first|refine zI rfl (by first|exact la|exact fi) ?_|refine zA rfl ?_|refine aA ?_|refine aL rfl ?_)
     refine⟨h2,_,_,⟨rfl,?_,rfl⟩,aR.le ?_ (aG.le_refl _)⟩
     ·rw[ht,List.all_append,hpre]
      simp[h3]
     ·skip
      repeat (refine AF.le_cons rfl ?_)
      exact AF.le_nil rfl
   ·have d1:decide ((i:Int) < (l.length:Int))=false:=by simp;omega
    have hl2:l.take i=l:=List.take_of_length_le (by omega)
    rw[hl2] at hpre
    rw[hpre]
    repeat' (first|refine zB rfl d1 ?_|refine zA rfl ?_|refine aA ?_|refine aL rfl ?_)
    exact⟨rfl,_,rfl,yD (by rw[Bool.true_and,Bool.false_or];exact decide_eq_decide.2 (by omega)),rfl⟩
 ·repeat' (first|refine zB rfl h1 ?_|refine zA rfl ?_|refine aA ?_|refine aL rfl ?_)
  exact⟨rfl,_,rfl,rfl,rfl⟩
theorem bA {α:Type} (f:α→AV) (l:List α):((l.map f).length:Int)=(l.length:Int):=by simp
theorem zH {α:Type} (l:List α):l.take l.length=l:=List.take_length
def gI (n j:Nat):UInt8:=UInt8.ofNat (n/256^j%256)
def KB (n:Nat):aD:=[gI n 3,gI n 2,gI n 1,gI n 0]
theorem SO (n j:Nat) (x:Int) (hx:x=((n/256^j:Nat):Int)):IntKind.wrap .u8 x=((gI n j).toNat:Int):=by
 subst hx
 have e:(2:Int)^IntKind.u8.bits=256:=rfl
 have:IntKind.u8.signed=false:=rfl
 simp only[IntKind.wrap,e,this,Bool.false_and,Bool.false_eq_true,if_false,gI,UInt8.toNat_ofNat']
 generalize n/256^j=m
 omega
theorem WO (n:Nat) (m:Nat):Int.fdiv (n:Int) ((2:Int)^m)=((n/2^m:Nat):Int):=by
 have:((2:Int)^m)=((2^m:Nat):Int):=by push_cast;rfl
 rw[this]
 exact Int.fdiv_eq_ediv_of_nonneg _ (Int.natCast_nonneg _)
def rL (l:aD):Nat:=l.foldl (fun n b=>n*256+b.toNat) 0
theorem OG (l:aD) (b:UInt8):rL (l++[b])=rL l*256+b.toNat:=by simp[rL]
theorem FB:∀(k:Nat) (l:aD),l.length≤k→rL l < 256^k:=by
 intro k
 induction k with
 |zero=>
  intro l h
  have:l=[]:=List.eq_nil_of_length_eq_zero (by omega)
  subst this
  simp[rL]
 |succ k ih=>
  intro l h
  rcases List.eq_nil_or_concat l with rfl|⟨m,b,rfl⟩
  ·have:0 < 256^(k+1):=Nat.pow_pos (by omega)
   simpa [rL] using this
  ·rw[List.concat_eq_append,OG]
   have h1:=ih m (by simp at h;omega)
   have h2:=b.toNat_lt
   rw[Nat.pow_succ]
   omega
theorem a6f (n:Nat) (b:UInt8) (hn:n < 1000000000000):IntKind.wrap .i64 ((BitVec.ofInt IntKind.i64.bits ((n*256:Nat):Int)|||BitVec.ofInt IntKind.i64.bits ((b.toNat:Nat):Int)).toNat)=((n*256+b.toNat:Nat):Int):=by
 have hb:=b.toNat_lt
 have e:IntKind.i64.bits=64:=rfl
 have h:(BitVec.ofInt IntKind.i64.bits ((n*256:Nat):Int)|||BitVec.ofInt IntKind.i64.bits ((b.toNat:Nat):Int)).toNat=n*256+b.toNat:=by
  rw[BitVec.toNat_or,BitVec.ofInt_natCast,BitVec.ofInt_natCast,BitVec.toNat_ofNat,BitVec.toNat_ofNat,e,Nat.mod_eq_of_lt (by omega),Nat.mod_eq_of_lt (by omega)]
  have:=Nat.shiftLeft_add_eq_or_of_lt (a:=n) (b:=b.toNat) (i:=8) (by omega)
  rw[Nat.shiftLeft_eq] at this
  exact this.symm
 rw[h]
 exact Go.Ab.wrap_small (by omega) (by omega)
theorem JG (b:UInt8):IntKind.wrap .i64 ((b.toNat:Nat):Int)=((b.toNat:Nat):Int):=by
 have:=b.toNat_lt
 exact Go.Ab.wrap_small (by omega) (by omega)
end Go.Proofs.YteliblifgdofgaaGreatDoor
namespace Go.Ab
open Go.RowKit
def pos:List Nat→Nat→Option Nat
 |[],_=>none
 |a::r,i=>if i=a then some 0 else match pos r i with|some k=>some (k+1)|none=>none
theorem nK:∀{ids:List Nat} {i k:Nat},pos ids i=some k→ids[k]? =some i
 |[],_,_,h=>by cases h
 |a::r,i,k,h=>by
  simp only[pos] at h
  split at h
  ·cases h;subst_vars;rfl
  ·split at h
   ·rename_i k' hk
    cases h
    show (a::r)[_+1]? =some i
    rw[List.getElem?_cons_succ]
    exact nK hk
   ·cases h
theorem z6:∀{ids:List Nat} {i:Nat},pos ids i=none→i∉ids
 |[],_,_=>by simp
 |a::r,i,h=>by
  simp only[pos] at h
  split at h
  ·cases h
  ·rename_i hne
   split at h
   ·cases h
   ·rename_i hk
    simp only[List.mem_cons,not_or]
    exact⟨hne,z6 hk⟩
theorem CM {ids:List Nat} (hnd:ids.Nodup) {i j k:Nat} (h1:ids[j]? =some i) (h2:ids[k]? =some i):j=k:=by
 obtain⟨hj,e1⟩:=List.getElem?_eq_some_iff.1 h1
 obtain⟨hk,e2⟩:=List.getElem?_eq_some_iff.1 h2
 have hp:=List.pairwise_iff_getElem.1 hnd
 rcases Nat.lt_trichotomy j k with h|h|h
 ·exact absurd (e1.trans e2.symm) (hp j k hj hk h)
 ·exact h
 ·exact absurd (e2.trans e1.symm) (hp k j hk hj h)
theorem a8c {ids:List Nat} (hnd:ids.Nodup) {i k:Nat} (h:ids[k]? =some i):pos ids i=some k:=by
 cases hp:pos ids i with
 |none=>exact absurd (List.mem_of_getElem? h) (z6 hp)
 |some j=>rw[CM hnd (nK hp) h]
theorem U8 {ids:List Nat} {i:Nat} (h:i∉ids):pos ids i=none:=by
 cases hp:pos ids i with
 |none=>rfl
 |some j=>exact absurd (List.mem_of_getElem? (nK hp)) h
def sN (ids:List Nat) (μ:Mu):Mu:=fun k=>match ids[k]? with|some i=>μ i|none=>none
def OH (ids:List Nat) (μ:Mu) (F:c8):c8:=fun b o=>F b o∨(jG μ b o∧¬jG (sN ids μ) b o)
def push (ids:List Nat) (n:Nat) (μ μ1:Mu):Mu:=fun i=>match pos ids i with|some k=>μ1 k|none=>if i < n then μ i else μ1 (ids.length+(i - n))
theorem fJ {ids:List Nat} {μ:Mu} {k i:Nat} (h:ids[k]? =some i):sN ids μ k=μ i:=by unfold sN;rw[h]
theorem lW {ids:List Nat} {μ:Mu} {b o:Nat} (h:jG (sN ids μ) b o):jG μ b o:=by
 obtain⟨k,h⟩:=h
 unfold sN at h
 cases hk:ids[k]? with
 |none=>rw[hk] at h;rcases h with h|⟨e,g,h,_⟩<;>cases h
 |some i=>rw[hk] at h;exact⟨i,h⟩
theorem uB {ids:List Nat} {μ:Mu} {k b:Nat} (h:dH (sN ids μ) k b):∃i,ids[k]? =some i∧dH μ i b:=by
 unfold dH sN at h
 cases hk:ids[k]? with
 |none=>rw[hk] at h;rcases h with h|⟨e,g,h⟩<;>cases h
 |some i=>rw[hk] at h;exact⟨i,rfl,h⟩
theorem I0 {μ:Mu} {b o:Nat} (h:jG μ b o):∃i,dH μ i b:=by
 obtain⟨i,h|⟨e,g,h,_⟩⟩:=h
 ·exact⟨i,.inl h⟩
 ·exact⟨i,.inr ⟨e,g,h⟩⟩
theorem GY {μ:Mu} {b i:Nat} (h:dH μ i b):∃o,jG μ b o:=by
 rcases h with h|⟨e,g,h⟩
 ·exact⟨0,i,.inl h⟩
 ·exact⟨e,i,.inr ⟨e,g,h,Nat.le_refl _⟩⟩
theorem vB {ids:List Nat} {μ:Mu} {F:c8} {b o:Nat} (h:iO μ F b o):iO (sN ids μ) (OH ids μ F) b o:=
 ⟨fun hf=>hf.elim h.1 fun hf=>h.2 hf.1,fun ho=>h.2 (lW ho)⟩
def kP (ids:List Nat) (x y:AV):Prop:=∀(μ:Mu) (F:c8) (w:World) (v:Value),bP μ F w x v→bP (sN ids μ) (OH ids μ F) w y v
def eP (ids:List Nat) (n:Nat) (x y:AV):Prop:=∀(μ1 μ:Mu) (F F1:c8) (w:World) (v:Value),(∀b o,iO μ1 F1 b o→iO μ F b o)→(∀k i,ids[k]? =some i→μ i=μ1 k)→(∀k,ids.length≤k→μ (n+(k - ids.length))=μ1 k)→
 bP μ1 F1 w x v→bP μ F w y v
section
variable {ids:List Nat} {n:Nat}
theorem kP.closed {x:AV} (h:aN x):kP ids x x:=fun μ F w v hr=>h μ _ F _ w v (fun _ _=>vB) hr
theorem kP.sub {x y z:AV} (h:kP ids x y) (h2:Sub y z):kP ids x z:=fun μ F w v hr=>h2 _ _ _ _ (h μ F w v hr)
theorem kP.pre {x y z:AV} (h:Sub x y) (h2:kP ids y z):kP ids x z:=fun μ F w v hr=>h2 μ F w v (h _ _ _ _ hr)
theorem kP.ptr {k i off:Nat} (h:ids[k]? =some i):kP ids (.ptr i off) (.ptr k off):=by
 intro μ F w v hr
 cases hr with
 |ptr _ _ _ h1 h2 h3=>exact .ptr k off v h1 (by rw[fJ h];exact h2) (fun b hb=>h3 b (by rw[←fJ (μ:=μ) h];exact hb))
theorem kP.osl {k i off m cap sz:Nat} (h:ids[k]? =some i):kP ids (.osl i off m cap sz) (.osl k off m cap sz):=by
 intro μ F w v hr
 cases hr with
 |osl _ _ _ _ _ _ h1 h2 h3=>exact .osl k off m cap sz v h1 (by rw[fJ h];exact h2) (fun b hb=>h3 b (by rw[←fJ (μ:=μ) h];exact hb))
theorem kP.bsl {k i g m cap:Nat} (h:ids[k]? =some i):kP ids (.bsl i g m cap) (.bsl k g m cap):=by
 intro μ F w v hr
 cases hr with
 |bsl _ _ _ _ _ h1 h2=>exact .bsl _ _ _ _ v h1 (by rw[fJ h];exact h2)
theorem kP.map {k i:Nat} (h:ids[k]? =some i):kP ids (.map i) (.map k):=by
 intro μ F w v hr
 cases hr with
 |map _ _ h1 h2 h3=>exact .map k v h1 (by rw[fJ h];exact h2) (fun b hb=>h3 b (by rw[←fJ (μ:=μ) h];exact hb))
theorem kP.tok {k i g sz:Nat} {xs:List AV} (h:ids[k]? =some i) (hc:∀x,x∈xs→(∀c,c∈x.cells→aN c)):kP ids (.sl sz xs (.tok i g)) (.sl sz xs (.tok k g)):=by
 intro μ F w v hr
 cases hr with
 |sl _ _ _ A cap ad vals hsz hcap hA hone hcell hrep htag=>
  refine .sl sz xs _ A cap ad vals hsz hcap hA hone ?_ ?_ ?_
  ·intro a x j c hx hcx
   exact⟨(hcell a x j c hx hcx).1,vB (hcell a x j c hx hcx).2⟩
  ·intro a x j c hx hcx
   exact hc x (List.mem_of_getElem? hx) c (List.mem_of_getElem? hcx) μ _ F _ w _ (fun _ _=>vB) (hrep a x j c hx hcx)
  ·show mS (sN ids μ) w A xs.length cap sz (.tok k g)
   simp only[mS] at htag ⊢
   rw[fJ h]
   exact htag
theorem kP.agg {l m:List AV} (hl:l.length=m.length) (h:∀(i:Nat) (x y:AV),l[i]? =some x→m[i]? =some y→kP ids x y):kP ids (.agg l) (.agg m):=by
 intro μ F w v hr
 obtain⟨c,rfl,hs,hc,h1⟩:=hr.agg_inv
 refine .agg m c (hs.trans hl) (fun i y u hy hu=>?_) h1
 have hi:i < l.length:=by rw[hl];exact (List.getElem?_eq_some_iff.1 hy).1
 exact h i _ y (List.getElem?_eq_getElem hi) hy μ F w u (hc i _ u (List.getElem?_eq_getElem hi) hu)
theorem eP.closed {x:AV} (h:aN x):eP ids n x x:=fun μ1 μ F F1 w v hf _ _ hr=>h μ1 μ F1 F w v hf hr
theorem eP.pre {x y z:AV} (h:Sub x y) (h2:eP ids n y z):eP ids n x z:=fun μ1 μ F F1 w v a b c hr=>h2 μ1 μ F F1 w v a b c (h _ _ _ _ hr)
theorem eP.sub {x y z:AV} (h:eP ids n x y) (h2:Sub y z):eP ids n x z:=fun μ1 μ F F1 w v a b c hr=>h2 _ _ _ _ (h μ1 μ F F1 w v a b c hr)
theorem eP.top {x:AV}:eP ids n x .top:=fun _ _ _ _ _ v _ _ _ _=>.top v
def sg (ids:List Nat) (n k:Nat):Nat:=match ids[k]? with|some i=>i|none=>n+(k - ids.length)
theorem vI {μ μ1:Mu} (h1:∀k i,ids[k]? =some i→μ i=μ1 k) (h2:∀k,ids.length≤k→μ (n+(k - ids.length))=μ1 k) (k:Nat):μ (sg ids n k)=μ1 k:=by
 unfold sg
 cases hk:ids[k]? with
 |some i=>exact h1 k i hk
 |none=>exact h2 k (List.getElem?_eq_none_iff.1 hk)
theorem eP.ptr {k off:Nat}:eP ids n (.ptr k off) (.ptr (sg ids n k) off):=by
 intro μ1 μ F F1 w v _ a b hr
 cases hr with
 |ptr _ _ _ h1 h2 h3=>exact .ptr _ off v h1 (by rw[vI a b];exact h2) (fun c hc=>h3 c (by rw[←vI a b];exact hc))
theorem eP.osl {k off m cap sz:Nat}:eP ids n (.osl k off m cap sz) (.osl (sg ids n k) off m cap sz):=by
 intro μ1 μ F F1 w v _ a b hr
 cases hr with
 |osl _ _ _ _ _ _ h1 h2 h3=>exact .osl _ off m cap sz v h1 (by rw[vI a b];exact h2) (fun c hc=>h3 c (by rw[←vI a b];exact hc))
theorem eP.bsl {k g m cap:Nat}:eP ids n (.bsl k g m cap) (.bsl (sg ids n k) g m cap):=by
 intro μ1 μ F F1 w v hf h1 h2 hr
 cases hr with
 |bsl _ _ _ _ _ a1 a2=>exact .bsl _ _ _ _ v a1 (by rw[vI h1 h2];exact a2)
theorem eP.map {k:Nat}:eP ids n (.map k) (.map (sg ids n k)):=by
 intro μ1 μ F F1 w v _ a b hr
 cases hr with
 |map _ _ h1 h2 h3=>exact .map _ v h1 (by rw[vI a b];exact h2) (fun c hc=>h3 c (by rw[←vI a b];exact hc))
theorem eP.tok {k g sz:Nat} {xs:List AV} (hc:∀x,x∈xs→(∀c,c∈x.cells→aN c)):eP ids n (.sl sz xs (.tok k g)) (.sl sz xs (.tok (sg ids n k) g)):=by
 intro μ1 μ F F1 w v hf a b hr
 cases hr with
 |sl _ _ _ A cap ad vals hsz hcap hA hone hcell hrep htag=>
  refine .sl sz xs _ A cap ad vals hsz hcap hA hone ?_ ?_ ?_
  ·intro q x j c hx hcx
   exact⟨(hcell q x j c hx hcx).1,hf _ _ (hcell q x j c hx hcx).2⟩
  ·intro q x j c hx hcx
   exact hc x (List.mem_of_getElem? hx) c (List.mem_of_getElem? hcx) μ1 μ F1 F w _ hf (hrep q x j c hx hcx)
  ·show mS μ w A xs.length cap sz (.tok (sg ids n k) g)
   simp only[mS] at htag ⊢
   rw[vI a b]
   exact htag
theorem eP.agg {l m:List AV} (hl:l.length=m.length) (h:∀(i:Nat) (x y:AV),l[i]? =some x→m[i]? =some y→eP ids n x y):eP ids n (.agg l) (.agg m):=by
 intro μ1 μ F F1 w v a b c' hr
 obtain⟨c,rfl,hs,hc,h1⟩:=hr.agg_inv
 refine .agg m c (hs.trans hl) (fun i y u hy hu=>?_) h1
 have hi:i < l.length:=by rw[hl];exact (List.getElem?_eq_some_iff.1 hy).1
 exact h i _ y (List.getElem?_eq_getElem hi) hy μ1 μ F F1 w u a b c' (hc i _ u (List.getElem?_eq_getElem hi) hu)
theorem eP.tup {l m:List AV} (hl:l.length=m.length) (h:∀(i:Nat) (x y:AV),l[i]? =some x→m[i]? =some y→eP ids n x y):eP ids n (.tup l) (.tup m):=by
 intro μ1 μ F F1 w v a b c' hr
 obtain⟨c,rfl,hs,hc⟩:=hr.tup_inv
 refine .tup m c (hs.trans hl) (fun i y u hy hu=>?_)
 have hi:i < l.length:=by rw[hl];exact (List.getElem?_eq_some_iff.1 hy).1
 exact h i _ y (List.getElem?_eq_getElem hi) hy μ1 μ F F1 w u a b c' (hc i _ u (List.getElem?_eq_getElem hi) hu)
def B0 (ids:List Nat):List AV→List AV→Prop
 |[],[]=>True
 |x::l,y::m=>kP ids x y∧B0 ids l m
 |_,_=>False
theorem B0.len:∀{l m:List AV},B0 ids l m→l.length=m.length
 |[],[],_=>rfl
 |_::_,_::_,h=>congrArg (·+1) (B0.len h.2)
theorem B0.get:∀{l m:List AV},B0 ids l m→∀(i:Nat) (x y:AV),l[i]? =some x→m[i]? =some y→kP ids x y
 |[],[],_,i,_,_,hx,_=>by simp at hx
 |a::l,b::m,h,0,x,y,hx,hy=>by cases hx;cases hy;exact h.1
 |a::l,b::m,h,i+1,x,y,hx,hy=>B0.get h.2 i x y hx hy
theorem B0.closed:∀{l:List AV},(∀x,x∈l→aN x)→B0 ids l l
 |[],_=>trivial
 |x::l,h=>⟨.closed (h x (by simp)),B0.closed fun y hy=>h y (by simp[hy])⟩
def oK (ids:List Nat) (n:Nat):List AV→List AV→Prop
 |[],[]=>True
 |x::l,y::m=>eP ids n x y∧oK ids n l m
 |_,_=>False
theorem oK.len:∀{l m:List AV},oK ids n l m→l.length=m.length
 |[],[],_=>rfl
 |_::_,_::_,h=>congrArg (·+1) (oK.len h.2)
theorem oK.get:∀{l m:List AV},oK ids n l m→∀(i:Nat) (x y:AV),l[i]? =some x→m[i]? =some y→eP ids n x y
 |[],[],_,i,_,_,hx,_=>by simp at hx
 |a::l,b::m,h,0,x,y,hx,hy=>by cases hx;cases hy;exact h.1
 |a::l,b::m,h,i+1,x,y,hx,hy=>oK.get h.2 i x y hx hy
theorem oK.closed:∀{l:List AV},(∀x,x∈l→aN x)→oK ids n l l
 |[],_=>trivial
 |x::l,h=>⟨.closed (h x (by simp)),oK.closed fun y hy=>h y (by simp[hy])⟩
theorem lY.to {μ μ':Mu} {i j:Nat} {g:Option Nat} {b:Nat} (h:lY μ i g b) (e:μ' j=μ i):lY μ' j g b:=by
 cases g with
 |none=>exact e.trans h
 |some n=>exact e.trans h
def InO (ids:List Nat):c7→c7→Prop
 |.cells l,.cells m=>B0 ids l m
 |.spare g,.spare g'=>g=g'
 |.raw g o vs t,.raw g' o' vs' t'=>g=g'∧o=o'∧vs=vs'∧t=[]∧t'=[]
 |_,_=>False
def aBn (ids:List Nat) (n:Nat):c7→c7→Prop
 |.cells l,.cells m=>oK ids n l m
 |.spare g,.spare g'=>g=g'
 |.raw g o vs t,.raw g' o' vs' t'=>g=g'∧o=o'∧vs=vs'∧t=[]∧t'=[]
 |_,_=>False
def a9h (ids:List Nat) (n:Nat):cH→cH→Prop
 |.ret x,.ret y=>eP ids n x y
 |.pan x,.pan y=>eP ids n x y
 |_,_=>False
def a9d (ids:List Nat) (M M1 N:aG):Prop:=N.next=M.next+(M1.next - ids.length)∧∀i o,N.get i=some o→
 (∃k o1,(ids[k]? =some i∨ids.length≤k∧i=M.next+(k - ids.length))∧M1.get k=some o1∧aBn ids M.next o1 o)∨(i∉ids∧M.get i=some o)
theorem aQ.frame {P:Program} {g:FuncId} {args args1:List AV} {M N0:aG} {R R1:cH→aG→Prop} (ids:List Nat) (hnd:ids.Nodup) (hlt:∀i,i∈ids→i < M.next) (hn:N0.next=ids.length)
  (hobj:∀k o1,N0.get k=some o1→∃i o,ids[k]? =some i∧M.get i=some o∧InO ids o o1) (h:aQ P g args1 N0 R1) (hargs:B0 ids args args1)
  (hR:∀e M1,R1 e M1→∃e' N,a9h ids M.next e e'∧a9d ids M M1 N∧R e' N):aQ P g args M R:=by
 refine⟨h.1,fun μ F w vs hg hv=>?_⟩
 have hLi:∀{i b},dH μ i b→i∉ids→∀o,¬jG (sN ids μ) b o:=by
  intro i b hi hni o ho
  obtain⟨k,hk⟩:=I0 ho
  obtain⟨i',hk',hi'⟩:=uB hk
  have:=hg.inj i i' b hi hi'
  subst this
  exact hni (List.mem_of_getElem? hk')
 have hg0:dY (sN ids μ) (OH ids μ F) N0 w:=by
  refine⟨?_,?_,?_,?_,?_,?_,?_⟩
  ·intro k
   rw[hn]
   constructor
   ·intro hk
    refine Nat.lt_of_not_le fun hle=>hk ?_
    unfold sN
    rw[List.getElem?_eq_none hle]
   ·intro hk
    rw[fJ (List.getElem?_eq_getElem hk)]
    exact (hg.dom _).2 (hlt _ (List.getElem_mem hk))
  ·intro k l1 hk
   obtain⟨i,o,hi,hM,hO⟩:=hobj k _ hk
   cases o with
   |spare g=>exact hO.elim
   |raw _ _ _ _=>exact hO.elim
   |cells l=>
    obtain⟨b,c,ty,h1,h2,h3,h4,h5⟩:=hg.obj i l hM
    have hO:B0 ids l l1:=hO
    refine⟨b,c,ty,(fJ hi).trans h1,h2,h3.trans hO.len,h4,?_⟩
    intro j y v hy hv
    have hj:j < l.length:=by rw[hO.len];exact (List.getElem?_eq_some_iff.1 hy).1
    exact hO.get j _ y (List.getElem?_eq_getElem hj) hy μ F w v (h5 j _ v (List.getElem?_eq_getElem hj) hv)
  ·intro k g1 hk
   obtain⟨i,o,hi,hM,hO⟩:=hobj k _ hk
   cases o with
   |cells l=>exact hO.elim
   |raw _ _ _ _=>exact hO.elim
   |spare g=>
    have hO:g=g1:=hO
    subst hO
    obtain⟨p,h1,h2⟩:=hg.spare i g hM
    exact⟨p,(fJ hi).trans h1,h2⟩
  ·intro j k b hj hk
   obtain⟨i,h1,h2⟩:=uB hj
   obtain⟨i',h3,h4⟩:=uB hk
   have:=hg.inj i i' b h2 h4
   subst this
   exact CM hnd h1 h3
  ·rintro b o ho (hf|hf)
   ·exact hg.frm b o (lW ho) hf
   ·exact hf.2 ho
  ·refine⟨fun b o ho=>hg.fit.own b o (lW ho),?_⟩
   rintro b o (hf|hf)
   ·exact hg.fit.frm b o hf
   ·exact hg.fit.own b o hf.1
  ·intro k gg o1 vs t hk
   obtain⟨i,o,hi,hM,hO⟩:=hobj k _ hk
   cases o with
   |cells l=>exact hO.elim
   |spare g=>exact hO.elim
   |raw g0 o0 vs0 t0=>
    obtain⟨rfl,rfl,rfl,rfl,rfl⟩:g0=gg∧o0=o1∧vs0=vs∧t0=[]∧t=[]:=hO
    obtain⟨b,h1,h2,h3⟩:=hg.raw i _ _ _ _ hM
    exact⟨b,h1.to (fJ hi),h2,fun j=>.top _⟩
 refine (h.2 _ _ w vs hg0 ⟨hv.1.trans hargs.len,fun i y v hy hv'=>?_⟩).mono ?_
 ·have hi:i < args.length:=by rw[hargs.len];exact (List.getElem?_eq_some_iff.1 hy).1
  exact hargs.get i _ y (List.getElem?_eq_getElem hi) hy μ F w v (hv.2 i _ v (List.getElem?_eq_getElem hi) hv')
 rintro e w' ⟨μ1,M1,hev,hg1,hend⟩
 have hp1:∀{k i},ids[k]? =some i→push ids M.next μ μ1 i=μ1 k:=by
  intro k i hk
  unfold push
  rw[a8c hnd hk]
 have hp2:∀{i},i∉ids→i < M.next→push ids M.next μ μ1 i=μ i:=by
  intro i hni hlt
  unfold push
  rw[U8 hni]
  simp[hlt]
 have hp3:∀k,ids.length≤k→push ids M.next μ μ1 (M.next+(k - ids.length))=μ1 k:=by
  intro k hk
  have hni:M.next+(k - ids.length)∉ids:=fun hm=>by have:=hlt _ hm;omega
  unfold push
  rw[U8 hni]
  have:ids.length+(M.next+(k - ids.length) - M.next)=k:=by omega
  simp only[this]
  rw[if_neg (by omega)]
 have hcase:∀i,(∃k,(ids[k]? =some i∨ids.length≤k∧i=M.next+(k - ids.length))∧push ids M.next μ μ1 i=μ1 k)∨(i∉ids∧i < M.next∧push ids M.next μ μ1 i=μ i):=by
  intro i
  cases hp:pos ids i with
  |some k=>exact .inl ⟨k,.inl (nK hp),hp1 (nK hp)⟩
  |none=>
   have hni:=z6 hp
   by_cases hlt':i < M.next
   ·exact .inr ⟨hni,hlt',hp2 hni hlt'⟩
   ·refine .inl ⟨ids.length+(i - M.next),.inr ⟨by omega,by omega⟩,?_⟩
    have:=hp3 (ids.length+(i - M.next)) (by omega)
    have e:M.next+(ids.length+(i - M.next) - ids.length)=i:=by omega
    rw[e] at this
    exact this
 have hown1:∀{i b o k},push ids M.next μ μ1 i=μ1 k→(push ids M.next μ μ1 i=some (.at b)∨∃e g,push ids M.next μ μ1 i=some (.spare (some (b,e)) g)∧e≤o)→jG μ1 b o:=by
  intro i b o k hk ho
  rw[hk] at ho
  exact⟨k,ho⟩
 have hev':dQ w μ w' (push ids M.next μ μ1):=by
  refine⟨hev.os,hev.tape,hev.output,hev.size,?_,fun b hb hno=>hev.same b hb fun o ho=>hno o (lW ho),fun b e c ty fr hb hno hc=>hev.part b e c ty fr hb (fun o ho=>hno o (lW ho)) hc,?_⟩
  ·intro id hid
   have hlt':=(hg.dom id).1 hid
   rcases hcase id with ⟨k,hk,hpk⟩|⟨hni,_,hpi⟩
   ·rcases hk with hk|⟨_,hk⟩
    ·rw[hpk]
     have:=hev.mu k (by rw[fJ hk];exact hid)
     rw[fJ hk] at this
     exact this
    ·omega
   ·exact .inl hpi
  ·rintro b o hb ⟨i,ho⟩
   rcases hcase i with ⟨k,_,hpk⟩|⟨hni,_,hpi⟩
   ·exact lW (hev.own b o hb (hown1 hpk ho))
   ·rw[hpi] at ho
    exact⟨i,ho⟩
 have hfree:∀b o,iO μ1 (OH ids μ F) b o→iO (push ids M.next μ μ1) F b o:=by
  rintro b o ⟨hf,ho⟩
  refine⟨fun h=>hf (.inl h),?_⟩
  rintro⟨i,hi⟩
  rcases hcase i with ⟨k,_,hpk⟩|⟨hni,_,hpi⟩
  ·exact ho (hown1 hpk hi)
  ·rw[hpi] at hi
   have hL:dH μ i b:=by
    rcases hi with h|⟨e,g,h,_⟩
    ·exact .inl h
    ·exact .inr ⟨e,g,h⟩
   exact hf (.inr ⟨⟨i,hi⟩,hLi hL hni o⟩)
 have hle:ids.length≤M1.next:=by
  refine Nat.le_of_not_lt fun hlt'=>?_
  have hk:M1.next < ids.length:=hlt'
  have h0:sN ids μ M1.next≠none:=by
   rw[fJ (List.getElem?_eq_getElem hk)]
   exact (hg.dom _).2 (hlt _ (List.getElem_mem hk))
  have h1:μ1 M1.next≠none:=by
   rcases hev.mu _ h0 with h|h|⟨_,_,_,_,_,h,_⟩<;>rw[h]
   ·exact h0
   ·simp
   ·simp
  have:=(hg1.dom _).1 h1
  omega
 have hgam:∀N,a9d ids M M1 N→dY (push ids M.next μ μ1) F N w':=by
  rintro N ⟨hN,hNg⟩
  have hkey:∀{k i:Nat},(ids[k]? =some i∨ids.length≤k∧i=M.next+(k - ids.length))→push ids M.next μ μ1 i=μ1 k:=by
   rintro k i (hk|⟨hk,rfl⟩)
   ·exact hp1 hk
   ·exact hp3 k hk
  refine⟨?_,?_,?_,?_,?_,?_,?_⟩
  ·intro i
   rw[hN]
   rcases hcase i with ⟨k,hk,hpk⟩|⟨hni,hlt',hpi⟩
   ·rw[hpk,hg1.dom]
    rcases hk with hk|⟨hk,rfl⟩
    ·have h1:=(List.getElem?_eq_some_iff.1 hk).1
     have h2:=hlt i (List.mem_of_getElem? hk)
     exact⟨fun _=>by omega,fun _=>by omega⟩
    ·exact⟨fun _=>by omega,fun _=>by omega⟩
   ·rw[hpi,hg.dom]
    exact⟨fun _=>by omega,fun _=>hlt'⟩
  ·intro i l hi
   rcases hNg i _ hi with ⟨k,o1,hk,hM1,hO⟩|⟨hni,hM⟩
   ·cases o1 with
    |spare g=>exact hO.elim
    |raw _ _ _ _=>exact hO.elim
    |cells l1=>
     have hO:oK ids M.next l1 l:=hO
     obtain⟨b,c,ty,h1,h2,h3,h4,h5⟩:=hg1.obj k l1 hM1
     refine⟨b,c,ty,(hkey hk).trans h1,h2,h3.trans hO.len,h4,?_⟩
     intro j y v hy hv
     have hj:j < l1.length:=by rw[hO.len];exact (List.getElem?_eq_some_iff.1 hy).1
     exact hO.get j _ y (List.getElem?_eq_getElem hj) hy μ1 _ F _ w' v hfree (fun k i h=>hp1 h) hp3 (h5 j _ v (List.getElem?_eq_getElem hj) hv)
   ·obtain⟨b,c,ty,h1,h2,h3,h4,h5⟩:=hg.obj i l hM
    have hlt':i < M.next:=(hg.dom i).1 (by rw[h1];simp)
    have hb:b < w.heap.size:=(Array.getElem?_eq_some_iff.1 h2).1
    exact⟨b,c,ty,(hp2 hni hlt').trans h1,(hev.same b hb (hLi (.inl h1) hni)).trans h2,h3,h4,fun j x v hx hv=>(h5 j x v hx hv).evo hev'⟩
  ·intro i g hi
   rcases hNg i _ hi with ⟨k,o1,hk,hM1,hO⟩|⟨hni,hM⟩
   ·cases o1 with
    |cells l1=>exact hO.elim
    |raw _ _ _ _=>exact hO.elim
    |spare g1=>
     have hO:g1=g:=hO
     subst hO
     obtain⟨p,h1,h2⟩:=hg1.spare k g1 hM1
     exact⟨p,(hkey hk).trans h1,h2⟩
   ·obtain⟨p,h1,h2⟩:=hg.spare i g hM
    have hlt':i < M.next:=(hg.dom i).1 (by rw[h1];simp)
    refine⟨p,(hp2 hni hlt').trans h1,fun b e hp=>?_⟩
    obtain⟨c,ty,fr,h3,h4,h5⟩:=h2 b e hp
    have hb:b < w.heap.size:=(Array.getElem?_eq_some_iff.1 h3).1
    exact⟨c,ty,fr,(hev.same b hb (hLi (.inr ⟨e,g,by rw[h1,hp]⟩) hni)).trans h3,h4,h5⟩
  ·intro i j b hi hj
   have hmix:∀{i j k},push ids M.next μ μ1 i=μ1 k→(j∉ids∧j < M.next∧push ids M.next μ μ1 j=μ j)→dH (push ids M.next μ μ1) i b→dH (push ids M.next μ μ1) j b→False:=by
    rintro i j k hpk ⟨hnj,_,hpj⟩ hi hj
    have hi1:dH μ1 k b:=by unfold dH at hi ⊢;rw[hpk] at hi;exact hi
    have hj1:dH μ j b:=by unfold dH at hj ⊢;rw[hpj] at hj;exact hj
    obtain⟨o,ho⟩:=GY hi1
    obtain⟨o',ho'⟩:=GY hj1
    have hb:=hg.fit.own b o' ho'
    exact hLi hj1 hnj o (hev.own b o hb ho)
   rcases hcase i with ⟨k,hk,hpk⟩|hci
   ·rcases hcase j with ⟨k',hk',hpk'⟩|hcj
    ·have hi1:dH μ1 k b:=by unfold dH at hi ⊢;rw[hpk] at hi;exact hi
     have hj1:dH μ1 k' b:=by unfold dH at hj ⊢;rw[hpk'] at hj;exact hj
     have:=hg1.inj k k' b hi1 hj1
     subst this
     rcases hk with hk|⟨hk,e⟩
     ·rcases hk' with hk'|⟨hk',e'⟩
      ·rw[hk] at hk';cases hk';rfl
      ·have:=(List.getElem?_eq_some_iff.1 hk).1;omega
     ·rcases hk' with hk'|⟨hk',e'⟩
      ·have:=(List.getElem?_eq_some_iff.1 hk').1;omega
      ·omega
    ·exact (hmix hpk hcj hi hj).elim
   ·rcases hcase j with ⟨k',hk',hpk'⟩|hcj
    ·exact (hmix hpk' hci hj hi).elim
    ·have hi1:dH μ i b:=by unfold dH at hi ⊢;rw[hci.2.2] at hi;exact hi
     have hj1:dH μ j b:=by unfold dH at hj ⊢;rw[hcj.2.2] at hj;exact hj
     exact hg.inj i j b hi1 hj1
  ·rintro b o ⟨i,hi⟩ hf
   rcases hcase i with ⟨k,hk,hpk⟩|⟨hni,_,hpi⟩
   ·exact hg1.frm b o (hown1 hpk hi) (.inl hf)
   ·rw[hpi] at hi
    exact hg.frm b o ⟨i,hi⟩ hf
  ·refine⟨?_,fun b o hf=>Nat.lt_of_lt_of_le (hg.fit.frm b o hf) hev.size⟩
   rintro b o ⟨i,hi⟩
   rcases hcase i with ⟨k,hk,hpk⟩|⟨hni,_,hpi⟩
   ·exact hg1.fit.own b o (hown1 hpk hi)
   ·rw[hpi] at hi
    exact Nat.lt_of_lt_of_le (hg.fit.own b o ⟨i,hi⟩) hev.size
  ·intro i gg o vs t hi
   rcases hNg i _ hi with ⟨k,o1,hk,hM1,hO⟩|⟨hni,hM⟩
   ·cases o1 with
    |cells l=>exact hO.elim
    |spare g=>exact hO.elim
    |raw g0 o0 vs0 t0=>
     obtain⟨rfl,rfl,rfl,rfl,rfl⟩:g0=gg∧o0=o∧vs0=vs∧t0=[]∧t=[]:=hO
     obtain⟨b,h1,h2,h3⟩:=hg1.raw k _ _ _ _ hM1
     exact⟨b,h1.to (hkey hk),h2,fun j=>.top _⟩
   ·obtain⟨b,h1,h2,h3⟩:=hg.raw i gg o vs t hM
    have hlt':i < M.next:=(hg.dom i).1 h1.ne
    have hb:b < w.heap.size:=(Array.getElem?_eq_some_iff.1 h2).1
    exact⟨b,h1.congr (hp2 hni hlt'),(hev.same b hb (hLi h1.lies hni)).trans h2,fun i=>(h3 i).evo hev'⟩
 cases e with
 |returned v=>
  obtain⟨x,h4,h5⟩:=hend
  obtain⟨e',N,hE,hN,hr⟩:=hR _ _ h5
  cases e' with
  |pan y=>exact hE.elim
  |ret y=>exact⟨_,N,hev',hgam N hN,y,hE μ1 _ F _ w' v hfree (fun k i h=>hp1 h) hp3 h4,hr⟩
 |panicked ch=>
  obtain⟨x,v,h4,h5,h6⟩:=hend
  obtain⟨e',N,hE,hN,hr⟩:=hR _ _ h6
  cases e' with
  |ret y=>exact hE.elim
  |pan y=>exact⟨_,N,hev',hgam N hN,y,v,h4,hE μ1 _ F _ w' v hfree (fun k i h=>hp1 h) hp3 h5,hr⟩
 |outgrown=>exact hend.elim
theorem aQ.frame1 {P:Program} {g:FuncId} {args args1 c:List AV} {M:aG} {R:cH→aG→Prop} {R1:cH→List AV→Prop} (id:Nat) (hM:M.get id=some (.cells c)) (hlt:id < M.next) (hc:∀x,x∈c→aN x)
  (h:aQ P g args1 ⟨1,[(0,.cells c)]⟩ fun e N=>N.next=1∧∃d,N.get 0=some (.cells d)∧R1 e d) (hargs:B0 [id] args args1)
  (hR:∀e d,R1 e d→(match e with|.ret x=>aN x|.pan x=>aN x)∧(∀x,x∈d→aN x)∧R e (M.set id (.cells d))):aQ P g args M R:=by
 refine aQ.frame [id] (by simp) (by simpa using hlt) rfl ?_ h hargs ?_
 ·intro k o1 hk
  have hk':(if k=0 then some (c7.cells c) else none)=some o1:=hk
  split at hk'
  ·rename_i h0
   subst h0
   cases hk'
   exact⟨id,_,rfl,hM,B0.closed hc⟩
  ·cases hk'
 ·rintro e M1 ⟨h1,d,h2,h3⟩
  obtain⟨h4,h5,h6⟩:=hR e d h3
  refine⟨e,_,?_,⟨?_,?_⟩,h6⟩
  ·cases e<;>exact eP.closed h4
  ·show M.next=_
   rw[h1]
   rfl
  ·intro i o hi
   rw[aG.get_set] at hi
   split at hi
   ·rename_i h0
    cases hi
    exact .inl ⟨0,_,.inl (by rw[h0];rfl),h2,oK.closed h5⟩
   ·rename_i h0
    exact .inr ⟨by simpa using h0,hi⟩
theorem aQ.frameN {P:Program} {g:FuncId} {args:List AV} {M:aG} {R:cH→aG→Prop} {R1:cH→List AV→Prop} (h:aQ P g args ⟨0,[]⟩ fun e N=>N.next=1∧∃d,N.get 0=some (.cells d)∧R1 e d) (ha:∀x,x∈args→aN x)
  (hR:∀e d,R1 e d→(∀x,x∈d→aN x)∧∃e',a9h [] M.next e e'∧R e' (M.push (.cells d))):aQ P g args M R:=by
 refine aQ.frame [] (by simp) (by simp) rfl ?_ h (B0.closed ha) ?_
 ·intro k o1 hk
  cases hk
 ·rintro e M1 ⟨h1,d,h2,h3⟩
  obtain⟨h5,e',h4,h6⟩:=hR e d h3
  refine⟨e',_,h4,⟨?_,?_⟩,h6⟩
  ·show M.next+1=_
   rw[h1]
   rfl
  ·intro i o hi
   rw[aG.get_push] at hi
   split at hi
   ·rename_i h0
    cases hi
    exact .inl ⟨0,_,.inr ⟨Nat.zero_le _,by rw[h0];rfl⟩,h2,oK.closed h5⟩
   ·exact .inr ⟨by simp,hi⟩
theorem aQ.cutL {P:Program} {g:FuncId} {args:List AV} {M:aG} {r:AV} {l:List (Nat×c7)} (h:aQ P g args M fun e N=>∃x,e=.ret x∧aI M.next x r∧M.next≤N.next∧gE M.next N l):
  aQ P g args M fun e N=>e=.ret r∧N=⟨M.next,l⟩:=by
 refine h.joint ?_ ?_
 ·rintro x N ⟨y,e,hs,hn,ho⟩
  cases e
  exact⟨r,_,⟨rfl,rfl⟩,aR.cut (Nat.le_refl _) hn rfl ⟨hs,trivial⟩ ho⟩
 ·rintro x N ⟨y,e,_⟩
  cases e
theorem cG {k i:Nat} {l:List AV} {M:aG} {r:List (Nat×c7)} (hi:i < k) (hM:M.get i=some (.cells l)) (hl:∀x,x∈l→aN x) (hr:gE k M r):gE k M ((i,.cells l)::r):=by
 refine⟨hi,?_,hr⟩
 rw[hM]
 refine⟨rfl,fun j x y hx hy=>?_⟩
 rw[hx] at hy
 cases hy
 exact aI.of_closed (hl x (List.mem_of_getElem? hx))
theorem aR.freezeP {n0:Nat} {t:List (Nat×AV)} {ds:List bJ} {M:aG} (i:Nat) {id:Nat} {l:List AV} (h:AF.get ⟨t,ds⟩ i=.ptr id 0) (hM:M.get id=some (.cells l)):
  aR n0 ⟨t,ds⟩ M ⟨(i,.ref l)::t,ds⟩ (M.drop id):=by
 intro μ0 μ F w0 w m a hn he hg hr
 obtain⟨b,c,ty,o1,o2,o3,o4,o5⟩:=hg.obj id l hM
 have hid:id < M.next:=(hg.dom id).1 (by rw[o1];simp)
 obtain⟨μ2,k1,k2,k3,k4⟩:=lM hg hid
 have hv:=hr.tmps i
 rw[h] at hv
 obtain⟨b',c',ty',hb',hv',_⟩:=p9 hg hM hv
 rw[o1] at hb'
 cases hb'
 refine⟨μ2,he.trans k3,k4 _ rfl (fun j=>aG.get_drop M id j),hr.size,?_,hr.defs.evo k3,fun p hp=>(hr.kept p hp).evo k3⟩
 intro j
 by_cases e:j=i
 ·subst e
  have:AF.get ⟨(j,.ref l)::t,ds⟩ j=.ref l:=by simp[AF.get,aJ]
  rw[this,hv']
  have hcell:∀(p:Nat) (x:AV),l[p]? =some x→c[p]? =some (c.getD p undef):=by
   intro p x hp
   have h1:=(List.getElem?_eq_some_iff.1 hp).1
   have:p < c.size:=by omega
   simp[Array.getD,this]
  refine .ref l b 0 (fun p=>c.getD p undef) (fun p x hp=>o4 p _ (hcell p x hp)) (fun p x hp=>?_) (fun p x hp=>(o5 p x _ hp (hcell p x hp)).evo k3)
  rw[Nat.zero_add]
  refine⟨by rw[cF o2];exact hcell p x hp,hg.frm b p ⟨id,.inl o1⟩,?_⟩
  intro ho
  obtain⟨i',hi',h4|⟨e',g',h4,_⟩⟩:=k2 b p ho
  ·exact hi' (hg.inj i' id b (.inl h4) (.inl o1))
  ·exact hi' (hg.inj i' id b (.inr ⟨e',g',h4⟩) (.inl o1))
 ·have:AF.get ⟨(i,.ref l)::t,ds⟩ j=AF.get ⟨t,ds⟩ j:=by simp[AF.get,aJ,e]
  rw[this]
  exact (hr.tmps j).evo k3
def EA:List AV→List AV→Prop
 |[],[]=>True
 |x::l,y::m=>Sub x y∧EA l m
 |_,_=>False
theorem EA.len:∀{l m:List AV},EA l m→l.length=m.length
 |[],[],_=>rfl
 |_::_,_::_,h=>congrArg (·+1) (EA.len h.2)
theorem EA.get:∀{l m:List AV},EA l m→∀(i:Nat) (x y:AV),l[i]? =some x→m[i]? =some y→Sub x y
 |[],[],_,i,_,_,hx,_=>by simp at hx
 |a::l,b::m,h,0,x,y,hx,hy=>by cases hx;cases hy;exact h.1
 |a::l,b::m,h,i+1,x,y,hx,hy=>EA.get h.2 i x y hx hy
theorem aO.sub {P:Program} {g:FuncId} {args args':List AV} {r:AV} (h:aO P g args' r) (hs:EA args args'):aO P g args r:=fun M=>(h M).sub hs.len hs.get
end
end Go.Ab
