/- Parts of the proof, one behind the other. No further condition. -/
import Derived.Test.YtbcaejhhgkcgpaaDoorK11
import Derived.Shelf.Strings.Builder1
import Derived.Lib.Bytealg
set_option linter.unusedVariables false
set_option linter.unusedSimpArgs false
namespace Go.Ab
open Go.RowKit Go.Shelf Go.Proofs
section
variable {P:Program} {ρ:Ren}
theorem bld_args {μ:Mu} {F:Frm} {w:World} {id b:Nat} {vs:Array Value} (hb:μ id=some (.at b)) (h:RepL μ F w [.ptr id 0] vs):vs=#[.pointer (some ⟨b,0,none⟩)]:=by
 obtain⟨hs,hr⟩:=h
 have hs':vs.size=1:=hs
 obtain⟨v,rfl⟩:∃v,vs=#[v]:=⟨vs[0],by
  apply Array.ext
  ·simpa using hs'
  ·intro i h1 h2
   have:i=0:=by simp at h2;omega
   subst this
   rfl⟩
 have:=hr 0 (.ptr id 0) v rfl rfl
 cases this with
 |ptr _ _ _ _ _ hv=>rw[hv b hb]
def bldNew (T:TypeId):AObj:=.raw none (.cells #[.pointer none,.slice none 0 0] T (0,0)) #[] []
theorem copyNew (L:Lays.n240 P ρ) (X:Builder.X72 P ρ) (hE:Enters P (ρ.f 240)) {M:Mem} {id:Nat} (hM:M.get id=some (bldNew (ρ.t 72))):
  ACalls P (ρ.f 240) [.ptr id 0] M fun e N=>e=.ret (.tup [])∧N=M.set id (.cells [.ptr id 0,.sl 1 [] .full]):=by
 refine⟨hE,fun μ F w vs hg hv=>?_⟩
 obtain⟨b,hb,hc,_⟩:=hg.raw id _ _ _ _ hM
 have hb':μ id=some (.at b):=hb
 obtain rfl:=bld_args hb' hv
 have hcell:w.cell? ⟨b,0,none⟩=some (.pointer none):=by rw[cell_mk hc];rfl
 refine (Any.Builder_copyCheck_fresh L X b w hcell (by simp[World.shape?,hc]) (by simp[World.frozen?,hc])).mono ?_
 rintro e w' ⟨rfl,rfl⟩
 have hset:(w.setCell ⟨b,0,none⟩ (.pointer (some ⟨b,0,none⟩))).heap[b]? =some (.cells #[.pointer (some ⟨b,0,none⟩),.slice none 0 0] (ρ.t 72) (0,0)):=by
  simp only[World.setCell,Array.getElem?_modify,hc]
  simp
 have hw:Wrote w b (w.setCell ⟨b,0,none⟩ (.pointer (some ⟨b,0,none⟩))):=⟨rfl,rfl,rfl,by simp[World.setCell],fun k hk=>Below.heap_setCell w _ _ k hk⟩
 obtain⟨he,hG⟩:=gam_write hg hb' hc hw (l:=[.ptr id 0,.sl 1 [] .full]) hset rfl rfl (by
   intro i v hi
   match i,hi with
   |0,hi=>simp at hi;subst hi;rfl
   |1,hi=>simp at hi;subst hi;rfl
   |i+2,hi=>simp at hi) (by
   intro i x v hx hi
   match i,hx,hi with
   |0,hx,hi=>
    simp at hx hi
    subst hx;subst hi
    exact .ptr _ _ _ rfl (by rw[hb'];simp) (fun b' hb''=>by rw[hb'] at hb'';cases hb'';rfl)
   |1,hx,hi=>
    simp at hx hi
    subst hx;subst hi
    exact rep_toV μ F w (x:=.sl 1 [] .full) rfl
   |i+2,hx,hi=>simp at hx)
 exact⟨μ,_,he,hG,.tup [],.tup _ _ rfl (by simp),rfl,rfl⟩
theorem copyUsed (L:Lays.n240 P ρ) (X:Builder.X72 P ρ) (hE:Enters P (ρ.f 240)) {M:Mem} {id:Nat} {x:AV} (hM:M.get id=some (.cells [.ptr id 0,x])):
  ACalls P (ρ.f 240) [.ptr id 0] M fun e N=>e=.ret (.tup [])∧N=M:=by
 refine⟨hE,fun μ F w vs hg hv=>?_⟩
 obtain⟨b,c,ty,hb,hc,hs,_,hr⟩:=hg.obj id _ hM
 obtain rfl:=bld_args hb hv
 have hlt:0 < c.size:=by rw[hs];simp
 have h0:c[0]? =some c[0]:=Array.getElem?_eq_getElem hlt
 have hp:=hr 0 _ _ rfl h0
 have hcell:w.cell? ⟨b,0,none⟩=some (.pointer (some ⟨b,0,none⟩)):=by
  rw[cell_mk hc,h0]
  cases hp with
  |ptr _ _ _ _ _ hv=>rw[hv b hb]
 refine (Any.Builder_copyCheck_used L X b w hcell).mono ?_
 rintro e w' ⟨rfl,rfl⟩
 exact⟨μ,M,Evo.refl _ _,hg,.tup [],.tup _ _ rfl (by simp),rfl,rfl⟩
theorem gam_let {μ:Mu} {F:Frm} {M:Mem} {w w':World} (h:Gam μ F M w) {id g b:Nat} (hid:μ id=some (.spare (some (b,0)) g)) {c:Array Value} {ty:TypeId} {fr fr':Nat×Nat}
  (h0:w.heap[b]? =some (.cells c ty fr)) (hw:Wrote w b w') (h1:w'.heap[b]? =some (.cells c ty fr')):Evo w μ w' (μ.put id .dead)∧Gam (μ.put id .dead) F (M.drop id) w':=by
 have hlt:id < M.next:=(h.dom id).1 (by rw[hid];simp)
 have hput:∀i,i≠id→(μ.put id .dead) i=μ i:=fun i hi=>by simp[Mu.put,hi]
 have hputs:(μ.put id .dead) id=some .dead:=by simp[Mu.put]
 have hownb:∀o,Own μ b o:=fun o=>⟨id,.inr ⟨0,g,hid,Nat.zero_le _⟩⟩
 have hlies:∀i k,Lies (μ.put id .dead) i k→i≠id∧Lies μ i k:=by
  rintro i k (h1|⟨e,g,h1⟩)
  ·by_cases hi:i=id
   ·subst hi;rw[hputs] at h1;cases h1
   ·rw[hput i hi] at h1;exact⟨hi,.inl h1⟩
  ·by_cases hi:i=id
   ·subst hi;rw[hputs] at h1;cases h1
   ·rw[hput i hi] at h1;exact⟨hi,.inr ⟨e,g,h1⟩⟩
 have hown:∀k o,Own (μ.put id .dead) k o→Own μ k o:=by
  rintro k o ⟨i,h1|⟨e,g,h1,he⟩⟩
  ·by_cases hi:i=id
   ·subst hi;rw[hputs] at h1;cases h1
   ·rw[hput i hi] at h1;exact⟨i,.inl h1⟩
  ·by_cases hi:i=id
   ·subst hi;rw[hputs] at h1;cases h1
   ·rw[hput i hi] at h1;exact⟨i,.inr ⟨e,g,h1,he⟩⟩
 have hev:Evo w μ w' (μ.put id .dead):=by
  refine⟨hw.os,hw.tape,hw.output,Nat.le_of_eq hw.size.symm,?_,?_,?_,fun k o _ ho=>hown k o ho⟩
  ·intro i hi
   by_cases he:i=id
   ·subst he;exact .inr (.inl hputs)
   ·exact .inl (hput i he)
  ·intro k hk hn
   refine hw.other k ?_
   rintro rfl
   exact hn 0 (hownb 0)
  ·intro k e' c' ty' f' hk hn hc
   by_cases hkb:k=b
   ·subst hkb
    rw[h0] at hc
    cases hc
    exact⟨c,fr',h1,rfl,fun _ _=>rfl⟩
   ·exact⟨c',f',(hw.other k hkb).trans hc,rfl,fun _ _=>rfl⟩
 have hfar:∀i k,i≠id→Lies μ i k→k≠b:=by
  rintro i k hi hl rfl
  exact hi (h.inj i id k hl (.inr ⟨0,g,hid⟩))
 refine⟨hev,{dom:=?_,obj:=?_,spare:=?_,inj:=fun i j k hi hj=>h.inj i j k (hlies i k hi).2 (hlies j k hj).2,frm:=fun k o ho=>h.frm k o (hown k o ho),fit:=⟨fun k o ho=>by rw[hw.size];exact h.fit.own k o (hown k o ho),fun k o hF=>by rw[hw.size];exact h.fit.frm k o hF⟩,raw:=?_}⟩
 ·intro i
  show _↔i < M.next
  by_cases hi:i=id
  ·subst hi;rw[hputs];simp[hlt]
  ·rw[hput i hi];exact h.dom i
 ·intro i l hl
  rw[Mem.get_drop] at hl
  split at hl
  ·cases hl
  ·rename_i hi
   obtain⟨b1,c1,ty1,a1,a2,a3,a4,a5⟩:=h.obj i l hl
   exact⟨b1,c1,ty1,(hput i hi).trans a1,(hw.other b1 (hfar i b1 hi (.inl a1))).trans a2,a3,a4,fun i x v hx hv=>(a5 i x v hx hv).evo hev⟩
 ·intro i g' hl
  rw[Mem.get_drop] at hl
  split at hl
  ·cases hl
  ·rename_i hi
   obtain⟨p,a1,a2⟩:=h.spare i g' hl
   refine⟨p,(hput i hi).trans a1,fun b1 e1 hp=>?_⟩
   obtain⟨c1,ty1,f1,a3,a4,a5⟩:=a2 b1 e1 hp
   exact⟨c1,ty1,f1,(hw.other b1 (hfar i b1 hi (.inr ⟨e1,g',by rw[a1,hp]⟩))).trans a3,a4,a5⟩
 ·intro i gg o vs t hl
  rw[Mem.get_drop] at hl
  split at hl
  ·cases hl
  ·rename_i hi
   obtain⟨b1,a1,a2,a3⟩:=h.raw i gg o vs t hl
   exact⟨b1,a1.congr (hput i hi),(hw.other b1 (hfar i b1 hi a1.lies)).trans a2,fun i=>(a3 i).evo hev⟩
set_option maxHeartbeats 1000000 in
set_option maxRecDepth 100000 in
theorem bld_string (L:Lays.n169 P ρ) (X:Builder.Extra P ρ) (b g cap:Nat) (cur:Array Value) (l:List UInt8) (w:World) (hc:w.cell? ⟨b,1,none⟩=some (.slice (some ⟨g,0,none⟩) l.length cap))
  (hg:w.heap[g]? =some (.cells cur (ρ.t 5) (0,0))) (h0:l≠[]) (hcap:l.length≤cap) (hn:l.length≤cur.size) (h63:l.length≤9223372036854775807) (hcell:∀(j:Nat) (x:UInt8),l[j]? =some x→cur[j]? =some (.int .u8 x.toNat)):
  Calls P (ρ.f 169) #[.pointer (some ⟨b,0,none⟩)] w fun e w'=>e=.returned (.string ⟨l.toArray⟩)∧w'=w.drew.freeze ⟨g,0,none⟩ l.length:=by
 have hl0:0 < l.length:=List.length_pos_iff.2 h0
 have c1:w.drew.cell? ⟨b,1,none⟩=some (.slice (some ⟨g,0,none⟩) l.length cap):=hc
 have hSD:(Builtin.unsafeSliceData_ #[(ρ.t 37)] (ρ.t 127) #[.slice (some ⟨g,0,none⟩) l.length cap]).run P w.drew=.ok (.pointer (some ⟨g,0,none⟩)) w.drew:=
  Lib.run_unsafeSliceData_row _ _ _ _ _ _ (by omega)
 have hUS:(Builtin.unsafeString_ #[(ρ.t 127),(ρ.t 3)] (ρ.t 9) #[.pointer (some ⟨g,0,none⟩),.int .i64 l.length]).run P w.drew=.ok (.string ⟨l.toArray⟩) (w.drew.freeze ⟨g,0,none⟩ l.length):=by
  refine Lib.run_unsafeString_row w.drew (ρ.t 127) (ρ.t 3) (ρ.t 9) (ρ.t 5) L.t127 X.cellsByte g cur.size (by have hg':w.drew.heap[g]? =some (.cells cur (ρ.t 5) (0,0)):=hg;simp[World.shape?,hg']) l h0 hn h63 ?_
  intro j x hx
  rw[Addr.add_lit,show w.drew.cell? ⟨g,0+j,none⟩=w.cell? ⟨g,0+j,none⟩ from rfl,cell_mk hg,Nat.zero_add]
  exact hcell j x hx
 have mixed:=L.mixed
 have t72:=L.t72;have a72:=L.a72;have z72:=L.z72;have v72:=L.v72;have u72:=run_underlying L.t72
 have t70:=L.t70;have a70:=L.a70;have z70:=L.z70;have v70:=L.v70;have u70:=run_underlying L.t70
 have t37:=L.t37;have a37:=L.a37;have z37:=L.z37;have v37:=L.v37;have u37:=run_underlying L.t37
 have t127:=L.t127;have a127:=L.a127;have z127:=L.z127;have v127:=L.v127;have u127:=run_underlying L.t127
 have t3:=L.t3;have a3:=L.a3;have z3:=L.z3;have v3:=L.v3;have u3:=run_underlying L.t3
 have t9:=L.t9;have a9:=L.a9;have z9:=L.z9;have v9:=L.v9;have u9:=run_underlying L.t9
 have t5:=X.t5;have a5:=X.a5;have z5:=X.z5;have v5:=X.v5;have u5:=run_underlying X.t5
 go_enter L.f169,Body.n169_ntmps ρ
 go_wp2
 go_region_o
 all_goals (go_wp2;go_ret;exact⟨rfl,rfl⟩)
theorem bstr_ok (L:Lays.n169 P ρ) (X:Builder.Extra P ρ) (hE:Enters P (ρ.f 169)) {M:Mem} {id k g cap:Nat} {x:AV} {c:Array Value} {bs:List UInt8} (hM:M.get id=some (.cells [x,.bsl k g bs.length cap]))
  (hK:M.get k=some (bufO g (ρ.t 5) c)) (hB:BufIs c bs cap) (h0:bs≠[]) (h63:bs.length≤9223372036854775807):
  ACalls P (ρ.f 169) [.ptr id 0] M fun e N=>e=.ret (.str bs)∧N=M.drop k:=by
 refine⟨hE,fun μ F w vs hg hv=>?_⟩
 obtain⟨b,c0,ty,hb,hc,hs,_,hr⟩:=hg.obj id _ hM
 obtain rfl:=bld_args hb hv
 have hlt:1 < c0.size:=by rw[hs];simp
 have h1:c0[1]? =some c0[1]:=Array.getElem?_eq_getElem hlt
 obtain⟨q,k1,k2,k3⟩:=gam_bsl hg hK (hr 1 _ _ rfl h1)
 refine (bld_string L X b q cap c bs w (by rw[cell_mk hc,h1,k3]) k2 h0 hB.le (by rw[hB.size];exact hB.le) h63 hB.at_).mono ?_
 rintro e w' ⟨rfl,rfl⟩
 have hn:bs.length≠0:=by simpa using h0
 have hf:(w.drew.freeze ⟨q,0,none⟩ bs.length).heap[q]? =some (.cells c (ρ.t 5) (0,0+bs.length)):=by
  have k2':w.drew.heap[q]? =some (.cells c (ρ.t 5) (0,0)):=k2
  unfold World.freeze
  rw[if_neg hn]
  simp only[Array.getElem?_modify,k2']
  simp
 have hw:Wrote w q (w.drew.freeze ⟨q,0,none⟩ bs.length):=by
  unfold World.freeze
  rw[if_neg hn]
  refine⟨rfl,rfl,rfl,by simp,fun j hj=>?_⟩
  show (w.heap.modify q _)[j]? =_
  rw[Array.getElem?_modify,if_neg (fun h=>hj h.symm)]
 obtain⟨he,hG⟩:=gam_let hg k1 k2 hw hf
 exact⟨_,_,he,hG,.str bs,.str bs,rfl,rfl⟩
end
section
variable {P:Program} {τ:Tab} {ops:Array Oper} {cls:Nat→Cls} {Q:AX→AF→Mem→Prop} {ds:List ADef} {ls:List Nat} {i:Nat} {t:List (Nat×AV)} {M:Mem}
structure BApp where
 d:Nat
 id:Nat
 g:Nat
 g':Nat
 n:Nat
 cap:Nat
 e:TypeId
 c:Array Value
 ys:List UInt8
def bufOf:Option AObj→Option (Nat×TypeId×Array Value)
 |some (.raw (some g) (.cells c e fr) vs t)=>if fr=(0,0)∧vs.size=0∧t.length=0 then some (g,e,c) else none
 |_=>none
theorem bufOf_spec {x:Option AObj} {g:Nat} {e:TypeId} {c:Array Value} (h:bufOf x=some (g,e,c)):x=some (bufO g e c):=by
 unfold bufOf at h
 split at h
 ·rename_i g' c' e' fr vs t
  split at h
  ·rename_i hh
   obtain⟨rfl,h1,h2⟩:=hh
   cases h
   rw[show vs=#[] from Array.eq_empty_of_size_eq_zero h1,show t=[] from List.length_eq_zero_iff.1 h2]
   rfl
  ·cases h
 ·cases h
def bappOp (τ:Tab) (ds:List ADef) (t:List (Nat×AV)) (M:Mem) (d:Nat) (ty tx:TypeId) (s y:Operand):Option BApp:=
 match AF.ev ⟨t,ds⟩ s,AF.ev ⟨t,ds⟩ y with
 |.bsl id g n cap,.str ys=>
  match bufOf (M.get id),lookup τ ty,lookup τ tx with
  |some (g',e,c),some ti,some xi=>
   match ti.k,xi.k with
   |.slice e',.str=>
    match lookup τ e' with
    |some ei=>(match decide (e'=e),decide (ei.size=1),decide (ei.bytes=1) with
     |true,true,true=>some ⟨d,id,g,g',n,cap,e,c,ys⟩
     |_,_,_=>none)
    |none=>none
   |_,_=>none
  |_,_,_=>none
 |_,_=>none
def stepBapp (τ:Tab) (ops:Array Oper) (cls:Nat→Cls) (ds:List ADef) (i:Nat) (t:List (Nat×AV)) (M:Mem):Option BApp:=
 match ops[i]? with
 |some o=>
  match wantedA ops ⟨t,ds⟩ o,o.dst,isE (cls i),o.op with
  |some true,some d,true,.call {callee:=.builtin .append,args:=⟨[s,y]⟩,argTypes:=⟨[ty,tx]⟩}=>bappOp τ ds t M d ty tx s y
  |_,_,_,_=>none
 |none=>none
theorem DW_bapp (hτ:TabOK P τ) {d id g g' n cap:Nat} {e:TypeId} {c:Array Value} {ys:List UInt8} (hs:stepBapp τ ops cls ds i t M=some ⟨d,id,g,g',n,cap,e,c,ys⟩) (hgg:g'=g) {bs:List UInt8} (hn:n=bs.length) (hB:BufIs c bs cap) (hlen:n+ys.length≤140737488355328)
  (h:∀(cap':Nat) (c':Array Value),BufIs c' (bs++ys) cap'→DW P ops cls Q ds ls ((d,.bsl id (g+1) (n+ys.length) cap')::t) (M.set id (bufO (g+1) e c'))):DW P ops cls Q ds (i::ls) t M:=by
 unfold stepBapp at hs
 split at hs
 ·rename_i o hi
  split at hs
  ·rename_i d' s y ty tx hw hd hc ho
   unfold bappOp at hs
   split at hs
   ·rename_i id' g0 n' cap' ys' hS hY
    split at hs
    ·rename_i g' e' c' ti xi hM' ht hxi
     have hM:=bufOf_spec hM'
     split at hs
     ·rename_i e1 hk hk2
      split at hs
      ·rename_i ei he
       split at hs
       ·rename_i q2 q3 q4
        have q2:=of_decide_eq_true q2
        have q3:=of_decide_eq_true q3
        have q4:=of_decide_eq_true q4
        subst q2
        cases hs
        subst hgg
        refine DW_run hi hw ?_
        refine SC.of_G hc (by intro c hc;rw[ho] at hc;cases hc) ?_
        refine OpG.mono (opG_append_bsl hτ ⟨ht,hk,he,by omega⟩ q3 hxi ho hS hn hM hB (by rw[hk2,hY];rfl) (by rw[hY];rfl) (by rw[q4];omega) hlen) ?_
        rintro u M' ⟨cap',c',h1,rfl,rfl⟩
        have:=h cap' c' h1
        simpa [AF.put,hd] using this
       ·cases hs
      ·cases hs
     ·cases hs
    ·cases hs
   ·cases hs
  ·cases hs
 ·cases hs
def bnewOp (τ:Tab) (ds:List ADef) (t:List (Nat×AV)) (d:Nat) (ty tx:TypeId) (s y:Operand):Option (Nat×TypeId×List UInt8):=
 match AF.ev ⟨t,ds⟩ s,AF.ev ⟨t,ds⟩ y with
 |.sl _ [] .full,.str ys=>
  match lookup τ ty,lookup τ tx with
  |some ti,some xi=>
   match ti.k,xi.k with
   |.slice e',.str=>
    match lookup τ e' with
    |some ei=>(match decide (ei.size=1),decide (ei.bytes=1) with
     |true,true=>some (d,e',ys)
     |_,_=>none)
    |none=>none
   |_,_=>none
  |_,_=>none
 |_,_=>none
def stepBnew (τ:Tab) (ops:Array Oper) (cls:Nat→Cls) (ds:List ADef) (i:Nat) (t:List (Nat×AV)):Option (Nat×TypeId×List UInt8):=
 match ops[i]? with
 |some o=>
  match wantedA ops ⟨t,ds⟩ o,o.dst,isE (cls i),o.op with
  |some true,some d,true,.call {callee:=.builtin .append,args:=⟨[s,y]⟩,argTypes:=⟨[ty,tx]⟩}=>bnewOp τ ds t d ty tx s y
  |_,_,_,_=>none
 |none=>none
theorem DW_bnew (hτ:TabOK P τ) {d:Nat} {e:TypeId} {ys:List UInt8} (hs:stepBnew τ ops cls ds i t=some (d,e,ys)) (hne:ys≠[]) (hlen:ys.length≤140737488355328)
  (h:∀(cap':Nat) (c':Array Value),BufIs c' ys cap'→DW P ops cls Q ds ls ((d,.bsl M.next 0 ys.length cap')::t) (M.push (bufO 0 e c'))):DW P ops cls Q ds (i::ls) t M:=by
 unfold stepBnew at hs
 split at hs
 ·rename_i o hi
  split at hs
  ·rename_i d' s y ty tx hw hd hc ho
   unfold bnewOp at hs
   split at hs
   ·rename_i sz ys' hS hY
    split at hs
    ·rename_i ti xi ht hxi
     split at hs
     ·rename_i e1 hk hk2
      split at hs
      ·rename_i ei he
       split at hs
       ·rename_i q3 q4
        have q3:=of_decide_eq_true q3
        have q4:=of_decide_eq_true q4
        cases hs
        refine DW_run hi hw ?_
        refine SC.of_G hc (by intro c hc;rw[ho] at hc;cases hc) ?_
        refine OpG.mono (opG_append_newb hτ ⟨ht,hk,he,by omega⟩ q3 hxi ho hS hne (by rw[hk2,hY];rfl) (by rw[hY];rfl) (by rw[q4];omega) hlen) ?_
        rintro u M' ⟨cap',c',h1,rfl,rfl⟩
        have:=h cap' c' h1
        simpa [AF.put,hd] using this
       ·cases hs
      ·cases hs
     ·cases hs
    ·cases hs
   ·cases hs
  ·cases hs
 ·cases hs
def stepRaw (ops:Array Oper) (cls:Nat→Cls) (ds:List ADef) (i:Nat) (t:List (Nat×AV)):Option (Nat×TypeId):=
 match ops[i]? with
 |some o=>
  match wantedA ops ⟨t,ds⟩ o,o.dst,isE (cls i),o.op with
  |some true,some d,true,.alloc ty=>some (d,ty)
  |_,_,_,_=>none
 |none=>none
theorem DW_raw {d:Nat} {ty:TypeId} (hs:stepRaw ops cls ds i t=some (d,ty)) {z:Value} (hz:∀w,(zeroValue ty).run P w=.ok z w) (h:DW P ops cls Q ds ls ((d,.ptr M.next 0)::t) (M.push (.raw none (.cells z.cells ty (0,0)) #[] []))):DW P ops cls Q ds (i::ls) t M:=by
 unfold stepRaw at hs
 split at hs
 ·rename_i o hi
  split at hs
  ·rename_i d' ty' hw hd hc ho
   cases hs
   refine DW_ofE hi hw hd hc ?_ h
   rw[ho]
   intro μ F w ρc o hg ho ht hr
   have hb:=below_push w (.cells z.cells ty)
   have hnew:({w with heap:=w.heap.push (.cells z.cells ty)}:World).heap[w.heap.size]? =some (.cells z.cells ty (0,0)):=by simp
   obtain⟨he,hG⟩:=gam_pushraw hg hb (vs:=#[]) (t:=[]) (Nat.le_refl _) hnew (fun i=>.top _)
   refine⟨_,_,.pointer (some ⟨w.heap.size,0,none⟩),_,?_,.inl rfl,he,hG,?_⟩
   ·simp[execOp,ho,Instr.alloc,newVar,newRow,hz]
   ·exact .ptr _ _ _ rfl (by simp[Mu.put]) (fun b hb=>by simp[Mu.put] at hb;subst hb;rfl)
  ·cases hs
 ·cases hs
end
end Go.Ab
namespace Go.Proofs.YtbcaejhhgkcgpaaDoor
open Go.Ab Go.Shelf
def bldM (g n cap:Nat) (c:Array Value):Mem:=⟨2,[(0,.cells [.ptr 0 0,.bsl 1 g n cap]),(1,bufO g 5 c)]⟩
def bld0:Mem:=⟨1,[(0,bldNew 69)]⟩
set_option maxRecDepth 100000 in
set_option maxHeartbeats 8000000 in
theorem bwNew (s:Bytes) (hs:s≠[]) (hl:s.length < 1000000000):ACalls Tryd.prog 35 [.ptr 0 0,.str s] bld0 (fun e N=>∃cap c,BufIs c s cap∧e=.ret (.tup [.int .i64 (s.length:Int),.nilIface])∧(bldM 0 s.length cap c).le N):=by
 refine acalls_of tabOK Tryd.func35 rfl (by decide) (by simp[Tryd.f35]) ?_
 unfold bld0
 repeat' (first|refine DW_bnew tabOK rfl hs (by omega) ?_|refine DW_A tabs rfl ?_|refine DW_nil ?_|refine W_A rfl ?_|refine DW_app tabOK rfl rfl (by simp;omega) (by simp;omega) ?_|refine DW_app0 tabOK rfl (by simp;omega) (by simp;omega) ?_)
 refine DW_CM rfl rfl (copyNew lays240 laysX.toX72 ⟨_,_,Tryd.func60,rfl,by decide⟩ rfl) ?_ (fun u M' h=>by cases h.1)
 rintro u N ⟨e,rfl⟩
 cases e
 repeat' (first|refine DW_bnew tabOK rfl hs (by omega) ?_|refine DW_A tabs rfl ?_|refine DW_nil ?_|refine W_A rfl ?_|refine DW_app tabOK rfl rfl (by simp;omega) (by simp;omega) ?_|refine DW_app0 tabOK rfl (by simp;omega) (by simp;omega) ?_)
 intro cap c hB
 repeat' (first|refine DW_bnew tabOK rfl hs (by omega) ?_|refine DW_A tabs rfl ?_|refine DW_nil ?_|refine W_A rfl ?_|refine DW_app tabOK rfl rfl (by simp;omega) (by simp;omega) ?_|refine DW_app0 tabOK rfl (by simp;omega) (by simp;omega) ?_)
 exact⟨rfl,_,rfl,cap,c,hB,rfl,Mem.le_cons rfl (Mem.le_cons rfl (Mem.le_nil rfl))⟩
set_option maxRecDepth 100000 in
set_option maxHeartbeats 8000000 in
theorem bwMore (s bs:Bytes) (g cap:Nat) (c:Array Value) (hB:BufIs c bs cap) (hl:bs.length+s.length < 1000000000):ACalls Tryd.prog 35 [.ptr 0 0,.str s] (bldM g bs.length cap c) (fun e N=>∃cap c,BufIs c (bs++s) cap∧e=.ret (.tup [.int .i64 (s.length:Int),.nilIface])∧(bldM (g+1) (bs++s).length cap c).le N):=by
 refine acalls_of tabOK Tryd.func35 rfl (by decide) (by simp[Tryd.f35]) ?_
 unfold bldM
 repeat' (first|refine DW_bapp tabOK rfl rfl rfl hB (by omega) ?_|refine DW_A tabs rfl ?_|refine DW_nil ?_|refine W_A rfl ?_|refine DW_app tabOK rfl rfl (by simp;omega) (by simp;omega) ?_|refine DW_app0 tabOK rfl (by simp;omega) (by simp;omega) ?_)
 refine DW_CM rfl rfl (copyUsed lays240 laysX.toX72 ⟨_,_,Tryd.func60,rfl,by decide⟩ rfl) ?_ (fun u M' h=>by cases h.1)
 rintro u N ⟨e,rfl⟩
 cases e
 repeat' (first|refine DW_bapp tabOK rfl rfl rfl hB (by omega) ?_|refine DW_A tabs rfl ?_|refine DW_nil ?_|refine W_A rfl ?_|refine DW_app tabOK rfl rfl (by simp;omega) (by simp;omega) ?_|refine DW_app0 tabOK rfl (by simp;omega) (by simp;omega) ?_)
 intro cap c hB
 repeat' (first|refine DW_bapp tabOK rfl rfl rfl hB (by omega) ?_|refine DW_A tabs rfl ?_|refine DW_nil ?_|refine W_A rfl ?_|refine DW_app tabOK rfl rfl (by simp;omega) (by simp;omega) ?_|refine DW_app0 tabOK rfl (by simp;omega) (by simp;omega) ?_)
 rw[←List.length_append]
 exact⟨rfl,_,rfl,cap,c,hB,rfl,Mem.le_cons rfl (Mem.le_cons rfl (Mem.le_nil rfl))⟩
theorem bwNewM {M:Mem} {id:Nat} (hM:M.get id=some (bldNew 69)) (hlt:id < M.next) (s:Bytes) (hs:s≠[]) (hl:s.length < 1000000000):ACalls Tryd.prog 35 [.ptr id 0,.str s] M fun e N=>
  ∃cap c,BufIs c s cap∧e=.ret (.tup [.int .i64 (s.length:Int),.nilIface])∧N=(M.push (bufO 0 5 c)).set id (.cells [.ptr id 0,.bsl M.next 0 s.length cap]):=by
 refine ACalls.frame [id] (by simp) (by simpa using hlt) (N0:=bld0) rfl ?_ (bwNew s hs hl) ⟨InV.ptr rfl,InV.closed closed_str,trivial⟩ ?_
 ·intro k o1 hk
  have hk':(if k=0 then some (bldNew 69) else none)=some o1:=hk
  split at hk'
  ·rename_i h0
   subst h0
   cases hk'
   exact⟨id,_,rfl,hM,rfl,rfl,rfl,rfl,rfl⟩
  ·cases hk'
 ·rintro e M1 ⟨cap,c,hB,rfl,hn,hle⟩
  refine⟨.ret (.tup [.int .i64 (s.length:Int),.nilIface]),_,OutV.closed (closed_tup (closed2 closed_int closed_nilIface)),⟨?_,?_⟩,cap,c,hB,rfl,rfl⟩
  ·show M.next+1=M.next+(M1.next - 1)
   rw[←hn]
   rfl
  ·intro i o hi
   rw[Mem.get_set] at hi
   split at hi
   ·rename_i h0
    cases hi
    refine .inl ⟨0,_,.inl (by rw[h0];rfl),hle 0 _ rfl,?_⟩
    exact⟨OutV.ptr,OutV.bsl,trivial⟩
   ·rename_i h0
    rw[Mem.get_push] at hi
    split at hi
    ·rename_i h1
     cases hi
     exact .inl ⟨1,_,.inr ⟨Nat.le_refl _,h1⟩,hle 1 _ rfl,rfl,rfl,rfl,rfl,rfl⟩
    ·exact .inr ⟨by simpa using h0,hi⟩
theorem bwMoreM {M:Mem} {id k g cap:Nat} {c:Array Value} {bs:Bytes} (hM:M.get id=some (.cells [.ptr id 0,.bsl k g bs.length cap])) (hK:M.get k=some (bufO g 5 c)) (hne:id≠k) (hlt:id < M.next) (hltk:k < M.next)
  (hB:BufIs c bs cap) (s:Bytes) (hl:bs.length+s.length < 1000000000):ACalls Tryd.prog 35 [.ptr id 0,.str s] M fun e N=>
  ∃cap c,BufIs c (bs++s) cap∧e=.ret (.tup [.int .i64 (s.length:Int),.nilIface])∧N=(M.set id (.cells [.ptr id 0,.bsl k (g+1) (bs++s).length cap])).set k (bufO (g+1) 5 c):=by
 refine ACalls.frame [id,k] (by simp[hne]) (by intro i hi;simp at hi;rcases hi with rfl|rfl<;>assumption) (N0:=bldM g bs.length cap c) rfl ?_ (bwMore s bs g cap c hB hl) ⟨InV.ptr rfl,InV.closed closed_str,trivial⟩ ?_
 ·intro j o1 hj
  have hj':(if j=0 then some (AObj.cells [.ptr 0 0,.bsl 1 g bs.length cap]) else if j=1 then some (bufO g 5 c) else none)=some o1:=hj
  split at hj'
  ·rename_i h0
   subst h0
   cases hj'
   exact⟨id,_,rfl,hM,InV.ptr rfl,InV.bsl rfl,trivial⟩
  ·split at hj'
   ·rename_i h0
    subst h0
    cases hj'
    exact⟨k,_,rfl,hK,rfl,rfl,rfl,rfl,rfl⟩
   ·cases hj'
 ·rintro e M1 ⟨cap,c,hB,rfl,hn,hle⟩
  refine⟨.ret (.tup [.int .i64 (s.length:Int),.nilIface]),_,OutV.closed (closed_tup (closed2 closed_int closed_nilIface)),⟨?_,?_⟩,cap,c,hB,rfl,rfl⟩
  ·show M.next=M.next+(M1.next - 2)
   rw[←hn]
   rfl
  ·intro i o hi
   rw[Mem.get_set] at hi
   split at hi
   ·rename_i h0
    cases hi
    exact .inl ⟨1,_,.inl (by rw[h0];rfl),hle 1 _ rfl,rfl,rfl,rfl,rfl,rfl⟩
   ·rename_i h0
    rw[Mem.get_set] at hi
    split at hi
    ·rename_i h1
     cases hi
     refine .inl ⟨0,_,.inl (by rw[h1];rfl),hle 0 _ rfl,?_⟩
     exact⟨OutV.ptr,OutV.bsl,trivial⟩
    ·rename_i h1
     exact .inr ⟨by simp;exact⟨h1,h0⟩,hi⟩
def bldK (k g n cap:Nat) (c:Array Value):Mem:=⟨k+1,[(0,.cells [.ptr 0 0,.bsl k g n cap]),(k,bufO g 5 c)]⟩
def bldK0 (k:Nat):Mem:=⟨k,[(0,bldNew 69)]⟩
def BldI (k:Nat) (bs:Bytes) (N:Mem):Prop:=(bs=[]∧N=bldK0 k)∨(bs≠[]∧∃g cap c,BufIs c bs cap∧N=bldK k g bs.length cap c)
theorem bldK_get {k g n cap:Nat} {c:Array Value} (hk:0 < k):(bldK k g n cap c).get k=some (bufO g 5 c):=by
 simp[bldK,Mem.get,lookup]
 omega
theorem bWrite {k:Nat} (hk:0 < k) {bs s:Bytes} {N:Mem} (hN:BldI k bs N) (hs:s≠[]) (hl:bs.length+s.length < 1000000000):
  ACalls Tryd.prog 35 [.ptr 0 0,.str s] N fun e N'=>e=.ret (.tup [.int .i64 (s.length:Int),.nilIface])∧∃N2,BldI k (bs++s) N2∧N2.le N':=by
 rcases hN with ⟨rfl,rfl⟩|⟨_,g,cap,c,hB,rfl⟩
 ·refine (bwNewM (M:=bldK0 k) (id:=0) rfl hk s hs (by omega)).mono ?_
  rintro e N' ⟨cap,c,hB,rfl,rfl⟩
  refine⟨rfl,bldK k 0 ([]++s).length cap c,.inr ⟨hs,0,cap,c,hB,rfl⟩,rfl,?_⟩
  intro i o hi
  rw[Mem.get_set]
  simp[bldK,Mem.get,lookup] at hi
  split at hi
  ·rename_i h0
   rw[if_pos h0]
   exact hi
  ·rename_i h0
   rw[if_neg h0,Mem.get_push]
   split at hi
   ·rename_i h1
    rw[if_pos (show i=(bldK0 k).next from h1)]
    exact hi
   ·cases hi
 ·refine (bwMoreM (M:=bldK k g bs.length cap c) (id:=0) (k:=k) rfl (bldK_get hk) (by omega) (Nat.succ_pos _) (Nat.lt_succ_self _) hB s hl).mono ?_
  rintro e N' ⟨cap,c,hB,rfl,rfl⟩
  refine⟨rfl,bldK k (g+1) (bs++s).length cap c,.inr ⟨by simp[hs],g+1,cap,c,hB,rfl⟩,rfl,?_⟩
  intro i o hi
  rw[Mem.get_set]
  simp only[bldK,Mem.get,lookup] at hi
  split at hi
  ·rename_i h0
   rw[if_neg (by omega),Mem.get_set,if_pos h0]
   exact hi
  ·split at hi
   ·rename_i h0
    rw[if_pos h0]
    exact hi
   ·cases hi
theorem bTellM {M:Mem} {id k g cap:Nat} {c:Array Value} {bs:Bytes} {x:AV} (hM:M.get id=some (.cells [x,.bsl k g bs.length cap])) (hK:M.get k=some (bufO g 5 c)) (hB:BufIs c bs cap) (h0:bs≠[]) (hl:bs.length < 1000000000):
  ACalls Tryd.prog 37 [.ptr id 0] M fun e N=>e=.ret (.str bs)∧N=M.drop k:=
 bstr_ok lays169 laysX ⟨_,_,Tryd.func37,rfl,by decide⟩ hM hK hB h0 (by omega)
theorem bTell {k:Nat} (hk:0 < k) {bs:Bytes} {N:Mem} (hN:BldI k bs N) (h0:bs≠[]) (hl:bs.length < 1000000000):ACalls Tryd.prog 37 [.ptr 0 0] N fun e N'=>e=.ret (.str bs)∧N'.next=N.next:=by
 rcases hN with ⟨rfl,rfl⟩|⟨_,g,cap,c,hB,rfl⟩
 ·exact absurd rfl h0
 ·refine (bTellM (M:=bldK k g bs.length cap c) (id:=0) rfl (bldK_get hk) hB h0 hl).mono ?_
  rintro e N' ⟨rfl,rfl⟩
  exact⟨rfl,rfl⟩
end Go.Proofs.YtbcaejhhgkcgpaaDoor
namespace Go.Proofs.YtbcaejhhgkcgpaaDoor
open Go.Ab
def mtL (m:Mt):List Int:=[m.size,m.mode,(m.ch.length:Int)]++m.ch
def catN (l:List Int):Bytes:=(l.map fun n=>putN n.toNat).flatten
def putM (m:Mt):Bytes×Int:=if isM m=true then (catN (mtL m),0) else ([],1)
def valueM (m:Mt) (no:Bool):Bytes×Int:=if no=true then ([0],0) else if (putM m).2=0 then (1::(putM m).1,0) else ([],(putM m).2)
def strA (x:Bytes×Int):AV:=.tup [.str x.1,.int .i64 x.2]
theorem closed_strA (x:Bytes×Int):Closed (strA x):=closed_tup (closed2 closed_str closed_int)
theorem catN_take {l:List Int} {i:Nat} {x:Int} (h:l.take (i+1)=l.take i++[x]):catN (l.take (i+1))=catN (l.take i)++putN x.toNat:=by
 unfold catN
 rw[h,List.map_append,List.flatten_append]
 simp
theorem putN_len (n:Nat):(putN n).length≤5:=by
 unfold putN nb nbI
 rw[List.length_cons]
 have:=(List.dropWhile_sublist (fun b:UInt8=>b==0) (l:=(be4 n).take 4)).length_le
 rw[List.length_take] at this
 omega
theorem catN_len (l:List Int):(catN l).length≤5*l.length:=by
 unfold catN
 induction l with
 |nil=>simp
 |cons x r ih=>
  have:=putN_len x.toNat
  simp at ih ⊢
  omega
theorem mtL_in {m:Mt} (h:isM m=true):∀x,x∈mtL m→0≤x∧x≤4294967295:=by
 unfold isM inR at h
 simp at h
 obtain⟨h1,⟨⟨h2,h3⟩,h4⟩,h5⟩:=h
 intro x hx
 unfold mtL at hx
 simp at hx
 rcases hx with rfl|rfl|rfl|hx
 ·omega
 ·omega
 ·omega
 ·exact h1 x hx
theorem mtL_len {m:Mt} (h:isM m=true):(mtL m).length≤19:=by
 unfold isM inR at h
 simp at h
 unfold mtL
 simp
 omega
set_option maxRecDepth 100000 in
set_option maxHeartbeats 8000000 in
theorem putM_ok (m:Mt) (hl:m.ch.length < 1000000):APure Tryd.prog 33 [m.av] (strA (putM m)):=by
 refine pure_sub (closed1 (closed_mt m)) (closed_strA _) ?_
 refine acalls_of tabOK Tryd.func33 rfl (by decide) (by simp[Tryd.f33]) ?_
 have lc:=len_map (fun n=>AV.int .i64 n) m.ch
 have k1:=mIs_ok m hl
 unfold putM
 cases h:isM m
 ·rw[h] at k1
  rw[if_neg (by simp)]
  repeat' (first|refine DW_raw rfl lays169.v72 ?_|refine DW_VI tabs rfl lc ?_|refine DW_A tabs rfl ?_|refine DW_nil ?_|refine W_A rfl ?_|refine DW_C rfl k1 ?_|refine DW_row tabOK rfl ?_|refine DW_app tabOK rfl rfl (by simp;omega) (by simp;omega) ?_|refine DW_app0 tabOK rfl (by simp;omega) (by simp;omega) ?_)
  exact⟨rfl,_,rfl,_,rfl,SubC.of_closed (closed_strA ([],1))⟩
 ·rw[h] at k1
  rw[if_pos rfl]
  have hin:=mtL_in h
  have hlen:=mtL_len h
  repeat' (first|refine DW_raw rfl lays169.v72 ?_|refine DW_VI tabs rfl lc ?_|refine DW_A tabs rfl ?_|refine DW_nil ?_|refine W_A rfl ?_|refine DW_C rfl k1 ?_|refine DW_row tabOK rfl ?_|refine DW_app tabOK rfl rfl (by simp;omega) (by simp;omega) ?_|refine DW_app0 tabOK rfl (by simp;omega) (by simp;omega) ?_)
  have hl3:((([AV.int .i64 m.size,AV.int .i64 m.mode,AV.int .i64 (m.ch.length:Int)]++m.ch.map fun n=>AV.int .i64 n).length:Nat):Int)=((mtL m).length:Int):=by simp[mtL]
  rw[hl3]
  have hc0:∀i,0 < i→catN ((mtL m).take i)≠[]:=by
   intro i hi
   obtain⟨j,rfl⟩:∃j,i=j+1:=⟨i - 1,by omega⟩
   unfold catN mtL putN
   simp
  refine W_count (mtL m).length (fun i f N=>BldI 2 (catN ((mtL m).take i)) N∧f=⟨[(4,.ptr 0 0),(22,iA (mtL m) .none),(23,.int .i64 ((mtL m).length:Int)),(24,.int .i64 (i:Int))],[]⟩) (Nat.zero_le _) ⟨.inl ⟨rfl,rfl⟩,rfl⟩ (Joint.le ?_ (Mem.le_cons rfl (Mem.le_nil rfl))) ?_
  ·have h22:∀t,Sub (.sl 1 ([AV.int .i64 m.size,AV.int .i64 m.mode,AV.int .i64 (m.ch.length:Int)]++m.ch.map fun n=>AV.int .i64 n) t) (iA (mtL m) .none):=by
    intro t
    unfold iA mtL
    rw[List.map_append]
    exact Sub.untag
   repeat' (first|exact AF.le_nil rfl|refine AF.le_cons rfl ?_|refine AF.le_sub (h22 _) ?_)
  rintro i f N hi ⟨hN,rfl⟩
  by_cases h1:i < (mtL m).length
  ·have d1:decide ((i:Int) < ((mtL m).length:Int))=true:=by simp;omega
   have hx:(mtL m)[i]? =some (mtL m)[i]:=List.getElem?_eq_getElem h1
   have fi:=wrap_succ (i:=i) (by omega)
   have ht:=take_succ hx
   have hm:=hin _ (List.getElem_mem h1)
   generalize (mtL m)[i]=x at hx ht hm
   have kx:=number_nat (m:=x.toNat) (by omega)
   rw[show ((x.toNat:Nat):Int)=x by omega] at kx
   have lx:=putN_len x.toNat
   have lc2:=catN_len ((mtL m).take i)
   rw[List.length_take] at lc2
   unfold iA
   repeat' (first|refine DW_raw rfl lays169.v72 ?_|refine DW_VB tabs rfl d1 ?_|refine DW_VI tabs rfl fi ?_|refine DW_A tabs rfl ?_|refine DW_nil ?_|refine W_A rfl ?_|refine DW_C rfl kx ?_|refine DW_ix tabOK rfl (ixN hx) ?_|refine DW_row tabOK rfl ?_|refine DW_app tabOK rfl rfl (by simp;omega) (by simp;omega) ?_|refine DW_app0 tabOK rfl (by simp;omega) (by simp;omega) ?_)
   refine DW_CM rfl rfl (bWrite (by decide) hN (by simp[putN]) (by omega)) ?_ (fun u M' h=>by cases h.1)
   rintro u N' ⟨e,N2,hN2,hle⟩
   cases e
   repeat' (first|refine DW_raw rfl lays169.v72 ?_|refine DW_VI tabs rfl fi ?_|refine DW_A tabs rfl ?_|refine DW_nil ?_|refine W_A rfl ?_|refine DW_row tabOK rfl ?_|refine DW_app tabOK rfl rfl (by simp;omega) (by simp;omega) ?_|refine DW_app0 tabOK rfl (by simp;omega) (by simp;omega) ?_)
   refine⟨h1,_,_,⟨?_,rfl⟩,Joint.le ?_ hle⟩
   ·rw[catN_take ht]
    exact hN2
   ·skip
    repeat (refine AF.le_cons rfl ?_)
    exact AF.le_nil rfl
  ·have d1:decide ((i:Int) < ((mtL m).length:Int))=false:=by simp;omega
   obtain rfl:i=(mtL m).length:=by omega
   rw[List.take_length] at hN
   have lc2:=catN_len (mtL m)
   repeat' (first|refine DW_raw rfl lays169.v72 ?_|refine DW_VB tabs rfl d1 ?_|refine DW_A tabs rfl ?_|refine DW_nil ?_|refine W_A rfl ?_|refine DW_row tabOK rfl ?_|refine DW_app tabOK rfl rfl (by simp;omega) (by simp;omega) ?_|refine DW_app0 tabOK rfl (by simp;omega) (by simp;omega) ?_)
   refine DW_CM rfl rfl (bTell (by decide) hN ?_ (by omega)) ?_ (fun u M' h=>by cases h.1)
   ·have:=hc0 (mtL m).length (by unfold mtL;simp)
    rw[List.take_length] at this
    exact this
   rintro u N' ⟨e,hn⟩
   cases e
   repeat' (first|refine DW_raw rfl lays169.v72 ?_|refine DW_A tabs rfl ?_|refine DW_nil ?_|refine W_A rfl ?_|refine DW_row tabOK rfl ?_|refine DW_app tabOK rfl rfl (by simp;omega) (by simp;omega) ?_|refine DW_app0 tabOK rfl (by simp;omega) (by simp;omega) ?_)
   exact⟨rfl,_,rfl,_,rfl,SubC.of_closed (closed_strA (catN (mtL m),0))⟩
set_option maxRecDepth 100000 in
set_option maxHeartbeats 8000000 in
theorem value_ok (m:Mt) (no:Bool) (hl:m.ch.length < 1000000):APure Tryd.prog 19 [m.av,.bool no] (strA (valueM m no)):=by
 refine pure_sub (closed2 (closed_mt m) closed_bool) (closed_strA _) ?_
 refine acalls_of tabOK Tryd.func19 rfl (by decide) (by simp[Tryd.f19]) ?_
 have k1:=putM_ok m hl
 unfold valueM
 cases no
 ·unfold putM at k1 ⊢
  cases h:isM m
  ·rw[h,if_neg (by simp)] at k1
   rw[if_neg (by simp),if_neg (by simp)]
   repeat' (first|refine DW_A tabs rfl ?_|refine DW_nil ?_|refine W_A rfl ?_|refine DW_C rfl k1 ?_)
   exact⟨rfl,_,rfl,_,rfl,SubC.of_closed (closed_strA ([],1))⟩
  ·rw[h,if_pos rfl] at k1
   rw[if_neg (by simp),if_pos rfl]
   have lb:=catN_len (mtL m)
   have lm:=mtL_len h
   have hcat:[1].length+(catN (mtL m)).length≤9223372036854775807∧[1]++catN (mtL m)=1::catN (mtL m):=⟨by simp;omega,rfl⟩
   repeat' (first|refine DW_A tabs rfl ?_|refine DW_nil ?_|refine W_A rfl ?_|refine DW_C rfl k1 ?_|refine DW_cat rfl (hcat) ?_)
   exact⟨rfl,_,rfl,_,rfl,SubC.of_closed (closed_strA (1::catN (mtL m),0))⟩
 ·rw[if_pos rfl]
  repeat' (first|refine DW_A tabs rfl ?_|refine DW_nil ?_|refine W_A rfl ?_)
  exact⟨rfl,_,rfl,_,rfl,SubC.of_closed (closed_strA ([0],0))⟩
end Go.Proofs.YtbcaejhhgkcgpaaDoor
namespace Go.Proofs.YtbcaejhhgkcgpaaDoor
open Go.Ab
def tgB (b:Bool):Tag:=if b=true then .full else .none
def idxI {α:Type} (l:List α) (p:α→Bool):Int:=if l.findIdx p < l.length then (l.findIdx p:Int) else -1
theorem idx_none {α:Type} {l:List α} {p:α→Bool} (h:∀(j:Nat) x,l[j]? =some x→p x=false):idxI l p=-1:=by
 unfold idxI
 rw[if_neg]
 intro hl
 have h1:=List.findIdx_getElem (w:=hl)
 rw[h _ _ (List.getElem?_eq_getElem hl)] at h1
 cases h1
theorem idx_hit {α:Type} {l:List α} {p:α→Bool} {i:Nat} {x:α} (h:∀(j:Nat) y,j < i→l[j]? =some y→p y=false) (hx:l[i]? =some x) (hp:p x=true):idxI l p=i:=by
 obtain⟨hi,rfl⟩:=List.getElem?_eq_some_iff.1 hx
 have h1:l.findIdx p=i:=by
  rw[List.findIdx_eq hi]
  refine⟨hp,fun j hj=>?_⟩
  have:=h j l[j] hj (List.getElem?_eq_getElem (by omega))
  simpa using this
 unfold idxI
 rw[h1,if_pos hi]
theorem slL {sz:Nat} {xs ys:List AV} {t:Tag} (hx:∀x,x∈xs→x.cells.length=sz) (hy:∀y,y∈ys→y.cells.length=sz) (hl:xs.length=ys.length) (h:∀(i:Nat) (x y:AV) (j:Nat) (a b:AV),xs[i]? =some x→ys[i]? =some y→x.cells[j]? =some a→y.cells[j]? =some b→Ab.Sub a b):Ab.Sub (.sl sz xs t) (.sl sz ys t):=by
 intro μ F w v hr
 cases hr with
 |sl _ _ _ A cap ad vals hsz hcap hA hone hcell hrep htag=>
  have get:∀(i:Nat) (y:AV) (j:Nat) (b:AV),ys[i]? =some y→y.cells[j]? =some b→∃x a,xs[i]? =some x∧x.cells[j]? =some a:=by
   intro i y j b h1 h2
   have hi:i < xs.length:=by rw[hl];exact (List.getElem?_eq_some_iff.1 h1).1
   have hj:j < sz:=by rw[←hy y (List.mem_of_getElem? h1)];exact (List.getElem?_eq_some_iff.1 h2).1
   have hm:=hx xs[i] (List.getElem_mem hi)
   exact⟨xs[i],_,List.getElem?_eq_getElem hi,List.getElem?_eq_getElem (by rw[hm];exact hj)⟩
  rw[hl] at hcap hA htag ⊢
  refine .sl sz ys t A cap ad vals hy hcap hA ?_ ?_ ?_ htag
  ·intro i y j b h1 h2
   obtain⟨x,a,h3,h4⟩:=get i y j b h1 h2
   exact hone i x j a h3 h4
  ·intro i y j b h1 h2
   obtain⟨x,a,h3,h4⟩:=get i y j b h1 h2
   exact hcell i x j a h3 h4
  ·intro i y j b h1 h2
   obtain⟨x,a,h3,h4⟩:=get i y j b h1 h2
   exact h i x y j a b h3 h1 h4 h2 μ F w _ (hrep i x j a h3 h4)
end Go.Proofs.YtbcaejhhgkcgpaaDoor
namespace Go.Proofs.YtbcaejhhgkcgpaaDoor
open Go.Ab
structure Ch where
 path:Bytes
 gone:Bool
 meta_:Mt
deriving DecidableEq
def Ch.cells (c:Ch):List AV:=[.str c.path,.bool c.gone,.int .i64 c.meta_.size,.int .i64 c.meta_.mode,iA c.meta_.ch .none]
def Ch.av (c:Ch):AV:=.agg c.cells
theorem closed_chc (c:Ch):∀x,x∈c.cells→Closed x:=by
 intro x hx
 simp[Ch.cells] at hx
 rcases hx with rfl|rfl|rfl|rfl|rfl
 ·exact closed_str
 ·exact closed_bool
 ·exact closed_int
 ·exact closed_int
 ·exact closed_iA _ (.inl rfl)
theorem closed_ch (c:Ch):Closed c.av:=closed_agg (closed_chc c)
theorem chs_cells (l:List Ch):∀x,x∈l.map Ch.av→∀c,c∈x.cells→Closed c:=by
 intro x hx
 obtain⟨p,_,rfl⟩:=List.mem_map.1 hx
 exact closed_chc p
def chA (l:List Ch) (t:Tag):AV:=.sl 5 (l.map Ch.av) t
theorem closed_chs (l:List Ch) {t:Tag} (ht:t=.none∨t=.full):Closed (chA l t):=closed_sl ht (fun x hx=>by obtain⟨p,_,rfl⟩:=List.mem_map.1 hx;exact closed_ch p) (chs_cells l)
def zeroB (m:Mt):Bool:=decide (m.size=0)&&decide (m.mode=0)&&decide ((m.ch.length:Int)=0)
def mayB (c:Ch):Bool:=!(c.path==[])&&isPathB c.path&&isM c.meta_&&(!c.gone||zeroB c.meta_)
abbrev RiseC (l:List Ch):Prop:=l.Pairwise fun a b=>bl a.path b.path=true
def batchB (l:List Ch):Bool:=decide (1≤l.length)&&decide (l.length≤20)&&l.all mayB&&decide (RiseC l)
def shortCh (c:Ch):Prop:=c.path.length < 1000000∧c.meta_.ch.length < 1000000
theorem cmpL_neg:∀a b:Bytes,decide (0≤Lib.compareBytes a b)=!bl a b
 |[],[]=>rfl
 |[],_::_=>rfl
 |_::_,[]=>rfl
 |a::x,b::y=>by
  unfold Lib.compareBytes Op.bytesLess
  by_cases h1:a < b
  ·simp[h1]
  ·by_cases h2:b < a
   ·have:a≠b:=fun e=>by subst e;exact absurd h2 (by simp)
    simp[h1,h2,this]
   ·have:a=b:=UInt8.le_antisymm (UInt8.not_lt.1 h2) (UInt8.not_lt.1 h1)
    subst this
    simp only[h1,if_false,BEq.rfl,Bool.true_and,decide_false,Bool.false_or]
    exact cmpL_neg x y
theorem cmp_ext (a b:Bytes):AExt Tryd.prog 74 [.str a,.str b] (.int .i64 (Lib.compareBytes a b)):=by
 intro μ F w vs hv
 obtain⟨hl,hr⟩:=hv
 match vs,hl with
 |⟨[x,y]⟩,_=>
  have h1:=hr 0 _ x rfl rfl
  have h2:=hr 1 _ y rfl rfl
  cases h1
  cases h2
  refine⟨_,?_,.int _ _⟩
  have:=run_callFunc_extern (P:=Tryd.prog) Tryd.func74 (by kernel_rfl) (by kernel_rfl) (by kernel_rfl) (e:=Extern.BytealgCompare.compare) (by kernel_rfl) #[.string ⟨a.toArray⟩,.string ⟨b.toArray⟩] w
  rw[Lib.run_compareString] at this
  simpa [Result.andThen] using this
set_option maxRecDepth 100000 in
set_option maxHeartbeats 8000000 in
theorem cmpStr_ok (a b:Bytes):APure Tryd.prog 58 [.str a,.str b] (.int .i64 (Lib.compareBytes a b)):=by
 intro M
 refine acalls_of tabOK Tryd.func58 rfl (by decide) (by simp[Tryd.f58]) ?_
 repeat' (first|refine DW_A tabs rfl ?_|refine DW_nil ?_|refine W_A rfl ?_)
 refine DW_ext rfl rfl rfl rfl rfl (cmp_ext a b) ?_
 repeat' (first|refine DW_A tabs rfl ?_|refine DW_nil ?_|refine W_A rfl ?_)
 exact⟨rfl,_,rfl,rfl,rfl⟩
set_option maxRecDepth 100000 in
set_option maxHeartbeats 8000000 in
theorem sCompare_ok (a b:Bytes):APure Tryd.prog 32 [.str a,.str b] (.int .i64 (Lib.compareBytes a b)):=by
 intro M
 refine acalls_of tabOK Tryd.func32 rfl (by decide) (by simp[Tryd.f32]) ?_
 have k:=cmpStr_ok a b
 repeat' (first|refine DW_A tabs rfl ?_|refine DW_nil ?_|refine W_A rfl ?_|refine DW_C rfl k ?_)
 exact⟨rfl,_,rfl,rfl,rfl⟩
set_option maxRecDepth 100000 in
set_option maxHeartbeats 8000000 in
theorem chTo_ok (a b:Ch):APure Tryd.prog 18 [a.av,b.av] (.int .i64 (Lib.compareBytes a.path b.path)):=by
 intro M
 refine acalls_of tabOK Tryd.func18 rfl (by decide) (by simp[Tryd.f18]) ?_
 have k:=sCompare_ok a.path b.path
 repeat' (first|refine DW_A tabs rfl ?_|refine DW_nil ?_|refine W_A rfl ?_|refine DW_C rfl k ?_)
 exact⟨rfl,_,rfl,rfl,rfl⟩
theorem zero_cases (c:Ch):(decide (c.meta_.size=0)=false∧zeroB c.meta_=false)∨(decide (c.meta_.size=0)=true∧decide (c.meta_.mode=0)=false∧zeroB c.meta_=false)∨(decide (c.meta_.size=0)=true∧decide (c.meta_.mode=0)=true∧zeroB c.meta_=decide ((c.meta_.ch.length:Int)=0)):=by
 unfold zeroB
 cases decide (c.meta_.size=0)<;>cases decide (c.meta_.mode=0)<;>simp
theorem may_cases (c:Ch):((!(c.path==[]))=false∧mayB c=false)∨((!(c.path==[]))=true∧isPathB c.path=false∧mayB c=false)∨((!(c.path==[]))=true∧isPathB c.path=true∧isM c.meta_=false∧mayB c=false)∨
  ((!(c.path==[]))=true∧isPathB c.path=true∧isM c.meta_=true∧(!c.gone)=true∧mayB c=true)∨((!(c.path==[]))=true∧isPathB c.path=true∧isM c.meta_=true∧(!c.gone)=false∧mayB c=zeroB c.meta_):=by
 unfold mayB
 cases (!(c.path==[]))<;>cases isPathB c.path<;>cases isM c.meta_<;>cases c.gone<;>simp
set_option maxRecDepth 100000 in
set_option maxHeartbeats 8000000 in
theorem may_ok (c:Ch) (hs:shortCh c):APure Tryd.prog 29 [c.av] (.bool (mayB c)):=by
 intro M
 refine acalls_of tabOK Tryd.func29 rfl (by decide) (by simp[Tryd.f29]) ?_
 have k1:=isPath_ok c.path (by have:=hs.1;omega)
 have k2:=mIs_ok c.meta_ hs.2
 have lc:=len_map (fun n=>AV.int .i64 n) c.meta_.ch
 rcases may_cases c with ⟨d1,e⟩|⟨d1,d2,e⟩|⟨d1,d2,d3,e⟩|⟨d1,d2,d3,d5,e⟩|⟨d1,d2,d3,d5,e⟩
 ·rw[e]
  rcases zero_cases c with ⟨z1,_⟩|⟨z1,z2,_⟩|⟨z1,z2,_⟩
  ·repeat' (first|refine DW_VB tabs rfl (by first|exact d1|exact z1) ?_|refine DW_VI tabs rfl lc ?_|refine DW_A tabs rfl ?_|refine DW_nil ?_|refine W_A rfl ?_)
   exact⟨rfl,_,rfl,rfl,rfl⟩
  ·repeat' (first|refine DW_VB tabs rfl (by first|exact d1|exact z1|exact z2) ?_|refine DW_VI tabs rfl lc ?_|refine DW_A tabs rfl ?_|refine DW_nil ?_|refine W_A rfl ?_)
   exact⟨rfl,_,rfl,rfl,rfl⟩
  ·repeat' (first|refine DW_VB tabs rfl (by first|exact d1|exact z1|exact z2) ?_|refine DW_VI tabs rfl lc ?_|refine DW_A tabs rfl ?_|refine DW_nil ?_|refine W_A rfl ?_)
   exact⟨rfl,_,rfl,rfl,rfl⟩
 ·rw[e]
  rw[d2] at k1
  rcases zero_cases c with ⟨z1,_⟩|⟨z1,z2,_⟩|⟨z1,z2,_⟩
  ·repeat' (first|refine DW_VB tabs rfl (by first|exact d1|exact z1) ?_|refine DW_VI tabs rfl lc ?_|refine DW_A tabs rfl ?_|refine DW_nil ?_|refine W_A rfl ?_|refine DW_C rfl k1 ?_)
   exact⟨rfl,_,rfl,rfl,rfl⟩
  ·repeat' (first|refine DW_VB tabs rfl (by first|exact d1|exact z1|exact z2) ?_|refine DW_VI tabs rfl lc ?_|refine DW_A tabs rfl ?_|refine DW_nil ?_|refine W_A rfl ?_|refine DW_C rfl k1 ?_)
   exact⟨rfl,_,rfl,rfl,rfl⟩
  ·repeat' (first|refine DW_VB tabs rfl (by first|exact d1|exact z1|exact z2) ?_|refine DW_VI tabs rfl lc ?_|refine DW_A tabs rfl ?_|refine DW_nil ?_|refine W_A rfl ?_|refine DW_C rfl k1 ?_)
   exact⟨rfl,_,rfl,rfl,rfl⟩
 ·rw[e]
  rw[d2] at k1
  rw[d3] at k2
  rcases zero_cases c with ⟨z1,_⟩|⟨z1,z2,_⟩|⟨z1,z2,_⟩
  ·repeat' (first|refine DW_VB tabs rfl (by first|exact d1|exact z1) ?_|refine DW_VI tabs rfl lc ?_|refine DW_A tabs rfl ?_|refine DW_nil ?_|refine W_A rfl ?_|refine DW_C rfl k1 ?_|refine DW_C rfl k2 ?_)
   exact⟨rfl,_,rfl,rfl,rfl⟩
  ·repeat' (first|refine DW_VB tabs rfl (by first|exact d1|exact z1|exact z2) ?_|refine DW_VI tabs rfl lc ?_|refine DW_A tabs rfl ?_|refine DW_nil ?_|refine W_A rfl ?_|refine DW_C rfl k1 ?_|refine DW_C rfl k2 ?_)
   exact⟨rfl,_,rfl,rfl,rfl⟩
  ·repeat' (first|refine DW_VB tabs rfl (by first|exact d1|exact z1|exact z2) ?_|refine DW_VI tabs rfl lc ?_|refine DW_A tabs rfl ?_|refine DW_nil ?_|refine W_A rfl ?_|refine DW_C rfl k1 ?_|refine DW_C rfl k2 ?_)
   exact⟨rfl,_,rfl,rfl,rfl⟩
 ·rw[e]
  rw[d2] at k1
  rw[d3] at k2
  rcases zero_cases c with ⟨z1,_⟩|⟨z1,z2,_⟩|⟨z1,z2,_⟩
  ·repeat' (first|refine DW_VB tabs rfl (by first|exact d1|exact z1|exact d5) ?_|refine DW_VI tabs rfl lc ?_|refine DW_A tabs rfl ?_|refine DW_nil ?_|refine W_A rfl ?_|refine DW_C rfl k1 ?_|refine DW_C rfl k2 ?_)
   exact⟨rfl,_,rfl,rfl,rfl⟩
  ·repeat' (first|refine DW_VB tabs rfl (by first|exact d1|exact z1|exact z2|exact d5) ?_|refine DW_VI tabs rfl lc ?_|refine DW_A tabs rfl ?_|refine DW_nil ?_|refine W_A rfl ?_|refine DW_C rfl k1 ?_|refine DW_C rfl k2 ?_)
   exact⟨rfl,_,rfl,rfl,rfl⟩
  ·repeat' (first|refine DW_VB tabs rfl (by first|exact d1|exact z1|exact z2|exact d5) ?_|refine DW_VI tabs rfl lc ?_|refine DW_A tabs rfl ?_|refine DW_nil ?_|refine W_A rfl ?_|refine DW_C rfl k1 ?_|refine DW_C rfl k2 ?_)
   exact⟨rfl,_,rfl,rfl,rfl⟩
 ·rw[e]
  rw[d2] at k1
  rw[d3] at k2
  rcases zero_cases c with ⟨z1,h⟩|⟨z1,z2,h⟩|⟨z1,z2,h⟩
  ·rw[h]
   repeat' (first|refine DW_VB tabs rfl (by first|exact d1|exact z1|exact d5) ?_|refine DW_VI tabs rfl lc ?_|refine DW_A tabs rfl ?_|refine DW_nil ?_|refine W_A rfl ?_|refine DW_C rfl k1 ?_|refine DW_C rfl k2 ?_)
   exact⟨rfl,_,rfl,rfl,rfl⟩
  ·rw[h]
   repeat' (first|refine DW_VB tabs rfl (by first|exact d1|exact z1|exact z2|exact d5) ?_|refine DW_VI tabs rfl lc ?_|refine DW_A tabs rfl ?_|refine DW_nil ?_|refine W_A rfl ?_|refine DW_C rfl k1 ?_|refine DW_C rfl k2 ?_)
   exact⟨rfl,_,rfl,rfl,rfl⟩
  ·rw[h]
   repeat' (first|refine DW_VB tabs rfl (by first|exact d1|exact z1|exact z2|exact d5) ?_|refine DW_VI tabs rfl lc ?_|refine DW_A tabs rfl ?_|refine DW_nil ?_|refine W_A rfl ?_|refine DW_C rfl k1 ?_|refine DW_C rfl k2 ?_)
   exact⟨rfl,_,rfl,rfl,rfl⟩
set_option maxRecDepth 100000 in
set_option maxHeartbeats 8000000 in
theorem odd1_ok (c:Ch) (hs:shortCh c):APure Tryd.prog 28 [c.av] (.bool (!mayB c)):=by
 intro M
 refine acalls_of tabOK Tryd.func28 rfl (by decide) (by simp[Tryd.f28]) ?_
 have k:=may_ok c hs
 repeat' (first|refine DW_A tabs rfl ?_|refine DW_nil ?_|refine W_A rfl ?_|refine DW_C rfl k ?_)
 exact⟨rfl,_,rfl,rfl,rfl⟩
set_option maxRecDepth 100000 in
theorem indexC_ok (l:List Ch) (tg:Tag) (hl:l.length < 1000000) (g:FuncId) (fi ca:List AV) (p:Ch→Bool) (hp:∀x,x∈l→APure Tryd.prog g (fi++[x.av]++ca) (.bool (p x))):APure Tryd.prog 45 [.sl 5 (l.map Ch.av) tg,.fn (.func g) fi ca] (.int .i64 (idxI l p)):=by
 intro M
 refine acalls_of tabOK Tryd.func45 rfl (by decide) (by simp[Tryd.f45]) ?_
 have la:((l.map Ch.av).length:Int)=(l.length:Int):=by simp
 repeat' (first|refine DW_VI tabs rfl la ?_|refine DW_A tabs rfl ?_|refine DW_nil ?_|refine W_A rfl ?_)
 refine W_count l.length (fun i f N=>N=M∧(∀(j:Nat) y,j < i→l[j]? =some y→p y=false)∧f=⟨[(0,.sl 5 (l.map Ch.av) tg),(1,.fn (.func g) fi ca),(7,.int .i64 (l.length:Int)),(8,.int .i64 (i:Int))],[]⟩) (Nat.zero_le _) ⟨rfl,fun j y hj=>absurd hj (Nat.not_lt_zero _),rfl⟩ (Joint.le ?_ (Mem.le_refl _)) ?_
 ·skip
  repeat (refine AF.le_cons rfl ?_)
  exact AF.le_nil rfl
 ·rintro i f N hi ⟨rfl,hno,rfl⟩
  by_cases h1:i < l.length
  ·have d1:decide ((i:Int) < (l.length:Int))=true:=by simp;omega
   have hx:l[i]? =some l[i]:=List.getElem?_eq_getElem h1
   have fi:=wrap_succ (i:=i) (by omega)
   have hk:=hp l[i] (List.getElem_mem h1)
   generalize l[i]=x at hx hk
   cases hpx:p x
   ·rw[hpx] at hk
    repeat' (first|refine DW_VB tabs rfl d1 ?_|refine DW_VI tabs rfl (by first|exact fi|exact la) ?_|refine DW_A tabs rfl ?_|refine DW_nil ?_|refine W_A rfl ?_)
    refine DW_ix tabOK rfl (ixN hx) ?_
    repeat' (first|refine DW_VB tabs rfl d1 ?_|refine DW_VI tabs rfl (by first|exact fi|exact la) ?_|refine DW_A tabs rfl ?_|refine DW_nil ?_|refine W_A rfl ?_|refine DW_C rfl hk ?_)
    refine⟨h1,_,_,⟨rfl,?_,rfl⟩,Joint.le ?_ (Mem.le_refl _)⟩
    ·intro j y hj hy
     by_cases hji:j=i
     ·subst hji
      rw[hx] at hy
      cases hy
      exact hpx
     ·exact hno j y (by omega) hy
    ·skip
     repeat (refine AF.le_cons rfl ?_)
     exact AF.le_nil rfl
   ·rw[hpx] at hk
    repeat' (first|refine DW_VB tabs rfl d1 ?_|refine DW_VI tabs rfl (by first|exact fi|exact la) ?_|refine DW_A tabs rfl ?_|refine DW_nil ?_|refine W_A rfl ?_)
    refine DW_ix tabOK rfl (ixN hx) ?_
    repeat' (first|refine DW_VB tabs rfl d1 ?_|refine DW_VI tabs rfl (by first|exact fi|exact la) ?_|refine DW_A tabs rfl ?_|refine DW_nil ?_|refine W_A rfl ?_|refine DW_C rfl hk ?_)
    exact⟨rfl,_,rfl,by rw[idx_hit hno hx hpx];rfl,rfl⟩
  ·have d1:decide ((i:Int) < (l.length:Int))=false:=by simp;omega
   obtain rfl:i=l.length:=by omega
   repeat' (first|refine DW_VB tabs rfl d1 ?_|refine DW_A tabs rfl ?_|refine DW_nil ?_|refine W_A rfl ?_)
   exact⟨rfl,_,rfl,by rw[idx_none (fun j y hy=>hno j y (List.getElem?_eq_some_iff.1 hy).1 hy)];rfl,rfl⟩
theorem idx_any {α:Type} (l:List α) (p:α→Bool):decide (0≤idxI l p)=l.any p:=by
 cases h:l.any p
 ·rw[List.any_eq_false] at h
  rw[idx_none (fun j x hx=>by have:=h x (List.mem_of_getElem? hx);simpa using this)]
  rfl
 ·rw[List.any_eq_true] at h
  obtain⟨x,hx,hp⟩:=h
  unfold idxI
  rw[if_pos (List.findIdx_lt_length_of_exists ⟨x,hx,hp⟩)]
  exact decide_eq_true (Int.natCast_nonneg _)
set_option maxRecDepth 100000 in
set_option maxHeartbeats 8000000 in
theorem contC_ok (l:List Ch) (tg:Tag) (hl:l.length < 1000000) (hs:∀c,c∈l→shortCh c):APure Tryd.prog 27 [chA l tg,.fn (.func 28) [] []] (.bool (l.any fun c=>!mayB c)):=by
 intro M
 refine acalls_of tabOK Tryd.func27 rfl (by decide) (by simp[Tryd.f27]) ?_
 have k:=indexC_ok l tg hl 28 [] [] (fun c=>!mayB c) (fun x hx=>odd1_ok x (hs x hx))
 have e:=idx_any l (fun c=>!mayB c)
 unfold chA
 repeat' (first|refine DW_VB tabs rfl e ?_|refine DW_A tabs rfl ?_|refine DW_nil ?_|refine W_A rfl ?_|refine DW_C rfl k ?_)
 exact⟨rfl,_,rfl,rfl,rfl⟩
set_option maxRecDepth 100000 in
set_option maxHeartbeats 8000000 in
theorem odd_ok (l:List Ch) (tg:Tag) (hl:l.length < 1000000) (hs:∀c,c∈l→shortCh c):APure Tryd.prog 14 [chA l tg] (.bool (l.any fun c=>!mayB c)):=by
 intro M
 refine acalls_of tabOK Tryd.func14 rfl (by decide) (by simp[Tryd.f14]) ?_
 have k:=contC_ok l tg hl hs
 unfold chA at k ⊢
 repeat' (first|refine DW_A tabs rfl ?_|refine DW_nil ?_|refine W_A rfl ?_|refine DW_C rfl k ?_)
 exact⟨rfl,_,rfl,rfl,rfl⟩
theorem riseC_adj:∀l:List Ch,(∀(j:Nat) a b,l[j]? =some a→l[j+1]? =some b→bl a.path b.path=true)→RiseC l
 |[],_=>List.Pairwise.nil
 |[a],_=>List.pairwise_cons.2 ⟨by simp,List.Pairwise.nil⟩
 |a::b::r,h=>by
  have ih:=riseC_adj (b::r) (fun j x y hx hy=>h (j+1) x y hx hy)
  have h0:=h 0 a b rfl rfl
  refine List.pairwise_cons.2 ⟨fun x hx=>?_,ih⟩
  rcases List.mem_cons.1 hx with rfl|hx
  ·exact h0
  ·exact bl_trans h0 ((List.pairwise_cons.1 ih).1 x hx)
theorem riseC_at {l:List Ch} (h:RiseC l) {i:Nat} {a b:Ch} (ha:l[i]? =some a) (hb:l[i+1]? =some b):bl a.path b.path=true:=by
 obtain⟨h1,rfl⟩:=List.getElem?_eq_some_iff.1 ha
 obtain⟨h2,rfl⟩:=List.getElem?_eq_some_iff.1 hb
 exact List.pairwise_iff_getElem.1 h i (i+1) h1 h2 (Nat.lt_succ_self i)
set_option maxRecDepth 100000 in
set_option maxHeartbeats 8000000 in
theorem rise_ok (l:List Ch) (tg:Tag) (hl:l.length < 1000000) (h1:1≤l.length):APure Tryd.prog 24 [chA l tg,.fn (.func 18) [] []] (.bool (decide (RiseC l))):=by
 intro M
 refine acalls_of tabOK Tryd.func24 rfl (by decide) (by simp[Tryd.f24]) ?_
 have la:=len_map Ch.av l
 unfold chA
 repeat' (first|refine DW_VI tabs rfl la ?_|refine DW_A tabs rfl ?_|refine DW_nil ?_|refine W_A rfl ?_|refine W_draw mixed [0,1,2,3,6,7,4,5,8,9,10,11] [.P,.P,.P,.P,.R,.R,.P,.P,.R,.R,.P,.P] rfl rfl (by kernel_rfl) ?_)
 refine W_count l.length (fun i f N=>N=M∧(1≤i∧∀(j:Nat) a b,j+1 < i→l[j]? =some a→l[j+1]? =some b→bl a.path b.path=true)∧f=⟨[(0,.sl 5 (l.map Ch.av) tg),(1,.fn (.func 18) [] []),(5,.int .i64 (i:Int))],[]⟩) (i0:=1) h1 ⟨rfl,⟨Nat.le_refl _,fun j a b hj=>absurd hj (by omega)⟩,rfl⟩ (Joint.le ?_ (Mem.le_refl _)) ?_
 ·skip
  repeat (refine AF.le_cons rfl ?_)
  exact AF.le_nil rfl
 rintro i f N hi ⟨rfl,⟨hi1,hinv⟩,rfl⟩
 by_cases h2:i < l.length
 ·have d1:decide ((i:Int) < (l.length:Int))=true:=by simp;omega
  obtain⟨j,rfl⟩:∃j,i=j+1:=⟨i - 1,by omega⟩
  have hx:l[j]? =some l[j]:=List.getElem?_eq_getElem (by omega)
  have hy:l[j+1]? =some l[j+1]:=List.getElem?_eq_getElem h2
  have fi:=wrap_succ (i:=j+1) (by omega)
  have fj:IntKind.wrap .i64 (((j+1:Nat):Int) - 1)=(j:Int):=(Go.Ab.wrap_small (by omega) (by omega)).trans (by omega)
  generalize l[j]=x at hx
  generalize l[j+1]=y at hy
  have k:=chTo_ok x y
  have e:=cmpL_neg x.path y.path
  cases hb:bl x.path y.path
  ·rw[hb] at e
   rw[decide_eq_false (fun h=>by have:=riseC_at h hx hy;rw[hb] at this;cases this)]
   repeat' (first|refine DW_VB tabs rfl (by first|exact d1|exact e) ?_|refine DW_VI tabs rfl (by first|exact la|exact fi|exact fj) ?_|refine DW_A tabs rfl ?_|refine DW_nil ?_|refine W_A rfl ?_|refine DW_C rfl k ?_|refine DW_ix tabOK rfl (ixN hx) ?_|refine DW_ix tabOK rfl (ixN hy) ?_|refine W_draw mixed [0,1,2,3,6,7,4,5,8,9,10,11] [.P,.P,.P,.P,.R,.R,.P,.P,.R,.R,.P,.P] rfl rfl (by kernel_rfl) ?_)
   exact⟨rfl,_,rfl,rfl,rfl⟩
  ·rw[hb] at e
   repeat' (first|refine DW_VB tabs rfl (by first|exact d1|exact e) ?_|refine DW_VI tabs rfl (by first|exact la|exact fi|exact fj) ?_|refine DW_A tabs rfl ?_|refine DW_nil ?_|refine W_A rfl ?_|refine DW_C rfl k ?_|refine DW_ix tabOK rfl (ixN hx) ?_|refine DW_ix tabOK rfl (ixN hy) ?_|refine W_draw mixed [0,1,2,3,6,7,4,5,8,9,10,11] [.P,.P,.P,.P,.R,.R,.P,.P,.R,.R,.P,.P] rfl rfl (by kernel_rfl) ?_)
   refine⟨h2,_,_,⟨rfl,⟨by omega,?_⟩,rfl⟩,Joint.le ?_ (Mem.le_refl _)⟩
   ·intro q a b hq ha hb2
    by_cases hqj:q=j
    ·subst hqj
     rw[hx] at ha
     rw[hy] at hb2
     cases ha
     cases hb2
     exact hb
    ·exact hinv q a b (by omega) ha hb2
   ·skip
    repeat (refine AF.le_cons rfl ?_)
    exact AF.le_nil rfl
 ·have d1:decide ((i:Int) < (l.length:Int))=false:=by simp;omega
  obtain rfl:i=l.length:=by omega
  rw[decide_eq_true (riseC_adj l fun j a b ha hb=>hinv j a b (List.getElem?_eq_some_iff.1 hb).1 ha hb)]
  repeat' (first|refine DW_VB tabs rfl d1 ?_|refine DW_VI tabs rfl la ?_|refine DW_A tabs rfl ?_|refine DW_nil ?_|refine W_A rfl ?_|refine W_draw mixed [0,1,2,3,6,7,4,5,8,9,10,11] [.P,.P,.P,.P,.R,.R,.P,.P,.R,.R,.P,.P] rfl rfl (by kernel_rfl) ?_)
  exact⟨rfl,_,rfl,rfl,rfl⟩
set_option maxRecDepth 100000 in
set_option maxHeartbeats 8000000 in
theorem bIs_ok (l:List Ch) (tg:Tag) (hl:l.length < 1000000) (hs:∀c,c∈l→shortCh c):APure Tryd.prog 10 [chA l tg] (.bool (batchB l)):=by
 intro M
 refine acalls_of tabOK Tryd.func10 rfl (by decide) (by simp[Tryd.f10]) ?_
 have la:=len_map Ch.av l
 have ko:=odd_ok l tg hl hs
 have e:(l.any fun c=>!mayB c)=!l.all mayB:=by
  rw[List.any_eq_not_all_not]
  simp
 rw[e] at ko
 unfold batchB
 by_cases h1:1≤l.length
 ·have d1:decide ((1:Int)≤(l.length:Int))=true:=by simp;omega
  have kr:=rise_ok l tg hl h1
  rw[decide_eq_true h1]
  by_cases h2:l.length≤20
  ·have d2:decide ((l.length:Int)≤20)=true:=by simp;omega
   rw[decide_eq_true h2]
   cases h3:l.all mayB
   ·rw[h3] at ko
    unfold chA at*
    repeat' (first|refine DW_VB tabs rfl (by first|exact d1|exact d2) ?_|refine DW_VI tabs rfl la ?_|refine DW_A tabs rfl ?_|refine DW_nil ?_|refine W_A rfl ?_|refine DW_C rfl ko ?_)
    exact⟨rfl,_,rfl,rfl,rfl⟩
   ·rw[h3] at ko
    unfold chA at*
    repeat' (first|refine DW_VB tabs rfl (by first|exact d1|exact d2) ?_|refine DW_VI tabs rfl la ?_|refine DW_A tabs rfl ?_|refine DW_nil ?_|refine W_A rfl ?_|refine DW_C rfl ko ?_|refine DW_C rfl kr ?_)
    exact⟨rfl,_,rfl,rfl,rfl⟩
  ·have d2:decide ((l.length:Int)≤20)=false:=by simp;omega
   rw[decide_eq_false h2]
   unfold chA at*
   repeat' (first|refine DW_VB tabs rfl (by first|exact d1|exact d2) ?_|refine DW_VI tabs rfl la ?_|refine DW_A tabs rfl ?_|refine DW_nil ?_|refine W_A rfl ?_)
   exact⟨rfl,_,rfl,rfl,rfl⟩
 ·have d1:decide ((1:Int)≤(l.length:Int))=false:=by simp;omega
  rw[decide_eq_false h1]
  unfold chA at*
  repeat' (first|refine DW_VB tabs rfl d1 ?_|refine DW_VI tabs rfl la ?_|refine DW_A tabs rfl ?_|refine DW_nil ?_|refine W_A rfl ?_)
  exact⟨rfl,_,rfl,rfl,rfl⟩
theorem may_value {c:Ch} (h:mayB c=true):(valueM c.meta_ c.gone).2=0:=by
 unfold mayB at h
 simp at h
 unfold valueM putM
 rw[if_pos h.1.2]
 split<;>rfl
end Go.Proofs.YtbcaejhhgkcgpaaDoor
namespace Go.Proofs.YtbcaejhhgkcgpaaDoor
open Go.Ab
def bigCh (c:Ch):Bool:=decide (200 < c.path.length)||decide (30 < c.meta_.ch.length)
def bigC (l:List Ch):Bool:=decide (50 < l.length)||l.any bigCh
theorem bigC_no {l:List Ch} (h:bigC l=false):l.length≤50∧∀c,c∈l→c.path.length≤200∧c.meta_.ch.length≤30:=by
 unfold bigC bigCh at h
 simp only[Bool.or_eq_false_iff,decide_eq_false_iff_not,List.any_eq_false,Bool.or_eq_true,decide_eq_true_eq,not_or] at h
 exact⟨by omega,fun p hp=>by have:=h.2 p hp;omega⟩
set_option maxRecDepth 100000 in
set_option maxHeartbeats 8000000 in
theorem bigC_ok (l:List Ch) (tg:Tag) (hl:l.length < 4611686018427387904):APure Tryd.prog 6 [chA l tg] (.bool (bigC l)):=by
 intro M
 refine acalls_of tabOK Tryd.func6 rfl (by decide) (by simp[Tryd.f6]) ?_
 have la:=len_map Ch.av l
 unfold bigC chA
 by_cases h80:50 < l.length
 ·have d1:decide ((0:Int) < (l.length:Int))=true:=by simp;omega
  have d2:decide ((l.length:Int)≤50)=false:=by simp;omega
  have d3:decide ((50:Int) < (l.length:Int))=true:=by simp;omega
  have e:decide (50 < l.length)=true:=by simp[h80]
  rw[e]
  repeat' (first|refine DW_VB tabs rfl (by first|exact d1|exact d2) ?_|refine DW_VI tabs rfl la ?_|refine DW_A tabs rfl ?_|refine DW_nil ?_|refine W_A rfl ?_)
  refine W_count 0 (fun i f N=>N=M∧f=⟨[(0,.sl 5 (l.map Ch.av) tg),(3,.int .i64 (i:Int))],[]⟩) (Nat.zero_le _) ⟨rfl,rfl⟩ (Joint.le ?_ (Mem.le_refl _)) ?_
  ·skip
   repeat (refine AF.le_cons rfl ?_)
   exact AF.le_nil rfl
  rintro i f N hi ⟨rfl,rfl⟩
  obtain rfl:i=0:=by omega
  repeat' (first|refine DW_VB tabs rfl (by first|exact d1|exact d2|exact d3) ?_|refine DW_VI tabs rfl la ?_|refine DW_A tabs rfl ?_|refine DW_nil ?_|refine W_A rfl ?_)
  exact⟨rfl,_,rfl,rfl,rfl⟩
 ·have d2:decide ((l.length:Int)≤50)=true:=by simp;omega
  have d3:decide ((50:Int) < (l.length:Int))=false:=by simp;omega
  have e:decide (50 < l.length)=false:=by simp;omega
  rw[e,Bool.false_or]
  repeat' (first|refine DW_VB tabs rfl d2 ?_|refine DW_VI tabs rfl la ?_|refine DW_A tabs rfl ?_|refine DW_nil ?_|refine W_A rfl ?_)
  refine W_count l.length (fun i f N=>N=M∧((l.take i).any bigCh=false)∧f=⟨[(0,.sl 5 (l.map Ch.av) tg),(3,.int .i64 (i:Int))],[]⟩) (Nat.zero_le _) ⟨rfl,by simp,rfl⟩ (Joint.le ?_ (Mem.le_refl _)) ?_
  ·skip
   repeat (refine AF.le_cons rfl ?_)
   exact AF.le_nil rfl
  rintro i f N hi ⟨rfl,hinv,rfl⟩
  by_cases h1:i < l.length
  ·have d1:decide ((i:Int) < (l.length:Int))=true:=by simp;omega
   have hx:l[i]? =some l[i]:=List.getElem?_eq_getElem h1
   have fi:=wrap_succ (i:=i) (by omega)
   have ht:=take_succ hx
   have hm:=List.getElem_mem h1
   generalize l[i]=x at hx ht hm
   have e2:(l.take (i+1)).any bigCh=bigCh x:=by rw[ht,List.any_append,hinv];simp
   have hs:bigCh x=true→l.any bigCh=true:=fun h=>List.any_eq_true.2 ⟨x,List.mem_of_getElem? hx,h⟩
   have lx:=len_map (fun n=>AV.int .i64 n) x.meta_.ch
   unfold bigCh at hs e2
   by_cases h5:200 < x.path.length
   ·have d5:decide ((200:Int) < (x.path.length:Int))=true:=by simp;omega
    rw[show l.any bigCh=true from hs (by simp[h5])]
    repeat' (first|refine DW_VB tabs rfl (by first|exact d1|exact d2|exact d5) ?_|refine DW_VI tabs rfl (by first|exact la|exact fi) ?_|refine DW_A tabs rfl ?_|refine DW_nil ?_|refine W_A rfl ?_|refine DW_ix tabOK rfl (ixN hx) ?_)
    exact⟨rfl,_,rfl,rfl,rfl⟩
   ·have d5:decide ((200:Int) < (x.path.length:Int))=false:=by simp;omega
    by_cases h6:30 < x.meta_.ch.length
    ·have d6:decide ((30:Int) < (x.meta_.ch.length:Int))=true:=by simp;omega
     rw[show l.any bigCh=true from hs (by simp[h6])]
     repeat' (first|refine DW_VB tabs rfl (by first|exact d1|exact d2|exact d5|exact d6) ?_|refine DW_VI tabs rfl (by first|exact la|exact lx|exact fi) ?_|refine DW_A tabs rfl ?_|refine DW_nil ?_|refine W_A rfl ?_|refine DW_ix tabOK rfl (ixN hx) ?_)
     exact⟨rfl,_,rfl,rfl,rfl⟩
    ·have d6:decide ((30:Int) < (x.meta_.ch.length:Int))=false:=by simp;omega
     repeat' (first|refine DW_VB tabs rfl (by first|exact d1|exact d2|exact d5|exact d6) ?_|refine DW_VI tabs rfl (by first|exact la|exact lx|exact fi) ?_|refine DW_A tabs rfl ?_|refine DW_nil ?_|refine W_A rfl ?_|refine DW_ix tabOK rfl (ixN hx) ?_)
     refine⟨h1,_,_,⟨rfl,by rw[show bigCh=(fun c=>decide (200 < c.path.length)||decide (30 < c.meta_.ch.length)) from rfl,e2];simp[h5,h6],rfl⟩,Joint.le ?_ (Mem.le_refl _)⟩
     repeat (refine AF.le_cons rfl ?_)
     exact AF.le_nil rfl
  ·have d1:decide ((i:Int) < (l.length:Int))=false:=by simp;omega
   obtain rfl:i=l.length:=by omega
   rw[take_all] at hinv
   rw[hinv]
   repeat' (first|refine DW_VB tabs rfl (by first|exact d1|exact d2|exact d3) ?_|refine DW_VI tabs rfl la ?_|refine DW_A tabs rfl ?_|refine DW_nil ?_|refine W_A rfl ?_)
   exact⟨rfl,_,rfl,rfl,rfl⟩
end Go.Proofs.YtbcaejhhgkcgpaaDoor
