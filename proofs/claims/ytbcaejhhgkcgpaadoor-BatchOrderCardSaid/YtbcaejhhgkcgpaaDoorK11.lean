/- Parts of the proof, one behind the other. No further condition. -/
import Derived.Test.YtbcaejhhgkcgpaaDoorK10
set_option linter.unusedVariables false
set_option linter.unusedSimpArgs false
namespace Go.Ab
open Go.RowKit
section
variable {P:Program} {ops:Array Oper} {cls:Nat→Cls} {Q:AX→AF→Mem→Prop} {ds:List ADef}
inductive Plan where
 |fin (o:List Nat)
 |two (pre:List Nat) (a b:Nat) (p q:Plan)
def Plan.size:Plan→Nat
 |.fin o=>o.length
 |.two pre _ _ p _=>pre.length+(p.size+1)
structure Both (A B:Prop):Prop where
 l:A
 r:B
def thenQ (K:List (Nat×AV)→Mem→Prop) (Q:AX→AF→Mem→Prop):AX→AF→Mem→Prop
 |.normal,f,M=>K f.t M
 |x,f,M=>Q x f M
def TDW (P:Program) (ops:Array Oper) (cls:Nat→Cls) (Q:AX→AF→Mem→Prop) (ds:List ADef):Plan→List (Nat×AV)→Mem→Prop
 |.fin o,t,M=>DW P ops cls Q ds o t M
 |.two pre a b p q,t,M=>DW P ops cls (thenQ (fun t M=>Both (DW P ops cls (thenQ (TDW P ops cls Q ds p) Q) ds [a] t M) (DW P ops cls (thenQ (TDW P ops cls Q ds q) Q) ds [b] t M)) Q) ds pre t M
def preOK (ops:Array Oper) (cls:Nat→Cls):List Nat→Array Bool→Option (Array Bool)
 |[],listed=>some listed
 |i::l,listed=>if (Region.ready .any ops listed).contains i&&stepOK ops cls i listed then preOK ops cls l (listed.setIfInBounds i true) else none
def pOK (ops:Array Oper) (cls:Nat→Cls):Plan→Array Bool→Bool
 |.fin o,listed=>dOK ops cls o listed
 |.two pre a b p q,listed=>match preOK ops cls pre listed with
  |none=>false
  |some l=>((Region.ready .any ops l).all fun j=>j==a||j==b)&&!(Region.ready .any ops l).isEmpty&&(p.size==q.size)&&pOK ops cls p (l.setIfInBounds a true)&&pOK ops cls q (l.setIfInBounds b true)
theorem dw_head {i:Nat} {l:List Nat} {t:List (Nat×AV)} {M:Mem} {K:Fr→Mem→Prop} (h:DWr P ops cls Q ds (i::l) t M) (hk:∀t' N,DWr P ops cls Q ds l t' N→K (frOf t') N):
  opA P ops cls (fun v M'=>Q (.panic v) ⟨keepT ds,ds⟩ M') i K (frOf t) M:=by
 unfold DWr at h
 unfold opA
 cases hoi:ops[i]? with
 |none=>simp only[hoi] at h
 |some oi=>
  simp only[hoi] at h ⊢
  rw[wantF_frOf (ds:=ds)]
  split at h
  ·rename_i hw
   rw[hw]
   refine SC.mono (SC.congr h fun y _=>evF_frOf t y) fun u N _ hu=>?_
   have:=hk _ N hu
   rw[frOf_put] at this
   exact this
  ·rename_i hw
   rw[hw]
   have:=hk _ M h
   rw[frOf_put] at this
   exact this
  ·exact h.elim
theorem pre_sound {K:List (Nat×AV)→Mem→Prop} {n:Nat} {l:Array Bool} (hK:∀(t:List (Nat×AV)) (M:Mem),K t M→AnyA P ops cls (fun v M'=>Q (.panic v) ⟨keepT ds,ds⟩ M') (fun φ M=>∃t,frOf t=φ∧Q .normal ⟨t,ds⟩ M) n l (frOf t) M):
  ∀(ord:List Nat) (listed:Array Bool) (t:List (Nat×AV)) (M:Mem),preOK ops cls ord listed=some l→DWr P ops cls (thenQ K Q) ds ord t M→
  AnyA P ops cls (fun v M'=>Q (.panic v) ⟨keepT ds,ds⟩ M') (fun φ M=>∃t,frOf t=φ∧Q .normal ⟨t,ds⟩ M) (ord.length+n) listed (frOf t) M
 |[],listed,t,M,hk,h=>by
  cases hk
  rw[show ([]:List Nat).length+n=n from by simp]
  exact hK t M h
 |i::r,listed,t,M,hk,h=>by
  unfold preOK at hk
  split at hk
  case isFalse=>cases hk
  rename_i hc
  simp only[Bool.and_eq_true,List.contains_iff_mem] at hc
  obtain⟨h1,h2⟩:=hc
  have h3:=hk
  unfold stepOK at h2
  split at h2
  case h_1=>cases h2
  rename_i oi hoi
  simp only[Bool.and_eq_true] at h2
  obtain⟨⟨h4,h5⟩,h6⟩:=h2
  have hall:=List.all_eq_true.1 h6
  unfold subB at h5
  simp only[Bool.and_eq_true,beq_iff_eq] at h5
  obtain⟨hsz,h5⟩:=h5
  rw[show (i::r).length+n=(r.length+n)+1 from by simp;omega]
  refine any_first hoi (R:=fun j=>(clos ops i listed).getD j false) ?_ (r.length+n) listed (frOf t) M ?_ h1 ?_ ?_
  ·intro j oj hji hoj hpre
   have hj:j < ops.size:=(Array.getElem?_eq_some_iff.1 hoj).1
   have:=(List.all_eq_true.1 h4) j (List.mem_range.2 hj)
   simp only[Bool.or_eq_true,beq_iff_eq,Bool.not_eq_true'] at this
   rcases this with (hh|hh)|hh
   ·exact absurd hh hji
   ·exact hh
   ·exfalso
    rw[hoj] at hh
    simp only[Option.map_some,Option.getD_some] at hh
    have ht:(oj.after.all fun e=>!Region.binds .any e||(clos ops i listed).getD e.on false)=true:=by
     rw[Array.all_eq_true_iff_forall_mem]
     intro e he
     cases hb:Region.binds .any e with
     |false=>rfl
     |true=>simpa using hpre e he hb
    rw[ht] at hh
    cases hh
  ·intro j hj
   have hlt:j < ops.size:=by
    rcases Nat.lt_or_ge j ops.size with h|h
    ·exact h
    ·rw[Array.getD_eq_getD_getElem?,Array.getElem?_eq_none (by omega)] at hj
     cases hj
   have:=(List.all_eq_true.1 h5) j (List.mem_range.2 hlt)
   simp only[hj,Bool.not_true,Bool.false_or] at this
   exact this
  ·intro j oj hoj hji hR hun
   have hj:j < ops.size:=(Array.getElem?_eq_some_iff.1 hoj).1
   have:=hall j (List.mem_range.2 hj)
   simp only[hR,hun,hoj,Bool.not_true,Bool.or_false,Bool.or_eq_true,beq_iff_eq,Bool.and_eq_true] at this
   rcases this with hh|hh
   ·first|exact absurd hh hji|(rcases hh with hh|hh<;>first|exact absurd hh hji|cases hh)
   ·exact hh
  ·exact dw_head (Q:=thenQ K Q) h fun t' N ht=>pre_sound hK r _ t' N h3 ht
theorem tdw_sound:∀(p:Plan) (listed:Array Bool) (t:List (Nat×AV)) (M:Mem),pOK ops cls p listed=true→TDW P ops cls Q ds p t M→
  AnyA P ops cls (fun v M'=>Q (.panic v) ⟨keepT ds,ds⟩ M') (fun φ M=>∃t,frOf t=φ∧Q .normal ⟨t,ds⟩ M) p.size listed (frOf t) M
 |.fin o,listed,t,M,hk,h=>dw_sound o listed t M hk h.run
 |.two pre a b p q,listed,t,M,hk,h=>by
  unfold pOK at hk
  split at hk
  case h_1=>cases hk
  rename_i l hl
  simp only[Bool.and_eq_true,List.all_eq_true,Bool.or_eq_true,beq_iff_eq,Bool.not_eq_true'] at hk
  obtain⟨⟨⟨⟨h1,h2⟩,h0⟩,h3⟩,h4⟩:=hk
  refine pre_sound (n:=p.size+1) (l:=l) ?_ pre listed t M hl h.run
  rintro t M ⟨g1,g2⟩
  refine⟨fun he=>(by rw[he] at h2;cases h2),fun j hj=>?_⟩
  rcases h1 j hj with rfl|rfl
  ·exact dw_head (Q:=thenQ (TDW P ops cls Q ds p) Q) g1.run fun t' N ht=>tdw_sound p _ t' N h3 ht
  ·rw[h0]
   exact dw_head (Q:=thenQ (TDW P ops cls Q ds q) Q) g2.run fun t' N ht=>tdw_sound q _ t' N h4 ht
theorem W_drawT {r:Option Nat} {n id:Nat} {t:List (Nat×AV)} {M:Mem} (hm:P.follows .mixedOrders=true) (p:Plan) (cl:List Cls) (hd0:(ops.toList.all fun o=>dstOK ds o n)=true) (hl:p.size=ops.size)
  (hk:pOK ops (fun i=>cl.getD i .E) p (Array.replicate ops.size false)=true) (h:TDW P ops (fun i=>cl.getD i .E) Q ds p t M):W r P n (.region id ops true) Q ⟨t,ds⟩ M:=by
 have hd:(ops.all fun o=>dstOK ds o n)=true:=by rw[←Array.all_toList];exact hd0
 refine⟨fun μ F w a hg hr=>?_⟩
 refine wpIn_region_any hm ?_
 have hb:Below w.heap.size w {w with drawn:=w.drawn+1}:=⟨rfl,rfl,rfl,Nat.le_refl _,fun _ _=>rfl⟩
 have hev:=Evo.of_below μ hb
 have hany:=tdw_sound p _ t M hk h
 rw[hl] at hany
 have hrf:RepΦ μ F w n (frOf t) ds a:=⟨hr.size,hr.tmps,hr.defs,hr.kept⟩
 refine any_sound (r:=r) (ds:=ds) hd (F:=F) ops.size _ (frOf t) M μ {w with drawn:=w.drawn+1} a (hg.below hb) (hrf.evo hev) ?_ ?_ hany
 ·rintro μ' φ' M' w' a' e1 e2 e3 ⟨t',rfl,hq⟩
  exact⟨μ',⟨t',ds⟩,M',.normal,hev.trans e1,e2,⟨e3.size,e3.tmps,e3.defs,e3.kept⟩,trivial,hq⟩
 ·intro μ' φ' M' w' a' v u e1 e2 e3 e4 hq
  exact⟨μ',⟨keepT ds,ds⟩,M',.panic u,hev.trans e1,e2,⟨e3.size,kept_get e3.kept,e3.defs,e3.kept⟩,⟨v,rfl,e4⟩,hq⟩
end
end Go.Ab
namespace Go.Proofs.YtbcaejhhgkcgpaaDoor
open Go.Ab
def errA (e:Int):AV:=.iface 24 (.int .i64 e)
theorem closed_err (e:Int):Closed (errA e):=closed_iface closed_int
def readerR (s:Bytes) (e:AEnd) (d:List AV):Prop:=
 match getNum s with
 |some (n,r)=>e=.ret (.int .i64 (n:Int))∧d=[.str r]
 |none=>e=.pan (errA 30)∧d=[.str s]
set_option maxRecDepth 100000 in
set_option maxHeartbeats 8000000 in
theorem reader0 (s:Bytes) (hs:s.length < 1000000):ACalls Tryd.prog 65 [.ptr 0 0] ⟨1,[(0,.cells [.str s])]⟩ (fun e N=>N.next=1∧∃d,N.get 0=some (.cells d)∧readerR s e d):=by
 refine acalls_of tabOK Tryd.func65 rfl (by decide) (by simp[Tryd.f65]) ?_
 have kg:=getNumber_ok s (by omega)
 unfold readerR
 cases hg:getNum s with
 |none=>
  rw[hg] at kg
  repeat' (first|refine DW_A tabs rfl ?_|refine DW_nil ?_|refine W_A rfl ?_|refine DW_C rfl kg ?_)
  refine DW_panic rfl rfl rfl rfl rfl ?_
  exact⟨rfl,rfl,_,rfl,rfl,rfl⟩
 |some p=>
  obtain⟨n,r⟩:=p
  rw[hg] at kg
  repeat' (first|refine DW_A tabs rfl ?_|refine DW_nil ?_|refine W_A rfl ?_|refine DW_C rfl kg ?_)
  exact⟨rfl,_,rfl,rfl,_,rfl,rfl,rfl⟩
theorem reader_ok {M:Mem} {id:Nat} {s:Bytes} (hM:M.get id=some (.cells [.str s])) (hlt:id < M.next) (hs:s.length < 1000000):
  ACalls Tryd.prog 65 [.ptr id 0] M fun e N=>∃d,readerR s e d∧N=M.set id (.cells d):=by
 refine ACalls.frame1 id hM hlt (closed1 closed_str) (reader0 s hs) ⟨InV.ptr rfl,trivial⟩ ?_
 intro e d h
 unfold readerR at h
 cases hg:getNum s with
 |none=>
  rw[hg] at h
  obtain⟨rfl,rfl⟩:=h
  refine⟨closed_err 30,closed1 closed_str,_,?_,rfl⟩
  unfold readerR
  rw[hg]
  exact⟨rfl,rfl⟩
 |some p=>
  obtain⟨n,r⟩:=p
  rw[hg] at h
  obtain⟨rfl,rfl⟩:=h
  refine⟨closed_int,closed1 closed_str,_,?_,rfl⟩
  unfold readerR
  rw[hg]
  exact⟨rfl,rfl⟩
theorem reader_some {M:Mem} {id:Nat} {s r:Bytes} {n:Nat} (hg:getNum s=some (n,r)) (hM:M.get id=some (.cells [.str s])) (hlt:id < M.next) (hs:s.length < 1000000):
  ACalls Tryd.prog 65 [.ptr id 0] M fun e N=>e=.ret (.int .i64 (n:Int))∧N=M.set id (.cells [.str r]):=by
 refine (reader_ok hM hlt hs).mono ?_
 rintro e N ⟨d,h,rfl⟩
 unfold readerR at h
 rw[hg] at h
 obtain⟨rfl,rfl⟩:=h
 exact⟨rfl,rfl⟩
theorem reader_none {M:Mem} {id:Nat} {s:Bytes} (hg:getNum s=none) (hM:M.get id=some (.cells [.str s])) (hlt:id < M.next) (hs:s.length < 1000000):
  ACalls Tryd.prog 65 [.ptr id 0] M fun e N=>e=.pan (errA 30)∧N=M.set id (.cells [.str s]):=by
 refine (reader_ok hM hlt hs).mono ?_
 rintro e N ⟨d,h,rfl⟩
 unfold readerR at h
 rw[hg] at h
 obtain⟨rfl,rfl⟩:=h
 exact⟨rfl,rfl⟩
def At (s:Bytes) (l:List Nat) (q:Bytes):Prop:=nums s=(nums q).map (l++·)
theorem at_nil (s:Bytes):At s [] s:=by
 unfold At
 cases nums s<;>rfl
theorem at_next {s q r:Bytes} {l:List Nat} {n:Nat} (h:At s l q) (hg:getNum q=some (n,r)):At s (l++[n]) r:=by
 unfold At at*
 rw[h,nums_some hg,Option.map_map]
 congr 1
 funext x
 simp
theorem getM_stop {s q:Bytes} {l:List Nat} (h:At s l q) (hg:getNum q=none) (hl:∀a b c m,l=a::b::c::m→c≠m.length):getM s=(zeroMt,30):=by
 unfold getM
 unfold At at h
 rw[h]
 by_cases hq:q=[]
 ·subst hq
  rw[nums_nil]
  match l,hl with
  |[],_=>rfl
  |[_],_=>rfl
  |[_,_],_=>rfl
  |a::b::c::m,hl=>
   simp only[Option.map_some,List.append_nil]
   exact getMo_no fun e=>absurd e (hl a b c m rfl)
 ·rw[nums_none hg hq]
  rfl
theorem getM_many {s q:Bytes} {a b c:Nat} (h:At s [a,b,c] q) (hc:16 < c):getM s=(zeroMt,30):=by
 unfold getM
 unfold At at h
 rw[h]
 cases nums q with
 |none=>rfl
 |some m=>
  refine getMo_no fun e=>?_
  unfold isM
  have:¬m.length≤16:=by
   have e':c=m.length:=e
   omega
  simp[this]
theorem getM_more {s q:Bytes} {a b c:Nat} {m:List Nat} (h:At s (a::b::c::m) q) (hc:c=m.length) (hq:q≠[]):getM s=(zeroMt,30):=by
 unfold getM
 unfold At at h
 rw[h]
 cases hn:nums q with
 |none=>rfl
 |some k=>
  have hk:k≠[]:=by
   rintro rfl
   cases hg:getNum q with
   |none=>rw[nums_none hg hq] at hn;cases hn
   |some p=>
    obtain⟨n,r⟩:=p
    rw[nums_some hg] at hn
    cases hr:nums r<;>rw[hr] at hn<;>cases hn
  have hpos:=List.length_pos_iff.2 hk
  refine getMo_no fun e=>?_
  have e':c=(m++k).length:=e
  rw[List.length_append] at e'
  omega
theorem getM_end {s:Bytes} {a b c:Nat} {m:List Nat} (h:At s (a::b::c::m) []):getM s=getMo (some (a::b::c::m)):=by
 unfold getM
 unfold At at h
 rw[h,nums_nil]
 simp
end Go.Proofs.YtbcaejhhgkcgpaaDoor
namespace Go.Proofs.YtbcaejhhgkcgpaaDoor
open Go.Ab
def zeroC:List AV:=[.int .i64 0,.int .i64 0,.sl 0 [] .full]
def resG (nx:Nat) (x y z:AV) (n:Int):Mem:=⟨nx,[(0,.cells [x,y,z]),(1,.cells [.int .i64 n])]⟩
set_option maxRecDepth 100000 in
theorem catchG (nx:Nat) (x y z:AV) (n e:Int):ACallsD Tryd.prog 64 [.ptr 0 0,.ptr 1 0] (.pan (errA e)) (resG nx x y z n) (fun m' M'=>m'=.ret∧M'.get 0=some (.cells zeroC)∧M'.get 1=some (.cells [.int .i64 e])):=by
 refine acallsD_recover tabOK Tryd.func64 rfl (by decide) rfl rfl rfl rfl rfl (by simp[Tryd.f64]) ?_
 refine DW_assert tabOK rfl rfl rfl rfl rfl ?_
 repeat' (first|refine DW_A tabs rfl ?_|refine DW_nil ?_|refine W_A rfl ?_)
 exact⟨rfl,⟨_,rfl⟩,rfl,rfl⟩
set_option maxRecDepth 100000 in
theorem passG (nx:Nat) (x y z:AV) (n:Int):ACallsD Tryd.prog 64 [.ptr 0 0,.ptr 1 0] .ret (resG nx x y z n) (fun m' M'=>m'=.ret∧M'.get 0=some (.cells [x,y,z])∧M'.get 1=some (.cells [.int .i64 n])):=by
 refine acallsD_recover tabOK Tryd.func64 rfl (by decide) rfl rfl rfl rfl rfl (by simp[Tryd.f64]) ?_
 refine DW_assert tabOK rfl rfl rfl rfl rfl ?_
 repeat' (first|refine DW_A tabs rfl ?_|refine DW_nil ?_|refine W_A rfl ?_)
 exact⟨rfl,⟨_,rfl⟩,rfl,rfl⟩
def getD:ADef:={f:=.func 64,cap:=[.ptr 0 0,.ptr 1 0],args:=[],keep:=[(2,.ptr 0 0),(3,.ptr 1 0)]}
abbrev getR (z:Mt×Int):AEnd→Mem→Prop:=fun e _=>∃x,e=.ret x∧SubC 0 x (gmA z)
theorem get_res {M:Mem} {x y z:AV} {n:Int} {t:List (Nat×AV)} (h2:AF.get ⟨t,[]⟩ 2=.ptr 0 0) (h3:AF.get ⟨t,[]⟩ 3=.ptr 1 0) (g0:M.get 0=some (.cells [x,y,z])) (g1:M.get 1=some (.cells [.int .i64 n])):
  resA tab M ⟨t,[]⟩ Tryd.f42.results=some (.tup [.agg [x,y,z],.int .i64 n]):=by
 have a1:aloadM M tab 35 (.ptr 0 0)=some (.agg [x,y,z]):=by
  simp only[aloadM,g0]
  rfl
 have a2:aloadM M tab 24 (.ptr 1 0)=some (.int .i64 n):=by
  simp only[aloadM,g1]
  rfl
 show resA tab M ⟨t,[]⟩ #[.cell 2 35,.cell 3 24]=_
 simp only[resA,ress,resOf,h2,h3,a1,a2]
theorem get_pan {M:Mem} {x y z:AV} {n:Int} {t:List (Nat×AV)} {s:Bytes} (hs:getM s=(zeroMt,30)) (h:(resG M.next x y z n).le M) (h2:AF.get ⟨t,[]⟩ 2=.ptr 0 0) (h3:AF.get ⟨t,[]⟩ 3=.ptr 1 0):ALeaves Tryd.prog tab Tryd.f42 ⟨t,[]⟩ (getR (getM s)) [getD] (.pan (errA 30)) M:=by
 rw[hs]
 refine⟨rfl,64,rfl,ACallsD.le h (ACallsD.mono (catchG M.next x y z n 30) ?_)⟩
 rintro m' M' ⟨rfl,g0,g1⟩
 exact⟨_,get_res h2 h3 g0 g1,_,rfl,SubC.tup2 sub_zero (SubC.of_closed closed_int)⟩
theorem get_ret {M:Mem} {m:Mt} {tg:Tag} {t:List (Nat×AV)} {s:Bytes} (hs:getM s=(m,0)) (h:(resG M.next (.int .i64 m.size) (.int .i64 m.mode) (iA m.ch tg) 0).le M) (h2:AF.get ⟨t,[]⟩ 2=.ptr 0 0) (h3:AF.get ⟨t,[]⟩ 3=.ptr 1 0):ALeaves Tryd.prog tab Tryd.f42 ⟨t,[]⟩ (getR (getM s)) [getD] .ret M:=by
 rw[hs]
 refine⟨rfl,64,rfl,ACallsD.le h (ACallsD.mono (passG M.next _ _ _ 0) ?_)⟩
 rintro m' M' ⟨rfl,g0,g1⟩
 exact⟨_,get_res h2 h3 g0 g1,_,rfl,SubC.tup2 (SubC.pre (sub_mt (m:=m) (t:=tg)) (SubC.of_closed (closed_mt _))) (SubC.of_closed closed_int)⟩
def GN (a b:Nat) (m:List Nat) (q:Bytes) (g:Nat):Mem:=⟨4,[(0,.cells [.int .i64 (a:Int),.int .i64 (b:Int),iA (nI m) (.tok 3 g)]),(1,.cells [.int .i64 0]),(2,.cells [.str q]),(3,.spare g)]⟩
def GF (c i:Nat):AF:=⟨[(2,.ptr 0 0),(3,.ptr 1 0),(4,.ptr 2 0),(5,.fn (.func 65) [.ptr 2 0] []),(6,.int .i64 (c:Int)),(24,.int .i64 (c:Int)),(25,.int .i64 (i:Int))],[getD]⟩
set_option maxRecDepth 100000 in
set_option maxHeartbeats 8000000 in
theorem getM_ok (s:Bytes) (hs:s.length < 1000000):APure Tryd.prog 42 [.str s] (gmA (getM s)):=by
 refine pure_sub (closed1 closed_str) (closed_gm _) ?_
 refine acalls_of_d tabOK Tryd.func42 rfl (by decide) (by simp[Tryd.f42]) ?_
 repeat' (first|refine DW_A tabs rfl ?_|refine DW_nil ?_|refine W_A rfl ?_|refine DW_row tabOK rfl ?_|refine DW_app tabOK rfl rfl (by simp;omega) (by simp;omega) ?_|refine DW_app0 tabOK rfl (by simp;omega) (by simp;omega) ?_|refine W_draw mixed [2,3,4,0,1,5,6,7] [.R,.R,.P,.P,.P,.E,.R,.E] rfl rfl (by kernel_rfl) ?_)
 refine W_region ?_
 refine WL_P rfl rfl opP_func ?_
 refine WL_defer rfl rfl rfl rfl [(2,.ptr 0 0),(3,.ptr 1 0)] ?_ ?_
 ·intro p hp
  simp only[List.mem_cons,List.not_mem_nil,or_false] at hp
  rcases hp with rfl|rfl<;>rfl
 refine WL_nil ?_
 refine W.le (g:=⟨[(0,.str s),(2,.ptr 0 0),(3,.ptr 1 0)],[getD]⟩) (N:=⟨2,[(0,.cells zeroC),(1,.cells [.int .i64 0])]⟩) ?_ ?_ ?_
 ·repeat (refine AF.le_cons rfl ?_)
  exact AF.le_nil rfl
 ·exact Mem.le_cons rfl (Mem.le_cons rfl (Mem.le_nil rfl))
 have stop:∀{q:Bytes} {l:List Nat} {M:Mem} {x y z:AV} {n:Int} {t:List (Nat×AV)},At s l q→getNum q=none→(∀a b c m,l=a::b::c::m→c≠m.length)→(resG M.next x y z n).le M→AF.get ⟨t,[]⟩ 2=.ptr 0 0→AF.get ⟨t,[]⟩ 3=.ptr 1 0→ALeaves Tryd.prog tab Tryd.f42 ⟨t,[]⟩ (getR (getM s)) [getD] (.pan (errA 30)) M:=
  fun h hg hl=>get_pan (getM_stop h hg hl)
 have a0:=at_nil s
 cases g0:getNum s with
 |none=>
  repeat' (first|refine DW_box 10 tabOK rfl ?_|refine DW_orow 10 tabOK rfl ?_|refine DW_A tabs rfl ?_|refine DW_nil ?_|refine W_A rfl ?_|refine DW_row tabOK rfl ?_|refine DW_app tabOK rfl rfl (by simp;omega) (by simp;omega) ?_|refine DW_app0 tabOK rfl (by simp;omega) (by simp;omega) ?_|refine W_drawT mixed (.two [2] 0 3 (.two [] 1 3 (.fin [3,4,5,6,7]) (.fin [4,1,5,6,7])) (.fin [4,0,1,5,6,7])) [.R,.R,.P,.E,.P,.E,.R,.E] rfl rfl (by kernel_rfl) ?_|refine Both.mk ?_ ?_)
  refine DW_CM rfl rfl (reader_none g0 rfl (Nat.le_refl _) hs) ?_ ?_
  ·rintro u N ⟨h,_⟩
   cases h
  ·rintro u N ⟨h,rfl⟩
   cases h
   exact stop a0 g0 (by rintro a b c m h;cases h) (Mem.le_cons rfl (Mem.le_cons rfl (Mem.le_nil rfl))) rfl rfl
 |some p=>
  obtain⟨a,r0⟩:=p
  have a1:=at_next a0 g0
  have l0:=(getNum_lt g0).1
  repeat' (first|refine DW_box 10 tabOK rfl ?_|refine DW_orow 10 tabOK rfl ?_|refine DW_A tabs rfl ?_|refine DW_nil ?_|refine W_A rfl ?_|refine DW_row tabOK rfl ?_|refine DW_app tabOK rfl rfl (by simp;omega) (by simp;omega) ?_|refine DW_app0 tabOK rfl (by simp;omega) (by simp;omega) ?_|refine W_drawT mixed (.two [2] 0 3 (.two [] 1 3 (.fin [3,4,5,6,7]) (.fin [4,1,5,6,7])) (.fin [4,0,1,5,6,7])) [.R,.R,.P,.E,.P,.E,.R,.E] rfl rfl (by kernel_rfl) ?_|refine Both.mk ?_ ?_)
  refine DW_CM rfl rfl (reader_some g0 rfl (Nat.le_refl _) hs) ?_ ?_
  rotate_left
  ·rintro u N ⟨h,_⟩
   cases h
  rintro u N ⟨h,rfl⟩
  cases h
  cases g1:getNum r0 with
  |none=>
   repeat' (first|refine DW_box 10 tabOK rfl ?_|refine DW_orow 10 tabOK rfl ?_|refine DW_A tabs rfl ?_|refine DW_nil ?_|refine W_A rfl ?_|refine DW_row tabOK rfl ?_|refine DW_app tabOK rfl rfl (by simp;omega) (by simp;omega) ?_|refine DW_app0 tabOK rfl (by simp;omega) (by simp;omega) ?_|refine W_drawT mixed (.two [2] 0 3 (.two [] 1 3 (.fin [3,4,5,6,7]) (.fin [4,1,5,6,7])) (.fin [4,0,1,5,6,7])) [.R,.R,.P,.E,.P,.E,.R,.E] rfl rfl (by kernel_rfl) ?_|refine Both.mk ?_ ?_)
   refine DW_CM rfl rfl (reader_none g1 rfl (Nat.le_refl _) (by omega)) ?_ ?_
   ·rintro u N ⟨h,_⟩
    cases h
   ·rintro u N ⟨h,rfl⟩
    cases h
    exact stop a1 g1 (by rintro a b c m h;cases h) (Mem.le_cons rfl (Mem.le_cons rfl (Mem.le_nil rfl))) rfl rfl
  |some p=>
   obtain⟨b,r1⟩:=p
   have a2:=at_next a1 g1
   have l1:=(getNum_lt g1).1
   repeat' (first|refine DW_box 10 tabOK rfl ?_|refine DW_orow 10 tabOK rfl ?_|refine DW_A tabs rfl ?_|refine DW_nil ?_|refine W_A rfl ?_|refine DW_row tabOK rfl ?_|refine DW_app tabOK rfl rfl (by simp;omega) (by simp;omega) ?_|refine DW_app0 tabOK rfl (by simp;omega) (by simp;omega) ?_|refine W_drawT mixed (.two [2] 0 3 (.two [] 1 3 (.fin [3,4,5,6,7]) (.fin [4,1,5,6,7])) (.fin [4,0,1,5,6,7])) [.R,.R,.P,.E,.P,.E,.R,.E] rfl rfl (by kernel_rfl) ?_|refine Both.mk ?_ ?_)
   refine DW_CM rfl rfl (reader_some g1 rfl (Nat.le_refl _) (by omega)) ?_ ?_
   rotate_left
   ·rintro u N ⟨h,_⟩
    cases h
   rintro u N ⟨h,rfl⟩
   cases h
   cases g2:getNum r1 with
   |none=>
    repeat' (first|refine DW_box 10 tabOK rfl ?_|refine DW_orow 10 tabOK rfl ?_|refine DW_A tabs rfl ?_|refine DW_nil ?_|refine W_A rfl ?_|refine DW_row tabOK rfl ?_|refine DW_app tabOK rfl rfl (by simp;omega) (by simp;omega) ?_|refine DW_app0 tabOK rfl (by simp;omega) (by simp;omega) ?_|refine W_drawT mixed (.two [2] 0 3 (.two [] 1 3 (.fin [3,4,5,6,7]) (.fin [4,1,5,6,7])) (.fin [4,0,1,5,6,7])) [.R,.R,.P,.E,.P,.E,.R,.E] rfl rfl (by kernel_rfl) ?_|refine Both.mk ?_ ?_)
    refine DW_CM rfl rfl (reader_none g2 rfl (Nat.le_refl _) (by omega)) ?_ ?_
    ·rintro u N ⟨h,_⟩
     cases h
    ·rintro u N ⟨h,rfl⟩
     cases h
     exact stop a2 g2 (by rintro a b c m h;cases h) (Mem.le_cons rfl (Mem.le_cons rfl (Mem.le_nil rfl))) rfl rfl
   |some p=>
    obtain⟨c,r2⟩:=p
    have a3:=at_next a2 g2
    have l2:=(getNum_lt g2).1
    repeat' (first|refine DW_box 10 tabOK rfl ?_|refine DW_orow 10 tabOK rfl ?_|refine DW_A tabs rfl ?_|refine DW_nil ?_|refine W_A rfl ?_|refine DW_row tabOK rfl ?_|refine DW_app tabOK rfl rfl (by simp;omega) (by simp;omega) ?_|refine DW_app0 tabOK rfl (by simp;omega) (by simp;omega) ?_|refine W_drawT mixed (.two [2] 0 3 (.two [] 1 3 (.fin [3,4,5,6,7]) (.fin [4,1,5,6,7])) (.fin [4,0,1,5,6,7])) [.R,.R,.P,.E,.P,.E,.R,.E] rfl rfl (by kernel_rfl) ?_|refine Both.mk ?_ ?_)
    refine DW_CM rfl rfl (reader_some g2 rfl (Nat.le_refl _) (by omega)) ?_ ?_
    rotate_left
    ·rintro u N ⟨h,_⟩
     cases h
    rintro u N ⟨h,rfl⟩
    cases h
    by_cases hc:16 < c
    ·have d1:decide ((16:Int) < (c:Int))=true:=by simp;omega
     repeat' (first|refine DW_VB tabs rfl d1 ?_|refine DW_box 10 tabOK rfl ?_|refine DW_orow 10 tabOK rfl ?_|refine DW_A tabs rfl ?_|refine DW_nil ?_|refine W_A rfl ?_|refine DW_row tabOK rfl ?_|refine DW_app tabOK rfl rfl (by simp;omega) (by simp;omega) ?_|refine DW_app0 tabOK rfl (by simp;omega) (by simp;omega) ?_|refine W_drawT mixed (.two [2] 0 3 (.two [] 1 3 (.fin [3,4,5,6,7]) (.fin [4,1,5,6,7])) (.fin [4,0,1,5,6,7])) [.R,.R,.P,.E,.P,.E,.R,.E] rfl rfl (by kernel_rfl) ?_|refine Both.mk ?_ ?_)
     refine DW_panic rfl rfl rfl rfl rfl ?_
     exact get_pan (getM_many a3 hc) (Mem.le_cons rfl (Mem.le_cons rfl (Mem.le_nil rfl))) rfl rfl
    ·have d1:decide ((16:Int) < (c:Int))=false:=by simp;omega
     repeat' (first|refine DW_VB tabs rfl d1 ?_|refine DW_box 10 tabOK rfl ?_|refine DW_orow 10 tabOK rfl ?_|refine DW_A tabs rfl ?_|refine DW_nil ?_|refine W_A rfl ?_|refine DW_row tabOK rfl ?_|refine DW_app tabOK rfl rfl (by simp;omega) (by simp;omega) ?_|refine DW_app0 tabOK rfl (by simp;omega) (by simp;omega) ?_|refine W_drawT mixed (.two [2] 0 3 (.two [] 1 3 (.fin [3,4,5,6,7]) (.fin [4,1,5,6,7])) (.fin [4,0,1,5,6,7])) [.R,.R,.P,.E,.P,.E,.R,.E] rfl rfl (by kernel_rfl) ?_|refine Both.mk ?_ ?_)
     refine W_count c (fun i f N=>∃m q g,m.length=i∧At s ([a,b,c]++m) q∧q.length≤s.length∧N=GN a b m q g∧f=GF c i) (Nat.zero_le _) ⟨[],r2,0,rfl,a3,by omega,rfl,rfl⟩ ((Joint.tokM 0 2 rfl rfl (sz':=1) (.inr rfl)).trans (Joint.le ?_ (Mem.le_cons rfl (Mem.le_cons rfl (Mem.le_cons rfl (Mem.le_cons rfl (Mem.le_nil rfl))))))) ?_
     ·unfold GF
      repeat (refine AF.le_cons rfl ?_)
      exact AF.le_nil rfl
     rintro i f N hi ⟨m,q,g,rfl,am,lq,rfl,rfl⟩
     unfold GF
     by_cases h1:m.length < c
     ·have d2:decide ((m.length:Int) < (c:Int))=true:=by simp;omega
      have fi:=wrap_succ (i:=m.length) (by omega)
      have lq2:q.length < 1000000:=by omega
      have hml:m.length < 1000000:=by omega
      cases hg:getNum q with
      |none=>
       repeat' (first|refine DW_VB tabs rfl d2 ?_|refine DW_VI tabs rfl fi ?_|refine DW_box 10 tabOK rfl ?_|refine DW_orow 10 tabOK rfl ?_|refine DW_A tabs rfl ?_|refine DW_nil ?_|refine W_A rfl ?_|refine DW_row tabOK rfl ?_|refine DW_app tabOK rfl rfl (by simp;omega) (by simp;omega) ?_|refine DW_app0 tabOK rfl (by simp;omega) (by simp;omega) ?_|refine W_drawT mixed (.two [2] 0 3 (.two [] 1 3 (.fin [3,4,5,6,7]) (.fin [4,1,5,6,7])) (.fin [4,0,1,5,6,7])) [.R,.R,.P,.E,.P,.E,.R,.E] rfl rfl (by kernel_rfl) ?_|refine Both.mk ?_ ?_)
       all_goals
        refine DW_CM rfl rfl (reader_none hg rfl (Nat.le_succ _) lq2) ?_ ?_
        ·rintro u N ⟨h,_⟩
         cases h
        ·rintro u N ⟨h,rfl⟩
         cases h
         exact stop am hg (by rintro a' b' c' m' h;simp at h;obtain⟨_,_,rfl,rfl⟩:=h;omega) (Mem.le_cons rfl (Mem.le_cons rfl (Mem.le_nil rfl))) rfl rfl
      |some p=>
       obtain⟨n,r⟩:=p
       have am2:=at_next am hg
       have lr:=(getNum_lt hg).1
       have eT:AV.sl 1 ((nI (m++[n])).map fun n=>AV.int .i64 n) (.tok 3 (g+1))=.sl 1 (((nI m).map fun n=>AV.int .i64 n)++[.int .i64 (n:Int)]) (.tok 3 (g+1)):=by simp[nI]
       repeat' (first|refine DW_VB tabs rfl d2 ?_|refine DW_VI tabs rfl fi ?_|refine DW_box 10 tabOK rfl ?_|refine DW_orow 10 tabOK rfl ?_|refine DW_A tabs rfl ?_|refine DW_nil ?_|refine W_A rfl ?_|refine DW_row tabOK rfl ?_|refine DW_app tabOK rfl rfl (by simp;omega) (by simp;omega) ?_|refine DW_app0 tabOK rfl (by simp;omega) (by simp;omega) ?_|refine W_drawT mixed (.two [2] 0 3 (.two [] 1 3 (.fin [3,4,5,6,7]) (.fin [4,1,5,6,7])) (.fin [4,0,1,5,6,7])) [.R,.R,.P,.E,.P,.E,.R,.E] rfl rfl (by kernel_rfl) ?_|refine Both.mk ?_ ?_)
       all_goals
        refine DW_CM rfl rfl (reader_some hg rfl (Nat.le_succ _) lq2) ?_ ?_
        rotate_left
        ·rintro u N ⟨h,_⟩
         cases h
        rintro u N ⟨h,rfl⟩
        cases h
        repeat' (first|refine DW_VB tabs rfl d2 ?_|refine DW_VI tabs rfl fi ?_|refine DW_box 10 tabOK rfl ?_|refine DW_orow 10 tabOK rfl ?_|refine DW_A tabs rfl ?_|refine DW_nil ?_|refine W_A rfl ?_|refine DW_row tabOK rfl ?_|refine DW_app tabOK rfl rfl (by simp;omega) (by simp;omega) ?_|refine DW_app0 tabOK rfl (by simp;omega) (by simp;omega) ?_|refine W_drawT mixed (.two [2] 0 3 (.two [] 1 3 (.fin [3,4,5,6,7]) (.fin [4,1,5,6,7])) (.fin [4,0,1,5,6,7])) [.R,.R,.P,.E,.P,.E,.R,.E] rfl rfl (by kernel_rfl) ?_|refine Both.mk ?_ ?_)
        refine⟨h1,_,_,⟨m++[n],r,g+1,by simp,(by simpa using am2),by omega,rfl,rfl⟩,Joint.le ?_ ?_⟩
        ·skip
         repeat (refine AF.le_cons rfl ?_)
         exact AF.le_nil rfl
        ·unfold GN iA
         rw[eT]
         exact Mem.le_cons rfl (Mem.le_cons rfl (Mem.le_cons rfl (Mem.le_cons rfl (Mem.le_nil rfl))))
     ·have d2:decide ((m.length:Int) < (c:Int))=false:=by simp;omega
      have hml:m.length=c:=by omega
      by_cases hq:q=[]
      ·subst hq
       have d3:(!(([]:Bytes)==[]))=false:=rfl
       have km:=(mIs_ok ⟨a,b,nI m⟩ (by simp;omega)).sub (args:=[Mt.avT ⟨a,b,nI m⟩ (.tok 3 g)]) ⟨sub_mt,trivial⟩
       have he:=getM_end am
       cases hm:isM ⟨a,b,nI m⟩
       ·rw[hm] at km
        repeat' (first|refine DW_VB tabs rfl (by first|exact d2|exact d3) ?_|refine DW_box 10 tabOK rfl ?_|refine DW_orow 10 tabOK rfl ?_|refine DW_A tabs rfl ?_|refine DW_nil ?_|refine W_A rfl ?_|refine DW_C rfl km ?_|refine DW_row tabOK rfl ?_|refine DW_app tabOK rfl rfl (by simp;omega) (by simp;omega) ?_|refine DW_app0 tabOK rfl (by simp;omega) (by simp;omega) ?_|refine W_drawT mixed (.two [2] 0 3 (.two [] 1 3 (.fin [3,4,5,6,7]) (.fin [4,1,5,6,7])) (.fin [4,0,1,5,6,7])) [.R,.R,.P,.E,.P,.E,.R,.E] rfl rfl (by kernel_rfl) ?_|refine Both.mk ?_ ?_)
        refine DW_panic rfl rfl rfl rfl rfl ?_
        exact get_pan (he.trans (getMo_no (fun _=>hm))) (Mem.le_cons rfl (Mem.le_cons rfl (Mem.le_nil rfl))) rfl rfl
       ·rw[hm] at km
        repeat' (first|refine DW_VB tabs rfl (by first|exact d2|exact d3) ?_|refine DW_box 10 tabOK rfl ?_|refine DW_orow 10 tabOK rfl ?_|refine DW_A tabs rfl ?_|refine DW_nil ?_|refine W_A rfl ?_|refine DW_C rfl km ?_|refine DW_row tabOK rfl ?_|refine DW_app tabOK rfl rfl (by simp;omega) (by simp;omega) ?_|refine DW_app0 tabOK rfl (by simp;omega) (by simp;omega) ?_|refine W_drawT mixed (.two [2] 0 3 (.two [] 1 3 (.fin [3,4,5,6,7]) (.fin [4,1,5,6,7])) (.fin [4,0,1,5,6,7])) [.R,.R,.P,.E,.P,.E,.R,.E] rfl rfl (by kernel_rfl) ?_|refine Both.mk ?_ ?_)
        exact get_ret (tg:=.tok 3 g) (he.trans (getMo_yes hml.symm hm)) (Mem.le_cons rfl (Mem.le_cons rfl (Mem.le_nil rfl))) rfl rfl
      ·have d3:(!(q==[]))=true:=by simp[hq]
       repeat' (first|refine DW_VB tabs rfl (by first|exact d2|exact d3) ?_|refine DW_box 10 tabOK rfl ?_|refine DW_orow 10 tabOK rfl ?_|refine DW_A tabs rfl ?_|refine DW_nil ?_|refine W_A rfl ?_|refine DW_row tabOK rfl ?_|refine DW_app tabOK rfl rfl (by simp;omega) (by simp;omega) ?_|refine DW_app0 tabOK rfl (by simp;omega) (by simp;omega) ?_|refine W_drawT mixed (.two [2] 0 3 (.two [] 1 3 (.fin [3,4,5,6,7]) (.fin [4,1,5,6,7])) (.fin [4,0,1,5,6,7])) [.R,.R,.P,.E,.P,.E,.R,.E] rfl rfl (by kernel_rfl) ?_|refine Both.mk ?_ ?_)
       refine DW_panic rfl rfl rfl rfl rfl ?_
       exact get_pan (getM_more am hml.symm hq) (Mem.le_cons rfl (Mem.le_cons rfl (Mem.le_nil rfl))) rfl rfl
end Go.Proofs.YtbcaejhhgkcgpaaDoor
namespace Go.Proofs.YtbcaejhhgkcgpaaDoor
open Go.Ab
def hasPre (s p:Bytes):Bool:=decide (p.length≤s.length)&&(s.take p.length==p)
set_option maxRecDepth 100000 in
theorem litePrefix_ok (s p:Bytes):APure Tryd.prog 77 [.str s,.str p] (.bool (hasPre s p)):=by
 intro M
 refine acalls_of tabOK Tryd.func77 rfl (by decide) (by simp[Tryd.f77]) ?_
 unfold hasPre
 by_cases h:p.length≤s.length
 ·have d1:decide ((p.length:Int)≤(s.length:Int))=true:=by simp;omega
  have e1:decide (p.length≤s.length)=true:=by simp[h]
  rw[e1]
  repeat' (first|refine DW_VB tabs rfl d1 ?_|refine DW_A tabs rfl ?_|refine DW_nil ?_|refine W_A rfl ?_)
  refine DW_substr tabOK rfl rfl rfl rfl rfl rfl rfl rfl rfl (Int.le_refl 0) (Int.natCast_nonneg _) (by omega) ?_
  repeat' (first|refine DW_A tabs rfl ?_|refine DW_nil ?_|refine W_A rfl ?_)
  exact⟨rfl,_,rfl,ret_bool (by simp),rfl⟩
 ·have d1:decide ((p.length:Int)≤(s.length:Int))=false:=by simp;omega
  have e1:decide (p.length≤s.length)=false:=by simp[h]
  rw[e1]
  repeat' (first|refine DW_VB tabs rfl d1 ?_|refine DW_A tabs rfl ?_|refine DW_nil ?_|refine W_A rfl ?_)
  exact⟨rfl,_,rfl,rfl,rfl⟩
end Go.Proofs.YtbcaejhhgkcgpaaDoor
namespace Go.Proofs.YtbcaejhhgkcgpaaDoor
open Go.Ab
def cutA (s p:Bytes):AV:=.tup [.str (if hasPre s p=true then s.drop p.length else s),.bool (hasPre s p)]
set_option maxRecDepth 100000 in
set_option maxHeartbeats 8000000 in
theorem liteCut_ok (s p:Bytes):APure Tryd.prog 63 [.str s,.str p] (cutA s p):=by
 intro M
 refine acalls_of tabOK Tryd.func63 rfl (by decide) (by simp[Tryd.f63]) ?_
 have kp:=litePrefix_ok s p
 unfold cutA
 cases h:hasPre s p
 ·rw[h] at kp
  rw[if_neg (by simp)]
  repeat' (first|refine DW_A tabs rfl ?_|refine DW_nil ?_|refine W_A rfl ?_|refine DW_C rfl kp ?_)
  exact⟨rfl,_,rfl,rfl,rfl⟩
 ·rw[h] at kp
  rw[if_pos rfl]
  have hl:p.length≤s.length:=by
   simp[hasPre] at h
   exact h.1
  have s1:(0:Int)≤(p.length:Int)∧(p.length:Int)≤(s.length:Int)∧(s.length:Int)≤(s.length:Int)∧(s.take (s.length:Int).toNat).drop (p.length:Int).toNat=s.drop p.length:=by
   refine⟨by omega,by omega,Int.le_refl _,?_⟩
   rw[Int.toNat_natCast,Int.toNat_natCast,List.take_length]
  repeat' (first|refine DW_A tabs rfl ?_|refine DW_nil ?_|refine W_A rfl ?_|refine DW_C rfl kp ?_|refine DW_sub tabOK rfl (s1) ?_)
  exact⟨rfl,_,rfl,rfl,rfl⟩
set_option maxRecDepth 100000 in
set_option maxHeartbeats 8000000 in
theorem cut_ok (s p:Bytes):APure Tryd.prog 41 [.str s,.str p] (cutA s p):=by
 intro M
 refine acalls_of tabOK Tryd.func41 rfl (by decide) (by simp[Tryd.f41]) ?_
 have kp:=liteCut_ok s p
 unfold cutA at kp ⊢
 repeat' (first|refine DW_A tabs rfl ?_|refine DW_nil ?_|refine W_A rfl ?_|refine DW_C rfl kp ?_)
 exact⟨rfl,_,rfl,rfl,rfl⟩
set_option maxRecDepth 100000 in
set_option maxHeartbeats 8000000 in
theorem read_ok (v:Bytes) (hv:v.length < 1000000):APure Tryd.prog 23 [.str v] (rmA (readM v)):=by
 refine pure_sub (closed1 closed_str) (closed_rm _) ?_
 refine acalls_of tabOK Tryd.func23 rfl (by decide) (by simp[Tryd.f23]) ?_
 have kc:=cut_ok v [1]
 cases v with
 |nil=>
  have d1:(([]:Bytes)==[0])=false:=rfl
  unfold cutA at kc
  repeat' (first|refine DW_VB tabs rfl d1 ?_|refine DW_A tabs rfl ?_|refine DW_nil ?_|refine W_A rfl ?_|refine DW_C rfl kc ?_)
  exact⟨rfl,_,rfl,_,rfl,SubC.tup3 sub_zero (SubC.of_closed closed_bool) (SubC.of_closed closed_int)⟩
 |cons c r=>
  by_cases h0:c=0∧r=[]
  ·obtain⟨rfl,rfl⟩:=h0
   have d1:(([0]:Bytes)==[0])=true:=rfl
   repeat' (first|refine DW_VB tabs rfl d1 ?_|refine DW_A tabs rfl ?_|refine DW_nil ?_|refine W_A rfl ?_)
   exact⟨rfl,_,rfl,_,rfl,SubC.tup3 sub_zero (SubC.of_closed closed_bool) (SubC.of_closed closed_int)⟩
  ·have d1:((c::r:Bytes)==[0])=false:=by
    rw[beq_eq_false_iff_ne]
    intro h
    cases h
    exact h0 ⟨rfl,rfl⟩
   by_cases h1:c=1
   ·subst h1
    have e:readM (1::r)=((getM r).1,false,(getM r).2):=by
     show (if (1:UInt8)=0∧r=[] then (zeroMt,true,(0:Int)) else if (1:UInt8)=1 then ((getM r).1,false,(getM r).2) else (zeroMt,false,30))=_
     rw[if_neg h0,if_pos rfl]
    have kr:=getM_ok r (by simp at hv;omega)
    have hp:hasPre (1::r) [1]=true:=by simp[hasPre]
    unfold cutA at kc
    rw[if_pos hp,hp] at kc
    rw[e]
    generalize getM r=x at kr
    obtain⟨m,e⟩:=x
    repeat' (first|refine DW_VB tabs rfl d1 ?_|refine DW_A tabs rfl ?_|refine DW_nil ?_|refine W_A rfl ?_|refine DW_C rfl kc ?_|refine DW_C rfl kr ?_)
    exact⟨rfl,_,rfl,_,rfl,SubC.of_closed (closed_rm (m,false,e))⟩
   ·have hp:hasPre (c::r) [1]=false:=by simp[hasPre,h1]
    unfold cutA at kc
    rw[if_neg (by rw[hp];simp),hp] at kc
    have e:readM (c::r)=(zeroMt,false,30):=(if_neg h0).trans (if_neg h1)
    rw[e]
    repeat' (first|refine DW_VB tabs rfl d1 ?_|refine DW_A tabs rfl ?_|refine DW_nil ?_|refine W_A rfl ?_|refine DW_C rfl kc ?_)
    exact⟨rfl,_,rfl,_,rfl,SubC.tup3 sub_zero (SubC.of_closed closed_bool) (SubC.of_closed closed_int)⟩
end Go.Proofs.YtbcaejhhgkcgpaaDoor
namespace Go.Ab
open Go.RowKit
def bufO (g:Nat) (e:TypeId) (c:Array Value):AObj:=.raw (some g) (.cells c e (0,0)) #[] []
structure BufIs (c:Array Value) (bs:List UInt8) (cap:Nat):Prop where
 size:c.size=cap
 le:bs.length≤cap
 at_:∀(i:Nat) (x:UInt8),bs[i]? =some x→c[i]? =some (.int .u8 x.toNat)
theorem gam_rebuf {μ:Mu} {F:Frm} {M:Mem} {w w':World} (h:Gam μ F M w) {id g b:Nat} {c0:Array Value} {e:TypeId} {fr0:Nat×Nat} (hid:μ id=some (.spare (some (b,0)) g)) (h0:w.heap[b]? =some (.cells c0 e fr0)) {b':Nat} {o':Obj}
  (hcase:(b'=b∧Wrote w b w'∧∃c' fr',o'=.cells c' e fr'∧c'.size=c0.size)∨(w.heap.size≤b'∧Below w.heap.size w w')) (hb':w'.heap[b']? =some o'):
  Evo w μ w' (μ.put id (.spare (some (b',0)) (g+1)))∧Gam (μ.put id (.spare (some (b',0)) (g+1))) F (M.set id (.raw (some (g+1)) o' #[] [])) w':=by
 have hlt:b < w.heap.size:=(Array.getElem?_eq_some_iff.1 h0).1
 have hput:∀i,i≠id→(μ.put id (.spare (some (b',0)) (g+1))) i=μ i:=fun i hi=>by simp[Mu.put,hi]
 have hputs:(μ.put id (.spare (some (b',0)) (g+1))) id=some (.spare (some (b',0)) (g+1)):=by simp[Mu.put]
 have hsz:w.heap.size≤w'.heap.size:=by
  rcases hcase with ⟨_,hw,_⟩|⟨_,hb⟩
  ·exact Nat.le_of_eq hw.size.symm
  ·exact hb.size
 have hold:∀k,k < w.heap.size→k≠b→w'.heap[k]? =w.heap[k]? :=by
  intro k hk hne
  rcases hcase with ⟨_,hw,_⟩|⟨_,hb⟩
  ·exact hw.other k hne
  ·exact hb.block k hk
 have hownb:∀o,Own μ b o:=fun o=>⟨id,.inr ⟨0,g,hid,Nat.zero_le _⟩⟩
 have hown:∀k o,Own (μ.put id (.spare (some (b',0)) (g+1))) k o→w.heap.size≤k∨Own μ k o:=by
  rintro k o ⟨i,h1|⟨e',g',h1,he⟩⟩
  ·by_cases hi:i=id
   ·subst hi;rw[hputs] at h1;cases h1
   ·rw[hput i hi] at h1;exact .inr ⟨i,.inl h1⟩
  ·by_cases hi:i=id
   ·subst hi
    rw[hputs] at h1
    cases h1
    rcases hcase with ⟨rfl,_⟩|⟨hge,_⟩
    ·exact .inr (hownb o)
    ·exact .inl hge
   ·rw[hput i hi] at h1;exact .inr ⟨i,.inr ⟨e',g',h1,he⟩⟩
 have hev:Evo w μ w' (μ.put id (.spare (some (b',0)) (g+1))):=by
  have hstate:w'.os=w.os∧w'.tape=w.tape∧w'.output=w.output:=by
   rcases hcase with ⟨_,hw,_⟩|⟨_,hb⟩
   ·exact⟨hw.os,hw.tape,hw.output⟩
   ·exact⟨hb.os,hb.tape,hb.output⟩
  refine⟨hstate.1,hstate.2.1,hstate.2.2,hsz,?_,?_,?_,fun k o hk ho=>(hown k o ho).resolve_left (by omega)⟩
  ·intro i hi
   by_cases he:i=id
   ·subst he
    exact .inr (.inr ⟨_,g,_,g+1,hid,hputs,Nat.lt_succ_self g⟩)
   ·exact .inl (hput i he)
  ·intro k hk hn
   refine hold k hk ?_
   rintro rfl
   exact hn 0 (hownb 0)
  ·intro k e' c ty fr hk hn hc
   by_cases hkb:k=b
   ·subst hkb
    have he:=hn 0 (hownb 0)
    rw[h0] at hc
    cases hc
    rcases hcase with ⟨rfl,hw,c',fr',rfl,hs⟩|⟨_,hb⟩
    ·exact⟨c',fr',hb',hs,fun o ho=>by omega⟩
    ·exact⟨_,_,(hb.block k hk).trans h0,rfl,fun _ _=>rfl⟩
   ·exact⟨c,fr,(hold k hk hkb).trans hc,rfl,fun _ _=>rfl⟩
 have hfar:∀i k,i≠id→Lies μ i k→k≠b:=by
  rintro i k hi hl rfl
  exact hi (h.inj i id k hl (.inr ⟨0,g,hid⟩))
 have hlold:∀i k,Lies μ i k→k < w.heap.size:=by
  rintro i k (h1|⟨e,g,h1⟩)
  ·exact h.fit.own k 0 ⟨i,.inl h1⟩
  ·exact h.fit.own k e ⟨i,.inr ⟨e,g,h1,Nat.le_refl _⟩⟩
 have lie:∀i k,Lies (μ.put id (.spare (some (b',0)) (g+1))) i k→(i=id∧k=b')∨(i≠id∧Lies μ i k):=by
  rintro i k (h1|⟨e',g',h1⟩)
  ·by_cases hi:i=id
   ·subst hi;rw[hputs] at h1;cases h1
   ·rw[hput i hi] at h1;exact .inr ⟨hi,.inl h1⟩
  ·by_cases hi:i=id
   ·subst hi;rw[hputs] at h1;cases h1;exact .inl ⟨rfl,rfl⟩
   ·rw[hput i hi] at h1;exact .inr ⟨hi,.inr ⟨e',g',h1⟩⟩
 have hb'far:∀j,j≠id→¬Lies μ j b':=by
  intro j hj hl
  rcases hcase with ⟨rfl,_⟩|⟨hge,_⟩
  ·exact hfar j _ hj hl rfl
  ·have:=hlold j b' hl;omega
 refine⟨hev,?_,?_,?_,?_,?_,?_,?_⟩
 ·intro i
  show _↔i < M.next
  by_cases hi:i=id
  ·subst hi
   rw[hputs]
   exact⟨fun _=>(h.dom i).1 (by rw[hid];simp),fun _=>by simp⟩
  ·rw[hput i hi]
   exact h.dom i
 ·intro i l hl
  rw[Mem.get_set] at hl
  split at hl
  ·cases hl
  ·rename_i hi
   obtain⟨b1,c,ty,h1,h2,h3,h4,h5⟩:=h.obj i l hl
   have hlt1:b1 < w.heap.size:=(Array.getElem?_eq_some_iff.1 h2).1
   exact⟨b1,c,ty,(hput i hi).trans h1,(hold b1 hlt1 (hfar i b1 hi (.inl h1))).trans h2,h3,h4,fun i x v hx hv=>(h5 i x v hx hv).evo hev⟩
 ·intro i g' hl
  rw[Mem.get_set] at hl
  split at hl
  ·cases hl
  ·rename_i hi
   obtain⟨p,h1,h2⟩:=h.spare i g' hl
   refine⟨p,(hput i hi).trans h1,fun b1 e1 hp=>?_⟩
   obtain⟨c,ty,fr,h3,h4,h5⟩:=h2 b1 e1 hp
   have hlt1:b1 < w.heap.size:=(Array.getElem?_eq_some_iff.1 h3).1
   exact⟨c,ty,fr,(hold b1 hlt1 (hfar i b1 hi (.inr ⟨e1,g',by rw[h1,hp]⟩))).trans h3,h4,h5⟩
 ·intro i j k hi hj
  rcases lie i k hi with ⟨h1,h2⟩|⟨h1,h2⟩<;>rcases lie j k hj with ⟨h3,h4⟩|⟨h3,h4⟩
  ·exact h1.trans h3.symm
  ·exact absurd (h2 ▸ h4) (hb'far j h3)
  ·exact absurd (h4 ▸ h2) (hb'far i h1)
  ·exact h.inj i j k h2 h4
 ·intro k o ho hF
  rcases hown k o ho with h1|h1
  ·have:=h.fit.frm k o hF;omega
  ·exact h.frm k o h1 hF
 ·refine⟨fun k o ho=>?_,fun k o hF=>Nat.lt_of_lt_of_le (h.fit.frm k o hF) hsz⟩
  obtain⟨i,hl⟩:=own_lies ho
  rcases lie i k hl with ⟨_,rfl⟩|⟨_,h2⟩
  ·exact (Array.getElem?_eq_some_iff.1 hb').1
  ·exact Nat.lt_of_lt_of_le (hlold i k h2) hsz
 ·intro i gg o vs t hl
  rw[Mem.get_set] at hl
  split at hl
  ·rename_i hi
   cases hl
   subst hi
   exact⟨b',hputs,hb',fun _=>.top _⟩
  ·rename_i hi
   obtain⟨b1,h1,h2,h3⟩:=h.raw i gg o vs t hl
   have hlt1:b1 < w.heap.size:=(Array.getElem?_eq_some_iff.1 h2).1
   exact⟨b1,h1.congr (hput i hi),(hold b1 hlt1 (hfar i b1 hi h1.lies)).trans h2,fun i=>(h3 i).evo hev⟩
theorem opG_append_bsl {P:Program} {τ:Tab} (hτ:TabOK P τ) {t tx e:TypeId} {ti ei xi:TI} (hin:AppIn P τ t e ti ei) (hsz:ei.size=1) (hxi:lookup τ tx=some xi) {o:Oper} {s x:Operand}
  (ho:o.op=.call {callee:=.builtin .append,args:=#[s,x],argTypes:=#[t,tx]}) {ρ:Operand→AV} {M:Mem} {id g n cap:Nat} {c:Array Value} {bs ys:List UInt8} (hS:ρ s=.bsl id g n cap) (hn:n=bs.length) (hM:M.get id=some (bufO g e c)) (hB:BufIs c bs cap)
  (hf:srcFits xi.k (ρ x)=true) (hX:srcOf 1 (ρ x)=some (ys.map byteAV)) (hb:(n+ys.length)*ei.bytes≤140737488355328) (hlen:n+ys.length≤140737488355328) {Kp:AV→Mem→Prop}:
  OpG P o ρ M (fun u M'=>∃cap' c',BufIs c' (bs++ys) cap'∧u=.bsl id (g+1) (n+ys.length) cap'∧M'=M.set id (bufO (g+1) e c')) Kp:=by
 subst hn
 intro μ F w a hg hr next Q' hnext _
 have hs:=hr s (by simp[ho,Op.operands,Call.operands])
 have hx:=hr x (by simp[ho,Op.operands,Call.operands])
 rw[hS] at hs
 obtain⟨b,k1,hb2,_⟩:=hg.raw id _ _ _ _ hM
 have hbm:μ id=some (.spare (some (b,0)) g):=k1
 have hv:a.eval s=.slice (some ⟨b,0,none⟩) bs.length cap:=by
  generalize a.eval s=u at hs
  cases hs with
  |bsl _ _ _ _ _ h1 h=>
   rcases h with h|⟨p,g',h,hgg,hv⟩
   ·rw[hbm] at h;cases h
   ·rw[hbm] at h
    cases h
    exact hv rfl b rfl
 obtain⟨hsy,news,hsrc,hnew⟩:=src_of hτ hxi hf hX hx
 obtain⟨ft,dt,zt,HT⟩:=TI.spec hτ hin.tl
 obtain⟨fe,de,ze,HE⟩:=TI.spec hτ hin.el
 have hfi:=HT.fits
 rw[hin.tk] at hfi
 have hdd:dt=.slice e:=by
  cases dt<;>simp[TK.fits] at hfi
  rw[hfi]
 subst hdd
 have hfs:fe.size=1:=by rw[HE.size,hsz]
 have hnl:news.length=ys.length:=by have:=hsrc.newsLen;simpa using this
 have hsrc':Src P fe.size tx (a.eval x) ys.length news w:=by rw[hfs];simpa using hsrc
 have hnews:∀(p:Nat) (z:UInt8),ys[p]? =some z→news[p]? =some (.int .u8 z.toNat):=by
  intro p z hz
  have hp:p < news.length:=by rw[hnl];exact (List.getElem?_eq_some_iff.1 hz).1
  have h1:=hnew p (byteAV z) news[p] (by rw[flat_bytes,List.getElem?_map,hz];rfl) (List.getElem?_eq_getElem hp)
  rw[List.getElem?_eq_getElem hp]
  generalize news[p]=u at h1
  cases h1
  rfl
 have hex:∀v w',(Builtin.append_ #[t,tx] o.type #[a.eval s,a.eval x]).run P w=.ok v w'→(execOp a.eval o).run P w=.ok (.value v) w':=by
  intro v w' h
  simp[execOp,ho,resolve,invoke,builtin,h]
 have hcs:bs.length≤c.size:=by rw[hB.size];exact hB.le
 unfold Oper.wp
 by_cases hroom:bs.length+ys.length≤cap
 ·have hfl:bs.length+news.length≤c.size:=by rw[hnl,hB.size];exact hroom
  have hrun:=run_append_room_src (P:=P) w t tx o.type e fe HT.und HE.info b 0 bs.length cap (a.eval x) ys.length news hsrc' hroom (fun j hj=>by
    rw[hfs,cell_mk hb2,Nat.zero_add,Nat.mul_one,Array.getElem?_eq_getElem (by omega)];rfl) (fun j hj=>by simp[World.frozen?,hb2])
  rw[hfs,Nat.zero_add,Nat.mul_one] at hrun
  obtain⟨hw,c',hc',hs',hget⟩:=setCells_row b news bs.length c e (0,0) w hb2 hfl
  obtain⟨he,hG⟩:=gam_rebuf hg hbm hb2 (.inl ⟨rfl,hw,c',(0,0),rfl,hs'⟩) hc'
  rw[hv] at hex
  rw[hex _ _ hrun]
  refine hnext _ _ _ _ _ he hG (.bsl _ _ _ _ _ rfl (.inr ⟨some (b,0),g+1,by simp[Mu.put],Nat.le_refl _,fun _ b1 hb1=>by cases hb1;rfl⟩)) ⟨cap,c',⟨hs'.trans hB.size,by simpa using hroom,?_⟩,rfl,rfl⟩
  intro i z hz
  rw[hget]
  by_cases h1:i < bs.length
  ·rw[if_neg (by omega)]
   rw[List.getElem?_append_left h1] at hz
   exact hB.at_ i z hz
  ·rw[List.getElem?_append_right (by omega)] at hz
   have hlt:=(List.getElem?_eq_some_iff.1 hz).1
   rw[if_pos ⟨by omega,by omega⟩]
   exact hnews _ z hz
 ·have hgrow:cap < bs.length+ys.length:=by omega
  let olds:=c.toList.take bs.length
  have hol:olds.length=bs.length:=by simp[olds];omega
  have hold:(Builtin.firstCells fe.size bs.length (.slice (some ⟨b,0,none⟩) bs.length cap)).run P w.drew=.ok olds.toArray w.drew:=by
   rw[hfs]
   refine run_firstCells_some w.drew 1 bs.length _ _ _ olds (by rw[hol,Nat.mul_one]) (fun j u hu=>?_)
   have hj:olds[j]? =c[j]? :=by
    have:j < bs.length:=by rw[←hol];exact (List.getElem?_eq_some_iff.1 hu).1
    simp only[olds,List.getElem?_take,if_pos this,Array.getElem?_toList]
   rw[hj] at hu
   have:=cell_mk (o:=0+j) hb2
   rw[Addr.add_lit]
   show w.cell? ⟨b,0+j,none⟩=some u
   rw[this,Nat.zero_add]
   exact hu
  have hfit:Builtin.nextslicecap (bs.length+ys.length) cap*fe.bytes≤281474976710656:=by
   rw[HE.bytes]
   exact growslice_fits hgrow hb
  have hrun:=run_append_grow_src (P:=P) w t tx o.type e fe ze HT.und HE.info HE.zero (some ⟨b,0,none⟩) bs.length cap olds hold (a.eval x) ys.length news hsrc' hgrow (by omega) hfit
  have hge:=grownCap_ge w (bs.length+ys.length) cap e
  generalize hcap:grownCap w (bs.length+ys.length) cap e=cap' at hrun hge
  have hzs:ze.cells.size=1:=by
   have:=(sameCells_get HE.cells).1
   simp only[Array.length_toList] at this
   rw[this,HE.len,hsz]
  have hc's:((olds++news).toArray++Builtin.zeroCells ze.cells (cap' - (bs.length+ys.length))).size=cap':=by
   simp only[Array.size_append,List.size_toArray,List.length_append,hol,hnl,size_zeroCells,hzs]
   omega
  have hbelow:Below w.heap.size w (w.drew.alloc (.cells ((olds++news).toArray++Builtin.zeroCells ze.cells (cap' - (bs.length+ys.length))) e)):=⟨rfl,rfl,rfl,by simp[World.alloc],fun k hk=>heap_alloc_old w.drew _ hk⟩
  obtain⟨he,hG⟩:=gam_rebuf hg hbm hb2 (.inr ⟨Nat.le_refl _,hbelow⟩) (heap_alloc_new w.drew _)
  rw[hv] at hex
  rw[hex _ _ hrun]
  refine hnext _ _ _ _ _ he hG (.bsl _ _ _ _ _ rfl (.inr ⟨some (w.heap.size,0),g+1,by simp[Mu.put],Nat.le_refl _,fun _ b1 hb1=>by cases hb1;rfl⟩)) ⟨cap',_,⟨hc's,by simpa using hge,?_⟩,rfl,rfl⟩
  intro i z hz
  have hi:i < (olds++news).length:=by
   have:=(List.getElem?_eq_some_iff.1 hz).1
   rw[List.length_append] at this ⊢
   omega
  rw[Array.getElem?_append_left (by simpa using hi)]
  simp only[List.getElem?_toArray]
  by_cases h1:i < bs.length
  ·rw[List.getElem?_append_left (by omega)]
   rw[List.getElem?_append_left h1] at hz
   simp only[olds,List.getElem?_take,if_pos h1,Array.getElem?_toList]
   exact hB.at_ i z hz
  ·rw[List.getElem?_append_right (by omega),hol]
   rw[List.getElem?_append_right (by omega)] at hz
   exact hnews _ z hz
theorem gam_newbuf {μ:Mu} {F:Frm} {M:Mem} {w w':World} (h:Gam μ F M w) (hb:Below w.heap.size w w') {o:Obj} {vs:Array Value} {t:List (Nat×AV)} {b:Nat} (hnew:w.heap.size≤b)
  (hc:w'.heap[b]? =some o) (hr:∀i,Rep μ F w ((lookup t i).getD .top) (vs.getD i undef)):
  Evo w μ w' (μ.put M.next (.spare (some (b,0)) 0))∧Gam (μ.put M.next (.spare (some (b,0)) 0)) F (M.push (.raw (some 0) o vs t)) w':=by
 have hn:=gam_next h
 have hown:∀k o,Own (μ.put M.next (.spare (some (b,0)) 0)) k o→k=b∨Own μ k o:=by
  rintro k o ⟨id,h1|⟨e,g,h1,he⟩⟩
  ·unfold Mu.put at h1
   split at h1
   ·cases h1
   ·exact .inr ⟨id,.inl h1⟩
  ·unfold Mu.put at h1
   split at h1
   ·cases h1;exact .inl rfl
   ·exact .inr ⟨id,.inr ⟨e,g,h1,he⟩⟩
 have hev:Evo w μ w' (μ.put M.next (.spare (some (b,0)) 0)):=Evo.push hb hn fun k o ho hk=>by
  rcases hown k o ho with rfl|ho
  ·omega
  ·exact ho
 refine⟨hev,?_,?_,?_,?_,?_,?_,?_⟩
 ·intro id
  have:=h.dom id
  unfold Mu.put Mem.push
  simp only
  split
  ·rename_i e;subst e;simp
  ·rename_i e
   rw[this]
   omega
 ·intro id l' hl
  rw[Mem.get_push] at hl
  split at hl
  ·cases hl
  ·rename_i e
   obtain⟨b',c',ty',h1,h2,h3,h4,h5⟩:=h.obj id l' hl
   have hlt:b' < w.heap.size:=(Array.getElem?_eq_some_iff.1 h2).1
   exact⟨b',c',ty',by simp[Mu.put,e,h1],(hb.block b' hlt).trans h2,h3,h4,fun i x v hx hv=>(h5 i x v hx hv).evo hev⟩
 ·intro id g hl
  rw[Mem.get_push] at hl
  split at hl
  ·cases hl
  ·rename_i e
   obtain⟨p,h1,h2⟩:=h.spare id g hl
   refine⟨p,by simp[Mu.put,e,h1],fun b' e' hp=>?_⟩
   obtain⟨c',ty',fr,h3,h4,h5⟩:=h2 b' e' hp
   have hlt:b' < w.heap.size:=(Array.getElem?_eq_some_iff.1 h3).1
   exact⟨c',ty',fr,(hb.block b' hlt).trans h3,h4,h5⟩
 ·have lie:∀i k,Lies (μ.put M.next (.spare (some (b,0)) 0)) i k→(i=M.next∧k=b)∨Lies μ i k:=by
   rintro i k (h1|⟨e,g,h1⟩)
   ·unfold Mu.put at h1
    split at h1
    ·cases h1
    ·exact .inr (.inl h1)
   ·unfold Mu.put at h1
    split at h1
    ·cases h1;exact .inl ⟨by assumption,rfl⟩
    ·exact .inr (.inr ⟨e,g,h1⟩)
  have old:∀i k,Lies μ i k→k < w.heap.size:=by
   rintro i k (h1|⟨e,g,h1⟩)
   ·exact h.fit.own k 0 ⟨i,.inl h1⟩
   ·exact h.fit.own k e ⟨i,.inr ⟨e,g,h1,Nat.le_refl _⟩⟩
  intro i j k hi hj
  rcases lie i k hi with ⟨h1,h2⟩|h1<;>rcases lie j k hj with ⟨h3,h4⟩|h3
  ·exact h1.trans h3.symm
  ·have:=old j k h3;omega
  ·have:=old i k h1;omega
  ·exact h.inj i j k h1 h3
 ·intro k o ho hF
  rcases hown k o ho with rfl|ho
  ·have:=h.fit.frm k o hF;omega
  ·exact h.frm k o ho hF
 ·refine⟨fun k o ho=>?_,fun k o hF=>Nat.lt_of_lt_of_le (h.fit.frm k o hF) hb.size⟩
  rcases hown k o ho with rfl|ho
  ·exact (Array.getElem?_eq_some_iff.1 hc).1
  ·exact Nat.lt_of_lt_of_le (h.fit.own k o ho) hb.size
 ·intro id gg o' vs' t' hl
  rw[Mem.get_push] at hl
  split at hl
  ·rename_i e
   cases hl
   exact⟨b,by simp[RawAt,Mu.put,e],hc,fun i=>(hr i).evo hev⟩
  ·rename_i e
   obtain⟨b',h1,h2,h3⟩:=h.raw id gg o' vs' t' hl
   have hlt:b' < w.heap.size:=(Array.getElem?_eq_some_iff.1 h2).1
   exact⟨b',h1.congr (by simp[Mu.put,e]),(hb.block b' hlt).trans h2,fun i=>(h3 i).evo hev⟩
theorem opG_append_newb {P:Program} {τ:Tab} (hτ:TabOK P τ) {t tx e:TypeId} {ti ei xi:TI} (hin:AppIn P τ t e ti ei) (hsz:ei.size=1) (hxi:lookup τ tx=some xi) {o:Oper} {s x:Operand}
  (ho:o.op=.call {callee:=.builtin .append,args:=#[s,x],argTypes:=#[t,tx]}) {ρ:Operand→AV} {M:Mem} {sz:Nat} {ys:List UInt8} (hS:ρ s=.sl sz [] .full) (hne:ys≠[])
  (hf:srcFits xi.k (ρ x)=true) (hX:srcOf 1 (ρ x)=some (ys.map byteAV)) (hb:ys.length*ei.bytes≤140737488355328) (hlen:ys.length≤140737488355328) {Kp:AV→Mem→Prop}:
  OpG P o ρ M (fun u M'=>∃cap' c',BufIs c' ys cap'∧u=.bsl M.next 0 ys.length cap'∧M'=M.push (bufO 0 e c')) Kp:=by
 intro μ F w a hg hr next Q' hnext _
 have hs:=hr s (by simp[ho,Op.operands,Call.operands])
 have hx:=hr x (by simp[ho,Op.operands,Call.operands])
 rw[hS] at hs
 obtain⟨A,cap,b,off,vals,hv,_,_,_,_,htag⟩:=hs.sl_flat
 have htag':cap=0:=htag
 subst htag'
 obtain⟨hsy,news,hsrc,hnew⟩:=src_of hτ hxi hf hX hx
 obtain⟨ft,dt,zt,HT⟩:=TI.spec hτ hin.tl
 obtain⟨fe,de,ze,HE⟩:=TI.spec hτ hin.el
 have hfi:=HT.fits
 rw[hin.tk] at hfi
 have hdd:dt=.slice e:=by
  cases dt<;>simp[TK.fits] at hfi
  rw[hfi]
 subst hdd
 have hfs:fe.size=1:=by rw[HE.size,hsz]
 have hnl:news.length=ys.length:=by have:=hsrc.newsLen;simpa using this
 have hsrc':Src P fe.size tx (a.eval x) ys.length news w:=by rw[hfs];simpa using hsrc
 have hnews:∀(p:Nat) (z:UInt8),ys[p]? =some z→news[p]? =some (.int .u8 z.toNat):=by
  intro p z hz
  have hp:p < news.length:=by rw[hnl];exact (List.getElem?_eq_some_iff.1 hz).1
  have h1:=hnew p (byteAV z) news[p] (by rw[flat_bytes,List.getElem?_map,hz];rfl) (List.getElem?_eq_getElem hp)
  rw[List.getElem?_eq_getElem hp]
  generalize news[p]=u at h1
  cases h1
  rfl
 have hex:∀v w',(Builtin.append_ #[t,tx] o.type #[a.eval s,a.eval x]).run P w=.ok v w'→(execOp a.eval o).run P w=.ok (.value v) w':=by
  intro v w' h
  simp[execOp,ho,resolve,invoke,builtin,h]
 unfold Oper.wp
 have hyl:0 < ys.length:=List.length_pos_iff.2 hne
 have hgrow:0 < 0+ys.length:=by omega
 have hold:(Builtin.firstCells fe.size 0 (.slice A 0 0)).run P w.drew=.ok (([]:List Value)).toArray w.drew:=by
  cases A<;>simp[Builtin.firstCells,loadCells,loadCellsFrom]
 have hfit:Builtin.nextslicecap (0+ys.length) 0*fe.bytes≤281474976710656:=by
  rw[HE.bytes]
  exact growslice_fits hgrow (by simpa using hb)
 have hrun:=run_append_grow_src (P:=P) w t tx o.type e fe ze HT.und HE.info HE.zero A 0 0 [] hold (a.eval x) ys.length news hsrc' hgrow (by omega) hfit
 have hge:=grownCap_ge w (0+ys.length) 0 e
 generalize hcap:grownCap w (0+ys.length) 0 e=cap' at hrun hge
 rw[Nat.zero_add,List.nil_append] at hrun
 rw[Nat.zero_add] at hge
 have hzs:ze.cells.size=1:=by
  have:=(sameCells_get HE.cells).1
  simp only[Array.length_toList] at this
  rw[this,HE.len,hsz]
 have hc's:(news.toArray++Builtin.zeroCells ze.cells (cap' - ys.length)).size=cap':=by
  simp only[Array.size_append,List.size_toArray,hnl,size_zeroCells,hzs]
  omega
 have hbelow:Below w.heap.size w (w.drew.alloc (.cells (news.toArray++Builtin.zeroCells ze.cells (cap' - ys.length)) e)):=⟨rfl,rfl,rfl,by simp[World.alloc],fun k hk=>heap_alloc_old w.drew _ hk⟩
 obtain⟨he,hG⟩:=gam_newbuf hg hbelow (vs:=#[]) (t:=[]) (Nat.le_refl _) (heap_alloc_new w.drew _) (fun i=>.top _)
 rw[hv] at hex
 rw[hex _ _ hrun]
 refine hnext _ _ _ _ _ he hG (.bsl _ _ _ _ _ rfl (.inr ⟨some (w.heap.size,0),0,by simp[Mu.put],Nat.le_refl _,fun _ b1 hb1=>by cases hb1;rfl⟩)) ⟨cap',_,⟨hc's,hge,?_⟩,rfl,rfl⟩
 intro i z hz
 have hi:i < news.length:=by rw[hnl];exact (List.getElem?_eq_some_iff.1 hz).1
 rw[Array.getElem?_append_left (by simpa using hi)]
 simp only[List.getElem?_toArray]
 exact hnews i z hz
theorem gam_bsl {μ:Mu} {F:Frm} {M:Mem} {w:World} (hg:Gam μ F M w) {id g n cap:Nat} {e:TypeId} {c:Array Value} (hM:M.get id=some (bufO g e c)) {v:Value} (hr:Rep μ F w (.bsl id g n cap) v):
  ∃b,μ id=some (.spare (some (b,0)) g)∧w.heap[b]? =some (.cells c e (0,0))∧v=.slice (some ⟨b,0,none⟩) n cap:=by
 obtain⟨b,k1,h2,_⟩:=hg.raw id _ _ _ _ hM
 have h1:μ id=some (.spare (some (b,0)) g):=k1
 refine⟨b,h1,h2,?_⟩
 cases hr with
 |bsl _ _ _ _ _ _ h=>
  rcases h with h|⟨p,g',h,_,hv⟩
  ·rw[h1] at h;cases h
  ·rw[h1] at h
   cases h
   exact hv rfl b rfl
end Go.Ab
