/- Parts of the proof, one behind the other. No further condition. -/
import Derived.Test.YtbcaejhhgkcgpaaGreatDoorK17
set_option linter.unusedVariables false
set_option linter.unusedSimpArgs false
namespace Go.Proofs.YtbcaejhhgkcgpaaGreatDoor
open Go.Ab
theorem normR_pure {l:List Ch} {e:AEnd} {N:Mem} (h:NormR l e N):∃x,e=.ret x∧View 0 N x (nmA (normC l))∧0≤N.next∧ObjsC 0 N []:=by
 have hi:∀n:Int,View 0 N (.int .i64 n) (.int .i64 n):=fun n=>.closed closed_int
 have tup:∀{x:AV} {m:List Ch} {n:Int},View 0 N x (chA m .none)→View 0 N (.tup [x,.int .i64 n]) (nmA (m,n)):=by
  intro x m n h
  refine .tup _ _ rfl fun i a b ha hb=>?_
  match i,ha,hb with
  |0,ha,hb=>cases ha;cases hb;exact h
  |1,ha,hb=>cases ha;cases hb;exact hi n
  |i+2,ha,hb=>simp at ha
 rcases h with ⟨e1,sz,t,rfl⟩|⟨id,cap,k,cells,xs,e1,rfl,_,_,_,h4,h5,h6,h7,h8⟩
 ·refine⟨_,rfl,?_,Nat.zero_le _,trivial⟩
  rw[e1]
  refine tup ?_
  refine .sub _ _ fun μ μ0 F w v hf hr=>?_
  obtain⟨A,cap,ad,vals,rfl,hsz,hcap,hA,hone,hcell,hrep,htag⟩:=hr.sl_inv
  exact .sl 5 [] .none A cap ad vals (by intro x hx;cases hx) hcap hA (by intro i x j c hx;simp at hx) (by intro i x j c hx;simp at hx) (by intro i x j c hx;simp at hx) trivial
 ·refine⟨_,rfl,?_,Nat.zero_le _,trivial⟩
  rw[e1]
  exact tup (out_view h4 h5 h6 h7 h8)
theorem pure_of0 {P:Program} {g:FuncId} {args:List AV} {y:AV} (ha:∀x,x∈args→Closed x) (hy:Closed y) (h:ACalls P g args ⟨0,[]⟩ fun e N=>∃x,e=.ret x∧View 0 N x y∧0≤N.next∧ObjsC 0 N []):APure P g args y:=
 pure_sub ha hy ((ACalls.cutV (M:=⟨0,[]⟩) (l:=[]) h).mono fun e N ⟨h1,_⟩=>⟨y,h1,SubC.of_closed hy⟩)
theorem bNorm_ok (l:List Ch) (tg:Tag) (htg:tg=.none∨tg=.full) (hl:l.length < 10000) (hs:∀c,c∈l→shortCh c):APure Tryz.prog 16 [chA l tg] (nmA (normC l)):=
 pure_of0 (closed1 (closed_chs l htg)) (closed_nmA _) ((bNorm0_ok l tg hl hs).mono fun _ _ h=>normR_pure h)
set_option maxRecDepth 100000 in
set_option maxHeartbeats 8000000 in
theorem growC0_ok:APure Tryz.prog 114 [.sl 0 [] .full,.int .i64 0] (.sl 0 [] .full):=by
 intro M
 refine acalls_of tabOK Tryz.func114 rfl (by decide) (by simp[Tryz.f114]) ?_
 repeat' (first|refine DW_A tabs rfl ?_|refine DW_nil ?_|refine W_A rfl ?_|refine DW_app tabOK rfl rfl (by simp;omega) (by simp;omega) ?_|refine DW_app0 tabOK rfl (by simp;omega) (by simp;omega) ?_)
 refine DW_cap tabOK rfl rfl rfl rfl rfl rfl rfl ?_
 repeat' (first|refine DW_A tabs rfl ?_|refine DW_nil ?_|refine W_A rfl ?_|refine DW_app tabOK rfl rfl (by simp;omega) (by simp;omega) ?_|refine DW_app0 tabOK rfl (by simp;omega) (by simp;omega) ?_)
 exact⟨rfl,_,rfl,rfl,rfl⟩
theorem flat_none {rows:List (List Ch×Bool)} (h:flatRC rows=[]) {r:List Ch×Bool} (hr:r∈rows):r.1=[]:=by
 unfold flatRC at h
 rw[List.flatten_eq_nil_iff] at h
 exact h r.1 (List.mem_map.2 ⟨r,hr,rfl⟩)
set_option maxRecDepth 100000 in
theorem concatC0_ok (rows:List (List Ch×Bool)) (b:Bool) (hr:rows.length < 1000) (h0:flatRC rows=[]):APure Tryz.prog 60 [.sl 1 (rows.map rowCA) (tgB b)] (.sl 5 ([].map Ch.av) .none):=by
 refine pure_sub (closed1 (closed_rowsC rows b)) (closed_chs [] (.inl rfl)) ?_
 refine acalls_of tabOK Tryz.func60 rfl (by decide) (by simp[Tryz.f60]) ?_
 have la:((rows.map rowCA).length:Int)=(rows.length:Int):=by simp
 have kg:=growC0_ok
 repeat' (first|refine DW_VI tabs rfl la ?_|refine DW_A tabs rfl ?_|refine DW_nil ?_|refine W_A rfl ?_)
 refine W_count rows.length (fun i f N=>N=⟨0,[]⟩∧f=⟨[(0,.sl 1 (rows.map rowCA) (tgB b)),(3,.int .i64 0),(9,.sl 1 (rows.map rowCA) (tgB b)),(10,.int .i64 (rows.length:Int)),(11,.int .i64 (i:Int))],[]⟩) (Nat.zero_le _) ⟨rfl,rfl⟩ (Joint.le ?_ (Mem.le_refl _)) ?_
 ·skip
  repeat (refine AF.le_cons rfl ?_)
  exact AF.le_nil rfl
 rintro i f N hi ⟨rfl,rfl⟩
 by_cases hi1:i < rows.length
 ·have d1:decide ((i:Int) < (rows.length:Int))=true:=by simp;omega
  have hx:rows[i]? =some rows[i]:=List.getElem?_eq_getElem hi1
  have fi:=wrap_succ (i:=i) (by omega)
  have hq:=flat_none h0 (List.getElem_mem hi1)
  generalize rows[i]=r at hx hq
  obtain⟨r,rb⟩:=r
  obtain rfl:r=[]:=hq
  repeat' (first|refine DW_VB tabs rfl d1 ?_|refine DW_VI tabs rfl (by first|exact fi|exact la) ?_|refine DW_A tabs rfl ?_|refine DW_nil ?_|refine W_A rfl ?_)
  refine DW_ix tabOK rfl (ixN hx) ?_
  repeat' (first|refine DW_VI tabs rfl (by first|exact fi|exact la) ?_|refine DW_A tabs rfl ?_|refine DW_nil ?_|refine W_A rfl ?_)
  refine⟨hi1,_,_,⟨rfl,rfl⟩,Joint.le ?_ (Mem.le_refl _)⟩
  repeat (refine AF.le_cons rfl ?_)
  exact AF.le_nil rfl
 ·have d1:decide ((i:Int) < (rows.length:Int))=false:=by simp;omega
  obtain rfl:i=rows.length:=by omega
  repeat' (first|refine DW_VB tabs rfl d1 ?_|refine DW_A tabs rfl ?_|refine DW_nil ?_|refine W_A rfl ?_|refine DW_C rfl kg ?_)
  refine W_count rows.length (fun i f N=>N=⟨0,[]⟩∧f=⟨[(6,.sl 0 [] .full),(25,.sl 1 (rows.map rowCA) (tgB b)),(26,.int .i64 (rows.length:Int)),(27,.int .i64 (i:Int))],[]⟩) (Nat.zero_le _) ⟨rfl,rfl⟩ (Joint.le ?_ (Mem.le_refl _)) ?_
  ·skip
   rw[←la]
   repeat (refine AF.le_cons rfl ?_)
   exact AF.le_nil rfl
  rintro i f N hi ⟨rfl,rfl⟩
  by_cases hi1:i < rows.length
  ·have d1:decide ((i:Int) < (rows.length:Int))=true:=by simp;omega
   have hx:rows[i]? =some rows[i]:=List.getElem?_eq_getElem hi1
   have fi:=wrap_succ (i:=i) (by omega)
   have hq:=flat_none h0 (List.getElem_mem hi1)
   generalize rows[i]=r at hx hq
   obtain⟨r,rb⟩:=r
   obtain rfl:r=[]:=hq
   repeat' (first|refine DW_VB tabs rfl d1 ?_|refine DW_VI tabs rfl (by first|exact fi|exact la) ?_|refine DW_A tabs rfl ?_|refine DW_nil ?_|refine W_A rfl ?_)
   refine DW_ix tabOK rfl (ixN hx) ?_
   repeat' (first|refine DW_VI tabs rfl (by first|exact fi|exact la) ?_|refine DW_A tabs rfl ?_|refine DW_nil ?_|refine W_A rfl ?_)
   refine DW_appE tabOK rfl rfl rfl rfl rfl rfl rfl rfl rfl rfl rfl rfl ?_
   repeat' (first|refine DW_VI tabs rfl (by first|exact fi|exact la) ?_|refine DW_A tabs rfl ?_|refine DW_nil ?_|refine W_A rfl ?_)
   refine⟨hi1,_,_,⟨rfl,rfl⟩,Joint.le ?_ (Mem.le_refl _)⟩
   repeat (refine AF.le_cons rfl ?_)
   exact AF.le_nil rfl
  ·have d1:decide ((i:Int) < (rows.length:Int))=false:=by simp;omega
   repeat' (first|refine DW_VB tabs rfl d1 ?_|refine DW_A tabs rfl ?_|refine DW_nil ?_|refine W_A rfl ?_)
   exact⟨rfl,_,rfl,_,rfl,SubC.nil⟩
set_option maxRecDepth 100000 in
set_option maxHeartbeats 8000000 in
theorem bJoin_ok (a b:List Ch) (ha:a.length < 1000) (hb:b.length < 1000) (hs:∀c,c∈a++b→shortCh c):APure Tryz.prog 20 [chA a .none,chA b .none] (nmA (normC (a++b))):=by
 refine pure_sub (closed2 (closed_chs a (.inl rfl)) (closed_chs b (.inl rfl))) (closed_nmA _) ?_
 refine acalls_of tabOK Tryz.func20 rfl (by decide) (by simp[Tryz.f20]) ?_
 have kn:=bNorm_ok (a++b) .none (.inl rfl) (by rw[List.length_append];omega) hs
 have hcl:=closed_nmA (normC (a++b))
 have eF:flatRC [(a,false),(b,false)]=a++b:=by simp[flatRC]
 have kc:APure Tryz.prog 60 [.sl 1 [chA a .none,chA b .none] .full] (chA (a++b) .none):=by
  by_cases h0:a++b=[]
  ·rw[h0]
   exact concatC0_ok [(a,false),(b,false)] true (by simp) (by rw[eF,h0])
  ·have:=concatC_ok [(a,false),(b,false)] true (by simp) (by rw[eF];exact List.length_pos_iff.2 h0) (by rw[eF,List.length_append];omega)
   rw[eF] at this
   exact this
 generalize normC (a++b)=z at*
 obtain⟨z,e⟩:=z
 generalize a++b=ab at*
 unfold chA at*
 repeat' (first|refine DW_A tabs rfl ?_|refine DW_nil ?_|refine W_A rfl ?_|refine DW_C rfl kc ?_|refine DW_C rfl kn ?_|refine DW_row tabOK rfl ?_)
 exact⟨rfl,_,rfl,_,rfl,SubC.of_closed hcl⟩
theorem subc_tx2 {k:Nat} (hk:0 < k) (l:List Bytes) (x y:Bytes) (g:Nat):SubC k (.sl 1 (l.map AV.str++[.str x,.str y]) (.tok 0 g)) (txA (l++[x,y]) (.tok 0 g)):=by
 unfold txA
 rw[tx_app2b]
 exact SubC.tok (decide_eq_true hk) (by
  intro z hz c hc
  have:∃s,z=.str s:=by
   rcases List.mem_append.1 hz with hz|hz
   ·obtain⟨s,_,rfl⟩:=List.mem_map.1 hz
    exact⟨s,rfl⟩
   ·simp at hz
    rcases hz with rfl|rfl<;>exact⟨_,rfl⟩
  obtain⟨s,rfl⟩:=this
  exact closed1 closed_str c hc)
def pcF (l:List Ch) (tg:Tag) (i g:Nat):AF:=⟨[(4,txA (chsT (l.take i)) (.tok 0 g)),(12,chA l tg),(13,.int .i64 (l.length:Int)),(14,.int .i64 (i:Int))],[]⟩
set_option maxRecDepth 100000 in
set_option maxHeartbeats 8000000 in
theorem bPut_ok (l:List Ch) (tg:Tag) (htg:tg=.none∨tg=.full) (hl:l.length < 1000000) (hs:∀c,c∈l→shortCh c):APure Tryz.prog 18 [chA l tg] (pcA (putC l)):=by
 refine pure_sub (closed1 (closed_chs l htg)) (closed_pcA _) ?_
 refine acalls_of tabOK Tryz.func18 rfl (by decide) (by simp[Tryz.f18]) ?_
 have la:=len_map Ch.av l
 have kb:=bIs_ok l tg hl hs
 have hcc:=closed_chs l htg
 unfold chA at*
 cases h:batchB l
 ·rw[h] at kb
  rw[putC_no h]
  repeat' (first|refine DW_VI tabs rfl la ?_|refine DW_A tabs rfl ?_|refine DW_nil ?_|refine W_A rfl ?_|refine DW_C rfl kb ?_|refine DW_row tabOK rfl ?_|refine DW_app tabOK rfl rfl (by simp;omega) (by simp;omega) ?_|refine DW_app0 tabOK rfl (by simp;omega) (by simp;omega) ?_)
  exact⟨rfl,_,rfl,_,rfl,SubC.of_closed (closed_pcA ([],1))⟩
 ·rw[h] at kb
  rw[putC_yes h]
  obtain⟨_,h20,hm,_⟩:=batch_rise h
  have hT:=chsT_short hm
  repeat' (first|refine DW_VI tabs rfl la ?_|refine DW_A tabs rfl ?_|refine DW_nil ?_|refine W_A rfl ?_|refine DW_C rfl kb ?_|refine DW_row tabOK rfl ?_|refine DW_app tabOK rfl rfl (by simp;omega) (by simp;omega) ?_|refine DW_app0 tabOK rfl (by simp;omega) (by simp;omega) ?_)
  refine W_count l.length (fun i f N=>∃g,N=tokM g∧f=pcF l tg i g) (Nat.zero_le _) ⟨0,rfl,rfl⟩ ((Joint.tok 4 rfl (sz':=1) (.inr rfl)).trans (Joint.le ?_ (tokM_of rfl rfl))) ?_
  ·unfold pcF txA chsT chA
   repeat (refine AF.le_cons rfl ?_)
   exact AF.le_nil rfl
  rintro i f N hi ⟨g,rfl,rfl⟩
  unfold pcF txA chA
  have lr:=len_map AV.str (chsT (l.take i))
  have lr2:=chsT_len (l.take i)
  rw[List.length_take] at lr2
  by_cases g1:i < l.length
  ·have d1:decide ((i:Int) < (l.length:Int))=true:=decide_eq_true (by omega)
   have hx:l[i]? =some l[i]:=List.getElem?_eq_getElem g1
   have fi:=wrap_succ (i:=i) (by omega)
   have ht:=take_succ hx
   have hmm:=List.getElem_mem g1
   generalize l[i]=x at hx ht hmm
   have kv:=value_ok x.meta_ x.gone (hs x hmm).2
   have e0:strA (valueM x.meta_ x.gone)=.tup [.str (valueM x.meta_ x.gone).1,.int .i64 0]:=by unfold strA;rw[may_value (hm x hmm)]
   rw[e0] at kv
   have eC:chsT (l.take (i+1))=chsT (l.take i)++[x.path,(valueM x.meta_ x.gone).1]:=by rw[ht,chsT_app];rfl
   repeat' (first|refine DW_VB tabs rfl d1 ?_|refine DW_VI tabs rfl (by first|exact fi|exact lr) ?_|refine DW_A tabs rfl ?_|refine DW_nil ?_|refine W_A rfl ?_|refine DW_C rfl kv ?_|refine DW_ix tabOK rfl (ixN hx) ?_|refine DW_row tabOK rfl ?_|refine DW_app tabOK rfl rfl (by simp;omega) (by simp;omega) ?_|refine DW_app0 tabOK rfl (by simp;omega) (by simp;omega) ?_)
   refine⟨g1,pcF l tg (i+1) (g+1),tokM (g+1),⟨g+1,rfl,rfl⟩,Joint.cut (k:=1) (t:=(pcF l tg (i+1) (g+1)).t) (l:=(tokM (g+1)).objs) (Nat.zero_le 1) (by show 1≤2;omega) rfl ⟨?_,?_,?_,?_,trivial⟩ ⟨by decide,rfl,trivial⟩⟩
   ·rw[eC]
    exact subc_tx2 (by decide) _ _ _ _
   ·exact SubC.of_closed hcc
   ·exact SubC.of_closed closed_int
   ·exact SubC.of_closed closed_int
  ·have d1:decide ((i:Int) < (l.length:Int))=false:=decide_eq_false (by omega)
   obtain rfl:i=l.length:=by omega
   rw[List.take_length] at lr2 lr ⊢
   have kr:=(cRow_ok (chsT l) .none (.inl rfl) (by omega) (fun t ht=>by have:=hT t ht;omega)).sub (args:=[.sl 1 ((chsT l).map AV.str) (.tok 0 g)]) ⟨Sub.untag,trivial⟩
   have hcl:=closed_pcA (rowTE (chsT l))
   generalize rowTE (chsT l)=z at*
   repeat' (first|refine DW_VB tabs rfl d1 ?_|refine DW_A tabs rfl ?_|refine DW_nil ?_|refine W_A rfl ?_|refine DW_C rfl kr ?_|refine DW_row tabOK rfl ?_|refine DW_app tabOK rfl rfl (by simp;omega) (by simp;omega) ?_|refine DW_app0 tabOK rfl (by simp;omega) (by simp;omega) ?_)
   exact⟨rfl,_,rfl,_,rfl,SubC.of_closed hcl⟩
end Go.Proofs.YtbcaejhhgkcgpaaGreatDoor
namespace Go.Proofs.YtbcaejhhgkcgpaaGreatDoor
open Go.Ab
def unp:List (Bytes×Bytes)→List Bytes
 |[]=>[]
 |p::r=>p.1::p.2::unp r
theorem unp_len:∀m:List (Bytes×Bytes),(unp m).length=2*m.length
 |[]=>rfl
 |p::r=>by
  have:=unp_len r
  simp only[unp,List.length_cons,this]
  omega
theorem unp_of:∀(n:Nat) (l:List Bytes),l.length=2*n→∃m,l=unp m
 |0,[],_=>⟨[],rfl⟩
 |n+1,a::b::r,h=>by
  obtain⟨m,rfl⟩:=unp_of n r (by simp at h;omega)
  exact⟨(a,b)::m,rfl⟩
 |0,_::_,h=>by simp at h
 |n+1,[],h=>by simp at h
 |n+1,[_],h=>by simp at h;omega
theorem unp_get:∀(m:List (Bytes×Bytes)) (j:Nat) {x:Bytes×Bytes},m[j]? =some x→(unp m)[2*j]? =some x.1∧(unp m)[2*j+1]? =some x.2
 |[],j,x,h=>by simp at h
 |p::r,0,x,h=>by
  cases h
  exact⟨rfl,rfl⟩
 |p::r,j+1,x,h=>by
  obtain⟨h1,h2⟩:=unp_get r j (by simpa using h)
  have e:2*(j+1)=2*j+1+1:=by omega
  rw[e]
  exact⟨h1,h2⟩
theorem unp_mem {m:List (Bytes×Bytes)} {x:Bytes×Bytes} (h:x∈m):x.1∈unp m∧x.2∈unp m:=by
 obtain⟨j,hj⟩:=List.mem_iff_getElem?.1 h
 obtain⟨h1,h2⟩:=unp_get m j hj
 exact⟨List.mem_of_getElem? h1,List.mem_of_getElem? h2⟩
def toCh (p:Bytes×Bytes):Ch:=⟨p.1,(readM p.2).2.1,(readM p.2).1⟩
theorem chsO_all:∀m:List (Bytes×Bytes),(∀x,x∈m→(readM x.2).2.2=0)→chsO (unp m)=some (m.map toCh)
 |[],_=>rfl
 |p::r,h=>by
  have ih:=chsO_all r (fun x hx=>h x (by simp[hx]))
  show chsO (p.1::p.2::unp r)=_
  unfold chsO
  rw[if_pos (h p (by simp)),ih]
  rfl
theorem chsO_bad:∀{m:List (Bytes×Bytes)} {x:Bytes×Bytes},x∈m→(readM x.2).2.2≠0→chsO (unp m)=none
 |p::r,x,hx,h=>by
  show chsO (p.1::p.2::unp r)=_
  unfold chsO
  by_cases h0:(readM p.2).2.2=0
  ·rw[if_pos h0]
   rcases List.mem_cons.1 hx with rfl|hx
   ·exact absurd h0 h
   ·rw[chsO_bad hx h]
  ·rw[if_neg h0]
def gcA:Option (List Ch)→AV
 |some l=>nmA (l,0)
 |none=>nmA ([],30)
theorem closed_gcA (x:Option (List Ch)):Closed (gcA x):=by
 cases x<;>exact closed_nmA _
theorem sub_gc0 {k:Nat}:SubC k (.tup [.sl 0 [] .full,.int .i64 30]) (gcA none):=SubC.tup2 SubC.nil (SubC.of_closed closed_int)
theorem rem2 (n:Nat) (h:n < 1000000):IntKind.wrap .i64 (Int.tmod (n:Int) 2)=((n%2:Nat):Int):=by
 have e:Int.tmod (n:Int) 2=((n%2:Nat):Int):=rfl
 rw[e]
 exact Go.Ab.wrap_small (by omega) (by omega)
theorem getC_row {s:Bytes} (h:rowO s=none):getC s=none:=by
 unfold getC
 rw[h]
theorem getC_odd {s r:Bytes} {l:List Bytes} (h:rowO s=some (l,r)) (h2:¬(r=[]∧l.length%2=0)):getC s=none:=by
 unfold getC
 rw[h]
 show (if _ then _ else _)=_
 rw[if_neg h2]
def getO:Option (List Ch)→Option (List Ch)
 |none=>none
 |some m=>if batchB m=true then some m else none
theorem getC_unp {s:Bytes} {m:List (Bytes×Bytes)} (h:rowO s=some (unp m,[])):getC s=getO (chsO (unp m)):=by
 unfold getC
 rw[h]
 show (if _ then _ else _)=_
 rw[if_pos ⟨rfl,by rw[unp_len];omega⟩]
 cases chsO (unp m)<;>rfl
theorem getC_bad {s:Bytes} {m:List (Bytes×Bytes)} {x:Bytes×Bytes} (h:rowO s=some (unp m,[])) (hx:x∈m) (h0:(readM x.2).2.2≠0):getC s=none:=by
 rw[getC_unp h,chsO_bad hx h0]
 rfl
theorem getC_all {s:Bytes} {m:List (Bytes×Bytes)} (h:rowO s=some (unp m,[])) (h0:∀x,x∈m→(readM x.2).2.2=0):getC s=if batchB (m.map toCh)=true then some (m.map toCh) else none:=by
 rw[getC_unp h,chsO_all m h0]
 rfl
theorem getC_no {s:Bytes} {m:List (Bytes×Bytes)} (h:rowO s=some (unp m,[])) (h0:∀x,x∈m→(readM x.2).2.2=0) (hb:batchB (m.map toCh)=false):getC s=none:=by
 rw[getC_all h h0,if_neg (by simp[hb])]
theorem getC_yes {s:Bytes} {m:List (Bytes×Bytes)} (h:rowO s=some (unp m,[])) (h0:∀x,x∈m→(readM x.2).2.2=0) (hb:batchB (m.map toCh)=true):getC s=some (m.map toCh):=by
 rw[getC_all h h0,if_pos hb]
theorem toCh_short {p:Bytes×Bytes} (h1:p.1.length≤4000) (h2:(readM p.2).2.2=0):shortCh (toCh p):=by
 have h3:=(readM_inv h2).2
 unfold isM at h3
 simp only[Bool.and_eq_true,decide_eq_true_eq] at h3
 exact⟨by show p.1.length < 1000000;omega,by show (readM p.2).1.ch.length < 1000000;omega⟩
theorem tx_ch (L:List (Bytes×Bytes)) (x:Bytes×Bytes) {id g:Nat}:AV.sl 5 (((L++[x]).map toCh).map Ch.av) (.tok id g)=.sl 5 ((L.map toCh).map Ch.av++[(toCh x).av]) (.tok id g):=by simp
def rgF (m:List (Bytes×Bytes)) (j g:Nat):AF:=⟨[(4,txA (unp m) .none),(7,chA ((m.take j).map toCh) (.tok 0 g)),(8,.int .i64 ((2*j:Nat):Int))],[]⟩
set_option maxRecDepth 100000 in
set_option maxHeartbeats 8000000 in
theorem rGetC_ok (s:Bytes) (hs:s.length < 1000000):APure Tryz.prog 11 [.str s] (gcA (getC s)):=by
 refine pure_sub (closed1 closed_str) (closed_gcA _) ?_
 refine acalls_of tabOK Tryz.func11 rfl (by decide) (by simp[Tryz.f11]) ?_
 have kr:=rGetRow_ok s (by omega)
 cases ho:rowO s with
 |none=>
  rw[ho] at kr
  rw[getC_row ho]
  unfold grA txA at kr
  repeat' (first|refine DW_A tabs rfl ?_|refine DW_nil ?_|refine W_A rfl ?_|refine DW_C rfl kr ?_|refine DW_row tabOK rfl ?_|refine DW_app tabOK rfl rfl (by simp;omega) (by simp;omega) ?_|refine DW_app0 tabOK rfl (by simp;omega) (by simp;omega) ?_|refine W_draw mixed [0,1,2,5,3,4,6,7,8,9,10] [.P,.P,.P,.R,.R,.P,.R,.P,.P,.E,.P] rfl rfl (by kernel_rfl) ?_)
  exact⟨rfl,_,rfl,_,rfl,sub_gc0⟩
 |some p=>
  obtain⟨l,r⟩:=p
  obtain⟨_,_,hl,hb⟩:=rowO_inv ho
  rw[ho] at kr
  have la:=len_map AV.str l
  unfold grA txA at kr
  by_cases hr:r=[]
  ·subst hr
   have d3:(!(([]:Bytes)==[]))=false:=rfl
   have w2:=rem2 l.length (by omega)
   by_cases h2:l.length%2=0
   ·have d4:(!decide (((l.length%2:Nat):Int)=0))=false:=by simp;omega
    obtain⟨m,rfl⟩:=unp_of (l.length/2) l (by omega)
    have lu:=unp_len m
    rw[lu] at la hl w2 d4
    repeat' (first|refine DW_VB tabs rfl (by first|exact d3|exact d4) ?_|refine DW_VI tabs rfl (by first|exact la|exact w2) ?_|refine DW_A tabs rfl ?_|refine DW_nil ?_|refine W_A rfl ?_|refine DW_C rfl kr ?_|refine DW_row tabOK rfl ?_|refine DW_app tabOK rfl rfl (by simp;omega) (by simp;omega) ?_|refine DW_app0 tabOK rfl (by simp;omega) (by simp;omega) ?_|refine W_draw mixed [0,1,2,5,3,4,6,7,8,9,10] [.P,.P,.P,.R,.R,.P,.R,.P,.P,.E,.P] rfl rfl (by kernel_rfl) ?_)
    refine W_count m.length (fun j f N=>∃g,N=tokM g∧(∀(k:Nat) x,k < j→m[k]? =some x→(readM x.2).2.2=0)∧f=rgF m j g) (Nat.zero_le _) ⟨0,rfl,(fun k x hk=>absurd hk (Nat.not_lt_zero _)),rfl⟩ ((Joint.tok 7 rfl (sz':=5) (.inr rfl)).trans (Joint.le ?_ (tokM_of rfl rfl))) ?_
    ·unfold rgF txA chA
     repeat (refine AF.le_cons rfl ?_)
     exact AF.le_nil rfl
    rintro j f N hj ⟨g,rfl,hok,rfl⟩
    unfold rgF txA chA
    have lc:=len_map Ch.av ((m.take j).map toCh)
    have lc2:((m.take j).map toCh).length≤j:=by rw[List.length_map,List.length_take];omega
    have w1:IntKind.wrap .i64 (((2*j:Nat):Int)+1)=((2*j+1:Nat):Int):=wrap_succ (by omega)
    by_cases g1:j < m.length
    ·have d1:decide (((2*j+1:Nat):Int) < ((2*m.length:Nat):Int))=true:=decide_eq_true (by omega)
     have hx:m[j]? =some m[j]:=List.getElem?_eq_getElem g1
     have ht:=take_succ hx
     have hm:=List.getElem_mem g1
     generalize m[j]=x at hx ht hm
     obtain⟨hx1,hx2⟩:=unp_get m j hx
     obtain⟨hm1,hm2⟩:=unp_mem hm
     have b1:=hb _ hm1
     have b2:=hb _ hm2
     have kd:=rRead_ok x.2 (by omega)
     have w3:IntKind.wrap .i64 (((2*j:Nat):Int)+2)=((2*(j+1):Nat):Int):=(Go.Ab.wrap_small (by omega) (by omega)).trans (by omega)
     by_cases h0:(readM x.2).2.2=0
     ·have d0:(!decide ((readM x.2).2.2=0))=false:=by simp[h0]
      have hcl:=closed_tx (unp m) (t:=.none) (.inl rfl)
      unfold rmA at kd
      repeat' (first|refine DW_VB tabs rfl (by first|exact d1|exact d0) ?_|refine DW_VI tabs rfl (by first|exact la|exact w1|exact w3|exact lc) ?_|refine DW_A tabs rfl ?_|refine DW_nil ?_|refine W_A rfl ?_|refine DW_C rfl kd ?_|refine DW_ix tabOK rfl (ixN hx1) ?_|refine DW_ix tabOK rfl (ixN hx2) ?_|refine DW_row tabOK rfl ?_|refine DW_app tabOK rfl rfl (by simp;omega) (by simp;omega) ?_|refine DW_app0 tabOK rfl (by simp;omega) (by simp;omega) ?_|refine W_draw mixed [0,1,2,5,3,4,6,7,8,9,10] [.P,.P,.P,.R,.R,.P,.R,.P,.P,.E,.P] rfl rfl (by kernel_rfl) ?_)
      refine⟨g1,rgF m (j+1) (g+1),tokM (g+1),⟨g+1,rfl,?_,rfl⟩,?_⟩
      ·intro k y hk hy
       by_cases hkj:k=j
       ·subst hkj
        rw[hx] at hy
        cases hy
        exact h0
       ·exact hok k y (by omega) hy
      ·refine Joint.cut (k:=1) (t:=(rgF m (j+1) (g+1)).t) (l:=(tokM (g+1)).objs) (Nat.zero_le 1) (by show 1≤2;omega) rfl ⟨?_,?_,?_,trivial⟩ ⟨by decide,rfl,trivial⟩
       ·exact SubC.of_closed hcl
       ·rw[ht,List.map_append]
        exact subc_ch (by decide) ((m.take j).map toCh) (toCh x)
       ·exact SubC.of_closed closed_int
     ·have d0:(!decide ((readM x.2).2.2=0))=true:=by simp[h0]
      rw[getC_bad ho hm h0]
      unfold rmA at kd
      repeat' (first|refine DW_VB tabs rfl (by first|exact d1|exact d0) ?_|refine DW_VI tabs rfl (by first|exact la|exact w1|exact w3|exact lc) ?_|refine DW_A tabs rfl ?_|refine DW_nil ?_|refine W_A rfl ?_|refine DW_C rfl kd ?_|refine DW_ix tabOK rfl (ixN hx1) ?_|refine DW_ix tabOK rfl (ixN hx2) ?_|refine DW_row tabOK rfl ?_|refine DW_app tabOK rfl rfl (by simp;omega) (by simp;omega) ?_|refine DW_app0 tabOK rfl (by simp;omega) (by simp;omega) ?_|refine W_draw mixed [0,1,2,5,3,4,6,7,8,9,10] [.P,.P,.P,.R,.R,.P,.R,.P,.P,.E,.P] rfl rfl (by kernel_rfl) ?_)
      exact⟨rfl,_,rfl,_,rfl,sub_gc0⟩
    ·have d1:decide (((2*j+1:Nat):Int) < ((2*m.length:Nat):Int))=false:=decide_eq_false (by omega)
     obtain rfl:j=m.length:=by omega
     have hall:∀x,x∈m→(readM x.2).2.2=0:=fun x hx=>by
      obtain⟨k,hk⟩:=List.mem_iff_getElem?.1 hx
      exact hok k x (List.getElem?_eq_some_iff.1 hk).1 hk
     rw[List.take_length] at lc lc2 ⊢
     have kb:=rBatch_ok (m.map toCh) (.tok 0 g) (by omega) (fun c hc=>by
      obtain⟨x,hx,rfl⟩:=List.mem_map.1 hc
      exact toCh_short (hb _ (unp_mem hx).1) (hall x hx))
     have hcl:=closed_chs (m.map toCh) (t:=.none) (.inl rfl)
     unfold chA at kb hcl
     cases h:batchB (m.map toCh)
     ·rw[h] at kb
      rw[getC_no ho hall h]
      repeat' (first|refine DW_VB tabs rfl d1 ?_|refine DW_VI tabs rfl (by first|exact la|exact w1) ?_|refine DW_A tabs rfl ?_|refine DW_nil ?_|refine W_A rfl ?_|refine DW_C rfl kb ?_|refine DW_row tabOK rfl ?_|refine DW_app tabOK rfl rfl (by simp;omega) (by simp;omega) ?_|refine DW_app0 tabOK rfl (by simp;omega) (by simp;omega) ?_|refine W_draw mixed [0,1,2,5,3,4,6,7,8,9,10] [.P,.P,.P,.R,.R,.P,.R,.P,.P,.E,.P] rfl rfl (by kernel_rfl) ?_)
      exact⟨rfl,_,rfl,_,rfl,sub_gc0⟩
     ·rw[h] at kb
      rw[getC_yes ho hall h]
      repeat' (first|refine DW_VB tabs rfl d1 ?_|refine DW_VI tabs rfl (by first|exact la|exact w1) ?_|refine DW_A tabs rfl ?_|refine DW_nil ?_|refine W_A rfl ?_|refine DW_C rfl kb ?_|refine DW_row tabOK rfl ?_|refine DW_app tabOK rfl rfl (by simp;omega) (by simp;omega) ?_|refine DW_app0 tabOK rfl (by simp;omega) (by simp;omega) ?_|refine W_draw mixed [0,1,2,5,3,4,6,7,8,9,10] [.P,.P,.P,.R,.R,.P,.R,.P,.P,.E,.P] rfl rfl (by kernel_rfl) ?_)
      exact⟨rfl,_,rfl,_,rfl,SubC.tup2 (SubC.untag hcl) (SubC.of_closed closed_int)⟩
   ·have d4:(!decide (((l.length%2:Nat):Int)=0))=true:=by simp;omega
    rw[getC_odd ho (fun h=>h2 h.2)]
    repeat' (first|refine DW_VB tabs rfl (by first|exact d3|exact d4) ?_|refine DW_VI tabs rfl (by first|exact la|exact w2) ?_|refine DW_A tabs rfl ?_|refine DW_nil ?_|refine W_A rfl ?_|refine DW_C rfl kr ?_|refine DW_row tabOK rfl ?_|refine DW_app tabOK rfl rfl (by simp;omega) (by simp;omega) ?_|refine DW_app0 tabOK rfl (by simp;omega) (by simp;omega) ?_|refine W_draw mixed [0,1,2,5,3,4,6,7,8,9,10] [.P,.P,.P,.R,.R,.P,.R,.P,.P,.E,.P] rfl rfl (by kernel_rfl) ?_)
    exact⟨rfl,_,rfl,_,rfl,sub_gc0⟩
  ·have d3:(!(r==[]))=true:=by simp[hr]
   rw[getC_odd ho (fun h=>hr h.1)]
   repeat' (first|refine DW_VB tabs rfl d3 ?_|refine DW_VI tabs rfl la ?_|refine DW_A tabs rfl ?_|refine DW_nil ?_|refine W_A rfl ?_|refine DW_C rfl kr ?_|refine DW_row tabOK rfl ?_|refine DW_app tabOK rfl rfl (by simp;omega) (by simp;omega) ?_|refine DW_app0 tabOK rfl (by simp;omega) (by simp;omega) ?_|refine W_draw mixed [0,1,2,5,3,4,6,7,8,9,10] [.P,.P,.P,.R,.R,.P,.R,.P,.P,.E,.P] rfl rfl (by kernel_rfl) ?_)
   exact⟨rfl,_,rfl,_,rfl,sub_gc0⟩
end Go.Proofs.YtbcaejhhgkcgpaaGreatDoor
namespace Go.Ab
open Go.RowKit
def AIterE (P:Program) (gf:FuncId) (lb:List AV) {α:Type} (enc:α→List AV) (ok:List α→α→Prop) (out:List α):Prop:=
 ∀(y:Nat) (J:List α→Mem→Prop) (B:Mem→Prop) (M:Mem),(∀L N,J L N→∃o vs t,N.get y=some (.raw none o vs t))→
  (∀L x N,J L N→ok L x→AYields P y (enc x) N fun e N'=>(e=.ret (.bool true)∧J (L++[x]) N')∨(e=.ret (.bool false)∧B N'))→J [] M→
  ACalls P gf (.yld y::lb) M fun e N=>e=.ret (.tup [])∧(J out N∨B N)
theorem W_rangeE {P:Program} {n:Nat} {g:Operand} {ps:Array Tmp} {assign body:Code} {Q:AX→AF→Mem→Prop} {f:AF} {M:Mem} {gf:FuncId} {lb:List AV} {α:Type} {enc:α→List AV} {ok:List α→α→Prop} {out:List α}
  (hg:f.ev g=.fn (.func gf) [] lb) (hit:AIterE P gf lb enc ok out) (K:AObj→List α→Mem→Prop) (S:Mem→Prop) (hps:∀x,ps.toList.length=(enc x).length) (hpn:(ps.toList.all fun p=>decide (p < n))=true)
  (hK:∀O L N,K O L N→N.get (M.next+1)=some O) (h0:∀O,K O [] ⟨M.next+2,(M.next+1,O)::(M.next,deferO)::M.objs⟩)
  (hround:∀(O O1:AObj) (L:List α) (x:α) (N:Mem) (l:Nat),K O L N→ok L x→
   W (some l) P n assign (thenX (fun f1 M1=>M1.get (M.next+1)=some O∧W (some l) P n body (fun e _ N'=>N'.get (M.next+1)=some O1∧((e=.normal∧K O (L++[x]) (N'.set (M.next+1) O))∨(e=.ret∧S N'))) f1 (M1.set (M.next+1) O1)) (fun _ _ _=>False)) ⟨parT ps.toList (enc x) f.t,[]⟩ N)
  (hdone:∀O N,K O out N→∃N',N'.le N∧N'.get (M.next+1)=none∧Q .normal ⟨f.t,markD M.next::f.d⟩ N')
  (hleft:∀O N,S N→∃N',N'.le (N.set (M.next+1) O)∧N'.get (M.next+1)=none∧Q .ret ⟨f.t,markD M.next::f.d⟩ N'):
  W none P n (.rangeFunc g ps assign body) Q f M:=by
 refine W_range hg fun fn tmps D hn=>?_
 refine (hit (M.next+1) (fun L N=>K (.raw none (.loop (loopR fn tmps ps assign body D .ready none)) tmps f.t) L N) (fun N=>∃N0,S N0∧N=N0.set (M.next+1) (.raw none (.loop (loopR fn tmps ps assign body D .done (some .ret))) tmps f.t)) _ (fun L N h=>⟨_,_,_,hK _ _ _ h⟩) ?_ (h0 _)).mono ?_
 ·intro L x N hJ hok
  refine ayields_of (hK _ _ _ hJ) hn (hps x) hpn fun l=>?_
  refine (hround _ (.raw none (.loop (loopR fn tmps ps assign body D .busy none)) tmps f.t) L x N l hJ hok).mono ?_
  rintro x1 f1 M1 h1
  cases x1 with
  |normal=>
   refine⟨h1.1,h1.2.mono ?_⟩
   rintro x2 f2 M2 ⟨h3,h4⟩
   rcases h4 with ⟨rfl,h4⟩|⟨rfl,h4⟩
   ·exact⟨h3,.inl ⟨rfl,h4⟩⟩
   ·exact⟨h3,.inr ⟨rfl,_,h4,rfl⟩⟩
  |exit id=>exact h1.elim
  |ret=>exact h1.elim
  |panic v=>exact h1.elim
 ·rintro e N ⟨rfl,hJ⟩
  rcases hJ with hJ|⟨N0,hS,rfl⟩
  ·obtain⟨N',h1,h2,h3⟩:=hdone _ N hJ
   exact⟨.ready,none,N',by simp,hK _ _ _ hJ,h1,h2,h3⟩
  ·obtain⟨N',h1,h2,h3⟩:=hleft _ N0 hS
   refine⟨.done,some .ret,N',by simp,?_,h1,h2,h3⟩
   rw[Mem.get_set,if_pos rfl]
theorem Mem.drop_le {N:Mem} {id:Nat}:(N.drop id).le N:=⟨rfl,fun i o h=>by
 rw[Mem.get_drop] at h
 split at h
 ·cases h
 ·exact h⟩
end Go.Ab
namespace Go.Proofs.YtbcaejhhgkcgpaaGreatDoor
open Go.Ab
theorem unp_mid:∀(m:List (Bytes×Bytes)) (j:Nat) {x:Bytes×Bytes},m[j]? =some x→((unp m).take (2*(j+1))).drop (2*j)=[x.1,x.2]
 |[],j,x,h=>by simp at h
 |p::r,0,x,h=>by
  cases h
  rfl
 |p::r,j+1,x,h=>by
  have h1:=unp_mid r j (by simpa using h)
  have e1:2*(j+1+1)=2*(j+1)+1+1:=by omega
  have e2:2*(j+1)=2*j+1+1:=by omega
  rw[e1]
  show ((p.1::p.2::unp r).take (2*(j+1)+1+1)).drop (2*(j+1))=_
  rw[List.take_succ_cons,List.take_succ_cons]
  conv=>lhs;rw[e2]
  rw[List.drop_succ_cons,List.drop_succ_cons,←e2]
  exact h1
set_option maxRecDepth 100000 in
set_option maxHeartbeats 8000000 in
theorem chunkF_ok (l:List Bytes) (tg:Tag):APure Tryz.prog 43 [txA l tg,.int .i64 2] (.fn (.func 96) [] [.ref [txA l tg],.ref [.int .i64 2]]):=by
 intro M
 refine acalls_of tabOK Tryz.func43 rfl (by decide) (by simp[Tryz.f43]) ?_
 unfold txA
 repeat' (first|refine DW_A tabs rfl ?_|refine DW_nil ?_|refine W_A rfl ?_)
 exact⟨rfl,_,rfl,rfl,rfl⟩
set_option maxRecDepth 100000 in
set_option maxHeartbeats 8000000 in
theorem chunk0 (m:List (Bytes×Bytes)) (hm:m.length < 1000000) (y:Nat) (J:List (Bytes×Bytes)→Mem→Prop) (B:Mem→Prop) (M:Mem) (hraw:∀L N,J L N→∃o vs t,N.get y=some (.raw none o vs t)) (hY:∀L (x:Bytes×Bytes) N,J L N→m[L.length]? =some x→AYields Tryz.prog y [.sl 1 [.str x.1,.str x.2] .none] N fun e N'=>(e=.ret (.bool true)∧J (L++[x]) N')∨(e=.ret (.bool false)∧B N')) (h0:J [] M):ACalls Tryz.prog 96 [.yld y,.ref [txA (unp m) .none],.ref [.int .i64 2]] M (fun e N=>e=.ret (.tup [])∧(J m N∨B N)):=by
 refine acalls_of tabOK Tryz.func96 rfl (by decide) (by simp[Tryz.f96]) ?_
 have lu:(((unp m).map AV.str).length:Int)=((2*m.length:Nat):Int):=by rw[List.length_map,unp_len]
 unfold txA
 repeat' (first|refine DW_A tabs rfl ?_|refine DW_nil ?_|refine W_A rfl ?_|refine W_draw mixed [2,0,1,3,4,5,6] [.R,.R,.P,.P,.P,.P,.P] rfl rfl (by kernel_rfl) ?_)
 refine W_count m.length (fun j f N=>J (m.take j) N∧f=⟨[(0,.yld y),(1,.ref [.sl 1 ((unp m).map AV.str) .none]),(2,.ref [.int .i64 2]),(4,.int .i64 ((2*j:Nat):Int))],[]⟩) (Nat.zero_le _) ⟨(by simpa using h0),rfl⟩ (Joint.le ?_ (Mem.le_refl _)) ?_
 ·skip
  repeat (refine AF.le_cons rfl ?_)
  exact AF.le_nil rfl
 rintro j f N hj ⟨hJ,rfl⟩
 by_cases g1:j < m.length
 ·have d1:decide (((2*j:Nat):Int) < ((2*m.length:Nat):Int))=true:=decide_eq_true (by omega)
  have hx:m[j]? =some m[j]:=List.getElem?_eq_getElem g1
  have ht:=take_succ hx
  generalize m[j]=x at hx ht
  have hul:=unp_len m
  have sf:=sl_from (f:=AV.str) (l:=unp m) (n:=2*j) (by omega)
  have ld:((((unp m).drop (2*j)).map AV.str).length:Int)=((2*m.length - 2*j:Nat):Int):=by rw[List.length_map,List.length_drop,hul]
  have wm:(if ((2*m.length - 2*j:Nat):Int) < 2 then ((2*m.length - 2*j:Nat):Int) else 2)=(2:Int):=if_neg (by omega)
  have w3:IntKind.wrap .i64 (((2*j:Nat):Int)+2)=((2*(j+1):Nat):Int):=(Go.Ab.wrap_small (by omega) (by omega)).trans (by omega)
  obtain⟨o,vs,t0,hr⟩:=hraw _ _ hJ
  repeat' (first|refine DW_VB tabs rfl d1 ?_|refine DW_VI tabs rfl (by first|exact lu|exact ld|exact wm|exact w3) ?_|refine DW_A tabs rfl ?_|refine DW_nil ?_|refine W_A rfl ?_|refine DW_slc tabOK rfl (sf) ?_|refine W_draw mixed [2,0,1,3,4,5,6] [.R,.R,.P,.P,.P,.P,.P] rfl rfl (by kernel_rfl) ?_)
  refine DW_slc3 tabOK rfl (ys:=[.str x.1,.str x.2]) ⟨by omega,by omega,by rw[List.length_map,hul];omega,?_⟩ rfl ?_
  ·rw[Int.toNat_natCast,Int.toNat_natCast,←List.map_take,←List.map_drop,unp_mid m j hx]
   rfl
  refine DW_Y rfl hr (hY (m.take j) x N hJ (by rw[List.length_take,Nat.min_eq_left (by omega)];exact hx)) ?_ (by rintro u M' (⟨h,_⟩|⟨h,_⟩)<;>cases h)
  rintro u M' (⟨h,hJ'⟩|⟨h,hB⟩)
  ·cases h
   repeat' (first|refine DW_VI tabs rfl w3 ?_|refine DW_A tabs rfl ?_|refine DW_nil ?_|refine W_A rfl ?_|refine W_draw mixed [2,0,1,3,4,5,6] [.R,.R,.P,.P,.P,.P,.P] rfl rfl (by kernel_rfl) ?_)
   refine⟨g1,_,_,⟨by rw[ht];exact hJ',rfl⟩,Joint.le ?_ (Mem.le_refl _)⟩
   skip
   repeat (refine AF.le_cons rfl ?_)
   exact AF.le_nil rfl
  ·cases h
   repeat' (first|refine DW_A tabs rfl ?_|refine DW_nil ?_|refine W_A rfl ?_|refine W_draw mixed [2,0,1,3,4,5,6] [.R,.R,.P,.P,.P,.P,.P] rfl rfl (by kernel_rfl) ?_)
   exact⟨rfl,_,rfl,rfl,.inr hB⟩
 ·have d1:decide (((2*j:Nat):Int) < ((2*m.length:Nat):Int))=false:=decide_eq_false (by omega)
  obtain rfl:j=m.length:=by omega
  rw[List.take_length] at hJ
  repeat' (first|refine DW_VB tabs rfl d1 ?_|refine DW_VI tabs rfl lu ?_|refine DW_A tabs rfl ?_|refine DW_nil ?_|refine W_A rfl ?_|refine W_draw mixed [2,0,1,3,4,5,6] [.R,.R,.P,.P,.P,.P,.P] rfl rfl (by kernel_rfl) ?_)
  exact⟨rfl,_,rfl,rfl,.inl hJ⟩
theorem chunkIt (m:List (Bytes×Bytes)) (hm:m.length < 1000000):AIterE Tryz.prog 96 [.ref [txA (unp m) .none],.ref [.int .i64 2]] (fun x:Bytes×Bytes=>[.sl 1 [.str x.1,.str x.2] .none]) (fun L x=>m[L.length]? =some x) m:=
 fun y J B M hraw hY h0=>chunk0 m hm y J B M hraw hY h0
structure GI (L:List (Bytes×Bytes)) (N:Mem):Prop where
 g0:N.get 0=some (.cells [.sl 0 [] .full])
 g1:N.get 1=some (.cells [.int .i64 0])
 g3:N.get 3=some deferO
 nx:5≤N.next
 ok:∀x,x∈L→(readM x.2).2.2=0
 row:(L=[]∧N.get 2=some (.cells [.sl 0 [] .full]))∨∃id g,5≤id∧id < N.next∧N.get 2=some (.cells [.sl 5 ((L.map toCh).map Ch.av) (.tok id g)])∧N.get id=some (.spare g)
structure GS (m:List (Bytes×Bytes)) (N:Mem):Prop where
 g0:N.get 0=some (.cells [.sl 0 [] .full])
 g1:N.get 1=some (.cells [.int .i64 30])
 g3:N.get 3=some deferO
 bad:∃x,x∈m∧(readM x.2).2.2≠0
def gK (O:AObj) (L:List (Bytes×Bytes)) (N:Mem):Prop:=N.get 4=some O∧GI L N
theorem gfin1 {N:Mem} {O1 Z C S R O:AObj} {j:Nat} (h:j < N.next) (h2:j≠2) (h4:j≠4):((((((N.set 4 O1).push Z).set N.next C).push S).set 2 R).set 4 O).get j=N.get j:=by
 rw[Mem.get_set,if_neg h4,Mem.get_set,if_neg h2,step_get1 h,if_neg h4]
theorem gfin2 {N:Mem} {O1 Z C S R O:AObj} {j id:Nat} (h:j < N.next) (h2:j≠2) (h4:j≠4) (hi:j≠id):((((((N.set 4 O1).push Z).set N.next C).set id S).set 2 R).set 4 O).get j=N.get j:=by
 rw[Mem.get_set,if_neg h4,Mem.get_set,if_neg h2,Mem.get_set,if_neg hi,step_get h,if_neg h4]
theorem get_resA {M:Mem} {x y:AV} {t:List (Nat×AV)} (h2:AF.get ⟨t,[]⟩ 2=.ptr 0 0) (h3:AF.get ⟨t,[]⟩ 3=.ptr 1 0) (g0:M.get 0=some (.cells [x])) (g1:M.get 1=some (.cells [y])):resA tab M ⟨t,[]⟩ Tryz.f10.results=some (.tup [x,y]):=by
 have a1:aloadM M tab 22 (.ptr 0 0)=some x:=by
  simp only[aloadM,g0]
  rfl
 have a2:aloadM M tab 23 (.ptr 1 0)=some y:=by
  simp only[aloadM,g1]
  rfl
 show resA tab M ⟨t,[]⟩ #[.cell 2 22,.cell 3 23]=_
 simp only[resA,ress,resOf,h2,h3,a1,a2]
set_option maxRecDepth 100000 in
set_option maxHeartbeats 8000000 in
theorem bGet_ok (s:Bytes) (hs:s.length < 1000000):APure Tryz.prog 10 [.str s] (gcA (getC s)):=by
 refine pure_sub (closed1 closed_str) (closed_gcA _) ?_
 refine acalls_of_m tabOK Tryz.func10 rfl (by decide) (by simp[Tryz.f10]) ?_
 have kr:=cGetRow_ok s (by omega)
 cases ho:rowO s with
 |none=>
  rw[ho] at kr
  rw[getC_row ho]
  unfold grA txA at kr
  repeat' (first|refine DW_A tabs rfl ?_|refine DW_nil ?_|refine W_A rfl ?_|refine DW_C rfl kr ?_|refine DW_row tabOK rfl ?_|refine DW_app tabOK rfl rfl (by simp;omega) (by simp;omega) ?_|refine DW_app0 tabOK rfl (by simp;omega) (by simp;omega) ?_|refine W_draw mixed [1,4,0,2,3,5,6,7,8,9] [.R,.P,.R,.R,.P,.R,.P,.P,.E,.E] rfl rfl (by kernel_rfl) ?_)
  exact⟨_,rfl,_,rfl,sub_gc0⟩
 |some p=>
  obtain⟨l,r⟩:=p
  obtain⟨_,_,hl,hb⟩:=rowO_inv ho
  rw[ho] at kr
  have la:=len_map AV.str l
  unfold grA txA at kr
  by_cases hr:r=[]
  ·subst hr
   have d3:(!(([]:Bytes)==[]))=false:=rfl
   have w2:=rem2 l.length (by omega)
   by_cases h2:l.length%2=0
   ·have d4:(!decide (((l.length%2:Nat):Int)=0))=false:=by simp;omega
    obtain⟨m,rfl⟩:=unp_of (l.length/2) l (by omega)
    have lu:=unp_len m
    rw[lu] at la hl w2 d4
    have kc:=chunkF_ok (unp m) .none
    unfold txA at kc
    repeat' (first|refine DW_VB tabs rfl (by first|exact d3|exact d4) ?_|refine DW_VI tabs rfl (by first|exact la|exact w2) ?_|refine DW_A tabs rfl ?_|refine DW_nil ?_|refine W_A rfl ?_|refine DW_C rfl kr ?_|refine DW_C rfl kc ?_|refine DW_row tabOK rfl ?_|refine DW_app tabOK rfl rfl (by simp;omega) (by simp;omega) ?_|refine DW_app0 tabOK rfl (by simp;omega) (by simp;omega) ?_|refine W_draw mixed [1,4,0,2,3,5,6,7,8,9] [.R,.P,.R,.R,.P,.R,.P,.P,.E,.E] rfl rfl (by kernel_rfl) ?_)
    refine W.le (g:=⟨[(2,.ptr 0 0),(3,.ptr 1 0),(7,.ptr 2 0),(31,.fn (.func 96) [] [.ref [txA (unp m) .none],.ref [.int .i64 2]])],[]⟩) (N:=⟨3,[(0,.cells [.sl 0 [] .full]),(1,.cells [.int .i64 0]),(2,.cells [.sl 0 [] .full])]⟩) ?_ ?_ ?_
    ·unfold txA
     repeat (refine AF.le_cons rfl ?_)
     exact AF.le_nil rfl
    ·exact Mem.le_cons rfl (Mem.le_cons rfl (Mem.le_cons rfl (Mem.le_nil rfl)))
    refine W_rangeE rfl (chunkIt m (by omega)) gK (GS m) (fun _=>rfl) rfl ?_ ?_ ?_ ?_ ?_
    ·rintro O L N ⟨hO,_⟩
     exact hO
    ·intro O
     exact⟨rfl,rfl,rfl,rfl,Nat.le_refl 5,fun x hx=>(by cases hx),.inl ⟨rfl,rfl⟩⟩
    ·rintro O O1 L x N l ⟨hO,hG⟩ hok
     have hm:=List.mem_of_getElem? hok
     have hLl:=(List.getElem?_eq_some_iff.1 hok).1
     obtain⟨hm1,hm2⟩:=unp_mem hm
     have b2:=hb _ hm2
     have kd:=read_ok x.2 (by omega)
     have hnx:=hG.nx
     unfold rmA at kd
     repeat' (first|refine DW_A tabs rfl ?_|refine DW_nil ?_|refine W_A rfl ?_|refine DW_row tabOK rfl ?_|refine DW_app tabOK rfl rfl (by simp;omega) (by simp;omega) ?_|refine DW_app0 tabOK rfl (by simp;omega) (by simp;omega) ?_|refine W_draw mixed [1,4,0,2,3,5,6,7,8,9] [.R,.P,.R,.R,.P,.R,.P,.P,.E,.E] rfl rfl (by kernel_rfl) ?_)
     refine⟨hO,?_⟩
     show W _ _ _ _ _ _ (N.set 4 O1)
     repeat' (first|refine DW_A tabs rfl ?_|refine DW_nil ?_|refine W_A rfl ?_|refine DW_C rfl kd ?_|refine DW_ix tabOK rfl (⟨by decide,rfl⟩) ?_|refine DW_row tabOK rfl ?_|refine DW_app tabOK rfl rfl (by simp;omega) (by simp;omega) ?_|refine DW_app0 tabOK rfl (by simp;omega) (by simp;omega) ?_|refine W_draw mixed [1,4,0,2,3,5,6,7,8,9] [.R,.P,.R,.R,.P,.R,.P,.P,.E,.E] rfl rfl (by kernel_rfl) ?_)
     refine DW_stM tabOK get_push_self rfl ?_
     by_cases h0:(readM x.2).2.2=0
     ·have d0:(!decide ((readM x.2).2.2=0))=false:=by simp[h0]
      have hok2:∀y,y∈L++[x]→(readM y.2).2.2=0:=fun y hy=>by
       rcases List.mem_append.1 hy with hy|hy
       ·exact hG.ok y hy
       ·simp at hy
        subst hy
        exact h0
      repeat' (first|refine DW_VB tabs rfl d0 ?_|refine DW_A tabs rfl ?_|refine DW_nil ?_|refine W_A rfl ?_|refine DW_ix tabOK rfl (⟨by decide,rfl⟩) ?_|refine DW_row tabOK rfl ?_|refine DW_app tabOK rfl rfl (by simp;omega) (by simp;omega) ?_|refine DW_app0 tabOK rfl (by simp;omega) (by simp;omega) ?_|refine W_draw mixed [1,4,0,2,3,5,6,7,8,9] [.R,.P,.R,.R,.P,.R,.P,.P,.E,.E] rfl rfl (by kernel_rfl) ?_)
      rcases hG.row with ⟨rfl,h2⟩|⟨id,g,hid,hidn,h2,hsp⟩
      ·refine DW_ldM tabOK ((step_get (j:=2) (by omega)).trans h2) rfl ?_
       repeat' (first|refine DW_A tabs rfl ?_|refine DW_nil ?_|refine W_A rfl ?_|refine DW_ix tabOK rfl (⟨by decide,rfl⟩) ?_|refine DW_row tabOK rfl ?_|refine DW_app tabOK rfl rfl (by simp;omega) (by simp;omega) ?_|refine DW_app0 tabOK rfl (by simp;omega) (by simp;omega) ?_|refine W_draw mixed [1,4,0,2,3,5,6,7,8,9] [.R,.P,.R,.R,.P,.R,.P,.P,.E,.E] rfl rfl (by kernel_rfl) ?_)
       refine DW_ldM tabOK get_set_self rfl ?_
       repeat' (first|refine DW_A tabs rfl ?_|refine DW_nil ?_|refine W_A rfl ?_|refine DW_row tabOK rfl ?_|refine DW_app tabOK rfl rfl (by simp;omega) (by simp;omega) ?_|refine DW_app0 tabOK rfl (by simp;omega) (by simp;omega) ?_|refine W_draw mixed [1,4,0,2,3,5,6,7,8,9] [.R,.P,.R,.R,.P,.R,.P,.P,.E,.E] rfl rfl (by kernel_rfl) ?_)
       refine DW_app0 tabOK rfl (by simp) (by simp) ?_
       refine DW_stM tabOK ((step_get1 (N:=N) (it:=4) (I:=O1) (j:=2) (by omega)).trans h2) rfl ?_
       repeat' (first|refine DW_A tabs rfl ?_|refine DW_nil ?_|refine W_A rfl ?_|refine DW_row tabOK rfl ?_|refine DW_app tabOK rfl rfl (by simp;omega) (by simp;omega) ?_|refine DW_app0 tabOK rfl (by simp;omega) (by simp;omega) ?_|refine W_draw mixed [1,4,0,2,3,5,6,7,8,9] [.R,.P,.R,.R,.P,.R,.P,.P,.E,.E] rfl rfl (by kernel_rfl) ?_)
       refine⟨?_,.inl ⟨rfl,get_set_self,?_,?_,?_,?_,hok2,.inr ⟨N.next+1,0,by omega,?_,?_,?_⟩⟩⟩
       ·show Mem.get (Mem.set _ 2 _) 4=some O1
        rw[Mem.get_set,if_neg (by decide)]
        exact (step_get1 (N:=N) (it:=4) (I:=O1) (j:=4) (by omega)).trans (if_pos rfl)
       ·exact (gfin1 (by omega) (by decide) (by decide)).trans hG.g0
       ·exact (gfin1 (by omega) (by decide) (by decide)).trans hG.g1
       ·exact (gfin1 (by omega) (by decide) (by decide)).trans hG.g3
       ·show 5≤N.next+1+1
        omega
       ·show N.next+1 < N.next+1+1
        omega
       ·rw[Mem.get_set,if_neg (by decide),Mem.get_set,if_pos rfl]
        rfl
       ·show Mem.get (Mem.set (Mem.set _ 2 _) 4 _) (N.next+1)=_
        rw[Mem.get_set,if_neg (by omega),Mem.get_set,if_neg (by omega)]
        exact get_push_self
      ·refine DW_ldM tabOK ((step_get (j:=2) (by omega)).trans h2) rfl ?_
       repeat' (first|refine DW_A tabs rfl ?_|refine DW_nil ?_|refine W_A rfl ?_|refine DW_ix tabOK rfl (⟨by decide,rfl⟩) ?_|refine DW_row tabOK rfl ?_|refine DW_app tabOK rfl rfl (by simp;omega) (by simp;omega) ?_|refine DW_app0 tabOK rfl (by simp;omega) (by simp;omega) ?_|refine W_draw mixed [1,4,0,2,3,5,6,7,8,9] [.R,.P,.R,.R,.P,.R,.P,.P,.E,.E] rfl rfl (by kernel_rfl) ?_)
       refine DW_ldM tabOK get_set_self rfl ?_
       repeat' (first|refine DW_A tabs rfl ?_|refine DW_nil ?_|refine W_A rfl ?_|refine DW_row tabOK rfl ?_|refine DW_app tabOK rfl rfl (by simp;omega) (by simp;omega) ?_|refine DW_app0 tabOK rfl (by simp;omega) (by simp;omega) ?_|refine W_draw mixed [1,4,0,2,3,5,6,7,8,9] [.R,.P,.R,.R,.P,.R,.P,.P,.E,.E] rfl rfl (by kernel_rfl) ?_)
       refine DW_append_own tabOK rfl rfl rfl rfl rfl ((step_get (j:=id) hidn).trans ((if_neg (by omega)).trans hsp)) rfl rfl rfl rfl rfl rfl rfl rfl rfl (by simp;omega) (by simp;omega) ?_
       refine DW_stM (id:=2) tabOK (show (Mem.set _ id _).get 2=some (.cells [.sl 5 ((L.map toCh).map Ch.av) (.tok id g)]) from by rw[Mem.get_set,if_neg (by omega)];exact (step_get (j:=2) (by omega)).trans h2) rfl ?_
       repeat' (first|refine DW_A tabs rfl ?_|refine DW_nil ?_|refine W_A rfl ?_|refine DW_row tabOK rfl ?_|refine DW_app tabOK rfl rfl (by simp;omega) (by simp;omega) ?_|refine DW_app0 tabOK rfl (by simp;omega) (by simp;omega) ?_|refine W_draw mixed [1,4,0,2,3,5,6,7,8,9] [.R,.P,.R,.R,.P,.R,.P,.P,.E,.E] rfl rfl (by kernel_rfl) ?_)
       refine⟨?_,.inl ⟨rfl,get_set_self,?_,?_,?_,?_,hok2,.inr ⟨id,g+1,hid,?_,?_,?_⟩⟩⟩
       ·show Mem.get (Mem.set (Mem.set _ id _) 2 _) 4=some O1
        rw[Mem.get_set,if_neg (by decide),Mem.get_set,if_neg (by omega)]
        exact (step_get (N:=N) (it:=4) (I:=O1) (j:=4) (by omega)).trans (if_pos rfl)
       ·exact (gfin2 (by omega) (by decide) (by decide) (by omega)).trans hG.g0
       ·exact (gfin2 (by omega) (by decide) (by decide) (by omega)).trans hG.g1
       ·exact (gfin2 (by omega) (by decide) (by decide) (by omega)).trans hG.g3
       ·show 5≤N.next+1
        omega
       ·show id < N.next+1
        omega
       ·rw[Mem.get_set,if_neg (by decide),Mem.get_set,if_pos rfl,tx_ch]
        rfl
       ·show Mem.get (Mem.set (Mem.set (Mem.set _ id _) 2 _) 4 _) id=_
        rw[Mem.get_set,if_neg (by omega),Mem.get_set,if_neg (by omega),Mem.get_set,if_pos rfl]
     ·have d0:(!decide ((readM x.2).2.2=0))=true:=by simp[h0]
      repeat' (first|refine DW_VB tabs rfl d0 ?_|refine DW_A tabs rfl ?_|refine DW_nil ?_|refine W_A rfl ?_|refine DW_row tabOK rfl ?_|refine DW_app tabOK rfl rfl (by simp;omega) (by simp;omega) ?_|refine DW_app0 tabOK rfl (by simp;omega) (by simp;omega) ?_|refine W_draw mixed [1,4,0,2,3,5,6,7,8,9] [.R,.P,.R,.R,.P,.R,.P,.P,.E,.E] rfl rfl (by kernel_rfl) ?_)
      refine DW_stM tabOK ((step_get (j:=0) (by omega)).trans hG.g0) rfl ?_
      refine DW_stM (id:=1) (l:=[.int .i64 0]) tabOK (by rw[Mem.get_set,if_neg (by decide)];exact (step_get (j:=1) (by omega)).trans hG.g1) rfl ?_
      repeat' (first|refine DW_A tabs rfl ?_|refine DW_nil ?_|refine W_A rfl ?_|refine DW_row tabOK rfl ?_|refine DW_app tabOK rfl rfl (by simp;omega) (by simp;omega) ?_|refine DW_app0 tabOK rfl (by simp;omega) (by simp;omega) ?_|refine W_draw mixed [1,4,0,2,3,5,6,7,8,9] [.R,.P,.R,.R,.P,.R,.P,.P,.E,.E] rfl rfl (by kernel_rfl) ?_)
      refine⟨?_,.inr ⟨rfl,?_,?_,?_,⟨x,hm,h0⟩⟩⟩
      ·show Mem.get (Mem.set (Mem.set _ 0 _) 1 _) 4=some O1
       rw[Mem.get_set,if_neg (by decide),Mem.get_set,if_neg (by decide)]
       exact (step_get (N:=N) (it:=4) (I:=O1) (j:=4) (by omega)).trans (if_pos rfl)
      ·rw[Mem.get_set,if_neg (by decide),Mem.get_set,if_pos rfl]
      ·rw[Mem.get_set,if_pos rfl]
      ·rw[Mem.get_set,if_neg (by decide),Mem.get_set,if_neg (by decide)]
       exact (step_get (by omega)).trans hG.g3
    ·rintro O N ⟨hO,hG⟩
     refine⟨N.drop 4,Mem.drop_le,by rw[Mem.get_drop];rfl,?_⟩
     have gd:∀j,j≠4→(N.drop 4).get j=N.get j:=fun j hj=>by rw[Mem.get_drop,if_neg hj]
     have hcl:=closed_chs (m.map toCh) (t:=.none) (.inl rfl)
     have hsh:∀c,c∈m.map toCh→shortCh c:=fun c hc=>by
      obtain⟨x,hx,rfl⟩:=List.mem_map.1 hc
      exact toCh_short (hb _ (unp_mem hx).1) (hG.ok x hx)
     rcases hG.row with ⟨rfl,hr2⟩|⟨id,g,hid,hidn,hr2,hsp⟩
     ·rw[getC_no ho hG.ok rfl]
      have kb:=(bIs_ok [] .none (by decide) (fun c hc=>by cases hc)).sub (args:=[.sl 0 [] .full]) ⟨Sub.nil,trivial⟩
      repeat' (first|refine DW_A tabs rfl ?_|refine DW_nil ?_|refine W_A rfl ?_|refine DW_row tabOK rfl ?_|refine DW_app tabOK rfl rfl (by simp;omega) (by simp;omega) ?_|refine DW_app0 tabOK rfl (by simp;omega) (by simp;omega) ?_|refine W_draw mixed [1,4,0,2,3,5,6,7,8,9] [.R,.P,.R,.R,.P,.R,.P,.P,.E,.E] rfl rfl (by kernel_rfl) ?_)
      refine DW_ldM tabOK ((gd 2 (by decide)).trans hr2) rfl ?_
      repeat' (first|refine DW_A tabs rfl ?_|refine DW_nil ?_|refine W_A rfl ?_|refine DW_C rfl kb ?_|refine DW_row tabOK rfl ?_|refine DW_app tabOK rfl rfl (by simp;omega) (by simp;omega) ?_|refine DW_app0 tabOK rfl (by simp;omega) (by simp;omega) ?_|refine W_draw mixed [1,4,0,2,3,5,6,7,8,9] [.R,.P,.R,.R,.P,.R,.P,.P,.E,.E] rfl rfl (by kernel_rfl) ?_)
      refine DW_stM tabOK ((gd 0 (by decide)).trans hG.g0) rfl ?_
      refine DW_stM (id:=1) (l:=[.int .i64 0]) tabOK (by rw[Mem.get_set,if_neg (by decide)];exact (gd 1 (by decide)).trans hG.g1) rfl ?_
      repeat' (first|refine DW_A tabs rfl ?_|refine DW_nil ?_|refine W_A rfl ?_|refine DW_row tabOK rfl ?_|refine DW_app tabOK rfl rfl (by simp;omega) (by simp;omega) ?_|refine DW_app0 tabOK rfl (by simp;omega) (by simp;omega) ?_|refine W_draw mixed [1,4,0,2,3,5,6,7,8,9] [.R,.P,.R,.R,.P,.R,.P,.P,.E,.E] rfl rfl (by kernel_rfl) ?_)
      refine marks1 (N:=Mem.drop _ 3) ?_ Mem.drop_le (by rw[Mem.get_drop];rfl) ⟨_,get_resA (x:=.sl 0 [] .full) (y:=.int .i64 30) rfl rfl ?_ ?_,_,rfl,sub_gc0⟩
      ·rw[Mem.get_set,if_neg (by decide),Mem.get_set,if_neg (by decide)]
       exact (gd 3 (by decide)).trans hG.g3
      ·rw[Mem.get_drop,if_neg (by decide),Mem.get_set,if_neg (by decide),Mem.get_set,if_pos rfl]
      ·rw[Mem.get_drop,if_neg (by decide),Mem.get_set,if_pos rfl]
     ·have hll:m.length < 1000000:=by omega
      have kb:=bIs_ok (m.map toCh) (.tok id g) (by rw[List.length_map];exact hll) hsh
      unfold chA at kb hcl
      cases h:batchB (m.map toCh)
      ·rw[h] at kb
       rw[getC_no ho hG.ok h]
       repeat' (first|refine DW_A tabs rfl ?_|refine DW_nil ?_|refine W_A rfl ?_|refine DW_row tabOK rfl ?_|refine DW_app tabOK rfl rfl (by simp;omega) (by simp;omega) ?_|refine DW_app0 tabOK rfl (by simp;omega) (by simp;omega) ?_|refine W_draw mixed [1,4,0,2,3,5,6,7,8,9] [.R,.P,.R,.R,.P,.R,.P,.P,.E,.E] rfl rfl (by kernel_rfl) ?_)
       refine DW_ldM tabOK ((gd 2 (by decide)).trans hr2) rfl ?_
       repeat' (first|refine DW_A tabs rfl ?_|refine DW_nil ?_|refine W_A rfl ?_|refine DW_C rfl kb ?_|refine DW_row tabOK rfl ?_|refine DW_app tabOK rfl rfl (by simp;omega) (by simp;omega) ?_|refine DW_app0 tabOK rfl (by simp;omega) (by simp;omega) ?_|refine W_draw mixed [1,4,0,2,3,5,6,7,8,9] [.R,.P,.R,.R,.P,.R,.P,.P,.E,.E] rfl rfl (by kernel_rfl) ?_)
       refine DW_stM tabOK ((gd 0 (by decide)).trans hG.g0) rfl ?_
       refine DW_stM (id:=1) (l:=[.int .i64 0]) tabOK (by rw[Mem.get_set,if_neg (by decide)];exact (gd 1 (by decide)).trans hG.g1) rfl ?_
       repeat' (first|refine DW_A tabs rfl ?_|refine DW_nil ?_|refine W_A rfl ?_|refine DW_row tabOK rfl ?_|refine DW_app tabOK rfl rfl (by simp;omega) (by simp;omega) ?_|refine DW_app0 tabOK rfl (by simp;omega) (by simp;omega) ?_|refine W_draw mixed [1,4,0,2,3,5,6,7,8,9] [.R,.P,.R,.R,.P,.R,.P,.P,.E,.E] rfl rfl (by kernel_rfl) ?_)
       refine marks1 (N:=Mem.drop _ 3) ?_ Mem.drop_le (by rw[Mem.get_drop];rfl) ⟨_,get_resA (x:=.sl 0 [] .full) (y:=.int .i64 30) rfl rfl ?_ ?_,_,rfl,sub_gc0⟩
       ·rw[Mem.get_set,if_neg (by decide),Mem.get_set,if_neg (by decide)]
        exact (gd 3 (by decide)).trans hG.g3
       ·rw[Mem.get_drop,if_neg (by decide),Mem.get_set,if_neg (by decide),Mem.get_set,if_pos rfl]
       ·rw[Mem.get_drop,if_neg (by decide),Mem.get_set,if_pos rfl]
      ·rw[h] at kb
       rw[getC_yes ho hG.ok h]
       repeat' (first|refine DW_A tabs rfl ?_|refine DW_nil ?_|refine W_A rfl ?_|refine DW_row tabOK rfl ?_|refine DW_app tabOK rfl rfl (by simp;omega) (by simp;omega) ?_|refine DW_app0 tabOK rfl (by simp;omega) (by simp;omega) ?_|refine W_draw mixed [1,4,0,2,3,5,6,7,8,9] [.R,.P,.R,.R,.P,.R,.P,.P,.E,.E] rfl rfl (by kernel_rfl) ?_)
       refine DW_ldM tabOK ((gd 2 (by decide)).trans hr2) rfl ?_
       repeat' (first|refine DW_A tabs rfl ?_|refine DW_nil ?_|refine W_A rfl ?_|refine DW_C rfl kb ?_|refine DW_row tabOK rfl ?_|refine DW_app tabOK rfl rfl (by simp;omega) (by simp;omega) ?_|refine DW_app0 tabOK rfl (by simp;omega) (by simp;omega) ?_|refine W_draw mixed [1,4,0,2,3,5,6,7,8,9] [.R,.P,.R,.R,.P,.R,.P,.P,.E,.E] rfl rfl (by kernel_rfl) ?_)
       refine DW_ldM tabOK ((gd 2 (by decide)).trans hr2) rfl ?_
       refine DW_stM tabOK ((gd 0 (by decide)).trans hG.g0) rfl ?_
       refine DW_stM (id:=1) (l:=[.int .i64 0]) tabOK (by rw[Mem.get_set,if_neg (by decide)];exact (gd 1 (by decide)).trans hG.g1) rfl ?_
       repeat' (first|refine DW_A tabs rfl ?_|refine DW_nil ?_|refine W_A rfl ?_|refine DW_row tabOK rfl ?_|refine DW_app tabOK rfl rfl (by simp;omega) (by simp;omega) ?_|refine DW_app0 tabOK rfl (by simp;omega) (by simp;omega) ?_|refine W_draw mixed [1,4,0,2,3,5,6,7,8,9] [.R,.P,.R,.R,.P,.R,.P,.P,.E,.E] rfl rfl (by kernel_rfl) ?_)
       refine marks1 (N:=Mem.drop _ 3) ?_ Mem.drop_le (by rw[Mem.get_drop];rfl) ⟨_,get_resA (x:=.sl 5 ((m.map toCh).map Ch.av) (.tok id g)) (y:=.int .i64 0) rfl rfl ?_ ?_,_,rfl,SubC.tup2 (SubC.untag hcl) (SubC.of_closed closed_int)⟩
       ·rw[Mem.get_set,if_neg (by decide),Mem.get_set,if_neg (by decide)]
        exact (gd 3 (by decide)).trans hG.g3
       ·rw[Mem.get_drop,if_neg (by decide),Mem.get_set,if_neg (by decide),Mem.get_set,if_pos rfl]
       ·rw[Mem.get_drop,if_neg (by decide),Mem.get_set,if_pos rfl]
    ·intro O N hS
     obtain⟨x,hx,hbad⟩:=hS.bad
     rw[getC_bad ho hx hbad]
     refine⟨(N.set 4 O).drop 4,Mem.drop_le,by rw[Mem.get_drop];rfl,?_⟩
     have gd:∀j,j≠4→((N.set 4 O).drop 4).get j=N.get j:=fun j hj=>by rw[Mem.get_drop,if_neg hj,Mem.get_set,if_neg hj]
     refine marks1 (N:=((N.set 4 O).drop 4).drop 3) ((gd 3 (by decide)).trans hS.g3) Mem.drop_le (by rw[Mem.get_drop];rfl) ⟨_,get_resA rfl rfl ?_ ?_,_,rfl,sub_gc0⟩
     ·rw[Mem.get_drop]
      exact (gd 0 (by decide)).trans hS.g0
     ·rw[Mem.get_drop]
      exact (gd 1 (by decide)).trans hS.g1
   ·have d4:(!decide (((l.length%2:Nat):Int)=0))=true:=by simp;omega
    rw[getC_odd ho (fun h=>h2 h.2)]
    repeat' (first|refine DW_VB tabs rfl (by first|exact d3|exact d4) ?_|refine DW_VI tabs rfl (by first|exact la|exact w2) ?_|refine DW_A tabs rfl ?_|refine DW_nil ?_|refine W_A rfl ?_|refine DW_C rfl kr ?_|refine DW_row tabOK rfl ?_|refine DW_app tabOK rfl rfl (by simp;omega) (by simp;omega) ?_|refine DW_app0 tabOK rfl (by simp;omega) (by simp;omega) ?_|refine W_draw mixed [1,4,0,2,3,5,6,7,8,9] [.R,.P,.R,.R,.P,.R,.P,.P,.E,.E] rfl rfl (by kernel_rfl) ?_)
    exact⟨_,rfl,_,rfl,sub_gc0⟩
  ·have d3:(!(r==[]))=true:=by simp[hr]
   rw[getC_odd ho (fun h=>hr h.1)]
   repeat' (first|refine DW_VB tabs rfl d3 ?_|refine DW_VI tabs rfl la ?_|refine DW_A tabs rfl ?_|refine DW_nil ?_|refine W_A rfl ?_|refine DW_C rfl kr ?_|refine DW_row tabOK rfl ?_|refine DW_app tabOK rfl rfl (by simp;omega) (by simp;omega) ?_|refine DW_app0 tabOK rfl (by simp;omega) (by simp;omega) ?_|refine W_draw mixed [1,4,0,2,3,5,6,7,8,9] [.R,.P,.R,.R,.P,.R,.P,.P,.E,.E] rfl rfl (by kernel_rfl) ?_)
   exact⟨_,rfl,_,rfl,sub_gc0⟩
end Go.Proofs.YtbcaejhhgkcgpaaGreatDoor
