/- Parts of the proof, one behind the other. No further condition. -/
import Derived.Test.YtbcaejhhgkcgpaaDoorK13
import Derived.Lib.LazyBuf
set_option linter.unusedVariables false
set_option linter.unusedSimpArgs false
namespace Go.Proofs.YtbcaejhhgkcgpaaDoor
open Go.Ab
def catT (l:List Bytes):Bytes:=l.flatMap textT
def rowT (l:List Bytes):Bytes:=putN l.length++catT l
def rowTE (l:List Bytes):Bytes×Int:=if 1000 < l.length∨∃t,t∈l∧4000 < t.length then ([],2) else (rowT l,0)
def getTs:Nat→Bytes→Option (List Bytes×Bytes)
 |0,s=>some ([],s)
 |n+1,s=>match textO s with
  |none=>none
  |some (t,r)=>match getTs n r with
   |none=>none
   |some (l,q)=>some (t::l,q)
def rowO (s:Bytes):Option (List Bytes×Bytes):=match getNum s with
 |none=>none
 |some (n,r)=>if n≤1000 then getTs n r else none
theorem getTs_succ (n:Nat) (s:Bytes):getTs (n+1) s=match textO s with
  |none=>none
  |some (t,r)=>match getTs n r with
   |none=>none
   |some (l,q)=>some (t::l,q):=rfl
theorem getTs_put:∀(l:List Bytes) (r:Bytes),(∀t,t∈l→t.length≤4000)→getTs l.length (catT l++r)=some (l,r)
 |[],r,_=>rfl
 |t::l,r,h=>by
  have e:catT (t::l)++r=textT t++(catT l++r):=by simp[catT]
  rw[e,List.length_cons,getTs_succ,textO_put (h t (by simp))]
  show (match getTs l.length (catT l++r) with
   |none=>none
   |some (l,q)=>some (t::l,q))=_
  rw[getTs_put l r (fun x hx=>h x (by simp[hx]))]
theorem rowO_put {l:List Bytes} (h:(rowTE l).2=0) (r:Bytes):rowO ((rowTE l).1++r)=some (l,r):=by
 unfold rowTE at h ⊢
 split at h
 ·cases h
 ·rename_i h1
  rw[if_neg h1]
  have hl:l.length≤1000:=by
   rcases Nat.lt_or_ge 1000 l.length with h2|h2
   ·exact absurd (.inl h2) h1
   ·exact h2
  have ht:∀t,t∈l→t.length≤4000:=by
   intro t hm
   rcases Nat.lt_or_ge 4000 t.length with h2|h2
   ·exact absurd (.inr ⟨t,hm,h2⟩) h1
   ·exact h2
  unfold rowO rowT
  rw[List.append_assoc,getNum_put (by omega)]
  show (if _ then _ else _)=_
  rw[if_pos hl,getTs_put l r ht]
theorem getTs_inv:∀(n:Nat) {s r:Bytes} {l:List Bytes},getTs n s=some (l,r)→l.length=n∧catT l++r=s∧∀t,t∈l→t.length≤4000
 |0,s,r,l,h=>by
  cases h
  exact⟨rfl,rfl,fun t ht=>by cases ht⟩
 |n+1,s,r,l,h=>by
  unfold getTs at h
  split at h
  ·cases h
  ·rename_i t q e
   split at h
   ·cases h
   ·rename_i l' q' e2
    cases h
    obtain⟨h1,h2⟩:=textO_inv e
    obtain⟨h3,h4,h5⟩:=getTs_inv n e2
    refine⟨by simp[h3],?_,fun x hx=>?_⟩
    ·rw[←h2,←h4]
     simp[catT]
    ·rcases List.mem_cons.1 hx with rfl|hx
     ·exact h1
     ·exact h5 x hx
theorem rowO_inv {s r:Bytes} {l:List Bytes} (h:rowO s=some (l,r)):rowTE l=(rowT l,0)∧rowT l++r=s∧l.length≤1000∧∀t,t∈l→t.length≤4000:=by
 unfold rowO at h
 split at h
 ·cases h
 ·rename_i n q e
  split at h
  ·rename_i hn
   obtain⟨h1,h2,h3⟩:=getTs_inv n h
   refine⟨?_,?_,by omega,h3⟩
   ·unfold rowTE
    rw[if_neg]
    rintro (h4|⟨t,ht,h4⟩)
    ·omega
    ·have:=h3 t ht
     omega
   ·unfold rowT
    rw[h1,List.append_assoc,h2]
    exact (getNum_inv e).1
  ·cases h
def chT (c:Ch):List Bytes:=[c.path,(valueM c.meta_ c.gone).1]
def chsT (l:List Ch):List Bytes:=l.flatMap chT
def putC (l:List Ch):Bytes×Int:=if batchB l=true then rowTE (chsT l) else ([],1)
def chsO:List Bytes→Option (List Ch)
 |p::v::r=>if (readM v).2.2=0 then (match chsO r with
  |none=>none
  |some l=>some (⟨p,(readM v).2.1,(readM v).1⟩::l)) else none
 |[]=>some []
 |[_]=>none
def getC (s:Bytes):Option (List Ch):=match rowO s with
 |none=>none
 |some (l,r)=>if r=[]∧l.length%2=0 then (match chsO l with
  |none=>none
  |some m=>if batchB m=true then some m else none) else none
theorem bmay_parts {c:Ch} (h:mayB c=true):c.path≠[]∧isPathB c.path=true∧isM c.meta_=true∧(c.gone=true→c.meta_=zeroMt):=by
 unfold mayB at h
 simp only[Bool.and_eq_true,Bool.not_eq_true',beq_eq_false_iff_ne,ne_eq,Bool.or_eq_true] at h
 obtain⟨⟨⟨h1,h2⟩,h3⟩,h4⟩:=h
 refine⟨h1,h2,h3,fun hg=>?_⟩
 rcases h4 with h4|h4
 ·rw[hg] at h4
  cases h4
 ·unfold zeroB at h4
  simp only[Bool.and_eq_true,decide_eq_true_eq] at h4
  obtain⟨⟨a,b⟩,c'⟩:=h4
  have e:c.meta_.ch=[]:=List.eq_nil_of_length_eq_zero (by omega)
  cases hm:c.meta_ with
  |mk s m k=>
   rw[hm] at a b e
   simp only at a b e
   subst a b e
   rfl
theorem chsO_put:∀(l:List Ch),(∀c,c∈l→mayB c=true)→chsO (chsT l)=some l
 |[],_=>rfl
 |c::r,h=>by
  obtain⟨_,_,h3,h4⟩:=bmay_parts (h c (by simp))
  have e:chsT (c::r)=c.path::(valueM c.meta_ c.gone).1::chsT r:=rfl
  rw[e]
  unfold chsO
  rw[chsO_put r (fun x hx=>h x (by simp[hx]))]
  obtain⟨p,g,m⟩:=c
  cases g
  ·rw[readM_there h3]
   rfl
  ·rw[readM_gone,←h4 rfl]
   rfl
theorem bcatN_len:∀l:List Int,(catN l).length≤5*l.length
 |[]=>Nat.le_refl _
 |x::r=>by
  have h1:=bcatN_len r
  have h2:=putN_len x.toNat
  have e:catN (x::r)=putN x.toNat++catN r:=by simp[catN]
  rw[e,List.length_append,List.length_cons]
  omega
theorem value_len {m:Mt} {g:Bool} (h:isM m=true):(valueM m g).1.length≤100:=by
 unfold valueM putM
 have hl:m.ch.length≤16:=by
  unfold isM at h
  simp only[Bool.and_eq_true,decide_eq_true_eq] at h
  exact h.2.2
 have:=bcatN_len (mtL m)
 have e:(mtL m).length=3+m.ch.length:=by simp[mtL];omega
 rw[e] at this
 rw[if_pos h]
 cases g
 ·rw[if_neg (by simp),if_pos rfl]
  show (1::catN (mtL m)).length≤100
  rw[List.length_cons]
  omega
 ·rw[if_pos rfl]
  simp
theorem bpath_len {p:Bytes} (h:isPathB p=true):p.length≤4000:=by
 unfold isPathB at h
 simp at h
 rcases h with h1|h1
 ·rw[h1]
  simp
 ·omega
theorem chsT_len:∀l:List Ch,(chsT l).length=2*l.length
 |[]=>rfl
 |c::r=>by
  have:chsT (c::r)=c.path::(valueM c.meta_ c.gone).1::chsT r:=rfl
  rw[this,List.length_cons,List.length_cons,chsT_len r,List.length_cons]
  omega
theorem put_batch {l:List Ch} (h:batchB l=true):putC l=(rowT (chsT l),0):=by
 obtain⟨_,h2,h3,_⟩:=batch_rise h
 unfold putC rowTE
 rw[if_pos h,if_neg]
 rintro (h4|⟨t,ht,h4⟩)
 ·rw[chsT_len] at h4
  omega
 ·obtain⟨c,hc,ht⟩:=List.mem_flatMap.1 ht
  obtain⟨_,h5,h6,_⟩:=bmay_parts (h3 c hc)
  simp only[chT,List.mem_cons,List.not_mem_nil,or_false] at ht
  rcases ht with rfl|rfl
  ·have:=bpath_len h5
   omega
  ·have:=value_len (g:=c.gone) h6
   omega
theorem get_put_batch {l:List Ch} (h:batchB l=true):getC (rowT (chsT l))=some l:=by
 have hp:=put_batch h
 have hr:rowTE (chsT l)=(rowT (chsT l),0):=by
  have:=hp
  unfold putC at this
  rwa [if_pos h] at this
 have h1:=rowO_put (l:=chsT l) (by rw[hr]) []
 rw[hr,List.append_nil] at h1
 unfold getC
 rw[h1]
 show (if _ then _ else _)=_
 rw[if_pos ⟨rfl,by rw[chsT_len];omega⟩,chsO_put l (batch_rise h).2.2.1]
 show (if _ then _ else _)=_
 rw[if_pos h]
theorem getM_inv {r:Bytes} (hg:(getM r).2=0):isM (getM r).1=true∧catN (mtL (getM r).1)=r:=by
 unfold getM at hg ⊢
 cases hn:nums r with
 |none=>rw[hn] at hg;cases hg
 |some l=>
  rw[hn] at hg
  match l,hn,hg with
  |[],_,hg=>cases hg
  |[_],_,hg=>cases hg
  |[_,_],_,hg=>cases hg
  |a::b::c::l,hn,hg=>
   have e2:getMo (some (a::b::c::l))=mtOf a b c l:=rfl
   rw[e2] at hg ⊢
   unfold mtOf at hg ⊢
   split at hg
   ·rename_i h5
    rw[if_pos h5]
    obtain⟨h6,_⟩:=nums_inv r.length (Nat.le_refl _) hn
    refine⟨h5.2,?_⟩
    rw[←h6]
    unfold mtL
    simp[nI,h5.1]
   ·cases hg
theorem readM_inv {v:Bytes} (h:(readM v).2.2=0):(valueM (readM v).1 (readM v).2.1).1=v∧isM (readM v).1=true:=by
 match v,h with
 |[],h=>cases h
 |c::r,h=>
  have e:readM (c::r)=if c=0∧r=[] then (zeroMt,true,0) else if c=1 then ((getM r).1,false,(getM r).2) else (zeroMt,false,30):=rfl
  rw[e] at h ⊢
  split at h
  ·rename_i h1
   obtain⟨rfl,rfl⟩:=h1
   exact⟨rfl,rfl⟩
  ·rename_i h1
   rw[if_neg h1]
   split at h
   ·rename_i h2
    subst h2
    rw[if_pos rfl]
    have hg:(getM r).2=0:=h
    obtain⟨h3,h4⟩:=getM_inv hg
    refine⟨?_,h3⟩
    show (valueM (getM r).1 false).1=1::r
    unfold valueM putM
    rw[if_neg (by simp),if_pos h3,if_pos rfl,h4]
   ·cases h
theorem chsO_inv:∀(l:List Bytes) {m:List Ch},chsO l=some m→chsT m=l
 |[],m,h=>by
  cases h
  rfl
 |[_],m,h=>by cases h
 |p::v::r,m,h=>by
  unfold chsO at h
  split at h
  ·rename_i h1
   split at h
   ·cases h
   ·rename_i m' e
    cases h
    have e2:chsT (⟨p,(readM v).2.1,(readM v).1⟩::m')=p::(valueM (readM v).1 (readM v).2.1).1::chsT m':=rfl
    rw[e2,(readM_inv h1).1,chsO_inv r e]
  ·cases h
theorem getC_inv {s:Bytes} {l:List Ch} (h:getC s=some l):batchB l=true∧putC l=(s,0):=by
 unfold getC at h
 split at h
 ·cases h
 ·rename_i k r e
  split at h
  ·rename_i h1
   obtain⟨rfl,_⟩:=h1
   split at h
   ·cases h
   ·rename_i m e2
    split at h
    ·rename_i hb
     cases h
     obtain⟨h3,h4,_,_⟩:=rowO_inv e
     have h5:=chsO_inv k e2
     refine⟨hb,?_⟩
     unfold putC
     rw[if_pos hb,h5,h3]
     rw[List.append_nil] at h4
     rw[h4]
    ·cases h
  ·cases h
end Go.Proofs.YtbcaejhhgkcgpaaDoor
namespace Go.Proofs.YtbcaejhhgkcgpaaDoor
open Go.Ab
theorem catT_succ {l:List Bytes} {i:Nat} {t:Bytes} (h:l[i]? =some t):catT (l.take (i+1))=catT (l.take i)++textT t:=by
 unfold catT
 rw[take_succ h]
 simp
theorem textT_len (t:Bytes):(textT t).length≤4005:=by
 unfold textT
 split
 ·simp
 ·have:=putN_len t.length
  rw[List.length_append]
  omega
theorem catT_len:∀l:List Bytes,(catT l).length≤4005*l.length
 |[]=>Nat.le_refl _
 |t::r=>by
  have h1:=catT_len r
  have h2:=textT_len t
  have e:catT (t::r)=textT t++catT r:=by simp[catT]
  rw[e,List.length_append,List.length_cons]
  omega
theorem rowE_long {l:List Bytes} (h:1000 < l.length):rowTE l=([],2):=by
 unfold rowTE
 rw[if_pos (.inl h)]
theorem rowE_big {l:List Bytes} {t:Bytes} (hm:t∈l) (h:4000 < t.length):rowTE l=([],2):=by
 unfold rowTE
 rw[if_pos (.inr ⟨t,hm,h⟩)]
theorem rowE_ok {l:List Bytes} (h1:l.length≤1000) (h2:∀t,t∈l→t.length≤4000):rowTE l=(rowT l,0):=by
 unfold rowTE
 rw[if_neg]
 rintro (h|⟨t,ht,h⟩)
 ·omega
 ·have:=h2 t ht
  omega
theorem all_of_lt {l:List Bytes} (h:∀(j:Nat) t,j < l.length→l[j]? =some t→t.length≤4000):∀t,t∈l→t.length≤4000:=by
 intro t ht
 obtain⟨j,hj⟩:=List.mem_iff_getElem?.1 ht
 exact h j t (List.getElem?_eq_some_iff.1 hj).1 hj
theorem rowO_none {s:Bytes} (h:getNum s=none):rowO s=none:=by
 unfold rowO
 rw[h]
theorem rowO_some {s r:Bytes} {n:Nat} (h:getNum s=some (n,r)):rowO s=if n≤1000 then getTs n r else none:=by
 unfold rowO
 rw[h]
def AtT (s:Bytes) (l:List Bytes) (q:Bytes):Prop:=∀k,getTs (l.length+k) s=(getTs k q).map fun p=>(l++p.1,p.2)
theorem atT_nil (s:Bytes):AtT s [] s:=fun k=>by
 show getTs (0+k) s=_
 rw[Nat.zero_add]
 cases getTs k s<;>rfl
theorem atT_next {s q r t:Bytes} {l:List Bytes} (h:AtT s l q) (e:textO q=some (t,r)):AtT s (l++[t]) r:=fun k=>by
 have h1:=h (k+1)
 rw[getTs_succ,e] at h1
 have e2:(l++[t]).length+k=l.length+(k+1):=by simp;omega
 rw[e2,h1]
 show Option.map _ (match getTs k r with
   |none=>none
   |some (l',q')=>some (t::l',q'))=_
 cases getTs k r<;>simp
theorem atT_stop {s q:Bytes} {l:List Bytes} {n:Nat} (h:AtT s l q) (e:textO q=none) (hk:l.length < n):getTs n s=none:=by
 have h1:=h (n - l.length - 1+1)
 rw[getTs_succ,e] at h1
 rw[show n=l.length+(n - l.length - 1+1) by omega]
 exact h1
theorem atT_end {s q:Bytes} {l:List Bytes} (h:AtT s l q):getTs l.length s=some (l,q):=by
 have h1:=h 0
 rw[Nat.add_zero] at h1
 rw[h1]
 simp[getTs]
theorem textO_lt {q r t:Bytes} (e:textO q=some (t,r)):r.length≤q.length:=by
 have h:=congrArg List.length (textO_inv e).2
 rw[List.length_append] at h
 omega
def grA:Option (List Bytes×Bytes)→AV
 |some (l,r)=>.tup [txA l .none,.str r,.bool true]
 |none=>.tup [txA [] .none,.str [],.bool false]
theorem closed_grA (x:Option (List Bytes×Bytes)):Closed (grA x):=by
 cases x with
 |none=>exact closed_tup (closed3 (closed_tx _ (.inl rfl)) closed_str closed_bool)
 |some p=>exact closed_tup (closed3 (closed_tx _ (.inl rfl)) closed_str closed_bool)
theorem sub_gr0 {k:Nat}:SubC k (.tup [.sl 0 [] .full,.str [],.bool false]) (grA none):=SubC.tup3 SubC.nil (SubC.of_closed closed_str) (SubC.of_closed closed_bool)
theorem tx_more1 (l:List Bytes) (x:Bytes) {i g:Nat}:AV.sl 1 ((l++[x]).map AV.str) (.tok i g)=.sl 1 (l.map AV.str++[.str x]) (.tok i g):=by simp
def nextTR (s:Bytes) (e:AEnd) (d:List AV):Prop:=match textO s with
 |none=>e=.ret (.tup [.str [],.str [],.bool false])∧d=[.str []]
 |some (t,r)=>e=.ret (.tup [.str t,.str r,.bool true])∧d=[.str r]
set_option maxRecDepth 100000 in
set_option maxHeartbeats 8000000 in
theorem ctexts_ok (s:Bytes):ACalls Tryd.prog 39 [.str s] ⟨0,[]⟩ (fun e N=>e=.ret (.fn (.func 61) [] [.ptr 0 0])∧N=⟨1,[(0,.cells [.str s])]⟩):=by
 refine acalls_of tabOK Tryd.func39 rfl (by decide) (by simp[Tryd.f39]) ?_
 repeat' (first|refine DW_box 1 tabOK rfl ?_|refine DW_A tabs rfl ?_|refine DW_nil ?_|refine W_A rfl ?_)
 exact⟨rfl,_,rfl,rfl,rfl⟩
set_option maxRecDepth 100000 in
set_option maxHeartbeats 8000000 in
theorem ctexts0 (s:Bytes) (hs:s.length < 4611686018427387904):ACalls Tryd.prog 61 [.ptr 0 0] ⟨1,[(0,.cells [.str s])]⟩ (fun e N=>N.next=1∧∃d,N.get 0=some (.cells d)∧nextTR s e d):=by
 refine acalls_of tabOK Tryd.func61 rfl (by decide) (by simp[Tryd.f61]) ?_
 have kt:=cgetText_ok s hs
 unfold nextTR
 cases ht:textO s with
 |none=>
  rw[ht] at kt
  repeat' (first|refine DW_A tabs rfl ?_|refine DW_nil ?_|refine W_A rfl ?_|refine DW_C rfl kt ?_|refine W_draw mixed [0,2,3,1,4,5] [.P,.R,.P,.P,.P,.P] rfl rfl (by kernel_rfl) ?_)
  exact⟨rfl,_,rfl,rfl,_,rfl,rfl,rfl⟩
 |some p=>
  obtain⟨t,r⟩:=p
  rw[ht] at kt
  repeat' (first|refine DW_A tabs rfl ?_|refine DW_nil ?_|refine W_A rfl ?_|refine DW_C rfl kt ?_|refine W_draw mixed [0,2,3,1,4,5] [.P,.R,.P,.P,.P,.P] rfl rfl (by kernel_rfl) ?_)
  exact⟨rfl,_,rfl,rfl,_,rfl,rfl,rfl⟩
theorem ctext1_ok {M:Mem} {id:Nat} {s:Bytes} (hM:M.get id=some (.cells [.str s])) (hlt:id < M.next) (hs:s.length < 4611686018427387904):
  ACalls Tryd.prog 61 [.ptr id 0] M fun e N=>∃d,nextTR s e d∧N=M.set id (.cells d):=by
 refine ACalls.frame1 id hM hlt (closed1 closed_str) (ctexts0 s hs) ⟨InV.ptr rfl,trivial⟩ ?_
 intro e d h
 refine⟨?_,?_,d,h,rfl⟩
 ·unfold nextTR at h
  split at h
  ·obtain⟨rfl,_⟩:=h
   exact closed_tup (closed3 closed_str closed_str closed_bool)
  ·obtain⟨rfl,_⟩:=h
   exact closed_tup (closed3 closed_str closed_str closed_bool)
 ·unfold nextTR at h
  split at h
  ·obtain⟨_,rfl⟩:=h
   exact closed1 closed_str
  ·obtain⟨_,rfl⟩:=h
   exact closed1 closed_str
theorem ctext_none {M:Mem} {id:Nat} {s:Bytes} (ht:textO s=none) (hM:M.get id=some (.cells [.str s])) (hlt:id < M.next) (hs:s.length < 4611686018427387904):
  ACalls Tryd.prog 61 [.ptr id 0] M fun e N=>e=.ret (.tup [.str [],.str [],.bool false])∧N=M.set id (.cells [.str []]):=by
 refine (ctext1_ok hM hlt hs).mono ?_
 rintro e N ⟨d,h,rfl⟩
 unfold nextTR at h
 rw[ht] at h
 obtain⟨rfl,rfl⟩:=h
 exact⟨rfl,rfl⟩
theorem ctext_some {M:Mem} {id:Nat} {s t r:Bytes} (ht:textO s=some (t,r)) (hM:M.get id=some (.cells [.str s])) (hlt:id < M.next) (hs:s.length < 4611686018427387904):
  ACalls Tryd.prog 61 [.ptr id 0] M fun e N=>e=.ret (.tup [.str t,.str r,.bool true])∧N=M.set id (.cells [.str r]):=by
 refine (ctext1_ok hM hlt hs).mono ?_
 rintro e N ⟨d,h,rfl⟩
 unfold nextTR at h
 rw[ht] at h
 obtain⟨rfl,rfl⟩:=h
 exact⟨rfl,rfl⟩
def grM (q:Bytes) (g:Nat):Mem:=⟨2,[(0,.cells [.str q]),(1,.spare g)]⟩
def grF (n:Nat) (l:List Bytes) (q:Bytes) (g i:Nat):AF:=⟨[(6,.str q),(8,txA l (.tok 1 g)),(9,.fn (.func 61) [] [.ptr 0 0]),(27,.int .i64 (n:Int)),(28,.int .i64 (i:Int))],[]⟩
set_option maxRecDepth 100000 in
set_option maxHeartbeats 8000000 in
theorem cGetRow_ok (s:Bytes) (hs:s.length < 1000000):APure Tryd.prog 21 [.str s] (grA (rowO s)):=by
 refine pure_sub (closed1 closed_str) (closed_grA _) ?_
 refine acalls_of tabOK Tryd.func21 rfl (by decide) (by simp[Tryd.f21]) ?_
 have kg:=getNumber_ok s (by omega)
 cases hg:getNum s with
 |none=>
  rw[hg] at kg
  rw[rowO_none hg]
  repeat' (first|refine DW_A tabs rfl ?_|refine DW_nil ?_|refine W_A rfl ?_|refine DW_C rfl kg ?_|refine DW_row tabOK rfl ?_|refine DW_app tabOK rfl rfl (by simp;omega) (by simp;omega) ?_|refine DW_app0 tabOK rfl (by simp;omega) (by simp;omega) ?_)
  exact⟨rfl,_,rfl,_,rfl,sub_gr0⟩
 |some p=>
  obtain⟨n,r⟩:=p
  rw[hg] at kg
  have lr:=(getNum_lt hg).1
  rw[rowO_some hg]
  by_cases h1:n≤1000
  ·have d1:decide ((1000:Int) < (n:Int))=false:=decide_eq_false (by omega)
   rw[if_pos h1]
   repeat' (first|refine DW_VB tabs rfl d1 ?_|refine DW_A tabs rfl ?_|refine DW_nil ?_|refine W_A rfl ?_|refine DW_C rfl kg ?_|refine DW_CM rfl rfl (ctexts_ok r) ?_ ?_|refine DW_row tabOK rfl ?_|refine DW_app tabOK rfl rfl (by simp;omega) (by simp;omega) ?_|refine DW_app0 tabOK rfl (by simp;omega) (by simp;omega) ?_)
   rotate_left
   ·intro u M' h
    cases h.1
   rintro u M' ⟨e,rfl⟩
   cases e
   repeat' (first|refine DW_A tabs rfl ?_|refine DW_nil ?_|refine W_A rfl ?_|refine DW_row tabOK rfl ?_|refine DW_app tabOK rfl rfl (by simp;omega) (by simp;omega) ?_|refine DW_app0 tabOK rfl (by simp;omega) (by simp;omega) ?_)
   refine W_count n (fun i f N=>∃l q g,l.length=i∧AtT r l q∧q.length≤r.length∧N=grM q g∧f=grF n l q g i) (Nat.zero_le _) ⟨[],r,0,rfl,atT_nil r,Nat.le_refl _,rfl,rfl⟩ ((Joint.tok 8 rfl (sz':=1) (.inr rfl)).trans (Joint.le ?_ (Mem.le_cons rfl (Mem.le_cons rfl (Mem.le_nil rfl))))) ?_
   ·unfold grF txA
    repeat (refine AF.le_cons rfl ?_)
    exact AF.le_nil rfl
   rintro i f N hi ⟨l,q,g,rfl,am,lq,rfl,rfl⟩
   unfold grF txA
   have lm:=len_map AV.str l
   by_cases g1:l.length < n
   ·have d2:decide ((l.length:Int) < (n:Int))=true:=decide_eq_true (by omega)
    have fi:=wrap_succ (i:=l.length) (by omega)
    cases ht:textO q with
    |none=>
     rw[atT_stop am ht g1]
     repeat' (first|refine DW_VB tabs rfl d2 ?_|refine DW_VI tabs rfl fi ?_|refine DW_A tabs rfl ?_|refine DW_nil ?_|refine W_A rfl ?_|refine DW_row tabOK rfl ?_|refine DW_app tabOK rfl rfl (by simp;omega) (by simp;omega) ?_|refine DW_app0 tabOK rfl (by simp;omega) (by simp;omega) ?_)
     refine DW_CM rfl rfl (ctext_none ht rfl (by show 0 < 2;decide) (by omega)) ?_ ?_
     rotate_left
     ·rintro u N ⟨h,_⟩
      cases h
     rintro u N ⟨h,rfl⟩
     cases h
     repeat' (first|refine DW_A tabs rfl ?_|refine DW_nil ?_|refine W_A rfl ?_|refine DW_row tabOK rfl ?_|refine DW_app tabOK rfl rfl (by simp;omega) (by simp;omega) ?_|refine DW_app0 tabOK rfl (by simp;omega) (by simp;omega) ?_)
     exact⟨rfl,_,rfl,_,rfl,sub_gr0⟩
    |some p=>
     obtain⟨t,q2⟩:=p
     have am2:=atT_next am ht
     have lr2:=textO_lt ht
     repeat' (first|refine DW_VB tabs rfl d2 ?_|refine DW_VI tabs rfl fi ?_|refine DW_A tabs rfl ?_|refine DW_nil ?_|refine W_A rfl ?_|refine DW_row tabOK rfl ?_|refine DW_app tabOK rfl rfl (by simp;omega) (by simp;omega) ?_|refine DW_app0 tabOK rfl (by simp;omega) (by simp;omega) ?_)
     refine DW_CM rfl rfl (ctext_some ht rfl (by show 0 < 2;decide) (by omega)) ?_ ?_
     rotate_left
     ·rintro u N ⟨h,_⟩
      cases h
     rintro u N ⟨h,rfl⟩
     cases h
     repeat' (first|refine DW_VB tabs rfl d2 ?_|refine DW_VI tabs rfl (by first|exact fi|exact lm) ?_|refine DW_A tabs rfl ?_|refine DW_nil ?_|refine W_A rfl ?_|refine DW_row tabOK rfl ?_|refine DW_app tabOK rfl rfl (by simp;omega) (by simp;omega) ?_|refine DW_app0 tabOK rfl (by simp;omega) (by simp;omega) ?_)
     refine⟨g1,grF n (l++[t]) q2 (g+1) (l.length+1),grM q2 (g+1),⟨l++[t],q2,g+1,by simp,am2,by omega,rfl,rfl⟩,Joint.le ?_ (Mem.le_cons rfl (Mem.le_cons rfl (Mem.le_nil rfl)))⟩
     unfold grF txA
     rw[tx_more1]
     repeat (refine AF.le_cons rfl ?_)
     exact AF.le_nil rfl
   ·have d2:decide ((l.length:Int) < (n:Int))=false:=decide_eq_false (by omega)
    obtain rfl:l.length=n:=by omega
    rw[atT_end am]
    have hc:=closed_tx l (t:=.none) (.inl rfl)
    unfold txA at hc
    repeat' (first|refine DW_VB tabs rfl d2 ?_|refine DW_A tabs rfl ?_|refine DW_nil ?_|refine W_A rfl ?_|refine DW_row tabOK rfl ?_|refine DW_app tabOK rfl rfl (by simp;omega) (by simp;omega) ?_|refine DW_app0 tabOK rfl (by simp;omega) (by simp;omega) ?_)
    exact⟨rfl,_,rfl,_,rfl,SubC.tup3 (SubC.untag hc) (SubC.of_closed closed_str) (SubC.of_closed closed_bool)⟩
  ·have d1:decide ((1000:Int) < (n:Int))=true:=decide_eq_true (by omega)
   rw[if_neg h1]
   repeat' (first|refine DW_VB tabs rfl d1 ?_|refine DW_A tabs rfl ?_|refine DW_nil ?_|refine W_A rfl ?_|refine DW_C rfl kg ?_|refine DW_row tabOK rfl ?_|refine DW_app tabOK rfl rfl (by simp;omega) (by simp;omega) ?_|refine DW_app0 tabOK rfl (by simp;omega) (by simp;omega) ?_)
   exact⟨rfl,_,rfl,_,rfl,sub_gr0⟩
theorem textT_ne {t:Bytes} (h:¬4000 < t.length):textT t≠[]:=by
 unfold textT
 rw[if_neg h]
 simp[putN]
set_option maxRecDepth 100000 in
set_option maxHeartbeats 8000000 in
theorem cRow_ok (l:List Bytes) (tg:Tag) (htg:tg=.none∨tg=.full) (hl:l.length < 1000000) (hs:∀t,t∈l→t.length < 1000000):APure Tryd.prog 20 [txA l tg] (.tup [.str (rowTE l).1,.int .i64 (rowTE l).2]):=by
 refine pure_sub (closed1 (closed_tx l htg)) (closed_tup (closed2 closed_str closed_int)) ?_
 refine acalls_of tabOK Tryd.func20 rfl (by decide) (by simp[Tryd.f20]) ?_
 have la:=len_map AV.str l
 unfold txA
 by_cases h1:1000 < l.length
 ·have d1:decide ((1000:Int) < (l.length:Int))=true:=decide_eq_true (by omega)
  rw[rowE_long h1]
  repeat' (first|refine DW_raw rfl lays169.v72 ?_|refine DW_VB tabs rfl d1 ?_|refine DW_VI tabs rfl la ?_|refine DW_A tabs rfl ?_|refine DW_nil ?_|refine W_A rfl ?_)
  exact⟨rfl,_,rfl,_,rfl,SubC.of_closed (closed_tup (closed2 closed_str closed_int))⟩
 ·have d1:decide ((1000:Int) < (l.length:Int))=false:=decide_eq_false (by omega)
  have kn:=number_nat (m:=l.length) (by omega)
  have lp:=putN_len l.length
  repeat' (first|refine DW_raw rfl lays169.v72 ?_|refine DW_VB tabs rfl d1 ?_|refine DW_VI tabs rfl la ?_|refine DW_A tabs rfl ?_|refine DW_nil ?_|refine W_A rfl ?_|refine DW_C rfl kn ?_)
  refine DW_CM rfl rfl (bWrite (k:=1) (by decide) (bs:=[]) (.inl ⟨rfl,rfl⟩) (by simp[putN]) (by simp;omega)) ?_ (fun u M' h=>by cases h.1)
  rintro u N' ⟨e,N2,hN2,hle⟩
  cases e
  repeat' (first|refine DW_raw rfl lays169.v72 ?_|refine DW_VI tabs rfl la ?_|refine DW_A tabs rfl ?_|refine DW_nil ?_|refine W_A rfl ?_)
  refine W_count l.length (fun i f N=>BldI 1 (putN l.length++catT (l.take i)) N∧(∀(j:Nat) t,j < i→l[j]? =some t→t.length≤4000)∧f=⟨[(4,.ptr 0 0),(6,.int .i64 0),(22,.sl 1 (l.map AV.str) tg),(23,.int .i64 (l.length:Int)),(24,.int .i64 (i:Int))],[]⟩) (Nat.zero_le _) ⟨by simpa [catT] using hN2,(fun j t hj=>absurd hj (Nat.not_lt_zero _)),rfl⟩ (Joint.le ?_ hle) ?_
  ·skip
   repeat (refine AF.le_cons rfl ?_)
   exact AF.le_nil rfl
  rintro i f N hi ⟨hN,hb,rfl⟩
  have a1:=putN_len l.length
  have a2:=catT_len (l.take i)
  rw[List.length_take] at a2
  by_cases g1:i < l.length
  ·have d2:decide ((i:Int) < (l.length:Int))=true:=by simp;omega
   have hy:l[i]? =some l[i]:=List.getElem?_eq_getElem g1
   have hm:=List.getElem_mem g1
   have fi:=wrap_succ (i:=i) (by omega)
   have hc:=catT_succ hy
   generalize l[i]=t at hy hm hc
   have kt:=ctext_ok t (hs t hm)
   by_cases h2:4000 < t.length
   ·rw[rowE_big hm h2]
    rw[if_pos h2] at kt
    repeat' (first|refine DW_raw rfl lays169.v72 ?_|refine DW_VB tabs rfl d2 ?_|refine DW_VI tabs rfl fi ?_|refine DW_A tabs rfl ?_|refine DW_nil ?_|refine W_A rfl ?_|refine DW_C rfl kt ?_|refine DW_ix tabOK rfl (ixN hy) ?_)
    exact⟨rfl,_,rfl,_,rfl,SubC.of_closed (closed_tup (closed2 closed_str closed_int))⟩
   ·rw[if_neg h2] at kt
    have a3:=textT_len t
    repeat' (first|refine DW_raw rfl lays169.v72 ?_|refine DW_VB tabs rfl d2 ?_|refine DW_VI tabs rfl fi ?_|refine DW_A tabs rfl ?_|refine DW_nil ?_|refine W_A rfl ?_|refine DW_C rfl kt ?_|refine DW_ix tabOK rfl (ixN hy) ?_)
    refine DW_CM rfl rfl (bWrite (by decide) hN (textT_ne h2) (by rw[List.length_append];omega)) ?_ (fun u M' h=>by cases h.1)
    rintro u N' ⟨e,N3,hN3,hle3⟩
    cases e
    repeat' (first|refine DW_raw rfl lays169.v72 ?_|refine DW_VI tabs rfl fi ?_|refine DW_A tabs rfl ?_|refine DW_nil ?_|refine W_A rfl ?_)
    refine⟨g1,_,_,⟨?_,?_,rfl⟩,Joint.le ?_ hle3⟩
    ·rw[hc,←List.append_assoc]
     exact hN3
    ·intro j u hj hu
     by_cases hji:j=i
     ·subst hji
      rw[hy] at hu
      cases hu
      omega
     ·exact hb j u (by omega) hu
    ·skip
     repeat (refine AF.le_cons rfl ?_)
     exact AF.le_nil rfl
  ·have d2:decide ((i:Int) < (l.length:Int))=false:=by simp;omega
   obtain rfl:i=l.length:=by omega
   rw[List.take_length] at hN a2
   rw[rowE_ok (by omega) (all_of_lt hb)]
   unfold rowT
   repeat' (first|refine DW_raw rfl lays169.v72 ?_|refine DW_VB tabs rfl d2 ?_|refine DW_A tabs rfl ?_|refine DW_nil ?_|refine W_A rfl ?_)
   refine DW_CM rfl rfl (bTell (by decide) hN (by simp[putN]) (by rw[List.length_append];omega)) ?_ (fun u M' h=>by cases h.1)
   rintro u N' ⟨e,hn⟩
   cases e
   repeat' (first|refine DW_raw rfl lays169.v72 ?_|refine DW_A tabs rfl ?_|refine DW_nil ?_|refine W_A rfl ?_)
   exact⟨rfl,_,rfl,_,rfl,SubC.of_closed (closed_tup (closed2 closed_str closed_int))⟩
end Go.Proofs.YtbcaejhhgkcgpaaDoor
namespace Go.Proofs.YtbcaejhhgkcgpaaDoor
open Go.Ab
theorem sl_from {α:Type} {f:α→AV} {l:List α} {n:Nat} (h:n≤l.length):(0:Int)≤(n:Int)∧(n:Int)≤((l.map f).length:Int)∧((l.map f).length:Int)≤((l.map f).length:Int)∧((l.map f).take ((l.map f).length:Int).toNat).drop (n:Int).toNat=(l.drop n).map f:=⟨by omega,by simp;omega,Int.le_refl _,by
 have:(l.map f).take ((l.map f).length:Int).toNat=l.map f:=List.take_of_length_le (by simp)
 rw[this]
 simp⟩
theorem insC_len:∀(l:List Ch) (c:Ch),(insC l c).length≤l.length+1
 |[],c=>Nat.le_refl _
 |d::r,c=>by
  unfold insC
  split
  ·have:=insC_len r c
   simp only[List.length_cons]
   omega
  ·split
   ·simp
   ·simp
theorem sortC_len (l:List Ch):(sortC l).length≤l.length:=by
 induction l using snoc_ind with
 |h0=>exact Nat.le_refl _
 |h1 l d ih=>
  rw[sortC_snoc]
  have:=insC_len (sortC l) d
  simp
  omega
theorem sortC_mem {l:List Ch} {c:Ch} (h:c∈sortC l):c∈l:=(lastC_path l ((mem_sortC l c).1 h)).2
def nmA (x:List Ch×Int):AV:=.tup [chA x.1 .none,.int .i64 x.2]
theorem closed_nmA (x:List Ch×Int):Closed (nmA x):=closed_tup (closed2 (closed_chs _ (.inl rfl)) closed_int)
theorem normC_even {l:List Ch} (h:∀c,c∈l→mayB c=true):normC l=if batchB (sortC l)=true then (sortC l,0) else ([],1):=by
 unfold normC
 rw[if_neg]
 intro k
 obtain⟨c,hc,k⟩:=List.any_eq_true.1 k
 rw[h c hc] at k
 cases k
theorem chsT_app (a b:List Ch):chsT (a++b)=chsT a++chsT b:=by simp[chsT]
theorem chsT_short {l:List Ch} (h:∀c,c∈l→mayB c=true):∀t,t∈chsT l→t.length≤4000:=by
 intro t ht
 obtain⟨c,hc,ht⟩:=List.mem_flatMap.1 ht
 obtain⟨_,h5,h6,_⟩:=bmay_parts (h c hc)
 simp only[chT,List.mem_cons,List.not_mem_nil,or_false] at ht
 rcases ht with rfl|rfl
 ·exact bpath_len h5
 ·have:=value_len (g:=c.gone) h6
  omega
theorem tx_app2b (l:List Bytes) (x y:Bytes) {i g:Nat}:AV.sl 1 ((l++[x,y]).map AV.str) (.tok i g)=.sl 1 (l.map AV.str++[.str x,.str y]) (.tok i g):=by simp
def pcA (x:Bytes×Int):AV:=.tup [.str x.1,.int .i64 x.2]
theorem closed_pcA (x:Bytes×Int):Closed (pcA x):=closed_tup (closed2 closed_str closed_int)
theorem putC_no {l:List Ch} (h:batchB l=false):putC l=([],1):=by
 unfold putC
 rw[if_neg (by simp[h])]
theorem putC_yes {l:List Ch} (h:batchB l=true):putC l=rowTE (chsT l):=by
 unfold putC
 rw[if_pos h]
end Go.Proofs.YtbcaejhhgkcgpaaDoor
namespace Go.Ab
open Go.RowKit
inductive View (k:Nat) (M:Mem):AV→AV→Prop where
 |sub (x y:AV) (h:∀(μ μ0:Mu) (F:Frm) (w:World) (v:Value),(∀b o,Free μ F b o→Free μ0 F b o)→Rep μ F w x v→Rep μ0 F w y v):View k M x y
 |agg (l l':List AV) (hl:l.length=l'.length) (h:∀(i:Nat) (x y:AV),l[i]? =some x→l'[i]? =some y→View k M x y):View k M (.agg l) (.agg l')
 |tup (l l':List AV) (hl:l.length=l'.length) (h:∀(i:Nat) (x y:AV),l[i]? =some x→l'[i]? =some y→View k M x y):View k M (.tup l) (.tup l')
 |osl (id n cap sz:Nat) (l xs:List AV) (hk:k≤id) (hM:M.get id=some (.cells l)) (hnc:n≤cap) (hn:xs.length=n) (hs:∀x,x∈xs→x.cells.length=sz) (hnl:n*sz≤l.length)
   (h:∀(p:Nat) (x y:AV),l[p]? =some x→(flat xs)[p]? =some y→View k M x y):View k M (.osl id 0 n cap sz) (.sl sz xs .none)
theorem View.rep {k:Nat} {M:Mem} {x y:AV} (h:View k M x y) {μ μ0:Mu} {F:Frm} {w:World} (hg:Gam μ F M w) (hown:∀b o,Own μ0 b o→Own μ b o) (hfree:∀id b o,k≤id→μ id=some (.at b)→¬Own μ0 b o):
  ∀{v:Value},Rep μ F w x v→Rep μ0 F w y v:=by
 induction h with
 |sub x y h=>exact fun hr=>h μ μ0 F w _ (fun b o hf=>⟨hf.1,fun ho=>hf.2 (hown b o ho)⟩) hr
 |agg l l' hl h ih=>
  intro v hr
  obtain⟨c,rfl,hs,h1,h2⟩:=hr.agg_inv
  refine .agg _ c (hs.trans hl) (fun i y u hy hu=>?_) h2
  have hi:i < l.length:=by rw[hl];exact (List.getElem?_eq_some_iff.1 hy).1
  exact ih i _ y (List.getElem?_eq_getElem hi) hy (h1 i _ u (List.getElem?_eq_getElem hi) hu)
 |tup l l' hl h ih=>
  intro v hr
  obtain⟨c,rfl,hs,h1⟩:=hr.tup_inv
  refine .tup _ c (hs.trans hl) (fun i y u hy hu=>?_)
  have hi:i < l.length:=by rw[hl];exact (List.getElem?_eq_some_iff.1 hy).1
  exact ih i _ y (List.getElem?_eq_getElem hi) hy (h1 i _ u (List.getElem?_eq_getElem hi) hu)
 |osl id n cap sz l xs hk hM hnc hn hs hnl h ih=>
  intro v hr
  obtain⟨b,c,ty,e1,e2,e3,e4,e5⟩:=hg.obj id l hM
  have hv:v=.slice (some ⟨b,0,none⟩) n cap:=by
   cases hr with
   |osl _ _ _ _ _ _ h1 h2 hv=>exact hv b e1
  subst hn
  rw[hv]
  refine rep_sl (b:=b) (o:=0) (vals:=fun p=>c.getD p undef) hs hnc (fun _=>rfl) (fun p y hy=>?_) trivial
  have hp:p < l.length:=by
   have h1:=(List.getElem?_eq_some_iff.1 hy).1
   rw[flat_length hs] at h1
   omega
  have hpc:p < c.size:=by omega
  have hx:l[p]? =some l[p]:=List.getElem?_eq_getElem hp
  have hu:c[p]? =some c[p]:=Array.getElem?_eq_getElem hpc
  have hd:c.getD p undef=c[p]:=by simp[Array.getD_eq_getD_getElem?,hu]
  simp only[hd]
  refine⟨e4 p _ hu,?_,⟨fun hF=>hg.frm b _ ⟨id,.inl e1⟩ hF,hfree id b _ hk e1⟩,ih p _ y hx hy (e5 p _ _ hx hu)⟩
  rw[cell_mk e2,Nat.zero_add]
  exact hu
theorem View.closed {k:Nat} {M:Mem} {x:AV} (h:Closed x):View k M x x:=.sub x x fun μ μ0 F w v hf hr=>h μ μ0 F F w v hf hr
theorem View.sl {k:Nat} {M:Mem} {sz:Nat} {xs:List AV} {t:Tag} (hl:∀x,x∈xs→Closed x) (hc:∀x,x∈xs→∀c,c∈x.cells→Closed c):View k M (.sl sz xs t) (.sl sz xs .none):=by
 refine .sub _ _ fun μ μ0 F w v hf hr=>?_
 have h1:Rep μ F w (.sl sz xs .none) v:=by
  obtain⟨A,cap,ad,vals,rfl,hsz,hcap,hA,hone,hcell,hrep,htag⟩:=hr.sl_inv
  exact .sl sz xs .none A cap ad vals hsz hcap hA hone hcell hrep trivial
 exact closed_sl (.inl rfl) hl hc μ μ0 F F w v hf h1
def Scal (x:AV):Prop:=∀(μ μ':Mu) (F F':Frm) (w w':World) (v:Value),Rep μ F w x v→Rep μ' F' w' x v
theorem scal_bool {b:Bool}:Scal (.bool b):=by intro μ μ' F F' w w' v h;cases h;exact .bool _
def deadMu (μ:Mu):Mu:=fun id=>if μ id=none then none else some .dead
theorem dead_own {μ:Mu} {b o:Nat}:¬Own (deadMu μ) b o:=by
 rintro⟨id,h|⟨e,g,h,_⟩⟩<;>·unfold deadMu at h;split at h<;>cases h
theorem gam_dead {μ:Mu} {F:Frm} {M:Mem} {w:World} (h:Gam μ F M w):Gam (deadMu μ) F ⟨M.next,[]⟩ w:=by
 refine⟨?_,?_,?_,?_,?_,?_,?_⟩
 ·intro id
  have:=h.dom id
  unfold deadMu
  by_cases e:μ id=none
  ·simp only[e,if_true]
   exact⟨fun k=>absurd rfl k,fun k=>absurd e (this.2 k)⟩
  ·simp only[e,if_false]
   exact⟨fun _=>this.1 e,fun _=>by simp⟩
 ·intro id l hl;cases hl
 ·intro id g hl;cases hl
 ·intro i j b hi hj
  exfalso
  rcases hi with hi|⟨e,g,hi⟩<;>·unfold deadMu at hi;split at hi<;>cases hi
 ·intro b o ho;exact absurd ho dead_own
 ·exact⟨fun b o ho=>absurd ho dead_own,h.fit.frm⟩
 ·intro id g o vs t hl;cases hl
theorem APure.borrow {P:Program} {g:FuncId} {args args':List AV} {r:AV} (h:APure P g args' r) (hr:Scal r) {M:Mem} (hl:args.length=args'.length) (hv:∀(i:Nat) (x y:AV),args[i]? =some x→args'[i]? =some y→View 0 M x y):
  ACalls P g args M fun e N=>e=.ret r∧N=M:=by
 have h0:=h ⟨M.next,[]⟩
 refine⟨h0.1,fun μ F w vs hg hvs=>?_⟩
 have hargs:RepL (deadMu μ) F w args' vs:=by
  refine⟨hvs.1.trans hl,fun i y u hy hu=>?_⟩
  have hi:i < args.length:=by rw[hl];exact (List.getElem?_eq_some_iff.1 hy).1
  exact (hv i _ y (List.getElem?_eq_getElem hi) hy).rep hg (fun b o ho=>absurd ho dead_own) (fun _ _ _ _ _=>dead_own) (hvs.2 i _ u (List.getElem?_eq_getElem hi) hu)
 refine (h0.2 (deadMu μ) F w vs (gam_dead hg) hargs).mono ?_
 rintro e w' ⟨μ',M',hev,hG,hpost⟩
 have hb:Below w.heap.size w w':=⟨hev.os,hev.tape,hev.output,hev.size,fun k hk=>hev.same k hk (fun o=>dead_own)⟩
 refine⟨μ,M,Evo.of_below μ hb,hg.below hb,?_⟩
 cases e with
 |returned v=>
  obtain⟨x,hx,hx2,_⟩:=hpost
  cases hx2
  exact⟨r,hr _ _ _ _ _ _ _ hx,rfl,rfl⟩
 |panicked ch=>
  obtain⟨x,v,_,_,hx2,_⟩:=hpost
  cases hx2
 |outgrown=>exact hpost.elim
def SubV (k:Nat) (M:Mem) (x y:AV):Prop:=SubC k x y∨View k M x y
def SubsV (k:Nat) (M:Mem) (f:AF):List (Nat×AV)→Prop
 |[]=>True
 |(i,x)::r=>SubV k M (f.get i) x∧SubsV k M f r
theorem SubV.rep {k:Nat} {M:Mem} {x y:AV} (h:SubV k M x y) {μ:Mu} {F:Frm} {w:World} (hg:Gam μ F M w) {v:Value} (hr:Rep μ F w x v):Rep (Go.Ab.cut μ k) F w y v:=by
 rcases h with h|h
 ·exact h μ F w v hr
 ·refine h.rep hg (fun b o ho=>cut_own ho) ?_ hr
  intro id b o hk hid ho
  obtain⟨j,hj⟩:=ho
  have hjk:j < k:=by
   rcases hj with hj|⟨e,g,hj,_⟩
   all_goals
    unfold Go.Ab.cut at hj
    split at hj
    ·assumption
    ·cases hj
  have hl:Lies μ j b:=cut_lies (by
   rcases hj with hj|⟨e,g,hj,_⟩
   ·exact .inl hj
   ·exact .inr ⟨e,g,hj⟩)
  have:=hg.inj j id b hl (.inl hid)
  omega
theorem subsV_get {k:Nat} {M:Mem} {f:AF}:∀{l:List (Nat×AV)} {d:List ADef},SubsV k M f l→∀t,SubV k M (f.get t) (AF.get ⟨l,d⟩ t)
 |[],d,_,t=>.inl SubC.top
 |(i,x)::r,d,h,t=>by
  by_cases e:t=i
  ·subst e
   have:AF.get ⟨(t,x)::r,d⟩ t=x:=by simp[AF.get,lookup]
   rw[this];exact h.1
  ·have:AF.get ⟨(i,x)::r,d⟩ t=AF.get ⟨r,d⟩ t:=by simp[AF.get,lookup,e]
   rw[this];exact subsV_get h.2 t
theorem Joint.cutV {n0:Nat} {f:AF} {M:Mem} {k:Nat} (hk:n0≤k) (hk2:k≤M.next) {t:List (Nat×AV)} {l:List (Nat×AObj)} (hd:f.d=[]) (ht:SubsV k M f t) (ho:ObjsC k M l):Joint n0 f M ⟨t,[]⟩ ⟨k,l⟩:=by
 intro μ0 μ F w0 w n a hn he hg hr
 refine⟨Go.Ab.cut μ k,evo_cut he (fun id h=>Nat.lt_of_lt_of_le (hn id h) hk),gam_cut hg hk2 ho,hr.size,fun i=>(subsV_get ht i).rep hg (hr.tmps i),?_,fun p hp=>by cases hp⟩
 have:=hr.defs
 rw[hd] at this
 show DefRep _ _ _ [] a.defers
 rw[defrep_nil this]
 trivial
theorem ACalls.cutV {P:Program} {g:FuncId} {args:List AV} {M:Mem} {r:AV} {l:List (Nat×AObj)} (h:ACalls P g args M fun e N=>∃x,e=.ret x∧View M.next N x r∧M.next≤N.next∧ObjsC M.next N l):
  ACalls P g args M fun e N=>e=.ret r∧N=⟨M.next,l⟩:=by
 refine h.joint ?_ ?_
 ·rintro x N ⟨y,e,hs,hn,ho⟩
  cases e
  exact⟨r,_,⟨rfl,rfl⟩,Joint.cutV (Nat.le_refl _) hn rfl ⟨.inr hs,trivial⟩ ho⟩
 ·rintro x N ⟨y,e,_⟩
  cases e
def All2 {α β:Type} (R:α→β→Prop):List α→List β→Prop
 |[],[]=>True
 |a::l,b::m=>R a b∧All2 R l m
 |_,_=>False
theorem All2.len {α β:Type} {R:α→β→Prop}:∀{l:List α} {m:List β},All2 R l m→l.length=m.length
 |[],[],_=>rfl
 |a::l,b::m,h=>by simp[All2.len h.2]
 |[],_::_,h=>h.elim
 |_::_,[],h=>h.elim
theorem All2.get {α β:Type} {R:α→β→Prop}:∀{l:List α} {m:List β},All2 R l m→∀{i:Nat} {a:α} {b:β},l[i]? =some a→m[i]? =some b→R a b
 |a::l,b::m,h,0,x,y,hx,hy=>by
  cases hx
  cases hy
  exact h.1
 |a::l,b::m,h,i+1,x,y,hx,hy=>All2.get h.2 (i:=i) (by simpa using hx) (by simpa using hy)
 |[],[],_,i,x,y,hx,_=>by simp at hx
 |[],_::_,h,_,_,_,_,_=>h.elim
 |_::_,[],h,_,_,_,_,_=>h.elim
theorem All2.mono {α β:Type} {R S:α→β→Prop} (k:∀a b,R a b→S a b):∀{l:List α} {m:List β},All2 R l m→All2 S l m
 |[],[],_=>trivial
 |a::l,b::m,h=>⟨k _ _ h.1,All2.mono k h.2⟩
 |[],_::_,h=>h.elim
 |_::_,[],h=>h.elim
theorem All2.perm {α β:Type} {R:α→β→Prop} {l l':List α} (hp:l.Perm l'):∀{m':List β},All2 R l' m'→∃m,m.Perm m'∧All2 R l m:=by
 induction hp with
 |nil=>
  intro m' h
  exact⟨m',List.Perm.refl _,h⟩
 |cons x hp ih=>
  intro m' h
  match m',h with
  |b::m',h=>
   obtain⟨m,h1,h2⟩:=ih h.2
   exact⟨b::m,h1.cons b,h.1,h2⟩
 |swap x y l=>
  intro m' h
  match m',h with
  |b::c::m',h=>exact⟨c::b::m',List.Perm.swap _ _ _,h.2.1,h.1,h.2.2⟩
 |trans h1 h2 ih1 ih2=>
  intro m' h
  obtain⟨m1,k1,k2⟩:=ih2 h
  obtain⟨m2,k3,k4⟩:=ih1 k2
  exact⟨m2,k3.trans k1,k4⟩
def ViewC (k:Nat) (M:Mem) (x y:AV):Prop:=x.cells.length=y.cells.length∧∀(j:Nat) (a b:AV),x.cells[j]? =some a→y.cells[j]? =some b→View k M a b
theorem flat_view {k:Nat} {M:Mem} {rest:List AV}:∀{xs ys:List AV},All2 (ViewC k M) xs ys→∀(p:Nat) (a b:AV),(flat xs++rest)[p]? =some a→(flat ys)[p]? =some b→View k M a b
 |[],[],_,p,a,b,_,hb=>by simp[flat] at hb
 |x::xs,y::ys,h,p,a,b,ha,hb=>by
  obtain⟨⟨h1,h2⟩,h3⟩:=h
  have e1:flat (x::xs)++rest=x.cells++(flat xs++rest):=by simp[flat]
  have e2:flat (y::ys)=y.cells++flat ys:=by simp[flat]
  rw[e1] at ha
  rw[e2] at hb
  by_cases hp:p < x.cells.length
  ·rw[List.getElem?_append_left hp] at ha
   rw[List.getElem?_append_left (by omega)] at hb
   exact h2 p a b ha hb
  ·rw[List.getElem?_append_right (by omega)] at ha hb
   rw[←h1] at hb
   exact flat_view h3 _ a b ha hb
 |[],_::_,h,_,_,_,_,_=>h.elim
 |_::_,[],h,_,_,_,_,_=>h.elim
theorem View.row {k:Nat} {M:Mem} {id cap sz:Nat} {l xs ys:List AV} (hk:k≤id) (hM:M.get id=some (.cells l)) (hx:l.take (xs.length*sz)=flat xs) (hs:∀x,x∈xs→x.cells.length=sz) (hnc:xs.length≤cap) (hnl:xs.length*sz≤l.length) (h:All2 (ViewC k M) xs ys):
  View k M (.osl id 0 xs.length cap sz) (.sl sz ys .none):=by
 have hl:=h.len
 have hys:∀y,y∈ys→y.cells.length=sz:=by
  intro y hy
  obtain⟨i,hi⟩:=List.mem_iff_getElem?.1 hy
  have hix:i < xs.length:=by rw[hl];exact (List.getElem?_eq_some_iff.1 hi).1
  have hx:=List.getElem?_eq_getElem hix
  rw[←(h.get hx hi).1]
  exact hs _ (List.getElem_mem hix)
 refine .osl id xs.length cap sz l ys hk hM hnc hl.symm hys hnl ?_
 intro p a b ha hb
 have e:l=flat xs++l.drop (xs.length*sz):=by rw[←hx,List.take_append_drop]
 rw[e] at ha
 exact flat_view h p a b ha hb
end Go.Ab
namespace Go.Ab
open Go.RowKit
theorem opG_nils {P:Program} {o:Oper} {ts yt e:TypeId} (ht:P.underlying ts=some (.slice e)) {x y:Operand} (ho:o.op=.binOp .eql ts x y yt) {ρ:Operand→AV} {M:Mem} {sz sz':Nat} {xs:List AV} {t:Tag} (hx:ρ x=.sl sz xs t) (hy:y=.const (.slice none 0 0)) {Kp:AV→Mem→Prop}:
  OpG P o ρ M (fun u M'=>∃b,u=.bool b∧(xs≠[]→b=false)∧M'=M) Kp:=by
 intro μ F w a hg hr next Q' g1 g2
 have r1:=hr x (by simp[ho,Op.operands])
 rw[hx] at r1
 obtain⟨A,cap,ad,vals,hv,_,_,hA,_⟩:=r1.sl_inv
 have e2:a.eval y=.slice none 0 0:=by rw[hy];rfl
 have hrun:(execOp a.eval o).run P w=.ok (.value (.bool A.isNone)) w:=by
  have:=Go.run_eql_slice_nil (P:=P) w ts e A xs.length cap ht
  simp[execOp,ho,hv,e2,eqGuard,this]
 unfold Oper.wp
 rw[hrun]
 refine g1 μ M w _ _ (Evo.refl w μ) hg (.bool _) ⟨_,rfl,fun hne=>?_,rfl⟩
 have:=(hA (List.length_pos_iff.2 hne)).1
 rw[this]
 rfl
theorem opP_app_none {P:Program} {τ:Tab} (hτ:TabOK P τ) {t tx e:TypeId} {ti ei xi:TI} (hin:AppIn P τ t e ti ei) (hxi:lookup τ tx=some xi) {s x:Operand} {ty:TypeId} {ρ:Operand→AV} {sz:Nat} {xs:List AV} {tg:Tag} (hS:ρ s=.sl sz xs tg)
  (hf:srcFits xi.k (ρ x)=true) (hX:srcOf ei.size (ρ x)=some []):OpP P (.call {callee:=.builtin .append,args:=#[s,x],argTypes:=#[t,tx]}) ty ρ (.sl sz xs tg):=by
 refine opP_of_same ?_
 intro μ F w ρc o ho hty hr
 have hs:=hr s (by simp[Op.operands,Call.operands])
 have hx:=hr x (by simp[Op.operands,Call.operands])
 rw[hS] at hs
 obtain⟨hsy,news,hsrc,hnew⟩:=src_of hτ hxi hf hX hx
 obtain⟨ft,dt,zt,HT⟩:=TI.spec hτ hin.tl
 obtain⟨fe,de,ze,HE⟩:=TI.spec hτ hin.el
 have hfi:=HT.fits
 rw[hin.tk] at hfi
 have hdd:dt=.slice e:=by
  cases dt<;>simp[TK.fits] at hfi
  rw[hfi]
 subst hdd
 obtain⟨A,cap,ad,vals,hv,_,hcap,_⟩:=hs.sl_inv
 have hn0:news=[]:=List.eq_nil_of_length_eq_zero (by have:=hsrc.newsLen;simpa using this)
 subst hn0
 refine⟨ρc s,?_,by rw[hv] at hs ⊢;exact hs⟩
 have hl:=hsrc.len w
 have hcell:=hsrc.cells
 have hsize:=HE.size
 simp only[List.length_nil] at hl hcell
 rw[←hsize] at hcell
 have hrun:(Builtin.append_ #[t,tx] o.type #[ρc s,ρc x]).run P w=.ok (ρc s) w:=by
  rw[hv]
  rcases hsrc.kind with ⟨e',hk⟩|hk<;>cases A<;>simp[Builtin.append_,run_underlying HT.und,run_underlying hk,sizeOf,typeInfo,HE.info,hl,hcap,hcell,storeCells]
 simp[execOp,ho,resolve,invoke,builtin,hrun]
theorem opR_entry {P:Program} {y:Operand} {ty:TypeId} {ρ:Operand→AV} {M:Mem} {it id j:Nat} {l:List (List UInt8×AV)} {seen:Array Nat} {k:List UInt8} {x:AV} (hy:ρ y=.ptr it 0) (hI:IsIter M it id l.length (seen.push j)) (hM:IsMap M id l) (hj:l[j]? =some (k,x)):
  OpR P (.entry y) ty ρ M (.tup [.str k,x]):=by
 obtain⟨ps,hps,hM⟩:=hM
 obtain⟨b,hI⟩:=hI
 intro μ F w ρc o hg ho hty hr
 have r1:=hr y (by simp[Op.operands])
 rw[hy] at r1
 obtain⟨b1,k1,k2,k3⟩:=hg.raw id _ _ _ _ hM
 have k1:μ id=some (.at b1):=k1
 obtain⟨b2,j1,j2,j3⟩:=hg.raw it _ _ _ _ hI
 have j1:μ it=some (.at b2):=j1
 have e1:=rep_ptr_inv r1 j1
 have hbb:b=b1:=by
  have:=rep_map_inv (j3 0) k1
  injection this with h
  injection h
 subst hbb
 have hlen:ps.length=l.length:=by
  have:=congrArg List.length hps
  simpa using this
 rw[hlen] at k2
 have hjl:j < l.length:=(List.getElem?_eq_some_iff.1 hj).1
 obtain⟨p,hp⟩:∃p,ps[j]? =some p:=⟨_,List.getElem?_eq_getElem (by omega)⟩
 have hkey:k=p.1:=by
  have:=congrArg (·[j]?) hps
  simp only[List.getElem?_map,hp,hj,Option.map_some,Option.some.injEq] at this
  exact this.symm
 have he:({key:=.string ⟨p.1.toArray⟩,val:=p.2,born:=j}:MapEntry)∈(entsF 0 ps).toArray.toList:=by
  refine List.mem_of_getElem? (i:=j) ?_
  show (entsF 0 ps)[j]? =_
  rw[entsF_get,hp,Nat.zero_add]
  rfl
 have hnd:((entsF 0 ps).toArray.toList.map (·.born)).Nodup:=by
  show ((entsF 0 ps).map (·.born)).Nodup
  rw[entsF_born]
  exact List.nodup_range'
 have hrun:=run_entry_at (P:=P) w b2 b l.length seen (entsF 0 ps).toArray l.length _ j2 k2 he hnd
 refine⟨.tuple #[.string ⟨p.1.toArray⟩,p.2],w,?_,Below.refl _ _,?_⟩
 ·simp[execOp,ho,e1,hrun]
 ·refine .tup _ _ rfl ?_
  have hv:=k3 j
  rw[lookup_enum0] at hv
  simp only[List.getElem?_map,hj,Option.map_some,Option.getD_some] at hv
  have hv2:(ps.map (·.2)).toArray.getD j undef=p.2:=by
   simp[Array.getD_eq_getD_getElem?,hp]
  rw[hv2] at hv
  intro i z v hz hv'
  match i,hz with
  |0,hz=>
   cases hz
   simp at hv'
   subst hv'
   rw[hkey]
   exact .str _
  |1,hz=>
   cases hz
   simp at hv'
   subst hv'
   exact hv
  |i+2,hz=>simp at hz
section
variable {P:Program} {τ:Tab} {ops:Array Oper} {cls:Nat→Cls} {Q:AX→AF→Mem→Prop} {ds:List ADef} {ls:List Nat} {i:Nat} {t:List (Nat×AV)} {M:Mem}
def stepNils (ops:Array Oper) (cls:Nat→Cls) (ds:List ADef) (i:Nat) (t:List (Nat×AV)):Option (Nat×TypeId×List AV):=
 match ops[i]? with
 |some o=>
  match wantedA ops ⟨t,ds⟩ o,o.dst,isE (cls i),o.op with
  |some true,some d,true,.binOp .eql ts x (.const (.slice none 0 0)) _=>(match AF.ev ⟨t,ds⟩ x with
   |.sl _ xs _=>some (d,ts,xs)
   |_=>none)
  |_,_,_,_=>none
 |none=>none
theorem DW_nils {d:Nat} {ts e:TypeId} {xs:List AV} (hs:stepNils ops cls ds i t=some (d,ts,xs)) (ht:P.underlying ts=some (.slice e)) (h:∀b:Bool,(xs≠[]→b=false)→DW P ops cls Q ds ls ((d,.bool b)::t) M):DW P ops cls Q ds (i::ls) t M:=by
 unfold stepNils at hs
 split at hs
 ·rename_i o hi
  split at hs
  ·rename_i d' ts' x yt hw hd hc ho
   split at hs
   ·rename_i sz xs' tg hx
    cases hs
    refine DW_run hi hw ?_
    refine SC.of_G hc (by intro c hc;rw[ho] at hc;cases hc) ?_
    refine OpG.mono (opG_nils ht ho (sz':=0) hx rfl) ?_
    rintro u M' ⟨b,rfl,hb,rfl⟩
    have:=h b hb
    simpa [AF.put,hd] using this
   ·cases hs
  ·cases hs
 ·cases hs
def stepEnt (ops:Array Oper) (cls:Nat→Cls) (ds:List ADef) (i:Nat) (t:List (Nat×AV)):Option (Nat×Nat):=
 match ops[i]? with
 |some o=>
  match wantedA ops ⟨t,ds⟩ o,o.dst,notP (cls i),o.op with
  |some true,some d,true,.entry y=>(match AF.ev ⟨t,ds⟩ y with
   |.ptr it 0=>some (d,it)
   |_=>none)
  |_,_,_,_=>none
 |none=>none
theorem DW_ment {d it id j:Nat} (hs:stepEnt ops cls ds i t=some (d,it)) {l:List (List UInt8×AV)} {seen:Array Nat} {k:List UInt8} {x:AV} (hI:IsIter M it id l.length (seen.push j)) (hM:IsMap M id l) (hj:l[j]? =some (k,x))
  (h:DW P ops cls Q ds ls ((d,.tup [.str k,x])::t) M):DW P ops cls Q ds (i::ls) t M:=by
 unfold stepEnt at hs
 split at hs
 ·rename_i o hi
  split at hs
  ·rename_i d' y hw hd hc ho
   split at hs
   ·rename_i it' hy
    cases hs
    exact DW_ofR hi hw hd hc (by rw[ho];exact opR_entry hy hI hM hj) h
   ·cases hs
  ·cases hs
 ·cases hs
theorem DW_appE (hτ:TabOK P τ) {d:Nat} {o:Oper} (hi:ops[i]? =some o) (hw:wantedA ops ⟨t,ds⟩ o=some true) (hd:o.dst=some d) {ty tx e:TypeId} {s x:Operand} (ho:o.op=.call {callee:=.builtin .append,args:=#[s,x],argTypes:=#[ty,tx]})
  {sz:Nat} {xs:List AV} {tg:Tag} (hS:AF.ev ⟨t,ds⟩ s=.sl sz xs tg) {ti ei xi:TI} (ht:lookup τ ty=some ti) (hk:ti.k=.slice e) (he:lookup τ e=some ei) (hp:decide (0 < ei.size)=true) (hxi:lookup τ tx=some xi) (hf:srcFits xi.k (AF.ev ⟨t,ds⟩ x)=true) (hX:srcOf ei.size (AF.ev ⟨t,ds⟩ x)=some [])
  (h:DW P ops cls Q ds ls ((d,.sl sz xs tg)::t) M):DW P ops cls Q ds (i::ls) t M:=
 DW_ofP hi hw hd (by rw[ho];exact opP_app_none hτ ⟨ht,hk,he,of_decide_eq_true hp⟩ hxi hS hf hX) h
end
end Go.Ab
namespace Go.Proofs.YtbcaejhhgkcgpaaDoor
open Go.Ab
def rowCA (r:List Ch×Bool):AV:=.sl 5 (r.1.map Ch.av) (tgB r.2)
theorem closed_rowC (r:List Ch×Bool):Closed (rowCA r):=by
 obtain⟨l,b⟩:=r
 cases b
 ·exact closed_chs l (.inl rfl)
 ·exact closed_chs l (.inr rfl)
theorem closed_rowsC (rows:List (List Ch×Bool)) (b:Bool):Closed (.sl 1 (rows.map rowCA) (tgB b)):=by
 have h1:∀x,x∈rows.map rowCA→Closed x:=by
  intro x hx
  obtain⟨a,_,rfl⟩:=List.mem_map.1 hx
  exact closed_rowC a
 have h2:∀x,x∈rows.map rowCA→∀c,c∈x.cells→Closed c:=by
  intro x hx c hc
  obtain⟨a,_,rfl⟩:=List.mem_map.1 hx
  have:c=rowCA a:=by simpa [rowCA,AV.cells] using hc
  exact this ▸ closed_rowC a
 cases b
 ·exact closed_sl (.inl rfl) h1 h2
 ·exact closed_sl (.inr rfl) h1 h2
def flatRC (rows:List (List Ch×Bool)):List Ch:=(rows.map (·.1)).flatten
theorem flatRC_succ {rows:List (List Ch×Bool)} {i:Nat} {r:List Ch×Bool} (h:rows[i]? =some r):flatRC (rows.take (i+1))=flatRC (rows.take i)++r.1:=by
 unfold flatRC
 rw[take_succ h]
 simp
def flC (l:List Ch):List AV:=flat (l.map Ch.av)
theorem chs_five (l:List Ch):∀x,x∈l.map Ch.av→x.cells.length=5:=by
 intro x hx
 obtain⟨a,_,rfl⟩:=List.mem_map.1 hx
 rfl
theorem flC_len (l:List Ch):(flC l).length=l.length*5:=by
 unfold flC
 rw[flat_length (chs_five l)]
 simp
theorem flC_app (a b:List Ch):flC (a++b)=flC a++flC b:=by simp[flC,flat]
theorem flC_closed (l:List Ch):∀x,x∈flC l→Closed x:=by
 intro x hx
 unfold flC flat at hx
 obtain⟨y,hy,hx⟩:=List.mem_flatMap.1 hx
 exact chs_cells l y hy x hx
theorem flatRCL_le (rows:List (List Ch×Bool)) (i:Nat):(flatRC (rows.take i)).length≤(flatRC rows).length:=by
 unfold flatRC
 have:rows=rows.take i++rows.drop i:=(List.take_append_drop i rows).symm
 conv=>rhs;rw[this]
 rw[List.map_append,List.flatten_append,List.length_append]
 omega
def catFC (rows:List (List Ch×Bool)) (b:Bool) (i:Nat) (x:AV):List (Nat×AV):=[(6,x),(25,.sl 1 (rows.map rowCA) (tgB b)),(26,.int .i64 (rows.length:Int)),(27,.int .i64 (i:Int))]
theorem catC_K {k id:Nat} {rows:List (List Ch×Bool)} {b:Bool} {i:Nat} {x:AV} {f:AF} (h6:SubK k id (f.get 6) x) (h25:f.get 25=.sl 1 (rows.map rowCA) (tgB b)) (h26:f.get 26=.int .i64 (rows.length:Int)) (h27:f.get 27=.int .i64 (i:Int)):SubsK k id f (catFC rows b i x):=by
 refine⟨h6,?_,?_,?_,trivial⟩
 ·rw[h25];exact SubK.of_closed (closed_rowsC rows b)
 ·rw[h26];exact SubK.of_closed closed_int
 ·rw[h27];exact SubK.of_closed closed_int
theorem catC_next {A B:List Ch} {cap':Nat} {cells l':List AV} (hc:cells.take (A.length*5)=flC A) (g1:A.length+(B.map Ch.av).length≤cap') (g2:l'.length=cap'*5)
  (g3:l'.take ((A.length+(B.map Ch.av).length)*5)=cells.take (A.length*5)++flat (B.map Ch.av)):
  l'.take (flC (A++B)).length=flC (A++B)∧l'.length=cap'*5∧(flC (A++B)).length≤cap'*5:=by
 rw[List.length_map] at g1 g3
 rw[hc] at g3
 refine⟨?_,g2,?_⟩
 ·rw[flC_len,List.length_append,flC_app]
  exact g3
 ·rw[flC_len,List.length_append]
  omega
set_option maxRecDepth 100000 in
theorem growC_ok (n:Nat) (h0:0 < n) (h1:n < 1000000) (M:Mem):ACalls Tryd.prog 44 [.sl 0 [] .full,.int .i64 (n:Int)] M (fun e M'=>∃(cap:Nat) (l':List AV),n≤cap∧l'.length=cap*5∧e=.ret (.osl M.next 0 0 cap 5)∧M'=M.push (.cells l')):=by
 refine acalls_of tabOK Tryd.func44 rfl (by decide) (by simp[Tryd.f44]) ?_
 have d1:decide ((n:Int) < 0)=false:=by simp
 have w0:IntKind.wrap .i64 ((n:Int) - 0)=(n:Int):=(Go.Ab.wrap_small (by omega) (by omega)).trans (by omega)
 have d2:decide ((0:Int) < (n:Int))=true:=by simp;omega
 repeat' (first|refine DW_VB tabs rfl d1 ?_|refine DW_A tabs rfl ?_|refine DW_nil ?_|refine W_A rfl ?_|refine DW_app tabOK rfl rfl (by simp;omega) (by simp;omega) ?_|refine DW_app0 tabOK rfl (by simp;omega) (by simp;omega) ?_)
 refine DW_cap tabOK rfl rfl rfl rfl rfl rfl rfl ?_
 repeat' (first|refine DW_VB tabs rfl d2 ?_|refine DW_VI tabs rfl w0 ?_|refine DW_A tabs rfl ?_|refine DW_nil ?_|refine W_A rfl ?_|refine DW_app tabOK rfl rfl (by simp;omega) (by simp;omega) ?_|refine DW_app0 tabOK rfl (by simp;omega) (by simp;omega) ?_)
 refine DW_cap tabOK rfl rfl rfl rfl rfl rfl rfl ?_
 repeat' (first|refine DW_A tabs rfl ?_|refine DW_nil ?_|refine W_A rfl ?_|refine DW_app tabOK rfl rfl (by simp;omega) (by simp;omega) ?_|refine DW_app0 tabOK rfl (by simp;omega) (by simp;omega) ?_)
 refine DW_slice00 tabOK rfl rfl rfl rfl rfl rfl rfl rfl rfl ?_
 repeat' (first|refine DW_A tabs rfl ?_|refine DW_nil ?_|refine W_A rfl ?_|refine DW_app tabOK rfl rfl (by simp;omega) (by simp;omega) ?_|refine DW_app0 tabOK rfl (by simp;omega) (by simp;omega) ?_)
 refine DW_zapp tabOK rfl rfl rfl rfl rfl (n:=n) rfl rfl rfl rfl rfl rfl rfl rfl h0 (by simp;omega) (by omega) ?_
 intro cap' l' g1 g2
 repeat' (first|refine DW_A tabs rfl ?_|refine DW_nil ?_|refine W_A rfl ?_|refine DW_app tabOK rfl rfl (by simp;omega) (by simp;omega) ?_|refine DW_app0 tabOK rfl (by simp;omega) (by simp;omega) ?_)
 refine DW_oslice tabOK rfl rfl rfl rfl rfl (l:=l') rfl (by rw[Mem.get_push,if_pos rfl]) rfl rfl rfl rfl (by omega) (by simp) g1 ?_
 repeat' (first|refine DW_A tabs rfl ?_|refine DW_nil ?_|refine W_A rfl ?_|refine DW_app tabOK rfl rfl (by simp;omega) (by simp;omega) ?_|refine DW_app0 tabOK rfl (by simp;omega) (by simp;omega) ?_)
 exact⟨rfl,_,rfl,cap',l',g1,g2,rfl,rfl⟩
set_option maxRecDepth 100000 in
theorem concatC_ok (rows:List (List Ch×Bool)) (b:Bool) (hr:rows.length < 1000) (h0:0 < (flatRC rows).length) (h1:(flatRC rows).length < 100000):APure Tryd.prog 26 [.sl 1 (rows.map rowCA) (tgB b)] (.sl 5 ((flatRC rows).map Ch.av) .none):=by
 refine pure_sub (closed1 (closed_rowsC rows b)) (closed_chs _ (.inl rfl)) ?_
 refine acalls_of tabOK Tryd.func26 rfl (by decide) (by simp[Tryd.f26]) ?_
 have la:((rows.map rowCA).length:Int)=(rows.length:Int):=by simp
 repeat' (first|refine DW_VI tabs rfl la ?_|refine DW_A tabs rfl ?_|refine DW_nil ?_|refine W_A rfl ?_|refine DW_app tabOK rfl rfl (by simp;omega) (by simp;omega) ?_|refine DW_app0 tabOK rfl (by simp;omega) (by simp;omega) ?_)
 refine W_count rows.length (fun i f N=>N=⟨0,[]⟩∧f=⟨[(0,.sl 1 (rows.map rowCA) (tgB b)),(3,.int .i64 ((flatRC (rows.take i)).length:Int)),(9,.sl 1 (rows.map rowCA) (tgB b)),(10,.int .i64 (rows.length:Int)),(11,.int .i64 (i:Int))],[]⟩) (Nat.zero_le _) ⟨rfl,rfl⟩ (Joint.le ?_ (Mem.le_refl _)) ?_
 ·skip
  repeat (refine AF.le_cons rfl ?_)
  exact AF.le_nil rfl
 ·rintro i f N hi ⟨rfl,rfl⟩
  by_cases hi1:i < rows.length
  ·have d1:decide ((i:Int) < (rows.length:Int))=true:=by simp;omega
   have hx:rows[i]? =some rows[i]:=List.getElem?_eq_getElem hi1
   have fi:=wrap_succ (i:=i) (by omega)
   have hs:=flatRC_succ hx
   have hle:=flatRCL_le rows (i+1)
   generalize rows[i]=r at hx hs
   rw[hs,List.length_append] at hle
   have lr:((r.1.map Ch.av).length:Int)=(r.1.length:Int):=by simp
   have w1:IntKind.wrap .i64 (((flatRC (rows.take i)).length:Int)+(r.1.length:Int))=((flatRC (rows.take (i+1))).length:Int):=by
    rw[hs,List.length_append]
    exact (Go.Ab.wrap_small (by omega) (by omega)).trans (by omega)
   have d2:decide (((flatRC (rows.take (i+1))).length:Int) < 0)=false:=by simp
   repeat' (first|refine DW_VB tabs rfl d1 ?_|refine DW_VI tabs rfl (by first|exact fi|exact la) ?_|refine DW_A tabs rfl ?_|refine DW_nil ?_|refine W_A rfl ?_|refine DW_app tabOK rfl rfl (by simp;omega) (by simp;omega) ?_|refine DW_app0 tabOK rfl (by simp;omega) (by simp;omega) ?_)
   refine DW_ix tabOK rfl (ixN hx) ?_
   repeat' (first|refine DW_VB tabs rfl d2 ?_|refine DW_VI tabs rfl (by first|exact fi|exact la|exact lr|exact w1) ?_|refine DW_A tabs rfl ?_|refine DW_nil ?_|refine W_A rfl ?_|refine DW_app tabOK rfl rfl (by simp;omega) (by simp;omega) ?_|refine DW_app0 tabOK rfl (by simp;omega) (by simp;omega) ?_)
   refine⟨hi1,_,_,⟨rfl,rfl⟩,Joint.le ?_ (Mem.le_refl _)⟩
   repeat (refine AF.le_cons rfl ?_)
   exact AF.le_nil rfl
  ·have d1:decide ((i:Int) < (rows.length:Int))=false:=by simp;omega
   obtain rfl:i=rows.length:=by omega
   rw[List.take_length]
   repeat' (first|refine DW_VB tabs rfl d1 ?_|refine DW_A tabs rfl ?_|refine DW_nil ?_|refine W_A rfl ?_|refine DW_app tabOK rfl rfl (by simp;omega) (by simp;omega) ?_|refine DW_app0 tabOK rfl (by simp;omega) (by simp;omega) ?_)
   refine DW_call rfl rfl rfl rfl rfl rfl (growC_ok (flatRC rows).length h0 (by omega) ⟨0,[]⟩) ?_ (fun u M' ⟨_,_,_,_,e,_⟩=>by cases e)
   rintro u M' ⟨cap,l',g1,g2,g3,rfl⟩
   cases g3
   repeat' (first|refine DW_VI tabs rfl la ?_|refine DW_A tabs rfl ?_|refine DW_nil ?_|refine W_A rfl ?_|refine DW_app tabOK rfl rfl (by simp;omega) (by simp;omega) ?_|refine DW_app0 tabOK rfl (by simp;omega) (by simp;omega) ?_)
   refine W_count rows.length (fun i f N=>∃(cap:Nat) (cells:List AV) (id:Nat),id≤1∧(flatRC (rows.take i)).length≤cap∧cells.take ((flatRC (rows.take i)).length*5)=flC (flatRC (rows.take i))∧cells.length=cap*5∧N=⟨id+1,[(id,.cells cells)]⟩∧f=⟨catFC rows b i (.osl id 0 (flatRC (rows.take i)).length cap 5),[]⟩) (Nat.zero_le _) ⟨cap,l',0,Nat.zero_le 1,Nat.zero_le _,rfl,g2,rfl,rfl⟩ (Joint.le ?_ (Mem.le_refl _)) ?_
   ·unfold catFC
    repeat (refine AF.le_cons rfl ?_)
    exact AF.le_nil rfl
   ·rintro i f N hi ⟨cap,cells,id,hid,hcap,hce,hcl,rfl,rfl⟩
    have hle0:=flatRCL_le rows i
    unfold catFC
    by_cases hi1:i < rows.length
    ·have d1:decide ((i:Int) < (rows.length:Int))=true:=by simp;omega
     have hx:rows[i]? =some rows[i]:=List.getElem?_eq_getElem hi1
     have fi:=wrap_succ (i:=i) (by omega)
     have hs:=flatRC_succ hx
     have hle:=flatRCL_le rows (i+1)
     generalize rows[i]=r at hx hs
     rw[hs,List.length_append] at hle
     generalize flatRC (rows.take i)=A at hs hle hle0 hce hcap
     have hl:(A++r.1).length=A.length+(r.1.map Ch.av).length:=by simp
     have hid2:id=0∨id=1:=by omega
     rcases hid2 with rfl|rfl
     ·repeat' (first|refine DW_VB tabs rfl d1 ?_|refine DW_VI tabs rfl (by first|exact fi|exact la) ?_|refine DW_A tabs rfl ?_|refine DW_nil ?_|refine W_A rfl ?_|refine DW_app tabOK rfl rfl (by simp;omega) (by simp;omega) ?_|refine DW_app0 tabOK rfl (by simp;omega) (by simp;omega) ?_)
      refine DW_ix tabOK rfl (ixN hx) ?_
      repeat' (first|refine DW_VI tabs rfl (by first|exact fi|exact la) ?_|refine DW_A tabs rfl ?_|refine DW_nil ?_|refine W_A rfl ?_|refine DW_app tabOK rfl rfl (by simp;omega) (by simp;omega) ?_|refine DW_app0 tabOK rfl (by simp;omega) (by simp;omega) ?_)
      refine DW_oapp tabOK rfl rfl rfl rfl rfl (l:=cells) rfl rfl rfl rfl rfl rfl rfl rfl rfl rfl (by omega) (by omega) (by simp;omega) (by simp;omega) ?_
      intro cap' l' g1 g2 g3
      repeat' (first|refine DW_VI tabs rfl (by first|exact la|exact fi) ?_|refine DW_A tabs rfl ?_|refine DW_nil ?_|refine W_A rfl ?_|refine DW_app tabOK rfl rfl (by simp;omega) (by simp;omega) ?_|refine DW_app0 tabOK rfl (by simp;omega) (by simp;omega) ?_)
      obtain⟨k1,k2,k3⟩:=catC_next hce g1 g2 g3
      have hg:=rowG_all (k:=1) (id:=1) k1 k2 k3 (flC_closed _)
      refine⟨hi1,_,_,⟨cap',rowG (flC (A++r.1)) (cap'*5),1,Nat.le_refl 1,?_,?_,?_,rfl,rfl⟩,Joint.move (k:=1) (id:=1) (Nat.le_refl 1) (Nat.le_refl 1) rfl hg.1 hg.2 trivial ?_ trivial⟩
      ·rw[hs];rw[flC_len] at k3;omega
      ·rw[hs];have:=rowG_take (flC (A++r.1)) (cap'*5);rw[flC_len] at this;exact this
      ·exact rowG_len k3
      ·rw[hs,hl]
       exact catC_K SubK.osl rfl rfl rfl
     ·repeat' (first|refine DW_VB tabs rfl d1 ?_|refine DW_VI tabs rfl (by first|exact fi|exact la) ?_|refine DW_A tabs rfl ?_|refine DW_nil ?_|refine W_A rfl ?_|refine DW_app tabOK rfl rfl (by simp;omega) (by simp;omega) ?_|refine DW_app0 tabOK rfl (by simp;omega) (by simp;omega) ?_)
      refine DW_ix tabOK rfl (ixN hx) ?_
      repeat' (first|refine DW_VI tabs rfl (by first|exact fi|exact la) ?_|refine DW_A tabs rfl ?_|refine DW_nil ?_|refine W_A rfl ?_|refine DW_app tabOK rfl rfl (by simp;omega) (by simp;omega) ?_|refine DW_app0 tabOK rfl (by simp;omega) (by simp;omega) ?_)
      refine DW_oapp tabOK rfl rfl rfl rfl rfl (l:=cells) rfl rfl rfl rfl rfl rfl rfl rfl rfl rfl (by omega) (by omega) (by simp;omega) (by simp;omega) ?_
      intro cap' l' g1 g2 g3
      repeat' (first|refine DW_VI tabs rfl (by first|exact la|exact fi) ?_|refine DW_A tabs rfl ?_|refine DW_nil ?_|refine W_A rfl ?_|refine DW_app tabOK rfl rfl (by simp;omega) (by simp;omega) ?_|refine DW_app0 tabOK rfl (by simp;omega) (by simp;omega) ?_)
      obtain⟨k1,k2,k3⟩:=catC_next hce g1 g2 g3
      have hg:=rowG_all (k:=1) (id:=2) k1 k2 k3 (flC_closed _)
      refine⟨hi1,_,_,⟨cap',rowG (flC (A++r.1)) (cap'*5),1,Nat.le_refl 1,?_,?_,?_,rfl,rfl⟩,Joint.move (k:=1) (id:=2) (Nat.le_refl 1) (by omega) rfl hg.1 hg.2 trivial ?_ trivial⟩
      ·rw[hs];rw[flC_len] at k3;omega
      ·rw[hs];have:=rowG_take (flC (A++r.1)) (cap'*5);rw[flC_len] at this;exact this
      ·exact rowG_len k3
      ·rw[hs,hl]
       exact catC_K SubK.osl rfl rfl rfl
    ·have d1:decide ((i:Int) < (rows.length:Int))=false:=by simp;omega
     obtain rfl:i=rows.length:=by omega
     rw[List.take_length] at hce hcap
     rw[List.take_length]
     have hid2:id=0∨id=1:=by omega
     rcases hid2 with rfl|rfl
     ·refine W_ghost (Joint.freezeS 6 (xs:=(flatRC rows).map Ch.av) rfl rfl hce (by simp) (by omega) hcap (chs_five _)) ?_
      repeat' (first|refine DW_VB tabs rfl d1 ?_|refine DW_A tabs rfl ?_|refine DW_nil ?_|refine W_A rfl ?_|refine DW_app tabOK rfl rfl (by simp;omega) (by simp;omega) ?_|refine DW_app0 tabOK rfl (by simp;omega) (by simp;omega) ?_)
      exact⟨rfl,_,rfl,_,rfl,SubC.of_closed (closed_chs _ (.inl rfl))⟩
     ·refine W_ghost (Joint.freezeS 6 (xs:=(flatRC rows).map Ch.av) rfl rfl hce (by simp) (by omega) hcap (chs_five _)) ?_
      repeat' (first|refine DW_VB tabs rfl d1 ?_|refine DW_A tabs rfl ?_|refine DW_nil ?_|refine W_A rfl ?_|refine DW_app tabOK rfl rfl (by simp;omega) (by simp;omega) ?_|refine DW_app0 tabOK rfl (by simp;omega) (by simp;omega) ?_)
      exact⟨rfl,_,rfl,_,rfl,SubC.of_closed (closed_chs _ (.inl rfl))⟩
end Go.Proofs.YtbcaejhhgkcgpaaDoor
