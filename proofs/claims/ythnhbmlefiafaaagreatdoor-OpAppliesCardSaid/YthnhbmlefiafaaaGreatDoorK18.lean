/- Parts of the proof, one behind the other. No further condition. -/
import Derived.Test.YthnhbmlefiafaaaGreatDoorK17
set_option linter.unusedVariables false
set_option linter.unusedSimpArgs false
set_option maxRecDepth 100000
set_option maxHeartbeats 8000000
namespace Go.Proofs.YthnhbmlefiafaaaGreatDoor
open Go.Ab
theorem RZ (h:Nat) (x:Vt h) (hx:lE h x) (k:Ky):aN Tryz.prog 297 [dW h x,.ref [.str k.path,.int .i64 k.time]] (.bool (bG k (cY h x))):=by
 have hk:=vT h x (fun _=>FR h x hx) (fun _=>hx)
 rw[i4]
 intro M
 refine aC aF Tryz.func297 rfl (by decide) (by simp[Tryz.f297]) ?_
 have my:=NX h
 have kl:=EB k (cY h x)
 rw[G8] at kl
 generalize cY h x=q at hk kl
 repeat' (first|refine zA rfl ?_|refine aA ?_|refine aJ rfl ?_|refine aO mixed [1,2,0,3,4] [.R,.P,.P,.P,.P] rfl rfl (by kernel_rfl) ?_)
 refine dC rfl rfl rfl rfl rfl my hk ?_
 repeat' (first|refine zA rfl ?_|refine aA ?_|refine aJ rfl ?_|refine aD rfl kl ?_)
 exact⟨rfl,_,rfl,rfl,rfl⟩
theorem t8 (h:Nat) (l:List (Vt h)) (n:Int) (hl:l.length < 100000) (hv:∀v,v∈l→lE h v) (k:Ky):aN Tryz.prog 294 [.agg [.sl 1 (l.map (dW h)) .none,.int .i64 n],k.av] (.int .i64 (bK l k:Int)):=by
 intro M
 refine aC aF Tryz.func294 rfl (by decide) (by simp[Tryz.f294]) ?_
 have kf:=RJ h l .none (by omega) 297 [] [.ref [.str k.path,.int .i64 k.time]] (fun v=>bG k (cY h v)) (fun x hx=>RZ h x (hv x hx) k)
 have la:((l.map (dW h)).length:Int)=(l.length:Int):=by simp
 unfold oQ at kf
 unfold bK
 have hle:(l.findIdx fun v=>bG k (cY h v))≤l.length:=List.findIdx_le_length
 generalize (l.findIdx fun v=>bG k (cY h v))=j at kf hle
 have hmax:(if true=true then (if (j:Int) - 1 < 0 then 0 else (j:Int) - 1) else if 0 < (j:Int) - 1 then 0 else (j:Int) - 1)=((j - 1:Nat):Int):=by
  rw[if_pos rfl]
  split<;>omega
 have w1:IntKind.wrap .i64 ((j:Int) - 1)=(j:Int) - 1:=Go.Ab.wrap_small (by omega) (by omega)
 by_cases h1:j < l.length
 ·rw[if_pos h1] at kf
  have d1:decide ((j:Int) < 0)=false:=by simp
  repeat' (first|refine zB rfl d1 ?_|refine zI rfl (by first|exact la|exact w1|exact hmax) ?_|refine zA rfl ?_|refine aA ?_|refine aJ rfl ?_|refine aD rfl kf ?_)
  exact⟨rfl,_,rfl,rfl,rfl⟩
 ·rw[if_neg h1] at kf
  obtain rfl:j=l.length:=by omega
  repeat' (first|refine zI rfl (by first|exact la|exact w1|exact hmax) ?_|refine zA rfl ?_|refine aA ?_|refine aJ rfl ?_|refine aD rfl kf ?_)
  exact⟨rfl,_,rfl,rfl,rfl⟩
theorem xN (h:Nat) (l:List (Vt h)) (n:Int) (hl:l.length < 10000) (i many:Nat) (him:i+many≤l.length) (m:List (Vt h)) (hm:m.length < 10000) (h0:0 < (eD l i many m).length):aN Tryz.prog 295 [.agg [.sl 1 (l.map (dW h)) .none,.int .i64 n],.int .i64 (i:Int),.int .i64 (many:Int),.sl 1 (m.map (dW h)) .none] (.sl 1 ((eD l i many m).map (dW h)) .none):=by
 intro M
 refine aC aF Tryz.func295 rfl (by decide) (by simp[Tryz.f295]) ?_
 have e:fK [(l.take i,false),(m,false),(l.drop (i+many),false)]=eD l i many m:=by simp[fK,eD]
 have hlen:(eD l i many m).length≤l.length+m.length:=by unfold eD;simp;omega
 have kc:=yN h [(l.take i,false),(m,false),(l.drop (i+many),false)] true (by simp) (by rw[e];exact h0) (by rw[e];omega)
 rw[e] at kc
 have w1:IntKind.wrap .i64 ((i:Int)+(many:Int))=((i+many:Nat):Int):=(Go.Ab.wrap_small (by omega) (by omega)).trans (by omega)
 repeat' (first|refine zI rfl w1 ?_|refine zA rfl ?_|refine aA ?_|refine aJ rfl ?_|refine aO mixed [2,4,7,8,9,0,1,3,5,6,10,11,12,13] [.R,.R,.P,.P,.P,.R,.R,.P,.P,.P,.P,.P,.P,.P] rfl rfl (by kernel_rfl) ?_)
 refine wN aF rfl rfl rfl rfl (n:=i) rfl rfl rfl rfl rfl rfl (by omega) ?_
 repeat' (first|refine zA rfl ?_)
 refine gM aF rfl rfl rfl rfl (lo:=i+many) rfl rfl rfl rfl rfl rfl him ?_
 repeat' (first|refine zA rfl ?_|refine aA ?_|refine aJ rfl ?_|refine aD rfl kc ?_|refine zR rfl ?_)
 exact⟨rfl,_,rfl,rfl,rfl⟩
theorem M6 (l:List Pr) (hl:l.length < 1000) (p:Pr):aN Tryz.prog 279 [.sl 3 (l.map Pr.av) .none,p.av] (.sl 1 ((iD 0 (l:Vt 0) p).map (dW 0)) .none):=by
 intro M
 refine aC aF Tryz.func279 rfl (by decide) (by simp[Tryz.f279]) ?_
 have k1:=a26 l (by omega) p
 have hp:=jM l p
 have k2:=BX (cV l p) (by omega)
 repeat' (first|refine zA rfl ?_|refine aA ?_|refine aJ rfl ?_|refine aD rfl k1 ?_|refine aD rfl k2 ?_)
 exact⟨rfl,_,rfl,rfl,rfl⟩
def a78:Nat→FuncId
 |0=>279
 |_+1=>292
theorem a7k (h:Nat):fG Tryz.prog (GJ h) "sexton/tree.put" =some (a78 h):=by
 cases h
 ·show fG Tryz.prog 175 "sexton/tree.put" =some 279
  kernel_rfl
 ·show fG Tryz.prog 223 "sexton/tree.put" =some 292
  kernel_rfl
theorem LS (h:Nat) (l:List (Vt h)) (n:Int) (p:Pr) (hl:l.length < 1000) (hv:∀v,v∈l→lE h v) (x:Vt h) (hx:l[bK l p.key]? =some x) (r:List (Vt h)) (hr:r.length≤10) (hr0:0 < r.length) (hs:(bF h (eD l (bK l p.key) 1 r)).length < 1000000000)
  (hk:aN Tryz.prog (a78 h) [uC h x,p.av] (.sl 1 (r.map (dW h)) .none)):aN Tryz.prog 292 [.agg [.sl 1 (l.map (dW h)) .none,.int .i64 n],p.av] (.sl 1 ((bB (eD l (bK l p.key) 1 r):List (Vt (h+1))).map (dW (h+1))) .none):=by
 intro M
 refine aC aF Tryz.func292 rfl (by decide) (by simp[Tryz.f292]) ?_
 have kb:=t8 h l n (by omega) hv p.key
 have hlt:=(List.getElem?_eq_some_iff.1 hx).1
 generalize bK l p.key=i at kb hx hs hlt
 have hlen:(eD l i 1 r).length≤l.length+r.length∧0 < (eD l i 1 r).length:=by unfold eD;simp;omega
 have kw:=xN h l n (by omega) i 1 (by omega) r (by omega) hlen.2
 have kf:=tU h (eD l i 1 r) (by omega) hs
 have my:=a7k h
 repeat' (first|refine zA rfl ?_|refine aA ?_|refine aJ rfl ?_|refine aD rfl kb ?_|refine aO mixed [1,4,0,2,3,5,6,7,8,9,10,11] [.R,.P,.R,.R,.P,.R,.R,.R,.P,.P,.P,.P] rfl rfl (by kernel_rfl) ?_)
 refine dT aF rfl rfl rfl rfl rfl rfl rfl rfl rfl rfl (Int.natCast_nonneg _) (g9 hx) ?_
 repeat' (first|refine zA rfl ?_)
 refine dC rfl rfl rfl rfl rfl my hk ?_
 repeat' (first|refine zA rfl ?_|refine aA ?_|refine aJ rfl ?_|refine aD rfl kw ?_|refine aD rfl kf ?_)
 exact⟨rfl,_,rfl,rfl,rfl⟩
theorem Q0:∀(h:Nat) (v:Vt h) (p:Pr),ML h v→cJ (bE h v)→(bE h v).length < 100000000→aN Tryz.prog (a78 h) [uC h v,p.av] (.sl 1 ((iD h v p).map (dW h)) .none)
 |0,l,p,hv,_,_=>M6 l.row (by have:l.row.length≤4:=hv;omega) p
 |h+1,l,p,hv,hr,hn=>by
  have hv':=hv
  obtain⟨h1,h2,h3⟩:=hv
  have h0:l.kids≠[]:=by intro he;rw[he] at h1;simp at h1
  obtain⟨a,v,b,e1,e2,e3,e4,e5⟩:=kI h0 h3 hr p.key
  have hvk:lE h v:=h3 v (by rw[e1];simp)
  have hall:bE (h+1) l=bF h a++(bE h v++bF h b):=by
   show bF h l.kids=_
   rw[e1,bS,eE]
  have hrv:cJ (bE h v):=by rw[hall] at hr;exact m6 hr
  have hnv:(bE h v).length < 100000000:=by rw[hall] at hn;simp at hn;omega
  obtain⟨i1,i2,i3⟩:=xA h v p (jC hvk) hrv
  have ih:=Q0 h v p (jC hvk) hrv hnv
  have hw:eD l.kids (bK l.kids p.key) 1 (iD h v p)=a++(iD h v p++b):=by rw[e2,e1];exact tZ
  have hp:=jM (bE h v) p
  have k:=LS h l.kids ((bE (h+1) l).length:Int) p (by omega) h3 v e3 (iD h v p) (by omega) i3 (by
   rw[hw,bS,bS,i1]
   rw[hall] at hn
   simp at hn ⊢
   omega) ih
  have hp2:iD (h+1) l p=bB (eD l.kids (bK l.kids p.key) 1 (iD h v p)):=by
   show bB (eD l.kids (bK l.kids p.key) 1 (match l.kids[bK l.kids p.key]? with
    |some kid=>iD h kid p
    |none=>[]))=_
   rw[e3]
  rw[hp2]
  exact k
theorem PP (a b:Nat):(if true=true then (if (a:Int) - (b:Int) < 0 then 0 else (a:Int) - (b:Int)) else if 0 < (a:Int) - (b:Int) then 0 else (a:Int) - (b:Int))=((a - b:Nat):Int):=by
 rw[if_pos rfl]
 split<;>omega
theorem FT (a b:Nat):(if false=true then (if (a:Int) < (b:Int) then (b:Int) else (a:Int)) else if (b:Int) < (a:Int) then (b:Int) else (a:Int))=((min a b:Nat):Int):=by
 rw[if_neg (by simp)]
 split<;>omega
theorem OY (l:List Pr) (i m:Nat):(l.take (min l.length (i+m))).drop i=(l.drop i).take m:=by
 rw[←List.take_take,List.take_of_length_le (l:=l.take (i+m)) (by simp;omega),List.drop_take]
 congr 1
 omega
theorem KW (l:List Pr) (hl:l.length < 1000) (k:Ky) (out:List Pr) (ho:out.length < 100000000) (n:Nat) (hn:n < 100000000) (g:Nat):
  aS Tryz.prog 278 [.sl 3 (l.map Pr.av) .none,k.av,.sl 3 (out.map Pr.av) (.tok 0 g),.int .i64 (n:Int)] (tokM g) (fun e M'=>∃g',e=.ret (.sl 3 ((gR out n (eX l k)).map Pr.av) (.tok 0 g'))∧(tokM g').le M'):=by
 refine aC aF Tryz.func278 rfl (by decide) (by simp[Tryz.f278]) ?_
 have kf:=sO l .none (by omega) k
 have hle:=mO l k
 rw[DL]
 generalize dF l k=i at kf hle
 have la:((l.map Pr.av).length:Int)=(l.length:Int):=by simp
 have lo:((out.map Pr.av).length:Int)=(out.length:Int):=by simp
 have w1:IntKind.wrap .i64 ((n:Int) - (out.length:Int))=(n:Int) - (out.length:Int):=Go.Ab.wrap_small (by omega) (by omega)
 have hmax:=PP n out.length
 have w2:IntKind.wrap .i64 ((i:Int)+((n - out.length:Nat):Int))=((i+(n - out.length):Nat):Int):=(Go.Ab.wrap_small (by omega) (by omega)).trans (by omega)
 have hmin:=FT l.length (i+(n - out.length))
 have hcut:=OY l i (n - out.length)
 repeat' (first|refine zI rfl (by first|exact la|exact lo|exact w1|exact hmax|exact w2|exact hmin) ?_|refine zA rfl ?_|refine aA ?_|refine aJ rfl ?_|refine aD rfl kf ?_)
 refine Z7 aF rfl rfl rfl rfl (lo:=i) (n:=min l.length (i+(n - out.length))) rfl rfl rfl rfl rfl rfl rfl (by omega) (by omega) ?_
 rw[hcut]
 repeat' (first|refine zA rfl ?_|refine aA ?_|refine aJ rfl ?_|refine zP rfl rfl ?_)
 exact⟨rfl,_,rfl,g+1,by unfold gR;rw[List.map_append];rfl,cK rfl rfl⟩
theorem FU (l:List Pr) (hl:l.length < 1000) (k:Ky) (n:Nat) (hn:n < 100000000):
  aS Tryz.prog 278 [.sl 3 (l.map Pr.av) .none,k.av,.sl 0 [] .full,.int .i64 (n:Int)] ⟨0,[]⟩ (fun e M'=>∃g',e=.ret (.sl 3 ((gR [] n (eX l k)).map Pr.av) (.tok 0 g'))∧(tokM g').le M'):=by
 refine aC aF Tryz.func278 rfl (by decide) (by simp[Tryz.f278]) ?_
 have kf:=sO l .none (by omega) k
 have hle:=mO l k
 rw[DL]
 generalize dF l k=i at kf hle
 have la:((l.map Pr.av).length:Int)=(l.length:Int):=by simp
 have lo:((([]:List AV)).length:Int)=(0:Nat):=by simp
 have w1:IntKind.wrap .i64 ((n:Int) - ((0:Nat):Int))=(n:Int) - ((0:Nat):Int):=Go.Ab.wrap_small (by omega) (by omega)
 have hmax:=PP n 0
 have w2:IntKind.wrap .i64 ((i:Int)+((n - 0:Nat):Int))=((i+(n - 0):Nat):Int):=(Go.Ab.wrap_small (by omega) (by omega)).trans (by omega)
 have hmin:=FT l.length (i+(n - 0))
 have hcut:=OY l i (n - 0)
 refine lN (aM.tok 2 rfl (sz':=3) (.inr rfl)) ?_
 repeat' (first|refine zI rfl (by first|exact la|exact lo|exact w1|exact hmax|exact w2|exact hmin) ?_|refine zA rfl ?_|refine aA ?_|refine aJ rfl ?_|refine aD rfl kf ?_)
 refine Z7 aF rfl rfl rfl rfl (lo:=i) (n:=min l.length (i+(n - 0))) rfl rfl rfl rfl rfl rfl rfl (by omega) (by omega) ?_
 rw[hcut]
 repeat' (first|refine zA rfl ?_|refine aA ?_|refine aJ rfl ?_|refine zP rfl rfl ?_)
 exact⟨rfl,_,rfl,1,by unfold gR;rw[List.map_append];rfl,cK rfl rfl⟩
def Y1:Nat→FuncId
 |0=>278
 |_+1=>291
theorem U8 (h:Nat):fG Tryz.prog (GJ h) "sexton/tree.from" =some (Y1 h):=by
 cases h
 ·show fG Tryz.prog 175 "sexton/tree.from" =some 278
  kernel_rfl
 ·show fG Tryz.prog 223 "sexton/tree.from" =some 291
  kernel_rfl
def eG (out:List Pr) (n:Nat) (k:Ky) {h:Nat} (l:List (Vt h)) (i:Nat):List Pr:=gR out n (eX (bF h (l.take i)) k)
theorem CK (out:List Pr) (n:Nat) (l:List Pr):(gR out n l).length≤max out.length n:=by
 unfold gR
 simp
 omega
def O3 (h:Nat):Prop:=∀(v:Vt h) (k:Ky) (out:List Pr) (n g:Nat),ML h v→cJ (bE h v)→out.length < 100000000→n < 100000000→
  aS Tryz.prog (Y1 h) [uC h v,k.av,.sl 3 (out.map Pr.av) (.tok 0 g),.int .i64 (n:Int)] (tokM g) (fun e M'=>∃g',e=.ret (.sl 3 ((gR out n (eX (bE h v) k)).map Pr.av) (.tok 0 g'))∧(tokM g').le M')
theorem CO {h:Nat} {l:List (Vt h)} {k:Ky} {out:List Pr} {n:Nat} {i:Nat} {x:Vt h} (hx:l[i]? =some x) (hi:0 < i→∀p,p∈bE h x→bG p.key k=false):
  gR (eG out n k l i) n (eX (bE h x) k)=eG out n k l (i+1):=by
 unfold eG
 rw[CS,D2 hx]
 congr 1
 by_cases h0:i=0
 ·subst h0
  have:bF h (l.take 0)=[]:=rfl
  rw[this]
  rfl
 ·rw[t1 (hi (by omega))]
  congr 1
  unfold eX
  cases ha:bE h x with
  |nil=>rfl
  |cons q r=>rw[List.dropWhile_cons,if_neg (by rw[hi (by omega) q (by rw[ha];simp)];simp)]
theorem CM {h:Nat} {l:List (Vt h)} {k:Ky} {out:List Pr} {n:Nat} {i:Nat} (hr:cJ (bF h l)) (hf:n≤(eG out n k l i).length) (hb:0 < i∨n≤out.length) (hi:0 < i→∀p,p∈bF h (l.drop i)→bG p.key k=false):eG out n k l i=eG out n k l l.length:=by
 by_cases h0:i=0
 ·have ho:n≤out.length:=by omega
  unfold eG
  rw[rK ho,rK ho]
 ·have e:bF h (l.take l.length)=bF h (l.take i)++bF h (l.drop i):=by rw[List.take_length,←bS,List.take_append_drop]
  unfold eG at hf ⊢
  rw[e,t1 (hi (by omega)),←CS,rK hf]
theorem pK {out:List Pr} {n:Nat} {k:Ky} {h:Nat} {l:List (Vt h)}:eG out n k l 0=out:=by
 unfold eG gR
 have:bF h (l.take 0)=[]:=rfl
 rw[this]
 simp[eX]
theorem H4 (h:Nat) (IH:O3 h) (l:Vt (h+1)) (hv:lE (h+1) l) (hr:cJ (bE (h+1) l)) (k:Ky) (out:List Pr) (ho:out.length < 100000000) (n:Nat) (hn:n < 100000000) (g:Nat):
  aS Tryz.prog 291 [uC (h+1) l,k.av,.sl 3 (out.map Pr.av) (.tok 0 g),.int .i64 (n:Int)] (tokM g) (fun e M'=>∃g',e=.ret (.sl 3 ((gR out n (eX (bE (h+1) l) k)).map Pr.av) (.tok 0 g'))∧(tokM g').le M'):=by
 obtain⟨h1,h2,h3⟩:=hv
 have h0:l.kids≠[]:=by intro he;rw[he] at h1;simp at h1
 obtain⟨a,v,b,e1,e2,e3,e4,e5⟩:=kI h0 h3 hr k
 have hall:bE (h+1) l=bF h a++bF h (v::b):=by
  show bF h l.kids=_
  rw[e1,bS]
 have hrb:cJ (bF h (v::b)):=by rw[hall] at hr;exact (List.pairwise_append.1 hr).2.1
 have hdrop:l.kids.drop (bK l.kids k)=v::b:=by rw[e2,e1,List.drop_left]
 have hble:bK l.kids k≤l.kids.length:=by rw[e2,e1];simp
 have hkids:∀x,x∈v::b→lE h x:=fun x hx=>h3 x (by rw[e1];simp at hx ⊢;rcases hx with rfl|hx<;>simp[*])
 have hbl:(v::b).length≤4:=by rw[e1] at h2;simp at h2 ⊢;omega
 have hlater:∀x,x∈bF h b→bG x.key k=false:=fun x hx=>i8 (e5 x hx)
 rw[hall,w8 e4]
 have hfin:gR out n (eX (bF h (v::b)) k)=eG out n k (v::b) (v::b).length:=by unfold eG;rw[List.take_length]
 rw[hfin]
 have kb:=t8 h l.kids ((bE (h+1) l).length:Int) (by omega) h3 k
 have hlat2:∀i,0 < i→∀p,p∈bF h ((v::b).drop i)→bG p.key k=false:=by
  intro i hi p hp
  match i,hi with
  |i+1,_=>
   refine hlater p ?_
   have:=bS (h:=h) (b.take i) (b.drop i)
   rw[List.take_append_drop] at this
   rw[this]
   simp at hp ⊢
   exact .inr hp
 generalize bK l.kids k=at_ at kb hdrop hble
 have hin:uC (h+1) l=.agg [.sl 1 (l.kids.map (dW h)) .none,.int .i64 ((bE (h+1) l).length:Int)]:=rfl
 rw[hin]
 generalize ((bE (h+1) l).length:Int)=cnt at kb
 refine aC aF Tryz.func291 rfl (by decide) (by simp[Tryz.f291]) ?_
 repeat' (first|refine zA rfl ?_|refine aA ?_|refine aJ rfl ?_|refine aD rfl kb ?_|refine aO mixed [7,0,1,2,3,4,5,6] [.R,.R,.R,.R,.P,.P,.P,.P] rfl rfl (by kernel_rfl) ?_)
 refine gM aF rfl rfl rfl rfl (lo:=at_) rfl rfl rfl rfl rfl rfl hble ?_
 rw[hdrop]
 generalize hL:v::b=L at hkids hbl hlat2 hrb
 have la:((L.map (dW h)).length:Int)=(L.length:Int):=by simp
 repeat' (first|refine zI rfl la ?_|refine aA ?_|refine aJ rfl ?_)
 refine aX L.length (fun i f N=>∃(g:Nat),N=tokM g∧f=⟨[(2,.sl 3 ((eG out n k L i).map Pr.av) (.tok 0 g)),(3,.int .i64 (n:Int)),(5,.ref [.str k.path,.int .i64 k.time]),(16,.sl 1 (L.map (dW h)) .none),(17,.int .i64 (L.length:Int)),(18,.int .i64 (i:Int))],[]⟩) (Nat.zero_le _) ⟨g,rfl,rfl⟩
  (aM.le (AF.le_cons (by rw[pK];rfl) (AF.le_cons rfl (AF.le_cons rfl (AF.le_cons rfl (AF.le_cons rfl (AF.le_cons rfl (AF.le_nil rfl))))))) (cK rfl rfl)) ?_
 rintro i f N hi ⟨g,rfl,rfl⟩
 by_cases hi1:i < L.length
 ·have d1:decide ((i:Int) < (L.length:Int))=true:=by simp;omega
  have hx:L[i]? =some L[i]:=List.getElem?_eq_getElem hi1
  have fi:=aQ (i:=i) (by omega)
  have hxm:L[i]∈L:=List.getElem_mem hi1
  have hxl:∀p,p∈bE h L[i]→p∈bF h (L.drop i):=by
   intro p hp
   rw[List.drop_eq_getElem_cons hi1,eE]
   simp[hp]
  have hxr:cJ (bE h L[i]):=by
   have e:bF h L=bF h (L.take i)++(bE h L[i]++bF h (L.drop (i+1))):=by
    rw[←eE,←List.drop_eq_getElem_cons hi1,←bS,List.take_append_drop]
   rw[e] at hrb
   exact m6 hrb
  generalize L[i]=x at hx hxm hxl hxr
  have hstep:=CO (k:=k) (out:=out) (n:=n) hx (fun h0 p hp=>hlat2 i h0 p (hxl p hp))
  have hlen:(eG out n k L i).length < 100000000:=Nat.lt_of_le_of_lt (CK _ _ _) (Nat.max_lt.2 ⟨by first|exact ho|simp,hn⟩)
  have lo:(((eG out n k L i).map Pr.av).length:Int)=((eG out n k L i).length:Int):=by simp
  by_cases hf:n≤(eG out n k L i).length
  ·have d2:decide ((n:Int)≤((eG out n k L i).length:Int))=true:=by simp;omega
   have hst:eG out n k L i=eG out n k L L.length:=by
    refine CM hrb hf ?_ (hlat2 i)
    by_cases h0:i=0
    ·subst h0
     rw[pK] at hf
     exact .inr hf
    ·exact .inl (by omega)
   repeat' (first|refine zB rfl d1 ?_|refine aA ?_|refine aJ rfl ?_)
   refine dT aF rfl rfl rfl rfl rfl rfl rfl rfl rfl rfl (Int.natCast_nonneg _) (g9 hx) ?_
   repeat' (first|refine zB rfl d2 ?_|refine zI rfl (by first|exact fi|exact lo) ?_|refine zA rfl ?_|refine aA ?_|refine aJ rfl ?_)
   refine⟨rfl,_,rfl,g,?_,cK rfl rfl⟩
   rw[←hst]
   rfl
  ·have d2:decide ((n:Int)≤((eG out n k L i).length:Int))=false:=by simp;omega
   have my:=U8 h
   have kc:=IH x k (eG out n k L i) n g (jC (hkids x hxm)) hxr hlen hn
   rw[hstep] at kc
   repeat' (first|refine zB rfl d1 ?_|refine aA ?_|refine aJ rfl ?_)
   refine dT aF rfl rfl rfl rfl rfl rfl rfl rfl rfl rfl (Int.natCast_nonneg _) (g9 hx) ?_
   repeat' (first|refine zB rfl d2 ?_|refine zI rfl (by first|exact fi|exact lo) ?_|refine zA rfl ?_|refine aA ?_|refine aJ rfl ?_)
   refine rV rfl rfl rfl rfl rfl my rfl kc ?_ (fun u M' ⟨_,e,_⟩=>by cases e)
   rintro u M' ⟨g',e,hM⟩
   cases e
   repeat' (first|refine zI rfl fi ?_|refine zA rfl ?_|refine aA ?_|refine aJ rfl ?_)
   refine⟨hi1,_,_,⟨g',rfl,rfl⟩,aM.le ?_ hM⟩
   repeat (refine AF.le_cons rfl ?_)
   exact AF.le_nil rfl
 ·have d1:decide ((i:Int) < (L.length:Int))=false:=by simp;omega
  obtain rfl:i=L.length:=by omega
  repeat' (first|refine zB rfl d1 ?_|refine zA rfl ?_|refine aA ?_|refine aJ rfl ?_)
  exact⟨rfl,_,rfl,g,rfl,cK rfl rfl⟩
theorem EX (h:Nat) (IH:O3 h) (l:Vt (h+1)) (hv:lE (h+1) l) (hr:cJ (bE (h+1) l)) (k:Ky) (n:Nat) (hn:n < 100000000):
  aS Tryz.prog 291 [uC (h+1) l,k.av,.sl 0 [] .full,.int .i64 (n:Int)] ⟨0,[]⟩ (fun e M'=>∃g',e=.ret (.sl 3 ((gR [] n (eX (bE (h+1) l) k)).map Pr.av) (.tok 0 g'))∧(tokM g').le M'):=by
 obtain⟨h1,h2,h3⟩:=hv
 have h0:l.kids≠[]:=by intro he;rw[he] at h1;simp at h1
 obtain⟨a,v,b,e1,e2,e3,e4,e5⟩:=kI h0 h3 hr k
 have hall:bE (h+1) l=bF h a++bF h (v::b):=by
  show bF h l.kids=_
  rw[e1,bS]
 have hrb:cJ (bF h (v::b)):=by rw[hall] at hr;exact (List.pairwise_append.1 hr).2.1
 have hdrop:l.kids.drop (bK l.kids k)=v::b:=by rw[e2,e1,List.drop_left]
 have hble:bK l.kids k≤l.kids.length:=by rw[e2,e1];simp
 have hkids:∀x,x∈v::b→lE h x:=fun x hx=>h3 x (by rw[e1];simp at hx ⊢;rcases hx with rfl|hx<;>simp[*])
 have hbl:(v::b).length≤4:=by rw[e1] at h2;simp at h2 ⊢;omega
 have hlater:∀x,x∈bF h b→bG x.key k=false:=fun x hx=>i8 (e5 x hx)
 rw[hall,w8 e4]
 have hfin:gR [] n (eX (bF h (v::b)) k)=eG [] n k (v::b) (v::b).length:=by unfold eG;rw[List.take_length]
 rw[hfin]
 have kb:=t8 h l.kids ((bE (h+1) l).length:Int) (by omega) h3 k
 have hlat2:∀i,0 < i→∀p,p∈bF h ((v::b).drop i)→bG p.key k=false:=by
  intro i hi p hp
  match i,hi with
  |i+1,_=>
   refine hlater p ?_
   have:=bS (h:=h) (b.take i) (b.drop i)
   rw[List.take_append_drop] at this
   rw[this]
   simp at hp ⊢
   exact .inr hp
 generalize bK l.kids k=at_ at kb hdrop hble
 have hin:uC (h+1) l=.agg [.sl 1 (l.kids.map (dW h)) .none,.int .i64 ((bE (h+1) l).length:Int)]:=rfl
 rw[hin]
 generalize ((bE (h+1) l).length:Int)=cnt at kb
 refine aC aF Tryz.func291 rfl (by decide) (by simp[Tryz.f291]) ?_
 refine lN (aM.tok 2 rfl (sz':=3) (.inr rfl)) ?_
 repeat' (first|refine zA rfl ?_|refine aA ?_|refine aJ rfl ?_|refine aD rfl kb ?_|refine aO mixed [7,0,1,2,3,4,5,6] [.R,.R,.R,.R,.P,.P,.P,.P] rfl rfl (by kernel_rfl) ?_)
 refine gM aF rfl rfl rfl rfl (lo:=at_) rfl rfl rfl rfl rfl rfl hble ?_
 rw[hdrop]
 generalize hL:v::b=L at hkids hbl hlat2 hrb
 have la:((L.map (dW h)).length:Int)=(L.length:Int):=by simp
 repeat' (first|refine zI rfl la ?_|refine aA ?_|refine aJ rfl ?_)
 refine aX L.length (fun i f N=>∃(g:Nat),N=tokM g∧f=⟨[(2,.sl 3 ((eG [] n k L i).map Pr.av) (.tok 0 g)),(3,.int .i64 (n:Int)),(5,.ref [.str k.path,.int .i64 k.time]),(16,.sl 1 (L.map (dW h)) .none),(17,.int .i64 (L.length:Int)),(18,.int .i64 (i:Int))],[]⟩) (Nat.zero_le _) ⟨0,rfl,rfl⟩
  (aM.le (AF.le_cons (by rw[pK];rfl) (AF.le_cons rfl (AF.le_cons rfl (AF.le_cons rfl (AF.le_cons rfl (AF.le_cons rfl (AF.le_nil rfl))))))) (cK rfl rfl)) ?_
 rintro i f N hi ⟨g,rfl,rfl⟩
 by_cases hi1:i < L.length
 ·have d1:decide ((i:Int) < (L.length:Int))=true:=by simp;omega
  have hx:L[i]? =some L[i]:=List.getElem?_eq_getElem hi1
  have fi:=aQ (i:=i) (by omega)
  have hxm:L[i]∈L:=List.getElem_mem hi1
  have hxl:∀p,p∈bE h L[i]→p∈bF h (L.drop i):=by
   intro p hp
   rw[List.drop_eq_getElem_cons hi1,eE]
   simp[hp]
  have hxr:cJ (bE h L[i]):=by
   have e:bF h L=bF h (L.take i)++(bE h L[i]++bF h (L.drop (i+1))):=by
    rw[←eE,←List.drop_eq_getElem_cons hi1,←bS,List.take_append_drop]
   rw[e] at hrb
   exact m6 hrb
  generalize L[i]=x at hx hxm hxl hxr
  have hstep:=CO (k:=k) (out:=[]) (n:=n) hx (fun h0 p hp=>hlat2 i h0 p (hxl p hp))
  have hlen:(eG [] n k L i).length < 100000000:=Nat.lt_of_le_of_lt (CK _ _ _) (Nat.max_lt.2 ⟨by first|exact ho|simp,hn⟩)
  have lo:(((eG [] n k L i).map Pr.av).length:Int)=((eG [] n k L i).length:Int):=by simp
  by_cases hf:n≤(eG [] n k L i).length
  ·have d2:decide ((n:Int)≤((eG [] n k L i).length:Int))=true:=by simp;omega
   have hst:eG [] n k L i=eG [] n k L L.length:=by
    refine CM hrb hf ?_ (hlat2 i)
    by_cases h0:i=0
    ·subst h0
     rw[pK] at hf
     exact .inr hf
    ·exact .inl (by omega)
   repeat' (first|refine zB rfl d1 ?_|refine aA ?_|refine aJ rfl ?_)
   refine dT aF rfl rfl rfl rfl rfl rfl rfl rfl rfl rfl (Int.natCast_nonneg _) (g9 hx) ?_
   repeat' (first|refine zB rfl d2 ?_|refine zI rfl (by first|exact fi|exact lo) ?_|refine zA rfl ?_|refine aA ?_|refine aJ rfl ?_)
   refine⟨rfl,_,rfl,g,?_,cK rfl rfl⟩
   rw[←hst]
   rfl
  ·have d2:decide ((n:Int)≤((eG [] n k L i).length:Int))=false:=by simp;omega
   have my:=U8 h
   have kc:=IH x k (eG [] n k L i) n g (jC (hkids x hxm)) hxr hlen hn
   rw[hstep] at kc
   repeat' (first|refine zB rfl d1 ?_|refine aA ?_|refine aJ rfl ?_)
   refine dT aF rfl rfl rfl rfl rfl rfl rfl rfl rfl rfl (Int.natCast_nonneg _) (g9 hx) ?_
   repeat' (first|refine zB rfl d2 ?_|refine zI rfl (by first|exact fi|exact lo) ?_|refine zA rfl ?_|refine aA ?_|refine aJ rfl ?_)
   refine rV rfl rfl rfl rfl rfl my rfl kc ?_ (fun u M' ⟨_,e,_⟩=>by cases e)
   rintro u M' ⟨g',e,hM⟩
   cases e
   repeat' (first|refine zI rfl fi ?_|refine zA rfl ?_|refine aA ?_|refine aJ rfl ?_)
   refine⟨hi1,_,_,⟨g',rfl,rfl⟩,aM.le ?_ hM⟩
   repeat (refine AF.le_cons rfl ?_)
   exact AF.le_nil rfl
 ·have d1:decide ((i:Int) < (L.length:Int))=false:=by simp;omega
  obtain rfl:i=L.length:=by omega
  repeat' (first|refine zB rfl d1 ?_|refine zA rfl ?_|refine aA ?_|refine aJ rfl ?_)
  exact⟨rfl,_,rfl,g,rfl,cK rfl rfl⟩
theorem JF:∀h:Nat,O3 h
 |0=>fun v k out n g hv _ ho hn=>KW v.row (by have:v.row.length≤4:=hv;omega) k out ho n hn g
 |h+1=>fun v k out n g hv hr ho hn=>H4 h (JF h) v hv hr k out ho n hn g
theorem YC (h:Nat) (v:Vt h) (hv:ML h v) (hr:cJ (bE h v)) (k:Ky) (n:Nat) (hn:n < 100000000):
  aS Tryz.prog (Y1 h) [uC h v,k.av,.sl 0 [] .full,.int .i64 (n:Int)] ⟨0,[]⟩ (fun e M'=>∃g',e=.ret (.sl 3 (((eX (bE h v) k).take n).map Pr.av) (.tok 0 g'))∧(tokM g').le M'):=by
 have e:gR [] n (eX (bE h v) k)=(eX (bE h v) k).take n:=by simp[gR]
 rw[←e]
 cases h with
 |zero=>exact FU v.row (by have:v.row.length≤4:=hv;omega) k n hn
 |succ h=>exact EX h (JF h) v hv hr k n hn
structure Tr where
 h:Nat
 v:Vt h
 ok:ML h v
 rise:cJ (bE h v)
def Tr.av (t:Tr):AV:=.ref [.iface (GJ t.h) (uC t.h t.v)]
def Tr.all (t:Tr):List Pr:=bE t.h t.v
theorem bL (t:Tr):aP t.av:=j7 (aY (by rw[←i4];exact dU _ _))
def a0u:Tr:=⟨0,([]:List Pr),Nat.zero_le _,List.Pairwise.nil⟩
theorem a60:aN Tryz.prog 87 [] a0u.av:=by
 refine aT (by simp) (bL _) ?_
 refine aC aF Tryz.func87 rfl (by decide) (by simp[Tryz.f87]) ?_
 repeat' (first|refine zA rfl ?_|refine aA ?_|refine aJ rfl ?_)
 exact⟨rfl,_,rfl,_,rfl,aH.pre (Sub.ref1 (Sub.iface Sub.nil)) (aH.of_closed (bL a0u))⟩
theorem a75:Tryz.prog.underlying 177=some (.interface (Tryz.prog.methodsAt 177)):=by kernel_rfl
theorem AE (t:Tr):aN Tryz.prog 139 [t.av] (.iface (GJ t.h) (uC t.h t.v)):=by
 intro M
 refine aC aF Tryz.func139 rfl (by decide) (by simp[Tryz.f139]) ?_
 unfold Tr.av
 repeat' (first|refine zA rfl ?_|refine aA ?_|refine aJ rfl ?_|refine xS aF rfl ?_)
 refine a1a rfl rfl rfl rfl a75 rfl rfl ?_
 repeat' (first|refine zA rfl ?_|refine aA ?_|refine aJ rfl ?_)
 exact⟨rfl,_,rfl,rfl,rfl⟩
theorem YS (t:Tr):aN Tryz.prog 151 [t.av] (.int .i64 (t.all.length:Int)):=by
 intro M
 refine aC aF Tryz.func151 rfl (by decide) (by simp[Tryz.f151]) ?_
 have kt:=AE t
 have ka:=YM t.h t.v
 have my:=a8n t.h
 unfold Tr.av at kt ⊢
 unfold Tr.all
 repeat' (first|refine zA rfl ?_|refine aA ?_|refine aJ rfl ?_|refine aD rfl kt ?_)
 refine dC rfl rfl rfl rfl rfl my ka ?_
 repeat' (first|refine zA rfl ?_|refine aA ?_|refine aJ rfl ?_)
 exact⟨rfl,_,rfl,rfl,rfl⟩
def a90 {h:Nat} {x y:Vt h} (hx:lE h x) (hy:lE h y) (hr:cJ (bE h x++bE h y)):Tr:=⟨h+1,([x,y]:List (Vt h)),⟨by show 2≤[x,y].length;simp,by show [x,y].length≤4;simp,by intro k hk;have hk':k∈[x,y]:=hk;simp at hk';rcases hk' with rfl|rfl<;>assumption⟩,by
 have e:bE (h+1) ([x,y]:List (Vt h))=bE h x++bE h y:=by show bF h [x,y]=_;simp[bF]
 rw[e];exact hr⟩
theorem EV (t:Tr) (p:Pr) (hs:t.all.length < 10000000):∃u:Tr,u.all=cV t.all p∧aN Tryz.prog 88 [t.av,p.av] u.av:=by
 obtain⟨h,v,hv,hr⟩:=t
 have hs':(bE h v).length < 10000000:=hs
 have kt:=AE ⟨h,v,hv,hr⟩
 have kp:=Q0 h v p hv hr (by omega)
 have my:=a7k h
 have hpl:=jM (bE h v) p
 have hpr:=T5 (p:=p) hr
 rcases Y9 (p:=p) hv hr with ⟨x,e,hx,hall⟩|⟨x,y,e,hx,hy,hall⟩
 ·refine⟨⟨h,x,hx,by rw[hall];exact hpr⟩,hall,?_⟩
  rw[e] at kp
  intro M
  refine aC aF Tryz.func88 rfl (by decide) (by simp[Tryz.f88]) ?_
  repeat' (first|refine zA rfl ?_|refine aA ?_|refine aJ rfl ?_|refine aD rfl kt ?_|refine aO mixed [0,1,2,3,4] [.P,.P,.R,.P,.P] rfl rfl (by kernel_rfl) ?_)
  refine dC rfl rfl rfl rfl rfl my kp ?_
  repeat' (first|refine zA rfl ?_|refine aA ?_|refine aJ rfl ?_)
  refine dT aF rfl rfl rfl rfl rfl rfl rfl rfl rfl rfl (Int.le_refl 0) (g9 (l:=[x]) (i:=0) rfl) ?_
  repeat' (first|refine zA rfl ?_|refine aA ?_|refine aJ rfl ?_)
  exact⟨rfl,_,rfl,rfl,rfl⟩
 ·have hall2:(bF h [x,y]).length < 1000000000:=by
   have:bF h [x,y]=bE h x++bE h y:=by simp[bF]
   rw[this,hall]
   omega
  refine⟨a90 hx hy (by rw[hall];exact hpr),?_,?_⟩
  ·show bF h [x,y]=cV (bE h v) p
   simpa [bF] using hall
  ·have kf:=tU h [x,y] (by simp) hall2
   rw[e] at kp
   intro M
   refine aC aF Tryz.func88 rfl (by decide) (by simp[Tryz.f88]) ?_
   repeat' (first|refine zA rfl ?_|refine aA ?_|refine aJ rfl ?_|refine aD rfl kt ?_|refine aO mixed [0,1,2,3,4] [.P,.P,.R,.P,.P] rfl rfl (by kernel_rfl) ?_)
   refine dC rfl rfl rfl rfl rfl my kp ?_
   repeat' (first|refine zA rfl ?_|refine aA ?_|refine aJ rfl ?_|refine aD rfl kf ?_)
   refine dT aF rfl rfl rfl rfl rfl rfl rfl rfl rfl rfl (Int.le_refl 0) (g9 (h:=h+1) (l:=[([x,y]:List (Vt h))]) (i:=0) rfl) ?_
   repeat' (first|refine zA rfl ?_|refine aA ?_|refine aJ rfl ?_)
   exact⟨rfl,_,rfl,rfl,rfl⟩
theorem ZD (n:Int):(if true=true then (if n < 0 then 0 else n) else if 0 < n then 0 else n)=((n.toNat:Nat):Int):=by
 rw[if_pos rfl]
 split<;>omega
theorem UJ (t:Tr) (hs:t.all.length < 10000000) (k:Ky) (n:Int):aN Tryz.prog 152 [t.av,k.av,.int .i64 n] (.sl 3 (((eX t.all k).take (min n.toNat t.all.length)).map Pr.av) .none):=by
 refine aT (cD (bL t) (j9 k) aB) (bO _) ?_
 refine aC aF Tryz.func152 rfl (by decide) (by simp[Tryz.f152]) ?_
 have kt:=AE t
 have kl:=YS t
 have my:=U8 t.h
 have hm:=ZD n
 have hmin:=FT n.toNat t.all.length
 have kc:=YC t.h t.v t.ok t.rise k (min n.toNat t.all.length) (by omega)
 unfold Tr.av at kt kl ⊢
 repeat' (first|refine zI rfl (by first|exact hm|exact hmin) ?_|refine zA rfl ?_|refine aA ?_|refine aJ rfl ?_|refine aD rfl kt ?_|refine aD rfl kl ?_|refine aO mixed [0,1,3,4,5,6,7,8,2,9,10,11,12] [.P,.P,.R,.P,.P,.P,.P,.P,.P,.R,.P,.E,.P] rfl rfl (by kernel_rfl) ?_)
 refine UR rfl rfl rfl rfl rfl my ?_
 repeat' (first|refine zA rfl ?_)
 refine rV rfl rfl rfl rfl rfl my rfl kc ?_ (fun u M' ⟨_,e,_⟩=>by cases e)
 rintro u M' ⟨g',e,hM⟩
 cases e
 repeat' (first|refine zA rfl ?_|refine aA ?_|refine aJ rfl ?_)
 exact⟨rfl,_,rfl,_,rfl,aH.untag (bO _)⟩
theorem a01 {h:Nat} {v:Vt h} (hh:0 < h) (ok:ML h v):lE h v:=by
 cases h with
 |zero=>omega
 |succ h=>exact ok
theorem JY {h:Nat} {v:Vt h}:eX (bE h v) (cY h v)=bE h v:=by
 unfold cY eX
 cases hv:bE h v with
 |nil=>rfl
 |cons q r=>
  show List.dropWhile _ (q::r)=_
  rw[List.dropWhile_cons,if_neg]
  show ¬bG q.key q.key=true
  rw[fU]
  simp
theorem tQ (t:Tr) (hs:t.all.length < 10000000):aN Tryz.prog 101 [t.av] (.sl 3 (t.all.map Pr.av) .none):=by
 refine aT (aY (bL t)) (bO _) ?_
 refine aC aF Tryz.func101 rfl (by decide) (by simp[Tryz.f101]) ?_
 have kt:=AE t
 have kl:=YS t
 have my:=NX t.h
 have kc:=UJ t hs (cY t.h t.v) (t.all.length:Int)
 have e1:eX t.all (cY t.h t.v)=t.all:=JY
 have e2:min ((t.all.length:Int)).toNat t.all.length=t.all.length:=by simp
 rw[e1,e2,List.take_length] at kc
 by_cases h0:t.all=[]
 ·have d0:decide ((t.all.length:Int)=0)=true:=by simp[h0]
  rw[h0] at kl ⊢
  unfold Tr.av at kl ⊢
  repeat' (first|refine zA rfl ?_|refine aA ?_|refine aJ rfl ?_|refine aD rfl kl ?_)
  exact⟨rfl,_,rfl,_,rfl,aH.nil⟩
 ·have d0:decide ((t.all.length:Int)=0)=false:=by simp[h0]
  have kf:=vT t.h t.v (fun _=>h0) (fun hh=>a01 hh t.ok)
  unfold Tr.av at kt kl kc ⊢
  repeat' (first|refine zB rfl d0 ?_|refine zA rfl ?_|refine aA ?_|refine aJ rfl ?_|refine aD rfl kt ?_|refine aD rfl kl ?_)
  refine dC rfl rfl rfl rfl rfl my kf ?_
  repeat' (first|refine zA rfl ?_|refine aA ?_|refine aJ rfl ?_|refine aD rfl kl ?_|refine aD rfl kc ?_)
  exact⟨rfl,_,rfl,_,rfl,aH.of_closed (bO _)⟩
theorem a74 (p q:Pr):(((p.key.path==q.key.path)&&((decide (p.key.time=q.key.time))&&true))&&((p.val==q.val)&&true))=decide (p=q):=by
 obtain⟨⟨a,b⟩,c⟩:=p
 obtain⟨⟨d,e⟩,f⟩:=q
 rw[Bool.eq_iff_iff]
 simp[and_assoc]
theorem WK (p q:Pr):(!(((p.key.path==q.key.path)&&((decide (p.key.time=q.key.time))&&true))&&((p.val==q.val)&&true)))=!decide (p=q):=by rw[a74]
theorem I7 {l:List Pr} {k:Ky} {i:Nat} (h:∀(j:Nat) a,j < i→l[j]? =some a→bG a.key k=true) (hi:∀a,l[i]? =some a→bG a.key k=false) (hl:i≤l.length):dF l k=i:=by
 induction l generalizing i with
 |nil=>simp at hl;subst hl;rfl
 |cons q r ih=>
  unfold dF at ih ⊢
  rw[List.takeWhile_cons]
  cases i with
  |zero=>rw[if_neg (by rw[hi q rfl];simp)];rfl
  |succ i=>
   rw[if_pos (h 0 q (by omega) rfl),List.length_cons,ih (i:=i) (fun j a hj ha=>h (j+1) a (by omega) ha) (fun a ha=>hi a ha) (by simpa using hl)]
theorem a2h (a b:List Pr) (ta tb:eI) (ha:a.length < 1000000) (hb:b.length < 1000000):aN Tryz.prog 59 [.sl 3 (a.map Pr.av) ta,.sl 3 (b.map Pr.av) tb] (.bool (decide (a=b))):=by
 intro M
 refine aC aF Tryz.func59 rfl (by decide) (by simp[Tryz.f59]) ?_
 have la:=aU Pr.av a
 have lb:=aU Pr.av b
 by_cases hl:a.length=b.length
 ·have d0:(!decide ((a.length:Int)=(b.length:Int)))=false:=by simp;omega
  repeat' (first|refine zB rfl d0 ?_|refine zI rfl (by first|exact la|exact lb) ?_|refine zA rfl ?_|refine aA ?_|refine aJ rfl ?_)
  refine aX a.length (fun i f N=>N=M∧(a.take i=b.take i)∧f=⟨[(0,.sl 3 (a.map Pr.av) ta),(1,.sl 3 (b.map Pr.av) tb),(5,.int .i64 (i:Int))],[]⟩) (Nat.zero_le _) ⟨rfl,by simp,rfl⟩ (aM.le ?_ (aI.le_refl _)) ?_
  ·skip
   repeat (refine AF.le_cons rfl ?_)
   exact AF.le_nil rfl
  rintro i f N hi ⟨rfl,hinv,rfl⟩
  by_cases h1:i < a.length
  ·have d1:decide ((i:Int) < (a.length:Int))=true:=by simp;omega
   have hx:a[i]? =some a[i]:=List.getElem?_eq_getElem h1
   have fi:=aQ (i:=i) (by omega)
   have ht:=b7 hx
   have hm:=List.getElem_mem h1
   generalize a[i]=x at hx ht hm
   have hy:b[i]? =some b[i]:=List.getElem?_eq_getElem (by omega)
   have hu:=b7 hy
   generalize b[i]=y at hy hu
   by_cases h3:x=y
   ·have d3:=(WK x y).trans (show (!decide (x=y))=false by simp[h3])
    repeat' (first|refine zB rfl (by first|exact d1|exact d3) ?_|refine zI rfl (by first|exact fi|exact la) ?_|refine zA rfl ?_|refine aA ?_|refine aJ rfl ?_|refine zX rfl (c7 hx) ?_|refine zX rfl (c7 hy) ?_|refine aO mixed [0,1,4,5,2,3,6,7,8] [.P,.P,.R,.R,.P,.P,.R,.R,.P] rfl rfl (by kernel_rfl) ?_)
    refine⟨h1,_,_,⟨rfl,by rw[ht,hu,hinv,h3],rfl⟩,aM.le ?_ (aI.le_refl _)⟩
    repeat (refine AF.le_cons rfl ?_)
    exact AF.le_nil rfl
   ·have d3:=(WK x y).trans (show (!decide (x=y))=true by simp[h3])
    have e:decide (a=b)=false:=by
     refine decide_eq_false fun e=>h3 ?_
     subst e
     rw[hx] at hy
     cases hy
     rfl
    rw[e]
    repeat' (first|refine zB rfl (by first|exact d1|exact d3) ?_|refine zI rfl (by first|exact fi|exact la) ?_|refine zA rfl ?_|refine aA ?_|refine aJ rfl ?_|refine zX rfl (c7 hx) ?_|refine zX rfl (c7 hy) ?_|refine aO mixed [0,1,4,5,2,3,6,7,8] [.P,.P,.R,.R,.P,.P,.R,.R,.P] rfl rfl (by kernel_rfl) ?_)
    exact⟨rfl,_,rfl,rfl,rfl⟩
  ·have d1:decide ((i:Int) < (a.length:Int))=false:=by simp;omega
   obtain rfl:i=a.length:=by omega
   rw[gX,hl,gX] at hinv
   have e:decide (a=b)=true:=by simp[hinv]
   rw[e]
   repeat' (first|refine zB rfl d1 ?_|refine zI rfl la ?_|refine zA rfl ?_|refine aA ?_|refine aJ rfl ?_)
   exact⟨rfl,_,rfl,rfl,rfl⟩
 ·have d0:(!decide ((a.length:Int)=(b.length:Int)))=true:=by simp;omega
  have e:decide (a=b)=false:=decide_eq_false fun e=>hl (by rw[e])
  rw[e]
  repeat' (first|refine zB rfl d0 ?_|refine zI rfl (by first|exact la|exact lb) ?_|refine zA rfl ?_|refine aA ?_|refine aJ rfl ?_)
  exact⟨rfl,_,rfl,rfl,rfl⟩
def y7 (p:Pr):Bool:=decide (200 < p.key.path.length)||decide (300 < p.val.length)
def S9 (l:List Pr):Bool:=decide (80 < l.length)||l.any y7
theorem a1n {l:List Pr} (h:S9 l=false):l.length≤80∧∀p,p∈l→p.key.path.length≤200∧p.val.length≤300:=by
 unfold S9 y7 at h
 simp only[Bool.or_eq_false_iff,decide_eq_false_iff_not,List.any_eq_false,Bool.or_eq_true,decide_eq_true_eq,not_or] at h
 exact⟨by omega,fun p hp=>by have:=h.2 p hp;omega⟩
theorem a71 (l:List Pr) (tg:eI) (hl:l.length < 4611686018427387904):aN Tryz.prog 45 [.sl 3 (l.map Pr.av) tg] (.bool (S9 l)):=by
 intro M
 refine aC aF Tryz.func45 rfl (by decide) (by simp[Tryz.f45]) ?_
 have la:=aU Pr.av l
 unfold S9
 by_cases h80:80 < l.length
 ·have d1:decide ((0:Int) < (l.length:Int))=true:=by simp;omega
  have d2:decide ((l.length:Int)≤80)=false:=by simp;omega
  have d3:decide ((80:Int) < (l.length:Int))=true:=by simp;omega
  have e:decide (80 < l.length)=true:=by simp[h80]
  rw[e]
  repeat' (first|refine zA rfl ?_|refine aA ?_|refine aJ rfl ?_)
  refine aX 0 (fun i f N=>N=M∧f=⟨[(0,.sl 3 (l.map Pr.av) tg),(3,.int .i64 (i:Int))],[]⟩) (Nat.zero_le _) ⟨rfl,rfl⟩ (aM.le ?_ (aI.le_refl _)) ?_
  ·skip
   repeat (refine AF.le_cons rfl ?_)
   exact AF.le_nil rfl
  rintro i f N hi ⟨rfl,rfl⟩
  obtain rfl:i=0:=by omega
  repeat' (first|refine zB rfl (by first|exact d1|exact d2|exact d3) ?_|refine zI rfl la ?_|refine zA rfl ?_|refine aA ?_|refine aJ rfl ?_)
  exact⟨rfl,_,rfl,rfl,rfl⟩
 ·have d2:decide ((l.length:Int)≤80)=true:=by simp;omega
  have d3:decide ((80:Int) < (l.length:Int))=false:=by simp;omega
  have e:decide (80 < l.length)=false:=by simp;omega
  rw[e,Bool.false_or]
  repeat' (first|refine zA rfl ?_|refine aA ?_|refine aJ rfl ?_)
  refine aX l.length (fun i f N=>N=M∧((l.take i).any y7=false)∧f=⟨[(0,.sl 3 (l.map Pr.av) tg),(3,.int .i64 (i:Int))],[]⟩) (Nat.zero_le _) ⟨rfl,by simp,rfl⟩ (aM.le ?_ (aI.le_refl _)) ?_
  ·skip
   repeat (refine AF.le_cons rfl ?_)
   exact AF.le_nil rfl
  rintro i f N hi ⟨rfl,hinv,rfl⟩
  by_cases h1:i < l.length
  ·have d1:decide ((i:Int) < (l.length:Int))=true:=by simp;omega
   have hx:l[i]? =some l[i]:=List.getElem?_eq_getElem h1
   have fi:=aQ (i:=i) (by omega)
   have ht:=b7 hx
   have hm:=List.getElem_mem h1
   generalize l[i]=x at hx ht hm
   have e2:(l.take (i+1)).any y7=y7 x:=by rw[ht,List.any_append,hinv];simp
   have hs:y7 x=true→l.any y7=true:=fun h=>List.any_eq_true.2 ⟨x,List.mem_of_getElem? hx,h⟩
   unfold y7 at hs e2
   by_cases h5:200 < x.key.path.length
   ·have d5:decide ((200:Int) < (x.key.path.length:Int))=true:=by simp;omega
    rw[show l.any y7=true from hs (by simp[h5])]
    repeat' (first|refine zB rfl (by first|exact d1|exact d2|exact d5) ?_|refine zI rfl la ?_|refine zA rfl ?_|refine aA ?_|refine aJ rfl ?_|refine zX rfl (c7 hx) ?_)
    exact⟨rfl,_,rfl,rfl,rfl⟩
   ·have d5:decide ((200:Int) < (x.key.path.length:Int))=false:=by simp;omega
    by_cases h6:300 < x.val.length
    ·have d6:decide ((300:Int) < (x.val.length:Int))=true:=by simp;omega
     rw[show l.any y7=true from hs (by simp[h6])]
     repeat' (first|refine zB rfl (by first|exact d1|exact d2|exact d5|exact d6) ?_|refine zI rfl la ?_|refine zA rfl ?_|refine aA ?_|refine aJ rfl ?_|refine zX rfl (c7 hx) ?_)
     exact⟨rfl,_,rfl,rfl,rfl⟩
    ·have d6:decide ((300:Int) < (x.val.length:Int))=false:=by simp;omega
     repeat' (first|refine zB rfl (by first|exact d1|exact d2|exact d5|exact d6) ?_|refine zI rfl (by first|exact la|exact fi) ?_|refine zA rfl ?_|refine aA ?_|refine aJ rfl ?_|refine zX rfl (c7 hx) ?_)
     refine⟨h1,_,_,⟨rfl,by rw[show y7=(fun p=>decide (200 < p.key.path.length)||decide (300 < p.val.length)) from rfl,e2];simp[h5,h6],rfl⟩,aM.le ?_ (aI.le_refl _)⟩
     repeat (refine AF.le_cons rfl ?_)
     exact AF.le_nil rfl
  ·have d1:decide ((i:Int) < (l.length:Int))=false:=by simp;omega
   obtain rfl:i=l.length:=by omega
   rw[gX] at hinv
   rw[hinv]
   repeat' (first|refine zB rfl (by first|exact d1|exact d3) ?_|refine zI rfl la ?_|refine zA rfl ?_|refine aA ?_|refine aJ rfl ?_)
   exact⟨rfl,_,rfl,rfl,rfl⟩
theorem AM:∀l:List Pr,(∀(j:Nat) a b,l[j]? =some a→l[j+1]? =some b→bG a.key b.key=true)→cJ l
 |[],_=>List.Pairwise.nil
 |[a],_=>List.pairwise_cons.2 ⟨by simp,List.Pairwise.nil⟩
 |a::b::r,h=>by
  have ih:=AM (b::r) (fun j x y hx hy=>h (j+1) x y hx hy)
  have h0:=h 0 a b rfl rfl
  refine List.pairwise_cons.2 ⟨fun x hx=>?_,ih⟩
  rcases List.mem_cons.1 hx with rfl|hx
  ·exact h0
  ·exact lM h0 ((List.pairwise_cons.1 ih).1 x hx)
theorem PE {l:List Pr} (h:cJ l) {i j:Nat} {a b:Pr} (hij:i < j) (ha:l[i]? =some a) (hb:l[j]? =some b):bG a.key b.key=true:=by
 obtain⟨h1,rfl⟩:=List.getElem?_eq_some_iff.1 ha
 obtain⟨h2,rfl⟩:=List.getElem?_eq_some_iff.1 hb
 exact List.pairwise_iff_getElem.1 h i j h1 h2 hij
theorem S6 (l:List Pr) (tg:eI) (hl:l.length < 1000000):aN Tryz.prog 102 [.sl 3 (l.map Pr.av) tg] (.bool (decide (cJ l))):=by
 intro M
 refine aC aF Tryz.func102 rfl (by decide) (by simp[Tryz.f102]) ?_
 have la:=aU Pr.av l
 by_cases h0:l=[]
 ·subst h0
  repeat' (first|refine zA rfl ?_|refine aA ?_|refine aJ rfl ?_)
  refine aX 0 (fun i f N=>N=M∧f=⟨[(0,.sl 3 ([].map Pr.av) tg),(3,.int .i64 ((i+1:Nat):Int))],[]⟩) (Nat.zero_le _) ⟨rfl,rfl⟩ (aM.le ?_ (aI.le_refl _)) ?_
  ·skip
   repeat (refine AF.le_cons rfl ?_)
   exact AF.le_nil rfl
  rintro i f N hi ⟨rfl,rfl⟩
  obtain rfl:i=0:=by omega
  repeat' (first|refine zA rfl ?_|refine aA ?_|refine aJ rfl ?_)
  exact⟨rfl,_,rfl,by rw[decide_eq_true (List.Pairwise.nil:cJ [])];rfl,rfl⟩
 ·have hpos:0 < l.length:=List.length_pos_iff.2 h0
  repeat' (first|refine zA rfl ?_|refine aA ?_|refine aJ rfl ?_)
  refine aX (l.length - 1) (fun i f N=>N=M∧(∀(j:Nat) a b,j < i→l[j]? =some a→l[j+1]? =some b→bG a.key b.key=true)∧f=⟨[(0,.sl 3 (l.map Pr.av) tg),(3,.int .i64 ((i+1:Nat):Int))],[]⟩) (Nat.zero_le _) ⟨rfl,fun j a b hj=>absurd hj (Nat.not_lt_zero _),rfl⟩ (aM.le ?_ (aI.le_refl _)) ?_
  ·skip
   repeat (refine AF.le_cons rfl ?_)
   exact AF.le_nil rfl
  rintro i f N hi ⟨rfl,hinv,rfl⟩
  by_cases h1:i < l.length - 1
  ·have d1:decide (((i+1:Nat):Int) < (l.length:Int))=true:=by simp;omega
   have hx:l[i]? =some l[i]:=List.getElem?_eq_getElem (by omega)
   have hy:l[i+1]? =some l[i+1]:=List.getElem?_eq_getElem (by omega)
   have fi:=aQ (i:=i+1) (by omega)
   have w1:IntKind.wrap .i64 (((i+1:Nat):Int) - 1)=(i:Int):=(Go.Ab.wrap_small (by omega) (by omega)).trans (by omega)
   generalize l[i]=x at hx
   generalize l[i+1]=y at hy
   have kl:=JV x.key y.key
   cases h3:bG x.key y.key
   ·rw[h3] at kl
    have e:decide (cJ l)=false:=decide_eq_false fun hr=>by rw[PE hr (Nat.lt_succ_self i) hx hy] at h3;cases h3
    rw[e]
    repeat' (first|refine zB rfl d1 ?_|refine zI rfl (by first|exact fi|exact la|exact w1) ?_|refine zA rfl ?_|refine aA ?_|refine aJ rfl ?_|refine aD rfl kl ?_|refine zX rfl (c7 hx) ?_|refine zX rfl (c7 hy) ?_|refine aO mixed [0,1,2,6,7,3,4,5,8,9,10,11,12] [.P,.P,.P,.R,.R,.R,.P,.P,.R,.R,.R,.P,.P] rfl rfl (by kernel_rfl) ?_)
    exact⟨rfl,_,rfl,rfl,rfl⟩
   ·rw[h3] at kl
    repeat' (first|refine zB rfl d1 ?_|refine zI rfl (by first|exact fi|exact la|exact w1) ?_|refine zA rfl ?_|refine aA ?_|refine aJ rfl ?_|refine aD rfl kl ?_|refine zX rfl (c7 hx) ?_|refine zX rfl (c7 hy) ?_|refine aO mixed [0,1,2,6,7,3,4,5,8,9,10,11,12] [.P,.P,.P,.R,.R,.R,.P,.P,.R,.R,.R,.P,.P] rfl rfl (by kernel_rfl) ?_)
    refine⟨h1,_,_,⟨rfl,?_,rfl⟩,aM.le ?_ (aI.le_refl _)⟩
    ·intro j a b hj ha hb
     by_cases hji:j=i
     ·subst hji
      rw[hx] at ha;rw[hy] at hb
      cases ha;cases hb
      exact h3
     ·exact hinv j a b (by omega) ha hb
    ·skip
     repeat (refine AF.le_cons rfl ?_)
     exact AF.le_nil rfl
  ·have d1:decide (((i+1:Nat):Int) < (l.length:Int))=false:=by simp;omega
   have e:decide (cJ l)=true:=decide_eq_true (AM l fun j a b ha hb=>hinv j a b (by have:=(List.getElem?_eq_some_iff.1 hb).1;omega) ha hb)
   rw[e]
   repeat' (first|refine zB rfl d1 ?_|refine zI rfl la ?_|refine zA rfl ?_|refine aA ?_|refine aJ rfl ?_)
   exact⟨rfl,_,rfl,rfl,rfl⟩
theorem XD (l:List Pr) (tg:eI) (hl:l.length < 1000000) (k:Ky):aN Tryz.prog 209 [.sl 3 (l.map Pr.av) tg,k.av] (.tup [.int .i64 (dF l k),.bool (lC l k)]):=by
 intro M
 refine aC aF Tryz.func209 rfl (by decide) (by simp[Tryz.f209]) ?_
 have la:=aU Pr.av l
 repeat' (first|refine zA rfl ?_|refine aA ?_|refine aJ rfl ?_)
 refine aX l.length (fun i f N=>N=M∧(∀(j:Nat) a,j < i→l[j]? =some a→bG a.key k=true)∧f=⟨[(0,.sl 3 (l.map Pr.av) tg),(3,.ref [.str k.path,.int .i64 k.time]),(6,.int .i64 (i:Int))],[]⟩) (Nat.zero_le _) ⟨rfl,by simp,rfl⟩ (aM.le ?_ (aI.le_refl _)) ?_
 ·skip
  repeat (refine AF.le_cons rfl ?_)
  exact AF.le_nil rfl
 rintro i f N hi ⟨rfl,hinv,rfl⟩
 by_cases h1:i < l.length
 ·have d1:decide ((i:Int) < (l.length:Int))=true:=by simp;omega
  have hx:l[i]? =some l[i]:=List.getElem?_eq_getElem h1
  have fi:=aQ (i:=i) (by omega)
  have ht:=b7 hx
  have hm:=List.getElem_mem h1
  generalize l[i]=x at hx ht hm
  have kl:=JV x.key k
  cases h3:bG x.key k
  ·rw[h3] at kl
   have e:=I7 hinv (fun a ha=>by rw[hx] at ha;cases ha;exact h3) (by omega)
   have ce:=OI x.key k
   unfold lC
   rw[e,hx]
   repeat' (first|refine zB rfl (by first|exact d1|exact ce) ?_|refine zI rfl (by first|exact fi|exact la) ?_|refine zA rfl ?_|refine aA ?_|refine aJ rfl ?_|refine aD rfl kl ?_|refine zX rfl (c7 hx) ?_|refine aO mixed [0,1,2,3,4,5,6,7,8,9,10,11,12] [.P,.P,.P,.P,.P,.P,.P,.R,.R,.R,.R,.P,.P] rfl rfl (by kernel_rfl) ?_|refine aO mixed [0,1,2,3,4,5,6,7,14,8,9,10,11,12,13,15] [.P,.P,.P,.P,.P,.P,.P,.P,.R,.R,.R,.R,.P,.P,.P,.P] rfl rfl (by kernel_rfl) ?_)
   exact⟨rfl,_,rfl,rfl,rfl⟩
  ·rw[h3] at kl
   repeat' (first|refine zB rfl d1 ?_|refine zI rfl (by first|exact fi|exact la) ?_|refine zA rfl ?_|refine aA ?_|refine aJ rfl ?_|refine aD rfl kl ?_|refine zX rfl (c7 hx) ?_|refine aO mixed [0,1,2,3,4,5,6,7,8,9,10,11,12] [.P,.P,.P,.P,.P,.P,.P,.R,.R,.R,.R,.P,.P] rfl rfl (by kernel_rfl) ?_)
   refine⟨h1,_,_,⟨rfl,?_,rfl⟩,aM.le ?_ (aI.le_refl _)⟩
   ·intro j a hj ha
    by_cases hji:j=i
    ·subst hji
     rw[hx] at ha
     cases ha
     exact h3
    ·exact hinv j a (by omega) ha
   ·skip
    repeat (refine AF.le_cons rfl ?_)
    exact AF.le_nil rfl
 ·have d1:decide ((i:Int) < (l.length:Int))=false:=by simp;omega
  obtain rfl:i=l.length:=by omega
  have e:=I7 (i:=l.length) hinv (fun a ha=>by rw[List.getElem?_eq_none (Nat.le_refl _)] at ha;cases ha) (Nat.le_refl _)
  unfold lC
  rw[e,List.getElem?_eq_none (Nat.le_refl _)]
  repeat' (first|refine zB rfl d1 ?_|refine zI rfl la ?_|refine zA rfl ?_|refine aA ?_|refine aJ rfl ?_|refine aO mixed [0,1,2,3,4,5,6,7,8,9,10,11,12] [.P,.P,.P,.P,.P,.P,.P,.R,.R,.R,.R,.P,.P] rfl rfl (by kernel_rfl) ?_|refine aO mixed [0,1,2,3,4,5,6,7,14,8,9,10,11,12,13,15] [.P,.P,.P,.P,.P,.P,.P,.P,.R,.R,.R,.R,.P,.P,.P,.P] rfl rfl (by kernel_rfl) ?_)
  exact⟨rfl,_,rfl,rfl,rfl⟩
noncomputable def o7 (t:Tr) (p:Pr):Tr:=if h:t.all.length < 10000000 then Classical.choose (EV t p h) else t
theorem KJ {t:Tr} {p:Pr} (h:t.all.length < 10000000):(o7 t p).all=cV t.all p:=by
 unfold o7
 rw[dif_pos h]
 exact (Classical.choose_spec (EV t p h)).1
theorem OM {t:Tr} {p:Pr} (h:t.all.length < 10000000):aN Tryz.prog 88 [t.av,p.av] (o7 t p).av:=by
 unfold o7
 rw[dif_pos h]
 exact (Classical.choose_spec (EV t p h)).2
noncomputable def iG (l:List Pr):Tr:=l.foldl o7 a0u
def Q5 (l:List Pr):List Pr:=l.foldl cV []
theorem IX:∀(l:List Pr) (t:Tr),t.all.length+l.length < 10000000→(l.foldl o7 t).all=l.foldl cV t.all∧(l.foldl o7 t).all.length≤t.all.length+l.length
 |[],t,_=>⟨rfl,Nat.le_refl _⟩
 |p::r,t,h=>by
  simp only[List.length_cons] at h
  have h1:(o7 t p).all=cV t.all p:=KJ (by omega)
  have h2:=(jM t.all p).2.1
  obtain⟨h3,h4⟩:=IX r (o7 t p) (by rw[h1];omega)
  refine⟨?_,?_⟩
  ·show (r.foldl o7 (o7 t p)).all=r.foldl cV (cV t.all p)
   rw[h3,h1]
  ·show (r.foldl o7 (o7 t p)).all.length≤_
   rw[h1] at h4
   simp only[List.length_cons]
   omega
theorem KH {l:List Pr} (h:l.length < 1000000):(iG l).all=Q5 l∧(Q5 l).length≤l.length:=by
 obtain⟨h1,h2⟩:=IX l a0u (by show 0+l.length < _;omega)
 have h1:(iG l).all=Q5 l:=h1
 refine⟨h1,?_⟩
 rw[←h1]
 have h2:(iG l).all.length≤0+l.length:=h2
 omega
theorem NZ {l:List Pr} {i:Nat} {x:Pr} (ht:l.take (i+1)=l.take i++[x]):iG (l.take (i+1))=o7 (iG (l.take i)) x:=by
 unfold iG
 rw[ht,List.foldl_append]
 rfl
end Go.Proofs.YthnhbmlefiafaaaGreatDoor
namespace Go.Ab
def a10:dG→Prop
 |.ret x=>aP x
 |.pan x=>aP x
def a9t (k:Nat):dG→dG→Prop
 |.ret x,.ret y=>aH k x y
 |.pan x,.pan y=>aH k x y
 |_,_=>False
def TN (P:Program) (g:FuncId) (args:List AV) (r:dG):Prop:=∀M,aS P g args M fun e N=>e=r∧N=M
theorem xV {P:Program} {g:FuncId} {args:List AV} {r:dG} (ha:∀x,x∈args→aP x) (hr:a10 r) (h:aS P g args ⟨0,[]⟩ fun e _=>a9t 0 e r):TN P g args r:=by
 intro M
 refine tP (R:=fun e=>e=r) ha ?_ (fun e he=>by subst he;cases e<;>exact hr) M
 refine aS.mono (h.joint (R':=fun e _=>e=r) ?_ ?_) (fun e M he=>he)
 ·intro x M' hs
  cases r with
  |pan y=>exact hs.elim
  |ret y=>exact⟨y,⟨0,[]⟩,rfl,aM.cut (Nat.le_refl _) (Nat.zero_le _) rfl ⟨hs,trivial⟩ trivial⟩
 ·intro x M' hs
  cases r with
  |ret y=>exact hs.elim
  |pan y=>exact⟨y,⟨0,[]⟩,rfl,aM.cut (Nat.le_refl _) (Nat.zero_le _) rfl ⟨hs,trivial⟩ trivial⟩
section
variable {P:Program} {τ:Tab} {ops:Array Oper} {cls:Nat→fZ} {Q:AX→AF→aI→Prop} {ds:List bH} {ls:List Nat} {i:Nat} {t:List (Nat×AV)} {M:aI}
theorem BP {dst:Option Nat} {g:FuncId} {args:List AV} {x:AV} (hs:DM ops ds i t=some (dst,g,args)) (hc:qJ (cls i)=true) (hk:TN P g args (.pan x)) (h:Q (.panic x) ⟨dE ds,ds⟩ M):DW P ops cls Q ds (i::ls) t M:=by
 cases dst with
 |some d=>exact cU hs hc (hk M) (fun u M' he=>by cases he.1) (fun u M' he=>by obtain⟨e,rfl⟩:=he;cases e;exact h)
 |none=>exact a4p hs hc (hk M) (fun u M' he=>by cases he.1) (fun u M' he=>by obtain⟨e,rfl⟩:=he;cases e;exact h)
end
theorem BJ {P:Program} {τ:Tab} (hτ:TabOK P τ) {g:FuncId} {fn:Func} {c:Code} (hf:P.funcs[g]? =some fn) (hb:fn.body=some c) (hn:fn.name≠ "runtime.NumGoroutine") {args:List AV} {m:kR} {M:aI} {R:aI→Prop}
  (hlen:args.length≤fn.ntmps) (h:W none P fn.ntmps c (QD τ fn R) (qS args) M):bJ P g args m M (fun m' M'=>m'=m∧R M'):=by
 refine⟨⟨fn,c,hf,hb,hn⟩,fun μ F w vs u hg hv hm=>?_⟩
 have hr:=mI (μ:=μ) (F:=F) (w:=w) hlen hv
 refine (callsD_of_wp (R:=fun e w'=>(∃v,e=.returned v)∧∃μ' M',eB w μ w' μ'∧eP μ' F M' w'∧R M') hf hb ?_).mono ?_
 ·refine wp_mono (A4 (h.run μ F w _ hg hr)) ?_
  rintro e a' w' ⟨μ',f',M',x,h1,h2,h3,h4,h5⟩
  cases e with
  |normal=>
   cases x<;>first|exact h4.elim|skip
   obtain⟨k1,⟨r,k2⟩,k3⟩:=h5
   obtain⟨v',hv',_⟩:=jO (P:=P) hτ h2 h3 k2
   have hdd:=h3.defs
   rw[k1] at hdd
   exact⟨fV hdd,v',hv',⟨v',rfl⟩,μ',M',h1,h2,k3⟩
  |ret=>
   cases x<;>first|exact h4.elim|skip
   obtain⟨k1,⟨r,k2⟩,k3⟩:=h5
   obtain⟨v',hv',_⟩:=jO (P:=P) hτ h2 h3 k2
   have hdd:=h3.defs
   rw[k1] at hdd
   exact⟨fV hdd,v',hv',⟨v',rfl⟩,μ',M',h1,h2,k3⟩
  |exit id=>cases x<;>first|exact h4.elim|exact h5.elim
  |goto l=>cases x<;>exact h4.elim
  |panic ch=>cases x<;>first|exact h4.elim|exact h5.elim
  |outgrown=>cases x<;>exact h4.elim
 ·rintro e u' w' ⟨rfl,hv,μ',M',h1,h2,h3⟩
  refine⟨hv,μ',M',m,h1,h2,?_,rfl,h3⟩
  cases m with
  |ret=>rw[show u'=.returning from hm];rfl
  |pan x=>
   obtain⟨v,rfl,hx⟩:=hm
   exact⟨v,rfl,hx.evo h1⟩
def KL (k:Nat):List bH→Prop
 |[]=>True
 |d::r=>d.mark=none∧(∀x,x∈d.cap→aH k x x)∧(∀x,x∈d.args→aH k x x)∧(∀p,p∈d.keep→aH k p.2 p.2)∧KL k r
theorem H9 {μ:Mu} {F:cO} {w:World} {k:Nat} {l:List AV} {c:Array Value} (h:dB μ F w l c) (hl:∀x,x∈l→aH k x x):dB (cut μ k) F w l c:=
 ⟨h.1,fun i x v hx hv=>hl x (List.mem_of_getElem? hx) μ F w v (h.2 i x v hx hv)⟩
theorem yJ {μ:Mu} {F:cO} {w:World} {k:Nat}:∀{l:List bH} {r:List Deferred},KL k l→fY μ F w l r→fY (cut μ k) F w l r
 |[],[],_,_=>trivial
 |[],_::_,_,h=>h.elim
 |_::_,[],_,h=>h.elim
 |d::l,_::r,⟨h0,h1,h2,_,h4⟩,⟨⟨g1,g2,g3⟩,g4⟩=>
  ⟨⟨fun h=>(g1 h).imp fun _ h=>⟨h.1,H9 h.2 h1⟩,H9 g2 h2,fun y hy=>by rw[h0] at hy;cases hy⟩,yJ h4 g4⟩
theorem a40 {k:Nat}:∀{l:List bH},KL k l→∀p,p∈dE l→aH k p.2 p.2
 |[],_,_,h=>by cases h
 |d::l,⟨_,_,_,h3,h4⟩,p,h=>by
  rcases List.mem_append.1 h with h|h
  ·exact h3 p h
  ·exact a40 h4 p h
theorem aM.cutD {n0:Nat} {f:AF} {M:aI} {k:Nat} (hk:n0≤k) (hk2:k≤M.next) {t:List (Nat×AV)} {l:List (Nat×cT)} (hd:KL k f.d) (ht:J7 k f t) (ho:gU k M l):aM n0 f M ⟨t,f.d⟩ ⟨k,l⟩:=by
 intro μ0 μ F w0 w n a hn he hg hr
 exact⟨Go.Ab.cut μ k,EK he (fun id h=>Nat.lt_of_lt_of_le (hn id h) hk),F4 hg hk2 ho,hr.size,fun i=>uV ht i μ F w _ (hr.tmps i),yJ hd hr.defs,fun p hp=>a40 hd p hp μ F w _ (hr.kept p hp)⟩
end Go.Ab
namespace Go.Proofs.YthnhbmlefiafaaaGreatDoor
open Go.Ab
def mW (k:Ky):Bool:=cS k.path&&decide (0≤k.time)&&decide (k.time≤1000000000)
theorem JU (k:Ky) (hs:k.path.length < 1000000):aN Tryz.prog 193 [k.av] (.bool (mW k)):=by
 intro M
 refine aC aF Tryz.func193 rfl (by decide) (by simp[Tryz.f193]) ?_
 have kp:=mG k.path (by omega)
 unfold mW
 cases h1:cS k.path
 ·rw[h1] at kp
  repeat' (first|refine zA rfl ?_|refine aA ?_|refine aJ rfl ?_|refine aD rfl kp ?_)
  exact⟨rfl,_,rfl,rfl,rfl⟩
 ·rw[h1] at kp
  cases h2:decide (0≤k.time)
  ·repeat' (first|refine zB rfl h2 ?_|refine zA rfl ?_|refine aA ?_|refine aJ rfl ?_|refine aD rfl kp ?_)
   exact⟨rfl,_,rfl,rfl,rfl⟩
  ·repeat' (first|refine zB rfl h2 ?_|refine zA rfl ?_|refine aA ?_|refine aJ rfl ?_|refine aD rfl kp ?_)
   exact⟨rfl,_,rfl,rfl,rfl⟩
theorem T0 (k:Ky) (hs:k.path.length < 1000000):aN Tryz.prog 154 [k.av] (.bool (mW k)):=by
 intro M
 refine aC aF Tryz.func154 rfl (by decide) (by simp[Tryz.f154]) ?_
 have kp:=KB k.path hs
 unfold mW
 cases h1:cS k.path
 ·rw[h1] at kp
  repeat' (first|refine zA rfl ?_|refine aA ?_|refine aJ rfl ?_|refine aD rfl kp ?_)
  exact⟨rfl,_,rfl,rfl,rfl⟩
 ·rw[h1] at kp
  cases h2:decide (0≤k.time)
  ·repeat' (first|refine zB rfl h2 ?_|refine zA rfl ?_|refine aA ?_|refine aJ rfl ?_|refine aD rfl kp ?_)
   exact⟨rfl,_,rfl,rfl,rfl⟩
  ·repeat' (first|refine zB rfl h2 ?_|refine zA rfl ?_|refine aA ?_|refine aJ rfl ?_|refine aD rfl kp ?_)
   exact⟨rfl,_,rfl,rfl,rfl⟩
structure Vr where
 key:Ky
 meta_:Mt
 gone:Bool
def Vr.cells (v:Vr):List AV:=[.str v.key.path,.int .i64 v.key.time,.int .i64 v.meta_.size,.int .i64 v.meta_.mode,iA v.meta_.ch .none,.bool v.gone]
def Vr.av (v:Vr):AV:=.agg v.cells
theorem AL (v:Vr):∀x,x∈v.cells→aP x:=by
 intro x hx
 simp[Vr.cells] at hx
 rcases hx with rfl|rfl|rfl|rfl|rfl|rfl
 ·exact aR
 ·exact aB
 ·exact aB
 ·exact aB
 ·exact i9 _ (.inl rfl)
 ·exact aL
theorem uQ (v:Vr):aP v.av:=cP (AL v)
def FB (p:Pr):Bool:=decide ((bW p.val).2.2=0)&&mW p.key&&!(p.key.path==[])
def T9 (p:Pr):Vr:=⟨p.key,(bW p.val).1,(bW p.val).2.1⟩
def eY (l:List Pr):Bool:=l.all FB
theorem JG:aN Tryz.prog 163 [.int .i64 0] (.tup []):=by
 intro M
 refine aC aF Tryz.func163 rfl (by decide) (by simp[Tryz.f163]) ?_
 repeat' (first|refine zA rfl ?_|refine aA ?_|refine aJ rfl ?_)
 exact⟨rfl,_,rfl,rfl,rfl⟩
theorem y8 (p:Pr) (hk:p.key.path.length < 1000000) (hv:p.val.length < 1000000) (h:FB p=true):aN Tryz.prog 164 [p.av] (T9 p).av:=by
 refine aT (aY (i7 p)) (uQ _) ?_
 refine aC aF Tryz.func164 rfl (by decide) (by simp[Tryz.f164]) ?_
 have kr:=x8 p.val hv
 have kk:=JU p.key hk
 unfold FB at h
 unfold T9
 generalize bW p.val=x at h kr
 obtain⟨m,g,e⟩:=x
 simp at h
 obtain⟨⟨he,h2⟩,h3⟩:=h
 subst he
 rw[h2] at kk
 have d3:(p.key.path==[])=false:=by simp[h3]
 repeat' (first|refine zB rfl d3 ?_|refine zA rfl ?_|refine aA ?_|refine aJ rfl ?_|refine aD rfl kr ?_|refine aD rfl kk ?_)
 exact⟨rfl,_,rfl,_,rfl,aH.of_closed (uQ ⟨p.key,m,g⟩)⟩
theorem a1j (p:Pr) (hk:p.key.path.length < 1000000) (hv:p.val.length < 1000000) (h:FB p=false):TN Tryz.prog 164 [p.av] (.pan (nJ 1)):=by
 refine xV (aY (i7 p)) (eJ 1) ?_
 refine aC aF Tryz.func164 rfl (by decide) (by simp[Tryz.f164]) ?_
 have kr:=x8 p.val hv
 have kk:=JU p.key hk
 unfold FB at h
 generalize bW p.val=x at h kr
 obtain⟨m,g,e⟩:=x
 by_cases he:e=0
 ·subst he
  cases h2:mW p.key
  ·rw[h2] at kk
   repeat' (first|refine zA rfl ?_|refine aA ?_|refine aJ rfl ?_|refine aD rfl kr ?_|refine aD rfl kk ?_)
   refine fI rfl rfl rfl rfl rfl ?_
   exact⟨rfl,aH.of_closed (eJ 1)⟩
  ·rw[h2] at kk h
   simp at h
   have d3:(p.key.path==[])=true:=by simp[h]
   repeat' (first|refine zB rfl d3 ?_|refine zA rfl ?_|refine aA ?_|refine aJ rfl ?_|refine aD rfl kr ?_|refine aD rfl kk ?_)
   refine fI rfl rfl rfl rfl rfl ?_
   exact⟨rfl,aH.of_closed (eJ 1)⟩
 ·have d1:(!decide (e=0))=true:=by simp[he]
  repeat' (first|refine zB rfl d1 ?_|refine zA rfl ?_|refine aA ?_|refine aJ rfl ?_|refine aD rfl kr ?_)
  refine fI rfl rfl rfl rfl rfl ?_
  exact⟨rfl,aH.of_closed (eJ 1)⟩
def TS (nx:Nat) (n:Int):aI:=⟨nx,[(0,.cells [.int .i64 n])]⟩
def cm1 (nx:Nat) (o:cT) (n:Int):aI:=⟨nx,[(0,o),(1,.cells [.int .i64 n])]⟩
theorem a5i (nx:Nat) (n e:Int):bJ Tryz.prog 116 [.ptr 0 0] (.pan (nJ e)) (TS nx n) (fun m' M'=>m'=.ret∧M'.next=nx∧M'.get 0=some (.cells [.int .i64 e])):=by
 refine cQ aF Tryz.func116 rfl (by decide) rfl rfl rfl rfl rfl (by simp[Tryz.f116]) ?_
 refine cM aF rfl rfl rfl rfl rfl ?_
 repeat' (first|refine zA rfl ?_|refine aA ?_|refine aJ rfl ?_)
 exact⟨rfl,⟨_,rfl⟩,rfl,rfl⟩
theorem a7m (nx:Nat) (n:Int):bJ Tryz.prog 116 [.ptr 0 0] .ret (TS nx n) (fun m' M'=>m'=.ret∧M'.next=nx∧M'.get 0=some (.cells [.int .i64 n])):=by
 refine cQ aF Tryz.func116 rfl (by decide) rfl rfl rfl rfl rfl (by simp[Tryz.f116]) ?_
 refine cM aF rfl rfl rfl rfl rfl ?_
 repeat' (first|refine zA rfl ?_|refine aA ?_|refine aJ rfl ?_)
 exact⟨rfl,⟨_,rfl⟩,rfl,rfl⟩
theorem a6s (nx:Nat) (o:cT) (n e:Int):bJ Tryz.prog 116 [.ptr 1 0] (.pan (nJ e)) (cm1 nx o n) (fun m' M'=>m'=.ret∧M'.next=nx∧M'.get 0=some o∧M'.get 1=some (.cells [.int .i64 e])):=by
 refine cQ aF Tryz.func116 rfl (by decide) rfl rfl rfl rfl rfl (by simp[Tryz.f116]) ?_
 refine cM aF rfl rfl rfl rfl rfl ?_
 repeat' (first|refine zA rfl ?_|refine aA ?_|refine aJ rfl ?_)
 exact⟨rfl,⟨_,rfl⟩,rfl,rfl,rfl⟩
theorem a7x (nx:Nat) (o:cT) (n:Int):bJ Tryz.prog 116 [.ptr 1 0] .ret (cm1 nx o n) (fun m' M'=>m'=.ret∧M'.next=nx∧M'.get 0=some o∧M'.get 1=some (.cells [.int .i64 n])):=by
 refine cQ aF Tryz.func116 rfl (by decide) rfl rfl rfl rfl rfl (by simp[Tryz.f116]) ?_
 refine cM aF rfl rfl rfl rfl rfl ?_
 repeat' (first|refine zA rfl ?_|refine aA ?_|refine aJ rfl ?_)
 exact⟨rfl,⟨_,rfl⟩,rfl,rfl,rfl⟩
end Go.Proofs.YthnhbmlefiafaaaGreatDoor
