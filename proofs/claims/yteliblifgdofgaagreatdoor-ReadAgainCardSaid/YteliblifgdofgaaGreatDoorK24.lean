/- Parts of the proof, one behind the other. No further condition. -/
import Derived.Test.YteliblifgdofgaaGreatDoorK23
import Derived.Test.YteliblifgdofgaaGreatDoorK15
import Derived.Test.YteliblifgdofgaaGreatDoorK19
import Derived.Test.YteliblifgdofgaaGreatDoorK21
import Derived.Test.YteliblifgdofgaaGreatDoorK22
set_option linter.unusedVariables false
set_option linter.unusedSimpArgs false
set_option maxRecDepth 100000
set_option maxHeartbeats 8000000
namespace Go.Proofs.YteliblifgdofgaaGreatDoor
open Go.Ab
theorem YZ:aO Tryz.prog 251 [.int .u64 1] (.int .i64 1):=by
 intro M
 refine aC aF Tryz.func251 rfl (by decide) (by simp[Tryz.f251]) ?_
 repeat' (first|refine zA rfl ?_|refine aA ?_|refine aL rfl ?_|refine wD aF rfl (⟨by decide,rfl⟩) ?_)
 exact⟨rfl,_,rfl,rfl,rfl⟩
theorem a29:aO Tryz.prog 190 [.int .u64 1] (.int .i64 1):=by
 intro M
 refine aC aF Tryz.func190 rfl (by decide) (by simp[Tryz.f190]) ?_
 have k:=YZ
 repeat' (first|refine zA rfl ?_|refine aA ?_|refine aL rfl ?_|refine aH rfl k ?_)
 exact⟨rfl,_,rfl,rfl,rfl⟩
theorem a3i (id cap:Nat):aO Tryz.prog 241 [.osl id 0 1 cap 1,.int .i64 0,.int .i64 1] (.tup []):=by
 intro M
 refine aC aF Tryz.func241 rfl (by decide) (by simp[Tryz.f241]) ?_
 repeat' (first|refine zA rfl ?_|refine aA ?_|refine aL rfl ?_)
 refine bC 0 (fun i f N=>N=M∧f=⟨[(0,.osl id 0 1 cap 1),(1,.int .i64 0),(2,.int .i64 1),(6,.int .i64 1)],[]⟩) (Nat.zero_le _) ⟨rfl,rfl⟩ (aR.le ?_ (aG.le_refl _)) ?_
 ·skip
  repeat (refine AF.le_cons rfl ?_)
  exact AF.le_nil rfl
 rintro i f N hi ⟨rfl,rfl⟩
 repeat' (first|refine zA rfl ?_|refine aA ?_|refine aL rfl ?_)
 exact⟨rfl,_,rfl,rfl,rfl⟩
theorem a08 (id cap:Nat):aO Tryz.prog 189 [.osl id 0 1 cap 1,.int .i64 0,.int .i64 1,.int .i64 1] (.tup []):=by
 intro M
 refine aC aF Tryz.func189 rfl (by decide) (by simp[Tryz.f189]) ?_
 have k:=a3i id cap
 repeat' (first|refine zA rfl ?_|refine aA ?_|refine aL rfl ?_)
 refine bC 0 (fun i f N=>N=M∧f=⟨[(0,.osl id 0 1 cap 1),(1,.int .i64 0),(2,.int .i64 1),(3,.int .i64 1),(8,.bool true),(9,.bool true)],[]⟩) (Nat.zero_le _) ⟨rfl,rfl⟩ (aR.le ?_ (aG.le_refl _)) ?_
 ·skip
  repeat (refine AF.le_cons rfl ?_)
  exact AF.le_nil rfl
 rintro i f N hi ⟨rfl,rfl⟩
 repeat' (first|refine zA rfl ?_|refine aA ?_|refine aL rfl ?_|refine aH rfl k ?_)
 exact⟨rfl,_,rfl,rfl,rfl⟩
theorem U9 {M:aG} {id cap:Nat} {l:List AV} (hM:M.get id=some (.cells l)):aQ Tryz.prog 149 [.osl id 0 1 cap 1] M (fun e N=>e=.ret (.tup [])∧N=M):=by
 refine aC aF Tryz.func149 rfl (by decide) (by simp[Tryz.f149]) ?_
 have k1:=a29
 have k2:=a08 id cap
 repeat' (first|refine zA rfl ?_|refine aL rfl ?_)
 refine p7 aF rfl rfl rfl rfl rfl rfl hM rfl rfl ?_
 repeat' (first|refine zA rfl ?_|refine aA ?_|refine aL rfl ?_|refine aH rfl k1 ?_|refine aH rfl k2 ?_)
 exact⟨rfl,_,rfl,rfl,rfl⟩
theorem GJ (n:Int) (h0:0≤n):aO Tryz.prog 103 [.sl 1 [.int .i64 n] .none] (.int .i64 n):=by
 refine aU (aX (r5 n)) (aB) ?_
 refine aC aF Tryz.func103 rfl (by decide) (by simp[Tryz.f103]) ?_
 have k1:=a0f
 have fm:(if true=true then (if n < 0 then (0:Int) else n) else if 0 < n then 0 else n)=n:=by rw[if_pos rfl,if_neg (by omega)]
 repeat' (first|refine XX (n:=1) aF rfl rfl rfl rfl rfl rfl rfl rfl rfl rfl rfl rfl rfl rfl (by decide) ?_|refine zA rfl ?_|refine aA ?_|refine aL rfl ?_)
 refine nT aF rfl rfl rfl rfl rfl rfl rfl rfl rfl rfl rfl (by decide) (.inl ⟨_,_,rfl,rfl,rfl,fun y hy=>by rw[List.mem_singleton.1 hy];rfl⟩) rfl rfl ?_
 repeat' (first|refine zA rfl ?_|refine aA ?_|refine aL rfl ?_)
 refine bS rfl rfl (U9 rfl) ?_ (fun u M' h=>by cases h.1)
 rintro u N ⟨e,rfl⟩
 cases e
 repeat' (first|refine zI rfl fm ?_|refine NQ aF rfl ?_|refine GZ aF rfl ?_|refine zA rfl ?_|refine aA ?_|refine aL rfl ?_|refine aH rfl k1 ?_)
 exact⟨rfl,_,rfl,_,rfl,aI.of_closed aB⟩
theorem a48 (n:Int) (M:aG):aQ Tryz.prog 100 [.sl 1 [.int .i64 n] .none] M (fun e N=>∃cap rest,e=.ret (.osl M.next 0 1 cap 1)∧N=M.push (.cells (.int .i64 n::rest))∧1≤cap∧rest.length+1=cap):=by
 refine aC aF Tryz.func100 rfl (by decide) (by simp[Tryz.f100]) ?_
 repeat' (first|refine zA rfl ?_|refine aA ?_|refine aL rfl ?_)
 refine iZ rfl rfl ?_
 intro b hb
 cases b
 ·have hne:[AV.int .i64 n]≠[]:=by simp
  repeat' (first|refine zA rfl ?_|refine aA ?_|refine aL rfl ?_|refine zR rfl ?_)
  refine s4 aF rfl rfl rfl rfl rfl rfl rfl rfl rfl rfl rfl (.inr rfl) rfl rfl hne (by simp) (by simp) ?_
  intro cap' l' g1 g2 g3
  repeat' (first|refine zA rfl ?_|refine aA ?_|refine aL rfl ?_)
  cases l' with
  |nil=>simp[b8,AV.cells] at g3
  |cons a rest=>
   have ha:a=.int .i64 n:=by simpa [b8,AV.cells] using g3
   subst ha
   exact⟨rfl,_,rfl,cap',rest,rfl,rfl,by simpa using g1,by simpa using g2⟩
 ·exact absurd (hb (by simp)) (by simp)
theorem a3f (l:List aD) (hl:l.length < 1000000) (M:aG):aQ Tryz.prog 99 [.sl 1 (l.map AV.str) .none] M (fun e N=>(e=.ret (.sl 1 (l.map AV.str) (.tok M.next 0))∧N=M.push (.spare 0))∨(l=[]∧e=.ret (.sl 0 [] .full)∧N=M)):=by
 refine aC aF Tryz.func99 rfl (by decide) (by simp[Tryz.f99]) ?_
 have la:=bA AV.str l
 repeat' (first|refine zA rfl ?_|refine aA ?_|refine aL rfl ?_)
 refine iZ rfl rfl ?_
 intro b hb
 cases b
 ·repeat' (first|refine zA rfl ?_|refine aA ?_|refine aL rfl ?_|refine zR rfl ?_|refine zQ rfl ?_)
  exact⟨rfl,_,rfl,.inl ⟨rfl,rfl⟩⟩
 ·have hc:l=[]:=by
   by_cases hc:l=[]
   ·exact hc
   ·exact absurd (hb (by simpa using hc)) (by simp)
  repeat' (first|refine zA rfl ?_|refine aA ?_|refine aL rfl ?_)
  exact⟨rfl,_,rfl,.inr ⟨hc,rfl,rfl⟩⟩
theorem a2w (l:List aD) (hl:l.length < 1000000) (M:aG):aQ Tryz.prog 99 [.sl 1 (l.map AV.str) .none] M (fun e N=>e=.ret (.sl 1 (l.map AV.str) (.tok M.next 0))∧N=M.push (.spare 0)):=by
 refine (a3f l hl M).joint ?_ ?_
 ·rintro x M' (⟨h,rfl⟩|⟨rfl,h,rfl⟩)
  ·cases h
   exact⟨_,_,⟨rfl,rfl⟩,aR.le (AF.le_cons rfl (AF.le_nil rfl)) (aG.le_refl _)⟩
  ·cases h
   refine⟨_,_,⟨rfl,rfl⟩,(aR.tok 0 rfl (sz':=1) (.inr rfl)).trans (aR.le ?_ (aG.le_refl _))⟩
   exact AF.le_cons rfl (AF.le_nil rfl)
 ·rintro x M' (⟨h,_⟩|⟨_,h,_⟩)<;>cases h
def yC:List AV:=[.int .i64 0,.int .i64 0,.int .i64 0,.int .i64 0,.bool false,.int .i64 0,.sl 0 [] .full,.sl 0 [] .full,.sl 0 [] .full]
def aM:aG:=⟨3,[(0,.cells yC),(1,.cells [.sl 0 [] .full]),(2,.cells [.int .i64 0])]⟩
def zC (log:List aD) (cm:Int) (g cap:Nat):List AV:=[.int .i64 0,.int .i64 1,.int .i64 0,.int .i64 0,.bool true,.int .i64 cm,.sl 1 (log.map AV.str) (.tok 4 g),.osl 5 0 1 cap 1,.sl 0 [] .full,.sl 0 [] .full]
def zM (log:List aD) (cm ac:Int) (g cap:Nat) (rest:List AV):aG:=⟨7,[(6,.cells (zC log cm g cap)),(5,.cells (.int .i64 ac::rest)),(4,.spare g),(0,.cells yC),(1,.cells [.sl 0 [] .full]),(2,.cells [.int .i64 0])]⟩
def xC (log:List aD) (cap:Nat):List AV:=[.int .i64 0,.int .i64 1,.int .i64 0,.int .i64 0,.bool true,.int .i64 (log.length:Int),.sl 1 (log.map AV.str) (.tok 4 0),.osl 5 0 1 cap 1,.sl 0 [] .full]
def xM (log:List aD) (ac:Int) (cap:Nat) (rest:List AV):aG:=⟨6,[(3,.cells (xC log cap)),(5,.cells (.int .i64 ac::rest)),(4,.spare 0),(0,.cells yC),(1,.cells [.sl 0 [] .full]),(2,.cells [.int .i64 0])]⟩
abbrev aAl (log:List aD):cH→aG→Prop:=fun e N=>∃cap rest,1≤cap∧rest.length+1=cap∧e=.ret (.ptr 6 0)∧(zM log log.length log.length 0 cap rest).le N
theorem a90 (log:List aD) (h:pK log):aQ Tryz.prog 61 [dI log] aM (aAl log):=by
 refine aC aF Tryz.func61 rfl (by decide) (by simp[Tryz.f61]) ?_
 have ki:=PQ log h
 have hl:=h.1
 unfold dI d9 at ki ⊢
 unfold aM
 repeat' (first|refine iT 1 aF rfl ?_|refine zA rfl ?_|refine aA ?_|refine aL rfl ?_|refine aH rfl ki ?_|refine sX mixed (.two [0,1] 2 3 (.two [3,4] 5 6 (.fin [6,7,8,9]) (.fin [5,7,8,9])) (.two [] 2 4 (.two [4] 5 6 (.fin [6,7,8,9]) (.fin [5,7,8,9])) (.two [2] 5 6 (.fin [6,7,8,9]) (.fin [5,7,8,9])))) [.R,.R,.E,.R,.R,.E,.R,.E,.R,.E] rfl rfl (by kernel_rfl) ?_|refine NR.mk ?_ ?_)
 all_goals
  refine bS rfl rfl (a2w log (by omega) _) ?_ (fun u M' h=>by cases h.1)
  rintro u N ⟨e,rfl⟩
  cases e
  repeat' (first|refine zA rfl ?_|refine aA ?_|refine NR.mk ?_ ?_)
  all_goals
   refine bS rfl rfl (a48 _ _) ?_ (fun u M' h=>by obtain⟨_,_,h,_⟩:=h;cases h)
   rintro u N ⟨cap,rest,e,rfl,h1,h2⟩
   cases e
   repeat' (first|refine zA rfl ?_|refine aA ?_|refine aL rfl ?_)
   all_goals
    refine bC 0 (fun i f N=>N=xM log log.length cap rest∧f=⟨[(1,.ptr 3 0),(22,.int .i64 0),(23,.int .i64 (i:Int))],[]⟩) (Nat.zero_le _) ⟨rfl,rfl⟩ (aR.le ?_ (aG.le_cons rfl (aG.le_cons rfl (aG.le_cons rfl (aG.le_cons rfl (aG.le_cons rfl (aG.le_cons rfl (aG.le_nil rfl)))))))) ?_
    ·skip
     repeat (refine AF.le_cons rfl ?_)
     exact AF.le_nil rfl
    rintro i f N hi ⟨rfl,rfl⟩
    obtain rfl:i=0:=by omega
    unfold xM xC
    repeat' (first|refine iT 35 aF rfl ?_|refine zA rfl ?_|refine aA ?_|refine aL rfl ?_)
    exact⟨rfl,_,rfl,cap,rest,h1,h2,rfl,aG.le_cons rfl (aG.le_cons rfl (aG.le_cons rfl (aG.le_cons rfl (aG.le_cons rfl (aG.le_cons rfl (aG.le_nil rfl))))))⟩
theorem P1 (log:List aD) (h:pK log):aQ Tryz.prog 61 [dI log] aM (fun e N=>∃cap rest,1≤cap∧rest.length+1=cap∧e=.ret (.ptr 6 0)∧N=zM log log.length log.length 0 cap rest):=by
 refine (a90 log h).joint ?_ ?_
 ·rintro x M' ⟨cap,rest,h1,h2,e,hle⟩
  cases e
  exact⟨_,_,⟨cap,rest,h1,h2,rfl,rfl⟩,aR.le (AF.le_cons rfl (AF.le_nil rfl)) hle⟩
 ·rintro x M' ⟨cap,rest,h1,h2,e,hle⟩
  cases e
theorem W9 (log:List aD) (cm ac:Int) (g cap:Nat) (rest:List AV):aQ Tryz.prog 102 [.ptr 6 0,.int .i64 0] (zM log cm ac g cap rest) (fun e N=>e=.ret (.bool true)∧N=zM log cm ac g cap rest):=by
 refine aC aF Tryz.func102 rfl (by decide) (by simp[Tryz.f102]) ?_
 have k:=XM
 unfold zM zC
 repeat' (first|refine zA rfl ?_|refine aA ?_|refine aL rfl ?_|refine aH rfl k ?_)
 exact⟨rfl,_,rfl,rfl,rfl⟩
theorem uY (log:List aD) (cm ac:Int) (g cap:Nat) (rest:List AV):aQ Tryz.prog 62 [.ptr 6 0] (zM log cm ac g cap rest) (fun e N=>e=.ret (.bool true)∧N=zM log cm ac g cap rest):=by
 refine aC aF Tryz.func62 rfl (by decide) (by simp[Tryz.f62]) ?_
 have k:=W9 log cm ac g cap rest
 unfold zM zC at*
 repeat' (first|refine zA rfl ?_|refine aA ?_|refine aL rfl ?_|refine bS rfl rfl (k) ?_ ?_)
 rotate_left
 ·intro u M' h
  cases h.1
 rintro u M' ⟨e,rfl⟩
 cases e
 repeat' (first|refine zA rfl ?_|refine aA ?_|refine aL rfl ?_)
 exact⟨rfl,_,rfl,rfl,rfl⟩
def nC9 (log:List aD) (cm ac:Int) (g:Nat):List AV:=[.int .i64 0,.int .i64 1,.int .i64 0,.int .i64 0,.bool true,.int .i64 cm,.sl 1 (log.map AV.str) (.tok 4 g),.sl 1 [.int .i64 ac] .none,.sl 0 [] .full,.sl 0 [] .full]
def zN (log:List aD) (cm ac:Int) (g:Nat):aG:=⟨7,[(6,.cells (nC9 log cm ac g)),(4,.spare g),(0,.cells yC),(1,.cells [.sl 0 [] .full]),(2,.cells [.int .i64 0])]⟩
theorem a2f (log:List aD) (cm ac:Int) (g cap:Nat) (rest:List AV) (hl:log.length < 1000) (hcm:cm≤log.length) (hc:1≤cap):aQ Tryz.prog 63 [.ptr 6 0] (zM log cm ac g cap rest) (fun e N=>e=.ret (.tup [])∧(zN log log.length log.length g).le N):=by
 refine aC aF Tryz.func63 rfl (by decide) (by simp[Tryz.f63]) ?_
 have kl:=uY log cm ac g cap rest
 have la:=bA AV.str log
 have kq:=GJ (log.length:Int) (by omega)
 have fm:(if true=true then (if cm < (log.length:Int) then (log.length:Int) else cm) else if (log.length:Int) < cm then (log.length:Int) else cm)=(log.length:Int):=by
  rw[if_pos rfl]
  split<;>omega
 unfold zM zC at*
 repeat' (first|refine zA rfl ?_|refine aL rfl ?_|refine bS rfl rfl (kl) ?_ ?_)
 rotate_left
 ·intro u M' h
  cases h.1
 rintro u M' ⟨e,rfl⟩
 cases e
 repeat' (first|refine zI rfl la ?_|refine NQ aF rfl ?_|refine zA rfl ?_|refine aA ?_|refine aL rfl ?_|refine aW mixed [0,5,10,1,2,3,4,6,7,8,9,11,12,13,14,15,16,17] [.P,.R,.R,.R,.R,.P,.R,.R,.R,.R,.P,.R,.R,.R,.R,.P,.R,.E] rfl rfl (by kernel_rfl) ?_)
 refine jR (aR.freezeM (N:=zN log cm log.length g) 6 7 rfl rfl rfl (by decide) rfl (by simp) hc (fun x hx=>by rw[List.mem_singleton.1 hx];rfl) (aG.le_cons rfl (aG.le_cons rfl (aG.le_cons rfl (aG.le_cons rfl (aG.le_cons rfl (aG.le_nil rfl))))))) ?_
 unfold zN nC9
 repeat' (first|refine zI rfl fm ?_|refine zA rfl ?_|refine aA ?_|refine aH rfl kq ?_|refine aW mixed [0,1,6,2,3,4,5,7,8,9,10,11,12,13,14,15,16] [.P,.P,.R,.R,.R,.R,.P,.R,.R,.R,.R,.P,.P,.R,.R,.R,.E] rfl rfl (by kernel_rfl) ?_)
 exact⟨rfl,_,rfl,rfl,aG.le_cons rfl (aG.le_cons rfl (aG.le_cons rfl (aG.le_cons rfl (aG.le_cons rfl (aG.le_nil rfl)))))⟩
theorem SU (log:List aD) (cm ac:Int) (g cap:Nat) (rest:List AV) (hl:log.length < 1000) (hcm:cm≤log.length) (hc:1≤cap):aQ Tryz.prog 63 [.ptr 6 0] (zM log cm ac g cap rest) (fun e N=>e=.ret (.tup [])∧N=zN log log.length log.length g):=by
 refine (a2f log cm ac g cap rest hl hcm hc).joint ?_ ?_
 ·rintro x M' ⟨e,hle⟩
  cases e
  exact⟨_,_,⟨rfl,rfl⟩,aR.le (AF.le_cons rfl (AF.le_nil rfl)) hle⟩
 ·rintro x M' ⟨e,hle⟩
  cases e
theorem UB (log:List aD) (cm ac:Int) (g:Nat):aQ Tryz.prog 64 [.ptr 6 0] (zN log cm ac g) (fun e N=>e=.ret (.tup [])∧N=zN log cm ac g):=by
 refine aC aF Tryz.func64 rfl (by decide) (by simp[Tryz.f64]) ?_
 repeat' (first|refine zA rfl ?_|refine aA ?_|refine aL rfl ?_)
 refine bC 1 (fun i f N=>N=zN log cm ac g∧f=⟨[(0,.ptr 6 0),(7,.int .i64 1),(8,.int .i64 (i:Int))],[]⟩) (Nat.zero_le _) ⟨rfl,rfl⟩ (aR.le ?_ (aG.le_refl _)) ?_
 ·skip
  repeat (refine AF.le_cons rfl ?_)
  exact AF.le_nil rfl
 rintro i f N hi ⟨rfl,rfl⟩
 obtain rfl|rfl:i=0∨i=1:=by omega
 ·unfold zN nC9
  repeat' (first|refine zA rfl ?_|refine aA ?_|refine aL rfl ?_)
  refine⟨by decide,_,_,⟨rfl,rfl⟩,aR.le ?_ (aG.le_refl _)⟩
  repeat (refine AF.le_cons rfl ?_)
  exact AF.le_nil rfl
 ·repeat' (first|refine zA rfl ?_|refine aA ?_|refine aL rfl ?_)
  exact⟨rfl,_,rfl,rfl,rfl⟩
def rX (k:Nat) (M:aG):List AV→List AV→Prop
 |[],[]=>True
 |x::l,y::m=>eU k M x y∧rX k M l m
 |_,_=>False
theorem rX.len {k:Nat} {M:aG}:∀{l m:List AV},rX k M l m→l.length=m.length
 |[],[],_=>rfl
 |_::_,_::_,h=>congrArg (·+1) (rX.len h.2)
theorem rX.get {k:Nat} {M:aG}:∀{l m:List AV},rX k M l m→∀(i:Nat) (x y:AV),l[i]? =some x→m[i]? =some y→eU k M x y
 |[],[],_,i,_,_,hx,_=>by simp at hx
 |a::l,b::m,h,0,x,y,hx,hy=>by cases hx;cases hy;exact h.1
 |a::l,b::m,h,i+1,x,y,hx,hy=>rX.get h.2 i x y hx hy
theorem SL {k:Nat} {N:aG} {sz sz':Nat}:eU k N (.sl sz' [] .full) (.sl sz [] .none):=.sub _ _ fun μ μ0 F w v hf hr=>by
 have h2:bP μ F w (.sl sz [] .none) v:=Sub.nil _ _ _ _ hr
 exact (bR (sz:=sz) (xs:=[]) (.inl rfl) (by simp) (by simp)) μ μ0 F F w v hf h2
theorem a6a:aQ Tryz.prog 26 [.int .i64 0,.int .i64 1] ⟨0,[]⟩ (fun e N=>∃x,e=.ret x∧eU 0 N x (.tup [dI [],.int .i64 0])∧0≤N.next∧gE 0 N []):=by
 refine aC aF Tryz.func26 rfl (by decide) (by simp[Tryz.f26]) ?_
 have k:=H4
 repeat' (first|refine XX (n:=1) aF rfl rfl rfl rfl rfl rfl rfl rfl rfl rfl rfl rfl rfl rfl (by decide) ?_|refine zA rfl ?_|refine aA ?_|refine aL rfl ?_|refine aH rfl k ?_)
 refine⟨rfl,_,rfl,_,rfl,eU.tup _ _ rfl (rX.get ⟨?_,.closed aB,trivial⟩),Nat.zero_le _,trivial⟩
 exact eU.agg _ (d9 []) rfl (rX.get ⟨.closed aB,.closed aB,.closed aB,.closed aB,.closed aK,.closed aB,SL,.osl 1 1 1 1 [.int .i64 0] [.int .i64 0] (Nat.zero_le _) rfl (Nat.le_refl _) rfl (fun x hx=>by rw[List.mem_singleton.1 hx];rfl) (by decide) (fun p x y hx hy=>by
  match p,hx,hy with
  |0,hx,hy=>
   cases hx
   cases hy
   exact .closed aB
  |p+1,hx,hy=>simp[b8,AV.cells] at hy),.closed dC,trivial⟩)
theorem ZJ:aO Tryz.prog 26 [.int .i64 0,.int .i64 1] (.tup [dI [],.int .i64 0]):=s8 (aV aB aB) (aS (aV (dE _) aB)) a6a
def qM (nx:Nat) (c:List AV) (x:AV) (n:Int):aG:=⟨nx,[(0,.cells c),(1,.cells [x]),(2,.cells [.int .i64 n])]⟩
theorem a73 (nx:Nat) (a b c d e f g h i x:AV) (n v:Int):bF Tryz.prog 60 [.ptr 0 0,.ptr 1 0,.ptr 2 0] (.pan (kN v)) (qM nx [a,b,c,d,e,f,g,h,i] x n) (fun m' M'=>m'=.ret∧M'.get 0=some (.cells yC)∧M'.get 1=some (.cells [.sl 0 [] .full])∧M'.get 2=some (.cells [.int .i64 v])):=by
 refine bX aF Tryz.func60 rfl (by decide) rfl rfl rfl rfl rfl (by simp[Tryz.f60]) ?_
 refine c4 aF rfl rfl rfl rfl rfl ?_
 repeat' (first|refine zA rfl ?_|refine aA ?_|refine aL rfl ?_)
 exact⟨rfl,⟨_,rfl⟩,rfl,rfl,rfl⟩
theorem aAe (nx:Nat) (c:List AV) (x:AV) (n:Int):bF Tryz.prog 60 [.ptr 0 0,.ptr 1 0,.ptr 2 0] .ret (qM nx c x n) (fun m' M'=>m'=.ret∧M'.get 0=some (.cells c)∧M'.get 1=some (.cells [x])∧M'.get 2=some (.cells [.int .i64 n])):=by
 refine bX aF Tryz.func60 rfl (by decide) rfl rfl rfl rfl rfl (by simp[Tryz.f60]) ?_
 refine c4 aF rfl rfl rfl rfl rfl ?_
 repeat' (first|refine zA rfl ?_|refine aA ?_|refine aL rfl ?_)
 exact⟨rfl,⟨_,rfl⟩,rfl,rfl,rfl⟩
def qD:bJ:={f:=.func 60,cap:=[],args:=[.ptr 0 0,.ptr 1 0,.ptr 2 0],keep:=[(4,.ptr 0 0),(5,.ptr 1 0),(6,.ptr 2 0)]}
abbrev qR (y:AV):cH→aG→Prop:=fun e _=>∃x,e=.ret x∧aI 0 x y
theorem a4u {M:aG} {a b c d e f g h i:AV} {n:Int} {t:List (Nat×AV)} (h4:AF.get ⟨t,[]⟩ 4=.ptr 0 0) (h5:AF.get ⟨t,[]⟩ 5=.ptr 1 0) (h6:AF.get ⟨t,[]⟩ 6=.ptr 2 0) (g0:M.get 0=some (.cells [a,b,c,d,e,f,g,h,i])) (g1:M.get 1=some (.cells [.sl 0 [] .full])) (g2:M.get 2=some (.cells [.int .i64 n])):
  i5 iR M ⟨t,[]⟩ Tryz.f28.results=some (.tup [.agg [a,b,c,d,e,f,g,h,i],.sl 0 [] .full,.int .i64 n]):=by
 have a1:cX M iR 28 (.ptr 0 0)=some (.agg [a,b,c,d,e,f,g,h,i]):=by
  simp only[cX,g0]
  rfl
 have a2:cX M iR 68 (.ptr 1 0)=some (.sl 0 [] .full):=by
  simp only[cX,g1]
  rfl
 have a3:cX M iR 33 (.ptr 2 0)=some (.int .i64 n):=by
  simp only[cX,g2]
  rfl
 show i5 iR M ⟨t,[]⟩ #[.cell 4 28,.cell 5 68,.cell 6 33]=_
 simp only[i5,t7,mP,h4,h5,h6,a1,a2,a3]
def OY:AV:=.tup [lD,.sl 0 [] .full,.int .i64 2]
def zY (log:List aD):AV:=.tup [dI log,.sl 0 [] .full,.int .i64 0]
theorem tH:aN OY:=aS (bK lC dC aB)
theorem BD (log:List aD):aN (zY log):=aS (bK (dE log) dC aB)
theorem a9b {M:aG} {t:List (Nat×AV)} (h:(qM M.next yC (.sl 0 [] .full) 0).le M) (h4:AF.get ⟨t,[]⟩ 4=.ptr 0 0) (h5:AF.get ⟨t,[]⟩ 5=.ptr 1 0) (h6:AF.get ⟨t,[]⟩ 6=.ptr 2 0):eF Tryz.prog iR Tryz.f28 ⟨t,[]⟩ (qR OY) [qD] (.pan (kN 2)) M:=by
 refine⟨rfl,_,rfl,bF.le h (bF.mono (a73 M.next _ _ _ _ _ _ _ _ _ _ 0 2) ?_)⟩
 rintro m' M' ⟨rfl,g0,g1,g2⟩
 exact⟨_,a4u h4 h5 h6 g0 g1 g2,_,rfl,aI.of_closed tH⟩
theorem aAh {M:aG} {log:List aD} {g:Nat} {t:List (Nat×AV)} (h:(qM M.next [.int .i64 0,.int .i64 1,.int .i64 0,.int .i64 0,.bool true,.int .i64 (log.length:Int),.sl 1 (log.map AV.str) (.tok 4 g),.sl 1 [.int .i64 (log.length:Int)] .none,.sl 0 [] .full] (.sl 0 [] .full) 0).le M) (h4:AF.get ⟨t,[]⟩ 4=.ptr 0 0) (h5:AF.get ⟨t,[]⟩ 5=.ptr 1 0) (h6:AF.get ⟨t,[]⟩ 6=.ptr 2 0):eF Tryz.prog iR Tryz.f28 ⟨t,[]⟩ (qR (zY log)) [qD] .ret M:=by
 refine⟨rfl,_,rfl,bF.le h (bF.mono (aAe M.next _ _ 0) ?_)⟩
 rintro m' M' ⟨rfl,g0,g1,g2⟩
 refine⟨_,a4u h4 h5 h6 g0 g1 g2,_,rfl,aI.tup3 (aI.aggL ⟨aI.of_closed aB,aI.of_closed aB,aI.of_closed aB,aI.of_closed aB,aI.of_closed aK,aI.of_closed aB,aI.untag (eJ log),aI.of_closed (r5 _),aI.of_closed dC,trivial⟩) (aI.of_closed dC) (aI.of_closed aB)⟩
theorem a7j (log:List aD) (s:aD) (h:pK log) (hl:log.length < 60) (hs:300 < s.length):aO Tryz.prog 28 [dI log,.str s] OY:=by
 refine aU (aV (dE log) aP) tH ?_
 refine fC aF Tryz.func28 rfl (by decide) (by simp[Tryz.f28]) ?_
 have la:=bA AV.str log
 have d1:decide ((log.length:Int)=60)=false:=decide_eq_false (by omega)
 have d2:decide ((s.length:Int) > 300)=true:=decide_eq_true (by omega)
 have ko:=P1 log h
 unfold dI d9 at*
 repeat' (first|refine zA rfl ?_|refine aA ?_|refine aL rfl ?_)
 refine eB ?_
 refine eQ rfl rfl rfl rfl [(4,.ptr 0 0),(5,.ptr 1 0),(6,.ptr 2 0)] (by intro p hp;simp at hp;rcases hp with rfl|rfl|rfl<;>rfl) ?_
 refine i7 ?_
 refine W.le (g:=⟨[(1,.str s),(2,.ref (d9 log)),(4,.ptr 0 0),(5,.ptr 1 0),(6,.ptr 2 0)],[qD]⟩) (N:=aM) ?_ ?_ ?_
 ·unfold d9
  repeat (refine AF.le_cons rfl ?_)
  exact AF.le_nil rfl
 ·exact aG.le_cons rfl (aG.le_cons rfl (aG.le_cons rfl (aG.le_nil rfl)))
 unfold d9
 repeat' (first|refine zA rfl ?_|refine aL rfl ?_)
 refine bS rfl rfl ko ?_ (fun u M' h=>by obtain⟨_,_,_,_,h,_⟩:=h;cases h)
 rintro u N ⟨cap,rest,h1,h2,e,rfl⟩
 cases e
 have kl:=uY log log.length log.length 0 cap rest
 repeat' (first|refine zA rfl ?_|refine aA ?_|refine aL rfl ?_|refine bS rfl rfl (kl) ?_ ?_)
 rotate_left
 ·intro u M' h
  cases h.1
 rintro u M' ⟨e,rfl⟩
 cases e
 unfold zM zC
 repeat' (first|refine zB rfl (by first|exact d1|exact d2) ?_|refine zI rfl la ?_|refine zA rfl ?_|refine aA ?_|refine aL rfl ?_)
 refine dR rfl rfl rfl rfl rfl ?_
 exact a9b (aG.le_cons rfl (aG.le_cons rfl (aG.le_cons rfl (aG.le_nil rfl)))) rfl rfl rfl
theorem NU (log:List aD) (s:aD) (h:pK log) (hl:log.length < 60) (hs:s.length≤300):aO Tryz.prog 28 [dI log,.str s] (zY (log++[s])):=by
 refine aU (aV (dE log) aP) (BD _) ?_
 refine fC aF Tryz.func28 rfl (by decide) (by simp[Tryz.f28]) ?_
 have la:=bA AV.str log
 have d1:decide ((log.length:Int)=60)=false:=decide_eq_false (by omega)
 have d2:decide ((s.length:Int) > 300)=false:=decide_eq_false (by omega)
 have ko:=P1 log h
 unfold dI d9 at ko ⊢
 repeat' (first|refine zA rfl ?_|refine aA ?_|refine aL rfl ?_)
 refine eB ?_
 refine eQ rfl rfl rfl rfl [(4,.ptr 0 0),(5,.ptr 1 0),(6,.ptr 2 0)] (by intro p hp;simp at hp;rcases hp with rfl|rfl|rfl<;>rfl) ?_
 refine i7 ?_
 refine W.le (g:=⟨[(1,.str s),(2,.ref (d9 log)),(4,.ptr 0 0),(5,.ptr 1 0),(6,.ptr 2 0)],[qD]⟩) (N:=aM) ?_ ?_ ?_
 ·unfold d9
  repeat (refine AF.le_cons rfl ?_)
  exact AF.le_nil rfl
 ·exact aG.le_cons rfl (aG.le_cons rfl (aG.le_cons rfl (aG.le_nil rfl)))
 unfold d9
 repeat' (first|refine zA rfl ?_|refine aL rfl ?_)
 refine bS rfl rfl ko ?_ (fun u M' h=>by obtain⟨_,_,_,_,h,_⟩:=h;cases h)
 rintro u N ⟨cap,rest,h1,h2,e,rfl⟩
 cases e
 have kl:=uY log log.length log.length 0 cap rest
 repeat' (first|refine zA rfl ?_|refine aA ?_|refine aL rfl ?_|refine bS rfl rfl (kl) ?_ ?_)
 rotate_left
 ·intro u M' h
  cases h.1
 rintro u M' ⟨e,rfl⟩
 cases e
 unfold zM zC
 repeat' (first|refine zB rfl (by first|exact d1|exact d2) ?_|refine zI rfl la ?_|refine zA rfl ?_|refine aA ?_|refine aL rfl ?_|refine zR rfl ?_|refine zP rfl rfl ?_)
 have eL:(log.map AV.str)++[AV.str s]=(log++[s]).map AV.str:=by simp
 have kc:=SU (log++[s]) log.length log.length 1 cap rest (by simp;omega) (by simp;omega) h1
 unfold zM zC at kc
 rw[←eL] at kc
 have kt:=UB (log++[s]) (log++[s]).length (log++[s]).length 1
 refine bS rfl rfl (aQ.le (aG.le_cons rfl (aG.le_cons rfl (aG.le_cons rfl (aG.le_cons rfl (aG.le_cons rfl (aG.le_cons rfl (aG.le_nil rfl))))))) kc) ?_ (fun u M' h=>by cases h.1)
 rintro u M' ⟨e,rfl⟩
 cases e
 repeat' (first|refine zA rfl ?_|refine aA ?_|refine aL rfl ?_|refine bS rfl rfl (kt) ?_ ?_)
 rotate_left
 ·intro u M' h
  cases h.1
 rintro u M' ⟨e,rfl⟩
 cases e
 unfold zN nC9
 repeat' (first|refine zA rfl ?_|refine aA ?_|refine aL rfl ?_|refine aW mixed [0,4,1,2,3,5,6,7,8,9,10] [.P,.R,.R,.R,.P,.R,.R,.R,.E,.E,.E] rfl rfl (by kernel_rfl) ?_)
 all_goals exact aAh (aG.le_cons rfl (aG.le_cons rfl (aG.le_cons rfl (aG.le_nil rfl)))) rfl rfl rfl
theorem uX {sz:Nat}:∀{xs:List AV} (i:Nat),(∀x,x∈xs→x.cells.length=sz)→(b8 xs).take (i*sz)=b8 (xs.take i)
 |[],i,_=>by simp[b8]
 |x::r,0,_=>by simp[b8]
 |x::r,i+1,h=>by
  have e:b8 (x::r)=x.cells++b8 r:=rfl
  have hx:=h x (by simp)
  have e2:(i+1)*sz=x.cells.length+i*sz:=by rw[hx,Nat.add_mul];omega
  rw[e,e2,List.take_length_add_append,uX i (fun y hy=>h y (by simp[hy]))]
  rfl
theorem uT {sz:Nat}:∀{xs:List AV} (i:Nat),(∀x,x∈xs→x.cells.length=sz)→(b8 xs).drop (i*sz)=b8 (xs.drop i)
 |[],i,_=>by simp[b8]
 |x::r,0,_=>by simp
 |x::r,i+1,h=>by
  have e:b8 (x::r)=x.cells++b8 r:=rfl
  have hx:=h x (by simp)
  have e2:(i+1)*sz=x.cells.length+i*sz:=by rw[hx,Nat.add_mul];omega
  rw[e,e2,List.drop_length_add_append,uT i (fun y hy=>h y (by simp[hy]))]
  rfl
theorem qX {l cs:List AV} {n:Nat} (h:n+cs.length≤l.length):b9 l n cs=l.take n++cs++l.drop (n+cs.length):=by
 apply List.ext_getElem?
 intro i
 rw[eZ _ _ _ _ h]
 by_cases h1:i < n
 ·rw[if_neg (by omega),List.append_assoc,List.getElem?_append_left (by simp;omega),List.getElem?_take,if_pos h1]
 ·by_cases h2:i < n+cs.length
  ·rw[if_pos ⟨by omega,h2⟩,List.append_assoc,List.getElem?_append_right (by simp;omega)]
   have e:(l.take n).length=n:=by simp;omega
   rw[e,List.getElem?_append_left (by omega)]
  ·rw[if_neg (by omega),List.getElem?_append_right (by simp;omega)]
   have e:(l.take n++cs).length=n+cs.length:=by simp;omega
   rw[e,List.getElem?_drop]
   congr 1
   omega
theorem pP {l cs:List AV} {n k:Nat} (h:n+cs.length≤l.length) (hk:k≤n):(b9 l n cs).take k=l.take k:=by
 rw[qX h,List.append_assoc,List.take_append_of_le_length (by simp;omega),List.take_take,Nat.min_eq_left hk]
theorem yR {N:aG} {id cap sz:Nat} {cells xs:List AV} (hM:N.get id=some (.cells cells)) (hx:cells.take (xs.length*sz)=b8 xs) (hc:xs.length≤cap) (hl:cells.length=cap*sz) (hs:∀x,x∈xs→∃cs,x=.agg cs∧cs.length=sz∧∀c,c∈cs→aN c):eU 0 N (.osl id 0 xs.length cap sz) (.sl sz xs .none):=by
 refine eU.row (Nat.zero_le _) hM hx (fun x hx=>?_) hc (by rw[hl];exact Nat.mul_le_mul_right _ hc) ?_
 ·obtain⟨cs,rfl,h,_⟩:=hs x hx
  exact h
 ·have:∀{xs:List AV},(∀x,x∈xs→∃cs,x=.agg cs∧cs.length=sz∧∀c,c∈cs→aN c)→qB (YY 0 N) xs xs:=by
   intro xs
   induction xs with
   |nil=>intro _;trivial
   |cons x xs ih=>
    intro h
    refine⟨?_,ih fun y hy=>h y (by simp[hy])⟩
    obtain⟨cs,rfl,_,h3⟩:=h x (by simp)
    exact⟨rfl,fun j a b ha hb=>by rw[ha] at hb;cases hb;exact .closed (h3 a (List.mem_of_getElem? ha))⟩
  exact this hs
theorem QY {cells xs:List AV} {sz i:Nat} (hs:∀x,x∈xs→x.cells.length=sz) (hx:cells.take (xs.length*sz)=b8 xs) (hi:i < xs.length) (hl:xs.length*sz≤cells.length):
  (b9 cells (i*sz) ((cells.drop ((i+1)*sz)).take ((xs.length - (i+1))*sz))).take ((xs.length - 1)*sz)=b8 (xs.take i++xs.drop (i+1)):=by
 have e1:(xs.length - (i+1))*sz=xs.length*sz - (i+1)*sz:=Nat.sub_mul _ _ _
 have e2:(cells.drop ((i+1)*sz)).take ((xs.length - (i+1))*sz)=b8 (xs.drop (i+1)):=by
  rw[e1,←List.drop_take,hx,uT (i+1) hs]
 have e3:(b8 (xs.drop (i+1))).length=(xs.length - (i+1))*sz:=by
  rw[bZ fun x hx=>hs x (List.mem_of_mem_drop hx),List.length_drop]
 have e4:(xs.length - 1)*sz=i*sz+(xs.length - (i+1))*sz:=by
  rw[←Nat.add_mul]
  congr 1
  omega
 have e5:(i+1)*sz≤xs.length*sz:=Nat.mul_le_mul_right _ hi
 have e6:(i+1)*sz=i*sz+sz:=by rw[Nat.add_mul];omega
 rw[e2,e4,←e3,i4 (by rw[e3];omega),fA]
 congr 1
 rw[←uX i hs,←hx,List.take_take,Nat.min_eq_left (Nat.mul_le_mul_right _ (by omega))]
end Go.Proofs.YteliblifgdofgaaGreatDoor
namespace Go.Proofs.YteliblifgdofgaaGreatDoor
open Go.Ab Go.Shelf Go.RowKit Go.Lib Go.Sort
theorem LL (x:Int) (W:World):Calls Tryz.prog 296 #[.int .i64 x] W fun e w'=>e=.returned (.bool false)∧w'=W:=by
 go_enter Tryz.func296,Tryz.ntmps296
 go_wp2
 go_ret
 exact⟨by simp,rfl⟩
theorem LS (x y:Int) (W:World):Calls Tryz.prog 309 #[.int .i64 x,.int .i64 y] W fun e w'=>e=.returned (.int .i64 (Lib.compareInt x y))∧w'=W:=by
 go_enter Tryz.func309,Tryz.ntmps309
 go_wp2_with (go_at_call 296;refine (LL _ _).mono ?_;rintro e w' ⟨rfl,rfl⟩)
 all_goals (go_ret;refine⟨?_,rfl⟩;unfold Lib.compareInt;(repeat' split)<;>first|rfl|(exfalso;omega))
theorem L5 (a b:Int) (v u:Value) (W:World):Calls Tryz.prog 308 #[.agg #[.int .i64 a,v],.agg #[.int .i64 b,u]] W fun e w'=>e=.returned (.int .i64 (Lib.compareInt a b))∧∃q os',w'=grow (W.drewN q) os':=by
 have hcon:=fun W'=>LS a b W'
 generalize Lib.compareInt a b=r at hcon ⊢
 go_enter Tryz.func308,Tryz.ntmps308
 go_wp2_with (go_at_call 309;refine (hcon _).mono ?_;rintro e w' ⟨rfl,rfl⟩)
 go_ret
 exact⟨rfl,0,_,by rw[alloc_eq_grow,alloc_eq_grow,grow_grow];rfl⟩
theorem Y5 (a b:Int):Go.Proofs.ltOf Lib.compareInt a b=decide (a < b):=by
 unfold Go.Proofs.ltOf Lib.compareInt
 by_cases h1:a < b
 ·simp[h1]
 ·by_cases h2:a > b<;>simp[h1,h2]
theorem a3q:SWO (Go.Proofs.ltOf Lib.compareInt):=by
 refine⟨fun x=>?_,fun x y z=>?_,fun x y z=>?_⟩<;>simp only[Y5,decide_eq_true_eq,decide_eq_false_iff_not]<;>omega
def rY:AV→Int
 |.agg (.int _ s::_)=>s
 |_=>0
theorem a3o (xs:List AV) (h:∀x,x∈xs→∃p:Pn,x=p.av):a5g Tryz.prog 308 Lib.compareInt rY xs:=by
 intro μ F w x y c1 c2 hx hy h1 h2 W
 obtain⟨a,rfl⟩:=h x hx
 obtain⟨b,rfl⟩:=h y hy
 obtain⟨_,e1,s1,r1,_⟩:=h1.agg_inv
 cases e1
 obtain⟨_,e2,s2,r2,_⟩:=h2.agg_inv
 cases e2
 match c1,c2,s1,s2,r1,r2 with
 |⟨[v0,v1]⟩,⟨[u0,u1]⟩,_,_,r1,r2=>
  have k1:=r1 0 _ v0 rfl rfl
  have k2:=r2 0 _ u0 rfl rfl
  cases k1
  cases k2
  exact L5 _ _ _ _ W
theorem CY (l:List Pn) (hl:l.length < 1000000) (hne:l≠[]) (M:aG):aQ Tryz.prog 209 [cD l .none] M (fun e N=>∃cap cells,e=.ret (.osl M.next 0 l.length cap 2)∧N=M.push (.cells cells)∧l.length≤cap∧cells.length=cap*2∧cells.take (l.length*2)=b8 (l.map Pn.av)):=by
 refine aC aF Tryz.func209 rfl (by decide) (by simp[Tryz.f209]) ?_
 unfold cD
 repeat' (first|refine zA rfl ?_|refine aA ?_|refine aL rfl ?_)
 refine iZ rfl rfl ?_
 intro b hb
 cases b
 ·have hm:l.map Pn.av≠[]:=fun e=>hne (by simpa using e)
  have le:(l.map Pn.av).length=l.length:=by simp
  repeat' (first|refine zA rfl ?_|refine aA ?_|refine aL rfl ?_|refine zR rfl ?_)
  refine s4 aF rfl rfl rfl rfl rfl rfl rfl rfl rfl rfl rfl (.inr rfl) rfl rfl hm (by simp;omega) (by simp;omega) ?_
  intro cap' l' g1 g2 g3
  repeat' (first|refine zA rfl ?_|refine aA ?_|refine aL rfl ?_)
  rw[le] at g1 g3
  refine⟨rfl,_,rfl,cap',l',?_,rfl,by simpa using g1,g2,?_⟩
  ·rw[le]
   simp
   rfl
  ·simpa [b8] using g3
 ·exact absurd (hb fun e=>hne (by simpa using e)) (by simp)
theorem MI (M:aG):aQ Tryz.prog 209 [cD [] .none] M (fun e N=>∃sz,e=.ret (.sl sz [] .full)∧N=M):=by
 refine aC aF Tryz.func209 rfl (by decide) (by simp[Tryz.f209]) ?_
 unfold cD
 repeat' (first|refine zA rfl ?_|refine aA ?_|refine aL rfl ?_)
 refine iZ rfl rfl ?_
 intro b hb
 cases b
 ·repeat' (first|refine zA rfl ?_|refine aA ?_|refine aL rfl ?_|refine zR rfl ?_)
  refine PK aF rfl rfl rfl rfl rfl rfl rfl rfl rfl rfl rfl rfl ?_
  repeat' (first|refine zA rfl ?_|refine aA ?_|refine aL rfl ?_)
  exact⟨rfl,_,rfl,_,rfl,rfl⟩
 ·repeat' (first|refine zA rfl ?_|refine aA ?_|refine aL rfl ?_)
  exact⟨rfl,_,rfl,_,rfl,rfl⟩
theorem KI (M:aG) (id cap i:Nat) (cells xs:List AV) (hM:M.get id=some (.cells cells)) (hs:∀x,x∈xs→x.cells.length=2) (hx:cells.take (xs.length*2)=b8 xs) (hc:xs.length≤cap) (hl:cells.length=cap*2) (hi:i < xs.length) (hsz:xs.length < 1000000):
  aQ Tryz.prog 310 [.osl id 0 xs.length cap 2,.int .i64 (i:Int),.int .i64 ((i+1:Nat):Int)] M (fun e N=>∃cells',e=.ret (.osl id 0 (xs.length - 1) cap 2)∧N.get id=some (.cells cells')∧cells'.length=cap*2∧cells'.take ((xs.length - 1)*2)=b8 (xs.take i++xs.drop (i+1))):=by
 refine aC aF Tryz.func310 rfl (by decide) (by simp[Tryz.f310]) ?_
 have d0:decide ((i:Int)=((i+1:Nat):Int))=false:=decide_eq_false (by omega)
 have hcut:=QY hs hx hi (by omega)
 have hcl:((cells.drop ((i+1)*2)).take ((xs.length - (i+1))*2)).length=(xs.length - (i+1))*2:=by rw[List.length_take,List.length_drop];omega
 have hsrc:∀off2,(if i+1 < cap then 0+(i+1)*2 else 0)=off2→off2+(xs.length - (i+1))*2≤cells.length∧(cells.drop ((i+1)*2)).take ((xs.length - (i+1))*2)=(cells.drop off2).take ((xs.length - (i+1))*2):=by
  rintro off2 rfl
  split
  ·exact⟨by omega,by rw[Nat.zero_add]⟩
  ·have e:xs.length - (i+1)=0:=by omega
   rw[e]
   exact⟨by omega,by simp⟩
 generalize (cells.drop ((i+1)*2)).take ((xs.length - (i+1))*2)=cs at hcut hcl hsrc
 repeat' (first|refine zA rfl ?_|refine aA ?_|refine aL rfl ?_)
 refine p7 aF rfl rfl rfl rfl rfl rfl hM rfl rfl ?_
 skip
 refine a4e aF rfl rfl rfl rfl rfl rfl rfl rfl rfl hM rfl rfl rfl (Nat.le_succ i) hi hc ?_
 repeat' (first|refine zB rfl d0 ?_|refine zA rfl ?_|refine aA ?_|refine aL rfl ?_)
 refine p7 aF rfl rfl rfl rfl rfl rfl hM rfl rfl ?_
 repeat' (first|refine zA rfl ?_|refine aA ?_|refine aL rfl ?_|refine aW mixed [0,1,3,4,2,5,6,7] [.P,.P,.R,.P,.P,.R,.E,.P] rfl rfl (by kernel_rfl) ?_)
 refine gA aF rfl rfl rfl rfl rfl rfl rfl rfl rfl rfl hM rfl rfl (Nat.zero_le i) (by omega) (off':=0) (by split<;>rfl) (Nat.sub_zero _) (Nat.sub_zero _) ?_
 skip
 refine gA aF rfl rfl rfl rfl rfl rfl rfl rfl rfl rfl hM rfl rfl hi hc rfl rfl rfl ?_
 skip
 refine UL aF rfl rfl rfl rfl rfl rfl rfl rfl rfl rfl rfl rfl hM (by omega) (cs:=cs) (.inr ⟨_,_,_,_,rfl,hM,(hsrc _ rfl).1,(hsrc _ rfl).2⟩) (by omega) (n':=xs.length - 1) (by omega) (p:=i*2) (by omega) ?_
 have hM2:(M.set id (.cells (b9 cells (i*2) cs))).get id=some (.cells (b9 cells (i*2) cs)):=cM
 have hl2:(b9 cells (i*2) cs).length=cap*2:=by rw[bO,hl]
 generalize M.set id (.cells (b9 cells (i*2) cs))=M2 at hM2
 generalize b9 cells (i*2) cs=cells2 at hM2 hl2 hcut
 repeat' (first|refine zA rfl ?_|refine aA ?_|refine aL rfl ?_)
 refine p7 aF rfl rfl rfl rfl rfl rfl hM2 rfl rfl ?_
 repeat' (first|refine zA rfl ?_)
 refine gA aF rfl rfl rfl rfl rfl rfl rfl rfl rfl rfl hM2 rfl rfl (by omega) hc (off':=(xs.length - 1)*2) (by rw[if_pos (by omega),Nat.zero_add]) (n':=1) (by omega) rfl ?_
 skip
 refine SM aF rfl rfl rfl rfl rfl rfl rfl rfl rfl rfl hM2 (by omega) (by decide) (by decide) ?_
 repeat' (first|refine zA rfl ?_|refine aA ?_|refine aL rfl ?_)
 refine⟨rfl,_,rfl,_,rfl,cM,by rw[bO,hl2],?_⟩
 rw[pP (by rw[List.length_replicate];omega) (Nat.le_refl _)]
 exact hcut
end Go.Proofs.YteliblifgdofgaaGreatDoor
namespace Go.Proofs.YteliblifgdofgaaGreatDoor
open Go.Ab Go.Shelf Go.RowKit Go.Lib Go.Sort
theorem rV {N:aG} {x:AV} {m:List Pn} {n:Int} (h:eU 0 N x (cD m .none)):eU 0 N (.tup [x,.int .i64 n]) (ZT (m,n)):=by
 refine .tup _ _ rfl fun i a b ha hb=>?_
 match i,ha,hb with
 |0,ha,hb=>cases ha;cases hb;exact h
 |1,ha,hb=>cases ha;cases hb;exact .closed aB
 |i+2,ha,hb=>simp at ha
theorem xL {N:aG} {sz sz':Nat}:eU 0 N (.sl sz' [] .full) (.sl sz [] .none):=.sub _ _ fun μ μ0 F w v hf hr=>by
 obtain⟨A,cap,ad,vals,rfl,hsz,hcap,hA,hone,hcell,hrep,htag⟩:=hr.sl_inv
 exact .sl sz [] .none A cap ad vals (by intro x hx;cases hx) hcap hA (by intro i x j c hx;simp at hx) (by intro i x j c hx;simp at hx) (by intro i x j c hx;simp at hx) trivial
theorem TF (l:List Pn):∀x,x∈l.map Pn.av→x.cells.length=2:=fun x hx=>by
 obtain⟨p,_,rfl⟩:=List.mem_map.1 hx
 rfl
theorem BR (l:List Pn):∀x,x∈l.map Pn.av→∃cs,x=.agg cs∧cs.length=2∧∀c,c∈cs→aN c:=fun x hx=>by
 obtain⟨p,_,rfl⟩:=List.mem_map.1 hx
 exact⟨_,rfl,rfl,qK p⟩
theorem NA {l:List Pn} {s:Int} {i:Nat} {x:Pn} (hp:l.Pairwise fun a b=>a.session < b.session) (hx:l[i]? =some x) (hh:fD s x=true):(l.filter fun x=>!fD s x)=l.take i++l.drop (i+1):=by
 have e:l=l.take i++x::l.drop (i+1):=by
  rw[←ZP hx,List.take_append_drop]
 generalize l.take i=a at e ⊢
 generalize l.drop (i+1)=b at e ⊢
 subst e
 obtain⟨_,h2,h3⟩:=List.pairwise_append.1 hp
 have h4:=(List.pairwise_cons.1 h2).1
 simp[fD] at hh
 have ha:(a.filter fun x=>!fD s x)=a:=List.filter_eq_self.2 fun y hy=>by
  have:=h3 y hy x (by simp)
  simp[fD]
  omega
 have hb:(b.filter fun x=>!fD s x)=b:=List.filter_eq_self.2 fun y hy=>by
  have:=h4 y hy
  simp[fD]
  omega
 rw[List.filter_append,ha,List.filter_cons_of_neg (by simp[fD,hh]),hb]
theorem L3 (l:List Pn) (s:Int) (hl:l.length < 100000):aQ Tryz.prog 275 [cD l .none,.int .i64 s] ⟨0,[]⟩ (fun e N=>∃x,e=.ret x∧eU 0 N x (ZT (iH l s))∧0≤N.next∧gE 0 N []):=by
 refine aC aF Tryz.func275 rfl (by decide) (by simp[Tryz.f275]) ?_
 have k1:=yL l (by omega)
 have k2:=yZ l .none (by omega) s
 have err:∀{N:aG} (n:Int),∃x,cH.ret (.tup [.sl 0 [] .full,.int .i64 n])=.ret x∧eU 0 N x (ZT ([],n))∧0≤N.next∧gE 0 N []:=fun n=>⟨_,rfl,rV xL,Nat.zero_le _,trivial⟩
 unfold iH
 unfold lU
 cases h1:jE fV Pn.session none l&&decide (l.length≤50)
 ·rw[h1] at k1
  unfold cD at*
  repeat' (first|refine zA rfl ?_|refine aA ?_|refine aL rfl ?_|refine aH rfl k1 ?_)
  exact⟨rfl,_,rfl,err 1⟩
 ·rw[h1] at k1
  rw[if_pos rfl]
  obtain⟨hup,hp⟩:=mB (by simp at h1;exact h1.1:jE fV Pn.session none l=true)
  rcases oY l (fD s) with ⟨h2,h3,_⟩|⟨i,x,hx,hpx,hno,h3,_,h2⟩
  ·rw[h3] at k2
   rw[if_neg (by simp[h2])]
   unfold cD at*
   repeat' (first|refine zA rfl ?_|refine aA ?_|refine aL rfl ?_|refine aH rfl k1 ?_|refine aH rfl k2 ?_)
   exact⟨rfl,_,rfl,err 80⟩
  ·rw[h3] at k2
   rw[if_pos h2,NA hp hx hpx]
   have hil:i < l.length:=(List.getElem?_eq_some_iff.1 hx).1
   have hne:l≠[]:=by rintro rfl;simp at hx
   have d1:decide ((i:Int) < 0)=false:=decide_eq_false (by omega)
   have fi:=aZ (i:=i) (by omega)
   have kc:=CY l (by omega) hne ⟨0,[]⟩
   unfold cD at*
   repeat' (first|refine zB rfl d1 ?_|refine zA rfl ?_|refine aA ?_|refine aL rfl ?_|refine aH rfl k1 ?_|refine aH rfl k2 ?_)
   refine bS rfl rfl kc ?_ (fun u M' h=>by obtain⟨_,_,h,_⟩:=h;cases h)
   rintro u M' ⟨cap,cells,e,rfl,g1,g2,g3⟩
   cases e
   have le:(l.map Pn.av).length=l.length:=by simp
   have kd:=KI (aG.push ⟨0,[]⟩ (.cells cells)) 0 cap i cells (l.map Pn.av) rfl (TF l) (by rw[le];exact g3) (by omega) g2 (by omega) (by omega)
   rw[le] at kd
   repeat' (first|refine zI rfl fi ?_|refine zA rfl ?_)
   refine bS rfl rfl kd ?_ (fun u M' h=>by obtain⟨_,h,_⟩:=h;cases h)
   rintro u M' ⟨cells',e,hM,q1,q2⟩
   cases e
   repeat' (first|refine zA rfl ?_|refine aA ?_|refine aL rfl ?_)
   have em:(l.map Pn.av).take i++(l.map Pn.av).drop (i+1)=(l.take i++l.drop (i+1)).map Pn.av:=by simp
   have el:((l.take i++l.drop (i+1)).map Pn.av).length=l.length - 1:=by simp;omega
   rw[em,←el] at q2
   have hv:=yR (sz:=2) (cap:=cap) hM q2 (by omega) q1 (BR _)
   rw[el] at hv
   exact⟨rfl,_,rfl,_,rfl,rV hv,Nat.zero_le _,trivial⟩
theorem QZ (l:List Pn) (s:Int) (hl:l.length < 100000):aO Tryz.prog 275 [cD l .none,.int .i64 s] (ZT (iH l s)):=s8 (aV (cV l (.inl rfl)) aB) (y6 _) (L3 l s hl)
theorem T1 {l:List Pn} {p:Pn} {ys:List AV} (hl:l.Pairwise fun a b=>a.session < b.session) (hn:l.any (fD p.session)=false) (hp:ys.Perm (l.map Pn.av++[p.av])) (hs:ys.Pairwise fun a b=>¬Lib.compareInt (rY b) (rY a) < 0):ys=(wE l p).map Pn.av:=by
 have hno:∀x,x∈l→x.session≠p.session:=fun x hx=>by
  rw[List.any_eq_false] at hn
  have:=hn x hx
  simpa [fD] using this
 refine (NW (k:=rY) ?_ ?_ ?_).symm
 ·have:=(lS l p).map Pn.av
  rw[List.map_append] at this
  exact this.trans hp.symm
 ·have:=EK hl hno
  rw[List.pairwise_map]
  exact this
 ·refine hs.imp fun {a b} h=>?_
  have:=Y5 (rY b) (rY a)
  unfold Go.Proofs.ltOf at this
  have h2:decide (rY b < rY a)=false:=by rw[←this];simpa using h
  simp at h2
  exact h2
theorem UP (l:List Pn) (p:Pn) (hl:l.length < 100000):aQ Tryz.prog 273 [cD l .none,p.av] ⟨0,[]⟩ (fun e N=>∃x,e=.ret x∧eU 0 N x (ZT (rR l p))∧0≤N.next∧gE 0 N []):=by
 refine aC aF Tryz.func273 rfl (by decide) (by simp[Tryz.f273]) ?_
 have la:=bA Pn.av l
 have k1:=yL l (by omega)
 have k2:=OJ p
 have k3:=yZ l .none (by omega) p.session
 have err:∀{N:aG} (n:Int),∃x,cH.ret (.tup [.sl 0 [] .full,.int .i64 n])=.ret x∧eU 0 N x (ZT ([],n))∧0≤N.next∧gE 0 N []:=fun n=>⟨_,rfl,rV xL,Nat.zero_le _,trivial⟩
 unfold rR
 unfold lU
 cases h1:jE fV Pn.session none l&&decide (l.length≤50)
 ·rw[h1] at k1
  unfold cD at*
  repeat' (first|refine zA rfl ?_|refine aA ?_|refine aL rfl ?_|refine aH rfl k1 ?_)
  exact⟨rfl,_,rfl,err 1⟩
 ·rw[h1] at k1
  cases h2:fV p
  ·rw[h2] at k2
   unfold cD at*
   repeat' (first|refine zA rfl ?_|refine aA ?_|refine aL rfl ?_|refine aH rfl k1 ?_|refine aH rfl k2 ?_)
   exact⟨rfl,_,rfl,err 1⟩
  ·rw[h2] at k2
   rw[if_pos (by rfl)]
   have h50:l.length≤50:=by simp at h1;exact h1.2
   obtain⟨_,hup⟩:=mB (by simp at h1;exact h1.1:jE fV Pn.session none l=true)
   rcases oY l (fD p.session) with ⟨h3,h4,_⟩|⟨i,x,hx,hpx,hno,h4,_,h3⟩
   ·rw[h4] at k3
    rw[if_neg (by simp[h3])]
    by_cases h5:l.length=50
    ·have d5:decide ((l.length:Int)=50)=true:=decide_eq_true (by omega)
     rw[if_pos (by omega)]
     unfold cD at*
     repeat' (first|refine zB rfl d5 ?_|refine zI rfl la ?_|refine zA rfl ?_|refine aA ?_|refine aL rfl ?_|refine aH rfl k1 ?_|refine aH rfl k2 ?_|refine aH rfl k3 ?_)
     exact⟨rfl,_,rfl,err 2⟩
    ·have d5:decide ((l.length:Int)=50)=false:=decide_eq_false (by omega)
     rw[if_neg (by omega)]
     have hsl:=lS l p
     have hil:=hsl.length_eq
     rw[List.length_append,List.length_singleton] at hil
     have sort:∀(M:aG) (id cap:Nat) (cells:List AV),M.get id=some (.cells cells)→cells.take ((l.length+1)*2)=b8 (l.map Pn.av++[p.av])→l.length+1≤cap→cells.length=cap*2→
       aQ Tryz.prog 307 [.osl id 0 (l.length+1) cap 2,.fn (.func 308) [] []] M (fun e N=>e=.ret (.tup [])∧∃x,eU 0 N (.osl id 0 (l.length+1) cap 2) x∧x=cD (wE l p) .none):=by
      intro M id cap cells hM hx hc hcl
      have hlen:(l.map Pn.av++[p.av]).length=l.length+1:=by simp
      have htwo:∀x,x∈l.map Pn.av++[p.av]→∃q:Pn,x=q.av:=fun x hx=>by
       rcases List.mem_append.1 hx with hx|hx
       ·obtain⟨q,_,rfl⟩:=List.mem_map.1 hx
        exact⟨q,rfl⟩
       ·simp at hx
        exact⟨p,hx⟩
      have ks:=JH R9 ⟨_,_,Tryz.func307,rfl,by decide⟩ (k:=2) (by decide) Tryz.isAgg295 Tryz.sizeOf295 (g:=308) ⟨_,_,Tryz.func308,rfl,by decide⟩ Lib.compareInt a3q rY (a3o _ htwo) (M:=M) (id:=id) (cap:=cap) (l:=cells) hM (by rw[hlen];exact hx) (fun x hx=>by obtain⟨q,rfl⟩:=htwo x hx;exact⟨_,rfl,rfl⟩) (by simp) (by rw[hlen];omega) (by rw[hlen];omega)
      rw[hlen] at ks
      refine ks.mono ?_
      rintro e N ⟨rfl,ys,q1,q2,rfl⟩
      obtain rfl:=T1 hup h3 q1 q2
      refine⟨rfl,_,?_,rfl⟩
      have hf:=bZ (TF (wE l p))
      rw[List.length_map,hil] at hf
      have el:((wE l p).map Pn.av).length=l.length+1:=by simp[hil]
      have:=yR (N:=M.set id (.cells (b8 ((wE l p).map Pn.av)++cells.drop ((l.length+1)*2)))) (id:=id) (cap:=cap) (sz:=2) (xs:=(wE l p).map Pn.av) cM (by rw[el,←hf];simp) (by omega) (by rw[List.length_append,List.length_drop,hf];omega) (BR _)
      rw[el] at this
      exact this
     by_cases h0:l=[]
     ·subst h0
      have kc:=MI ⟨0,[]⟩
      unfold cD at*
      repeat' (first|refine zB rfl d5 ?_|refine zI rfl la ?_|refine zA rfl ?_|refine aA ?_|refine aL rfl ?_|refine aH rfl k1 ?_|refine aH rfl k2 ?_|refine aH rfl k3 ?_|refine zR rfl ?_|refine aW mixed [0,2,3,1,4,5] [.P,.E,.P,.P,.E,.P] rfl rfl (by kernel_rfl) ?_)
      refine bS rfl rfl kc ?_ (fun u M' h=>by obtain⟨_,h,_⟩:=h;cases h)
      rintro u M' ⟨sz,e,rfl⟩
      cases e
      skip
      refine s4 aF rfl rfl rfl rfl rfl rfl rfl rfl rfl rfl rfl (.inr rfl) rfl rfl (by simp) (by simp) (by simp) ?_
      intro cap' l' g1 g2 g3
      repeat' (first|refine zA rfl ?_|refine aA ?_|refine aL rfl ?_)
      refine bS rfl rfl (sort _ 0 cap' l' rfl g3 (by simpa using g1) g2) ?_ (fun u M' h=>by cases h.1)
      rintro u M' ⟨e,x,hv,rfl⟩
      cases e
      repeat' (first|refine zA rfl ?_|refine aA ?_|refine aL rfl ?_)
      exact⟨rfl,_,rfl,_,rfl,rV hv,Nat.zero_le _,trivial⟩
     ·have kc:=CY l (by omega) h0 ⟨0,[]⟩
      unfold cD at*
      repeat' (first|refine zB rfl d5 ?_|refine zI rfl la ?_|refine zA rfl ?_|refine aA ?_|refine aL rfl ?_|refine aH rfl k1 ?_|refine aH rfl k2 ?_|refine aH rfl k3 ?_|refine zR rfl ?_|refine aW mixed [0,2,3,1,4,5] [.P,.E,.P,.P,.E,.P] rfl rfl (by kernel_rfl) ?_)
      refine bS rfl rfl kc ?_ (fun u M' h=>by obtain⟨_,_,h,_⟩:=h;cases h)
      rintro u M' ⟨cap,cells,e,rfl,f1,f2,f3⟩
      cases e
      skip
      refine m0 aF rfl rfl rfl rfl rfl (l:=cells) rfl rfl rfl rfl rfl rfl rfl rfl rfl rfl f2 f1 (by simp;omega) (by simp;omega) ?_
      intro cap' l' g1 g2 g3
      repeat' (first|refine zA rfl ?_|refine aA ?_|refine aL rfl ?_)
      rw[f3] at g3
      refine bS rfl rfl (sort _ 1 cap' l' rfl (by rw[fA];exact g3) (by simpa using g1) g2) ?_ (fun u M' h=>by cases h.1)
      rintro u M' ⟨e,x,hv,rfl⟩
      cases e
      repeat' (first|refine zA rfl ?_|refine aA ?_|refine aL rfl ?_)
      exact⟨rfl,_,rfl,_,rfl,rV hv,Nat.zero_le _,trivial⟩
   ·rw[h4] at k3
    rw[if_pos h3]
    have d1:decide ((i:Int)≥0)=true:=decide_eq_true (by omega)
    unfold cD at*
    repeat' (first|refine zB rfl d1 ?_|refine zA rfl ?_|refine aA ?_|refine aL rfl ?_|refine aH rfl k1 ?_|refine aH rfl k2 ?_|refine aH rfl k3 ?_)
    exact⟨rfl,_,rfl,err 170⟩
theorem a1d (l:List Pn) (p:Pn) (hl:l.length < 100000):aO Tryz.prog 273 [cD l .none,p.av] (ZT (rR l p)):=s8 (aV (cV l (.inl rfl)) (C4 p)) (y6 _) (UP l p hl)
end Go.Proofs.YteliblifgdofgaaGreatDoor
namespace Go.Proofs.YteliblifgdofgaaGreatDoor
open Go.Ab
def DL (s:Sg) (t:Tr):List AV:=[.int .i64 s.last,.int .i64 s.mark,.sl 3 (s.pairs.map Pr.av) .none,.sl 2 (s.pins.map Pn.av) .none,.sl 4 (s.seen.map Sn.av) .none,t.av]
def G6 (s:Sg) (t:Tr):aG:=⟨1,[(0,.cells (DL s t))]⟩
theorem oV (s:Sg) (t:Tr):∀x,x∈DL s t→aN x:=aY aB (aY aB (aY (bW _) (bK (cV _ (.inl rfl)) (cT _ (.inl rfl)) (bG t))))
def WR (s:Sg) (z:Sg×(Int×Int)) (e:cH) (d:List AV):Prop:=∃t,t.all=z.1.pairs∧d=DL {z.1 with pairs:=s.pairs} t∧e=if z.2.1=0 then .ret (.int .i64 z.2.2) else .pan (kN z.2.1)
abbrev WP (s:Sg) (z:Sg×(Int×Int)):cH→aG→Prop:=fun e N=>N.next=1∧∃d,N.get 0=some (.cells d)∧WR s z e d
theorem FG:aO Tryz.prog 272 [.int .i64 0] (.tup []):=by
 intro M
 refine aC aF Tryz.func272 rfl (by decide) (by simp[Tryz.f272]) ?_
 repeat' (first|refine zA rfl ?_|refine aA ?_|refine aL rfl ?_)
 exact⟨rfl,_,rfl,rfl,rfl⟩
theorem XG (e:Int) (h:e≠0):N1 Tryz.prog 272 [.int .i64 e] (.pan (kN e)):=by
 refine tA (aX aB) (cI e) ?_
 refine aC aF Tryz.func272 rfl (by decide) (by simp[Tryz.f272]) ?_
 have d1:(!decide (e=0))=true:=by simp[h]
 repeat' (first|refine zB rfl d1 ?_|refine zA rfl ?_|refine aA ?_|refine aL rfl ?_)
 refine dR rfl rfl rfl rfl rfl ?_
 exact⟨rfl,aI.of_closed (cI e)⟩
theorem a9m (s:Sg) (t:Tr) (o:Oo) (ho:cY o) (hc:o.ch.length < 1000) (ht:t.all=s.pairs) (hp:s.pairs.length≤200) (hv:cP s.pairs) (hl:s.last≤1000000000) (h0:0≤s.last) (hB:s.last < 1000000000→FL s.pairs (s.last+1) o.ch=true):aQ Tryz.prog 212 [.ptr 0 0,o.av] (G6 s t) (WP s (B5 s o)):=by
 refine aC aF Tryz.func212 rfl (by decide) (by simp[Tryz.f212]) ?_
 have lp:=bA Pr.av s.pairs
 have lc:=bA Ch.av o.ch
 have kt:=FG
 have stop:WR s (B5 s o) (.pan (kN 2)) (DL s t)∨True:=.inr trivial
 unfold B5
 by_cases h1:s.last=1000000000
 ·have d1:decide (s.last=1000000000)=true:=decide_eq_true h1
  rw[if_pos (.inl (by omega))]
  unfold G6 DL Tr.av
  repeat' (first|refine zB rfl d1 ?_|refine zA rfl ?_|refine aA ?_|refine aL rfl ?_|refine aW mixed [0,1,2,3,4,5,6,7,8,9,10,11,12,13,14,15,16,17,18] [.P,.R,.R,.R,.R,.P,.P,.P,.R,.R,.R,.R,.P,.R,.R,.P,.P,.P,.P] rfl rfl (by kernel_rfl) ?_)
  refine dR rfl rfl rfl rfl rfl ?_
  exact⟨rfl,rfl,_,rfl,t,ht,rfl,rfl⟩
 ·have d1:decide (s.last=1000000000)=false:=decide_eq_false h1
  have f1:IntKind.wrap .i64 ((s.pairs.length:Int)+(o.ch.length:Int))=((s.pairs.length+o.ch.length:Nat):Int):=by
   rw[Go.Ab.wrap_small (i:=(s.pairs.length:Int)+(o.ch.length:Int)) (by omega) (by omega)]
   omega
  have f2:IntKind.wrap .i64 (s.last+1)=s.last+1:=Go.Ab.wrap_small (by omega) (by omega)
  by_cases h2:200 < s.pairs.length+o.ch.length
  ·have d2:decide (((s.pairs.length+o.ch.length:Nat):Int) > 200)=true:=decide_eq_true (by omega)
   rw[if_pos (.inr h2)]
   unfold G6 DL Tr.av
   repeat' (first|refine zB rfl (by first|exact d1|exact d2) ?_|refine zI rfl (by first|exact lp|exact lc|exact f1) ?_|refine zA rfl ?_|refine aA ?_|refine aL rfl ?_|refine aW mixed [0,1,2,3,4,5,6,7,8,9,10,11,12,13,14,15,16,17,18] [.P,.R,.R,.R,.R,.P,.P,.P,.R,.R,.R,.R,.P,.R,.R,.P,.P,.P,.P] rfl rfl (by kernel_rfl) ?_)
   refine dR rfl rfl rfl rfl rfl ?_
   exact⟨rfl,rfl,_,rfl,t,ht,rfl,rfl⟩
  ·have d2:decide (((s.pairs.length+o.ch.length:Nat):Int) > 200)=false:=decide_eq_false (by omega)
   rw[if_neg (by omega)]
   have k:=a5l t (s.last+1) o.ch .none (.inl rfl) (by rw[ht];omega) (by rw[ht];exact hv) ho.2
   have hT:(mY t (s.last+1) o.ch).all=oG s.pairs (s.last+1) o.ch:=by rw[JR (by rw[ht];omega),ht]
   unfold J8 at k
   rw[if_pos (by rw[ht];exact hB (by omega))] at k
   generalize mY t (s.last+1) o.ch=u at*
   unfold mU at k
   unfold G6 DL
   unfold Tr.av at k ⊢
   repeat' (first|refine zB rfl (by first|exact d1|exact d2) ?_|refine zI rfl (by first|exact lp|exact lc|exact f1|exact f2) ?_|refine zA rfl ?_|refine aA ?_|refine aL rfl ?_|refine aH rfl k ?_|refine aH rfl kt ?_|refine aW mixed [0,1,2,3,4,5,6,7,8,9,10,11,12,13,14,15,16,17,18] [.P,.R,.R,.R,.R,.P,.P,.P,.R,.R,.R,.R,.P,.R,.R,.P,.P,.P,.P] rfl rfl (by kernel_rfl) ?_|refine aW mixed [0,4,1,2,3,5,6,7,8,9,10,11,12,13,14,15,16,17] [.P,.R,.R,.R,.P,.R,.R,.R,.R,.P,.R,.R,.P,.P,.P,.P,.P,.P] rfl rfl (by kernel_rfl) ?_)
   exact⟨rfl,_,rfl,rfl,_,rfl,u,hT,rfl,rfl⟩
theorem a61 (s:Sg) (t:Tr) (o:Oo) (ht:t.all=s.pairs) (hp:s.pins.length < 100000):aQ Tryz.prog 213 [.ptr 0 0,o.av] (G6 s t) (WP s (xZ s o)):=by
 refine aC aF Tryz.func213 rfl (by decide) (by simp[Tryz.f213]) ?_
 have k:=a1d s.pins ⟨o.session,o.at_⟩ hp
 have kt:=FG
 unfold xZ
 unfold ZT cD at k
 generalize rR s.pins ⟨o.session,o.at_⟩=z at*
 obtain⟨l,e⟩:=z
 unfold G6 DL Tr.av
 by_cases h1:o.at_ < s.mark
 ·have d1:decide (o.at_ < s.mark)=true:=decide_eq_true h1
  rw[if_pos h1]
  repeat' (first|refine zB rfl d1 ?_|refine zA rfl ?_|refine aA ?_|refine aL rfl ?_|refine aW mixed [2,0,1,3,4,5,6,7] [.R,.R,.P,.R,.R,.R,.R,.P] rfl rfl (by kernel_rfl) ?_)
  refine dR rfl rfl rfl rfl rfl ?_
  exact⟨rfl,rfl,_,rfl,t,ht,rfl,rfl⟩
 ·have d1:decide (o.at_ < s.mark)=false:=decide_eq_false h1
  rw[if_neg h1]
  by_cases h2:s.last < o.at_
  ·have d2:decide (o.at_ > s.last)=true:=decide_eq_true h2
   rw[if_pos h2]
   repeat' (first|refine zB rfl (by first|exact d1|exact d2) ?_|refine zA rfl ?_|refine aA ?_|refine aL rfl ?_|refine aW mixed [2,0,1,3,4,5,6,7] [.R,.R,.P,.R,.R,.R,.R,.P] rfl rfl (by kernel_rfl) ?_)
   refine dR rfl rfl rfl rfl rfl ?_
   exact⟨rfl,rfl,_,rfl,t,ht,rfl,rfl⟩
  ·have d2:decide (o.at_ > s.last)=false:=decide_eq_false h2
   rw[if_neg h2]
   by_cases h3:e=0
   ·subst h3
    rw[if_pos rfl]
    repeat' (first|refine zB rfl (by first|exact d1|exact d2) ?_|refine zA rfl ?_|refine aA ?_|refine aL rfl ?_|refine aH rfl k ?_|refine aH rfl kt ?_|refine aW mixed [2,0,1,3,4,5,6,7] [.R,.R,.P,.R,.R,.R,.R,.P] rfl rfl (by kernel_rfl) ?_|refine aW mixed [0,1,2,3,4,5,6,7,8,9,10,11,12,13,14,15] [.P,.R,.R,.R,.R,.R,.R,.R,.R,.P,.P,.P,.P,.P,.P,.P] rfl rfl (by kernel_rfl) ?_)
    exact⟨rfl,_,rfl,rfl,_,rfl,t,ht,rfl,rfl⟩
   ·rw[if_neg h3]
    repeat' (first|refine zB rfl (by first|exact d1|exact d2) ?_|refine zA rfl ?_|refine aA ?_|refine aL rfl ?_|refine aH rfl k ?_|refine AZ rfl rfl (XG e h3) ?_|refine aW mixed [2,0,1,3,4,5,6,7] [.R,.R,.P,.R,.R,.R,.R,.P] rfl rfl (by kernel_rfl) ?_|refine aW mixed [0,1,2,3,4,5,6,7,8,9,10,11,12,13,14,15] [.P,.R,.R,.R,.R,.R,.R,.R,.R,.P,.P,.P,.P,.P,.P,.P] rfl rfl (by kernel_rfl) ?_)
    exact⟨rfl,rfl,_,rfl,t,ht,rfl,(if_neg h3).symm⟩
theorem a6s (s:Sg) (t:Tr) (o:Oo) (ht:t.all=s.pairs) (hp:s.pins.length < 100000):aQ Tryz.prog 214 [.ptr 0 0,o.av] (G6 s t) (WP s (xG s o)):=by
 refine aC aF Tryz.func214 rfl (by decide) (by simp[Tryz.f214]) ?_
 have k:=QZ s.pins o.session hp
 have k0:=a5j s.pins .none (by omega) o.session
 have kt:=FG
 unfold xG
 unfold ZT cD at k
 unfold pfA cD at k0
 generalize iH s.pins o.session=z at*
 generalize T7 s.pins o.session=v at*
 obtain⟨l,e⟩:=z
 unfold G6 DL Tr.av
 by_cases h3:e=0
 ·subst h3
  rw[if_pos rfl]
  repeat' (first|refine zA rfl ?_|refine aA ?_|refine aL rfl ?_|refine aH rfl k ?_|refine aH rfl k0 ?_|refine aH rfl kt ?_|refine aW mixed [0,1,2,3,4,5,6,7,8,9,10,11,12] [.P,.R,.R,.R,.R,.R,.R,.P,.P,.P,.P,.P,.P] rfl rfl (by kernel_rfl) ?_)
  exact⟨rfl,_,rfl,rfl,_,rfl,t,ht,rfl,rfl⟩
 ·rw[if_neg h3]
  repeat' (first|refine zA rfl ?_|refine aA ?_|refine aL rfl ?_|refine aH rfl k ?_|refine aH rfl k0 ?_|refine AZ rfl rfl (XG e h3) ?_|refine aW mixed [0,1,2,3,4,5,6,7,8,9,10,11,12] [.P,.R,.R,.R,.R,.R,.R,.P,.P,.P,.P,.P,.P] rfl rfl (by kernel_rfl) ?_)
  exact⟨rfl,rfl,_,rfl,t,ht,rfl,(if_neg h3).symm⟩
theorem a27 (s:Sg) (t:Tr) (o:Oo) (ht:t.all=s.pairs) (hp:s.pairs.length < 1000000) (hv:cP s.pairs) (hn:s.pins.length < 1000000) (hB:vOk s.pairs (fU s.mark o.at_ s.last s.pins)=true):aQ Tryz.prog 215 [.ptr 0 0,o.av] (G6 s t) (WP s (u6 s o)):=by
 refine aC aF Tryz.func215 rfl (by decide) (by simp[Tryz.f215]) ?_
 have k0:=WJ s.mark o.at_ s.last s.pins .none (.inl rfl) hn
 have k:=a6b t (by rw[ht];exact hp) (by rw[ht];exact hv) (fU s.mark o.at_ s.last s.pins)
 have kt:=FG
 have hT:=WU (t:=t) (by rw[ht];omega) (fU s.mark o.at_ s.last s.pins)
 rw[ht] at hT
 unfold YL at k
 rw[if_pos (by rw[ht];exact hB)] at k
 unfold u6
 unfold cD at k0
 generalize fU s.mark o.at_ s.last s.pins=w at*
 generalize WI t w=u at*
 generalize ((dT w t.all).2.length:Int)=n at*
 unfold G6 DL
 unfold Tr.av at k ⊢
 repeat' (first|refine zA rfl ?_|refine aA ?_|refine aL rfl ?_|refine aH rfl k0 ?_|refine aH rfl k ?_|refine aH rfl kt ?_|refine aW mixed [0,7,12,1,2,3,4,5,6,8,9,10,11,13,14,15,16,17,18] [.P,.R,.R,.R,.R,.R,.R,.P,.R,.R,.R,.R,.P,.R,.R,.R,.R,.P,.P] rfl rfl (by kernel_rfl) ?_)
 exact⟨rfl,_,rfl,rfl,_,rfl,u,hT,rfl,rfl⟩
end Go.Proofs.YteliblifgdofgaaGreatDoor
