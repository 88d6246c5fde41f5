/- Parts of the proof, one behind the other. No further condition. -/
import Derived.Test.YtbcaejhhgkcgpaaDoorK16
set_option linter.unusedVariables false
set_option linter.unusedSimpArgs false
namespace Go.Proofs.YtbcaejhhgkcgpaaDoor
open Go.Ab
theorem batch_is {l L:List Ch} (h:normC l=(L,0)):batchB l=decide (L=l):=by
 rw[norm_batch,h]
 simp
theorem batch_not {l:List Ch} (h:(normC l).2≠0):batchB l=false:=by
 rw[norm_batch]
 refine decide_eq_false fun e=>h ?_
 rw[e]
theorem norm_err {l:List Ch} (h:(normC l).2≠0):normC l=([],1):=by
 unfold normC at h ⊢
 split at h
 ·rename_i k
  rw[if_pos k]
 ·rename_i k
  rw[if_neg k]
  split at h
  ·exact absurd rfl h
  ·rename_i k2
   rw[if_neg k2]
theorem norm_ok0 {l:List Ch} (h:(normC l).2=0):∃L,normC l=(L,0)∧batchB L=true∧normC L=(L,0):=by
 obtain⟨h1,_⟩:=normC_ok h
 refine⟨(normC l).1,Prod.ext rfl h,h1,?_⟩
 have:=norm_batch (normC l).1
 rw[h1] at this
 simpa using this.symm
set_option maxRecDepth 100000 in
set_option maxHeartbeats 8000000 in
theorem bBack_ok (l:List Ch) (s:Bytes) (hl:l.length < 4611686018427387904) (hs:s.length < 4611686018427387904):APure Tryd.prog 3 [chA l .none,.str s] (.bool true):=by
 refine pure_sub (closed2 (closed_chs l (.inl rfl)) closed_str) (closed_bool) ?_
 refine acalls_of tabOK Tryd.func3 rfl (by decide) (by simp[Tryd.f3]) ?_
 have b1:=bigC_ok l .none hl
 cases h1:bigC l
 ·rw[h1] at b1
  by_cases h2:1000 < s.length
  ·have d1:decide ((1000:Int) < (s.length:Int))=true:=decide_eq_true (by omega)
   unfold chA at b1 ⊢
   repeat' (first|refine DW_VB tabs rfl d1 ?_|refine DW_A tabs rfl ?_|refine DW_nil ?_|refine W_A rfl ?_|refine DW_C rfl b1 ?_)
   exact⟨rfl,_,rfl,_,rfl,SubC.of_closed closed_bool⟩
  ·have d1:decide ((1000:Int) < (s.length:Int))=false:=decide_eq_false (by omega)
   obtain⟨l1,l2⟩:=bigC_no h1
   have sl:∀c,c∈l→shortCh c:=fun c hc=>by have:=l2 c hc;exact⟨by omega,by omega⟩
   have kl:=bLaid_ok
   have z1:decide ((0:Int)=0)=true:=rfl
   have z2:(!decide ((0:Int)=0))=false:=rfl
   have z3:decide ((1:Int)=0)=false:=rfl
   have z4:(!decide ((30:Int)=0))=true:=rfl
   have z5:(s==s)=true:=by simp
   have n1:=bNorm_ok l .none (.inl rfl) (by omega) sl
   have ki:=bIs_ok l .none (by omega) sl
   have gs:∃(d:List Ch) (x:Int) (u:Bytes) (y:Int),APure Tryd.prog 9 [.str s] (.tup [.sl 5 (d.map Ch.av) .none,.int .i64 x])∧APure Tryd.prog 8 [.sl 5 (d.map Ch.av) .none] (.tup [.str u,.int .i64 y])∧((x=30)∨(x=0∧y=0∧u=s)):=by
    have g:=bGet_ok s (by omega)
    cases hg:getC s with
    |none=>
     rw[hg] at g
     have p:=bPut_ok [] .none (.inl rfl) (by decide) (fun c hc=>by cases hc)
     exact⟨[],30,_,_,g,p,.inl rfl⟩
    |some d=>
     rw[hg] at g
     obtain⟨hb,hp⟩:=getC_inv hg
     obtain⟨q1,q2⟩:=batch_short hb
     have p:=bPut_ok d .none (.inl rfl) (by omega) q2
     rw[hp] at p
     exact⟨d,0,s,0,g,p,.inr ⟨rfl,rfl,rfl⟩⟩
   obtain⟨d,x,u,y,g1,g2,g3⟩:=gs
   by_cases h0:(normC l).2=0
   ·obtain⟨L,e1,e2,e3⟩:=norm_ok0 h0
    obtain⟨q1,q2⟩:=batch_short e2
    have n2:=bNorm_ok L .none (.inl rfl) (by omega) q2
    have kp:=bPut_ok L .none (.inl rfl) (by omega) q2
    rw[put_batch e2] at kp
    have kg:=bGet_ok (rowT (chsT L)) (by
     unfold rowT
     rw[List.length_append]
     have a1:=putN_len (chsT L).length
     have a2:=catT_len (chsT L)
     rw[chsT_len] at a2
     omega)
    rw[get_put_batch e2] at kg
    have kL:=bIs_ok L .none (by omega) q2
    rw[e2] at kL
    have sm:=chSame_ok L L .none .none (by omega) (by omega) (fun c hc=>(q2 c hc).2) (fun c hc=>(q2 c hc).2)
    rw[decide_eq_true rfl] at sm
    have sl2:=chSame_ok L l .none .none (by omega) (by omega) (fun c hc=>(q2 c hc).2) (fun c hc=>(sl c hc).2)
    rw[e1] at n1
    rw[e3] at n2
    rw[batch_is e1] at ki
    generalize rowT (chsT L)=X at*
    have z6:(decide (L=l)==decide (L=l))=true:=by simp
    generalize decide (L=l)=zb at*
    unfold gcA at kg
    dsimp only at kg
    unfold nmA at n1 n2 kg
    unfold pcA at kp
    dsimp only at n1 n2 kp kg
    unfold chA at*
    rcases g3 with rfl|⟨rfl,rfl,rfl⟩
    ·repeat' (first|refine DW_VB tabs rfl (by first|exact d1|exact z1|exact z2|exact z3|exact z4|exact z5|exact z6) ?_|refine DW_A tabs rfl ?_|refine DW_nil ?_|refine W_A rfl ?_|refine DW_C rfl b1 ?_|refine DW_C rfl n1 ?_|refine DW_C rfl n2 ?_|refine DW_C rfl kp ?_|refine DW_C rfl kg ?_|refine DW_C rfl kL ?_|refine DW_C rfl sm ?_|refine DW_C rfl sl2 ?_|refine DW_C rfl ki ?_|refine DW_C rfl kl ?_|refine DW_C rfl g1 ?_|refine DW_C rfl g2 ?_)
     exact⟨rfl,_,rfl,_,rfl,SubC.of_closed closed_bool⟩
    ·repeat' (first|refine DW_VB tabs rfl (by first|exact d1|exact z1|exact z2|exact z3|exact z4|exact z5|exact z6) ?_|refine DW_A tabs rfl ?_|refine DW_nil ?_|refine W_A rfl ?_|refine DW_C rfl b1 ?_|refine DW_C rfl n1 ?_|refine DW_C rfl n2 ?_|refine DW_C rfl kp ?_|refine DW_C rfl kg ?_|refine DW_C rfl kL ?_|refine DW_C rfl sm ?_|refine DW_C rfl sl2 ?_|refine DW_C rfl ki ?_|refine DW_C rfl kl ?_|refine DW_C rfl g1 ?_|refine DW_C rfl g2 ?_)
     exact⟨rfl,_,rfl,_,rfl,SubC.of_closed closed_bool⟩
   ·have e1:=norm_err h0
    rw[e1] at n1
    rw[batch_not h0] at ki
    have n2:=bNorm_ok [] .none (.inl rfl) (by decide) (fun c hc=>by cases hc)
    rw[nil_norm] at n2
    have kp:=bPut_ok [] .none (.inl rfl) (by decide) (fun c hc=>by cases hc)
    rw[putC_no (l:=[]) rfl] at kp
    have kg:=bGet_ok [] (by decide)
    rw[get_none] at kg
    unfold gcA at kg
    dsimp only at kg
    unfold nmA at n1 n2 kg
    unfold pcA at kp
    dsimp only at n1 n2 kp kg
    unfold chA at*
    rcases g3 with rfl|⟨rfl,rfl,rfl⟩
    ·repeat' (first|refine DW_VB tabs rfl (by first|exact d1|exact z1|exact z2|exact z3|exact z4|exact z5) ?_|refine DW_A tabs rfl ?_|refine DW_nil ?_|refine W_A rfl ?_|refine DW_C rfl b1 ?_|refine DW_C rfl n1 ?_|refine DW_C rfl n2 ?_|refine DW_C rfl kp ?_|refine DW_C rfl kg ?_|refine DW_C rfl ki ?_|refine DW_C rfl kl ?_|refine DW_C rfl g1 ?_|refine DW_C rfl g2 ?_)
     exact⟨rfl,_,rfl,_,rfl,SubC.of_closed closed_bool⟩
    ·repeat' (first|refine DW_VB tabs rfl (by first|exact d1|exact z1|exact z2|exact z3|exact z4|exact z5) ?_|refine DW_A tabs rfl ?_|refine DW_nil ?_|refine W_A rfl ?_|refine DW_C rfl b1 ?_|refine DW_C rfl n1 ?_|refine DW_C rfl n2 ?_|refine DW_C rfl kp ?_|refine DW_C rfl kg ?_|refine DW_C rfl ki ?_|refine DW_C rfl kl ?_|refine DW_C rfl g1 ?_|refine DW_C rfl g2 ?_)
     exact⟨rfl,_,rfl,_,rfl,SubC.of_closed closed_bool⟩
 ·rw[h1] at b1
  unfold chA at b1 ⊢
  repeat' (first|refine DW_A tabs rfl ?_|refine DW_nil ?_|refine W_A rfl ?_|refine DW_C rfl b1 ?_)
  exact⟨rfl,_,rfl,_,rfl,SubC.of_closed closed_bool⟩
end Go.Proofs.YtbcaejhhgkcgpaaDoor
