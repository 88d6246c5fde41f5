/- The statement holds, and so does its tied card. No further condition. -/
import Derived.Test.YtbcaejhhgkcgpaaDoorK18
set_option linter.unusedVariables false
set_option linter.unusedSimpArgs false
namespace Go.Proofs.YtbcaejhhgkcgpaaDoor
open Go.Ab Go.RowKit Go.ChangeShapes Go.WideShapes Go.ChangeAt
set_option maxRecDepth 100000 in
set_option maxHeartbeats 4000000 in
theorem batchBack_lifted (os:Os) (started:os.Started) (H:Type) (enc:TypeId×Value→H):
  ReturnsInHanded {} Tryd.checked os 3 .any (fun w args=>(Rows.batchBackSpec.pre enc Tryd.prog Tryd.f3 Rows.batchBackRow.domain false w args∧laidMetH Tryd.prog Rows.batchBackRow.laid w)∧sizedMet enc Tryd.prog Tryd.f3 (OpenSpec.ofChange Rows.batchBackSpec) false w args)
   (Rows.batchBackSpec.post enc Tryd.prog Tryd.f3 false true false false):=by
 refine returnsInHanded_of_change_and (C:=Tryd.checked) (X:=fun w _=>laidMetH Tryd.prog Rows.batchBackRow.laid w) (fun _ _ _ hh h=>h.of_heap hh) Tryd.own started (by kernel_rfl) Tryd.func3
  (ChangeSpec.witness_shaped (enc:=enc) (C:=Tryd.checked) (os:=os) (X:=fun w _=>laidMetH Tryd.prog Rows.batchBackRow.laid w) false (World.laidAll Tryd.prog os Rows.batchBackRow.laid) #[.slice none 0 0,.string ⟨#[]⟩] 8 (World.laidAll_os _ _ _)
   (World.shaped_of_ZipB (by kernel_rfl) (by kernel_rfl)) (by kernel_rfl) (by kernel_rfl) (by kernel_rfl)
   (by rw[MakeChecks.laidMetH_plain _ _ _ (by kernel_rfl)];exact laidMet_laidAll _ (by kernel_rfl) (by kernel_rfl))) ?_
 intro W base args ds gs before hval0 hW _ hsz _ _
 have hval:∀(j:Nat) t v,Tryd.f3.params[j]? =some t→args[j]? =some v→Value.okWide Tryd.prog W .any base t v:=hval0
 have hW':=hW
 obtain⟨p,q,hA0,hV,rfl,_,_⟩:=hW
 have hA:DataW.TrodAll enc Tryd.prog W 0 (fun _=>true) true Tryd.f3.params.toList args.toList ds p:=hA0
 rw[Tryd.params3] at hA hval
 obtain⟨v0,vs0,d0,ds0,p0,q0,hargs,rfl,rfl,h0,r0⟩:=trodAll_cons hA
 obtain⟨v1,vs1,d1,ds1,p1,q1,rfl,rfl,rfl,h1,r1⟩:=trodAll_cons r0
 obtain⟨rfl,rfl,rfl⟩:=trodAll_nil r1
 obtain rfl:args=#[v0,v1]:=by cases args;simp_all
 obtain⟨rfl,rfl⟩:=trodVars_none hV
 rw[Tryd.params3] at hsz
 obtain⟨x0,R0,s0⟩:=arg_one tabOK (n:=8) rfl h0 (weightsEach_get hsz (i:=0) rfl rfl) (one_slice Tryd.underlying22 (hval 0 22 v0 rfl rfl))
 obtain⟨a0,e0,b0⟩:=chs_of s0
 subst e0
 obtain⟨x1,R1,s1⟩:=arg_one tabOK (n:=8) rfl h1 (weightsEach_get hsz (i:=1) rfl rfl) (one_str Tryd.underlying9 (hval 1 9 v1 rfl rfl))
 obtain⟨a1,rfl,b1⟩:=str_of s1 rfl
 have hv:=(RepL.cons R0).app (RepL.cons R1)
 refine (law_calls (bBack_ok a0 a1 (Nat.lt_of_le_of_lt b0 (by decide)) (Nat.lt_of_le_of_lt b1 (by decide))) hv).mono fun e W' ⟨he,hb⟩=>?_
 subst he
 refine⟨_,rfl,?_⟩
 exact law_post Tryd.laidOut rfl Tryd.underlying4 rfl (by rw[Tryd.params3];intro t ht;simp only[List.mem_cons,List.not_mem_nil,or_false] at ht;rcases ht with rfl|rfl<;>exact⟨by kernel_rfl,by decide+kernel⟩) hW' hb rfl rfl rfl
theorem batchBack_holds:Rows.BatchBackSaid:=
 OpenClaim.holds_of_wide 3 Tryd.f3 rfl rfl rfl rfl rfl rfl rfl ⟨rfl,rfl,rfl,rfl,rfl⟩ rfl rfl rfl rfl rfl (by kernel_rfl) Tryd.func3 (by kernel_rfl)
  (of_decide_eq_true (by kernel_rfl)) (by unfold Func.isWrapper;first|(rw[if_pos (by decide+kernel)];kernel_rfl)|(rw[if_neg (by decide+kernel)];exact⟨rfl,rfl⟩))
  (fun os started H enc _=>batchBack_lifted os started H enc)
theorem batchBack_card:Rows.BatchBackCardSaid:=
 Claim7.holds_tied_plain_at .later [] [.data,.pinned] true (true, "17e5eaf1a58ef349d39aeea227c7e4bca37f8957a82d24f1c9402d7c1300ce6b") true
  batchBack_holds (fun _ h=>by cases h) (by kernel_rfl) (fun _ h=>by cases h) batchBack_row_tie rfl ⟨rfl,rfl⟩ (by kernel_rfl) rfl
  (fun f fn hf hfn=>by
   obtain rfl:f=3:=Option.some.inj ((show Tryd.prog.funcNamed Rows.batchBackRow.func=some 3 by kernel_rfl).symm.trans hf) |>.symm
   obtain rfl:fn=Tryd.f3:=(Option.some.inj (Tryd.func3.symm.trans hfn)).symm
   exact⟨by kernel_rfl,fun j t ht=>by
    rw[Tryd.params3] at ht
    have hm:t∈[22,9]:=by simpa using Array.mem_of_getElem? ht
    have hall:([22,9].all fun u=>!Tryd.prog.wantsStandIn u)=true:=by kernel_rfl
    exact (show Tryd.prog.wantsStandIn t=false by simpa using List.all_eq_true.1 hall t hm)⟩)
  (by kernel_rfl)
#print axioms batchBack_card
end Go.Proofs.YtbcaejhhgkcgpaaDoor
