/- The statement holds, and so does its tied card. No further condition. -/
import Derived.Test.YtbcaejhhgkcgpaaGreatDoorK20
set_option linter.unusedVariables false
set_option linter.unusedSimpArgs false
namespace Go.Proofs.YtbcaejhhgkcgpaaGreatDoor
open Go.Ab Go.RowKit Go.ChangeShapes Go.WideShapes Go.ChangeAt
set_option maxRecDepth 100000 in
set_option maxHeartbeats 4000000 in
theorem batchGets_lifted (os:Os) (started:os.Started) (H:Type) (enc:TypeId×Value→H):
  ReturnsInHanded {} Tryz.checked os 3 .any (fun w args=>(Rows.batchGetsSpec.pre enc Tryz.prog Tryz.f3 Rows.batchGetsRow.domain false w args∧laidMetH Tryz.prog Rows.batchGetsRow.laid w)∧sizedMet enc Tryz.prog Tryz.f3 (OpenSpec.ofChange Rows.batchGetsSpec) false w args)
   (Rows.batchGetsSpec.post enc Tryz.prog Tryz.f3 false true false false):=by
 refine returnsInHanded_of_change_and (C:=Tryz.checked) (X:=fun w _=>laidMetH Tryz.prog Rows.batchGetsRow.laid w) (fun _ _ _ hh h=>h.of_heap hh) Tryz.own started (by kernel_rfl) Tryz.func3
  (ChangeSpec.witness_shaped (enc:=enc) (C:=Tryz.checked) (os:=os) (X:=fun w _=>laidMetH Tryz.prog Rows.batchGetsRow.laid w) false (World.laidAll Tryz.prog os Rows.batchGetsRow.laid) #[.string ⟨#[]⟩] 8 (World.laidAll_os _ _ _)
   (World.shaped_of_ZipB (by kernel_rfl) (by kernel_rfl)) (by kernel_rfl) (by kernel_rfl) (by kernel_rfl)
   (by rw[MakeChecks.laidMetH_plain _ _ _ (by kernel_rfl)];exact laidMet_laidAll _ (by kernel_rfl) (by kernel_rfl))) ?_
 intro W base args ds gs before hval0 hW _ hsz _ _
 have hval:∀(j:Nat) t v,Tryz.f3.params[j]? =some t→args[j]? =some v→Value.okWide Tryz.prog W .any base t v:=hval0
 have hW':=hW
 obtain⟨p,q,hA0,hV,rfl,_,_⟩:=hW
 have hA:DataW.TrodAll enc Tryz.prog W 0 (fun _=>true) true Tryz.f3.params.toList args.toList ds p:=hA0
 rw[Tryz.params3] at hA hval
 obtain⟨v0,vs0,d0,ds0,p0,q0,hargs,rfl,rfl,h0,r0⟩:=trodAll_cons hA
 obtain⟨rfl,rfl,rfl⟩:=trodAll_nil r0
 obtain rfl:args=#[v0]:=by cases args;simp_all
 obtain⟨rfl,rfl⟩:=trodVars_none hV
 rw[Tryz.params3] at hsz
 obtain⟨x0,R0,s0⟩:=arg_one tabOK (n:=8) rfl h0 (weightsEach_get hsz (i:=0) rfl rfl) (one_str Tryz.underlying9 (hval 0 9 v0 rfl rfl))
 obtain⟨a0,rfl,b0⟩:=str_of s0 rfl
 have hv:=RepL.cons R0
 refine (law_calls (bGets_ok a0 (Nat.lt_of_le_of_lt b0 (by decide))) hv).mono fun e W' ⟨he,hb⟩=>?_
 subst he
 refine⟨_,rfl,?_⟩
 exact law_post Tryz.laidOut rfl Tryz.underlying4 rfl (by rw[Tryz.params3];intro t ht;simp only[List.mem_cons,List.not_mem_nil,or_false] at ht;rcases ht with rfl<;>exact⟨by kernel_rfl,by decide+kernel⟩) hW' hb rfl rfl rfl
theorem batchGets_holds:Rows.BatchGetsSaid:=
 OpenClaim.holds_of_wide 3 Tryz.f3 rfl rfl rfl rfl rfl rfl rfl ⟨rfl,rfl,rfl,rfl,rfl⟩ rfl rfl rfl rfl rfl (by kernel_rfl) Tryz.func3 (by kernel_rfl)
  (of_decide_eq_true (by kernel_rfl)) (by unfold Func.isWrapper;first|(rw[if_pos (by decide+kernel)];kernel_rfl)|(rw[if_neg (by decide+kernel)];exact⟨rfl,rfl⟩))
  (fun os started H enc _=>batchGets_lifted os started H enc)
theorem batchGets_card:Rows.BatchGetsCardSaid:=
 Claim7.holds_tied_plain_at .later [] [.data,.pinned] true (true, "2af5f7963bdeb398f0d1c457461d35a0c3fe10c9525036e2288f2e2dc9ccf9d4") true
  batchGets_holds (fun _ h=>by cases h) (by kernel_rfl) (fun _ h=>by cases h) batchGets_row_tie rfl ⟨rfl,rfl⟩ (by kernel_rfl) rfl
  (fun f fn hf hfn=>by
   obtain rfl:f=3:=Option.some.inj ((show Tryz.prog.funcNamed Rows.batchGetsRow.func=some 3 by kernel_rfl).symm.trans hf) |>.symm
   obtain rfl:fn=Tryz.f3:=(Option.some.inj (Tryz.func3.symm.trans hfn)).symm
   exact⟨by kernel_rfl,fun j t ht=>by
    rw[Tryz.params3] at ht
    have hm:t∈[9]:=by simpa using Array.mem_of_getElem? ht
    have hall:([9].all fun u=>!Tryz.prog.wantsStandIn u)=true:=by kernel_rfl
    exact (show Tryz.prog.wantsStandIn t=false by simpa using List.all_eq_true.1 hall t hm)⟩)
  (by kernel_rfl)
#print axioms batchGets_card
end Go.Proofs.YtbcaejhhgkcgpaaGreatDoor
