/- The statement holds, and so does its tied card. No further condition. -/
import Derived.Test.YtbcaejhhgkcgpaaGreatDoorK20
set_option linter.unusedVariables false
set_option linter.unusedSimpArgs false
namespace Go.Proofs.YtbcaejhhgkcgpaaGreatDoor
open Go.Ab Go.RowKit Go.ChangeShapes Go.WideShapes Go.ChangeAt
set_option maxRecDepth 100000 in
set_option maxHeartbeats 4000000 in
theorem batchDoes_lifted (os:Os) (started:os.Started) (H:Type) (enc:TypeId×Value→H):
  ReturnsInHanded {} Tryz.checked os 4 .any (fun w args=>(Rows.batchDoesSpec.pre enc Tryz.prog Tryz.f4 Rows.batchDoesRow.domain false w args∧laidMetH Tryz.prog Rows.batchDoesRow.laid w)∧sizedMet enc Tryz.prog Tryz.f4 (OpenSpec.ofChange Rows.batchDoesSpec) false w args)
   (Rows.batchDoesSpec.post enc Tryz.prog Tryz.f4 false true false false):=by
 refine returnsInHanded_of_change_and (C:=Tryz.checked) (X:=fun w _=>laidMetH Tryz.prog Rows.batchDoesRow.laid w) (fun _ _ _ hh h=>h.of_heap hh) Tryz.own started (by kernel_rfl) Tryz.func4
  (ChangeSpec.witness_shaped (enc:=enc) (C:=Tryz.checked) (os:=os) (X:=fun w _=>laidMetH Tryz.prog Rows.batchDoesRow.laid w) false (World.laidAll Tryz.prog os Rows.batchDoesRow.laid) #[.slice none 0 0,.slice none 0 0] 8 (World.laidAll_os _ _ _)
   (World.shaped_of_ZipB (by kernel_rfl) (by kernel_rfl)) (by kernel_rfl) (by kernel_rfl) (by kernel_rfl)
   (by rw[MakeChecks.laidMetH_plain _ _ _ (by kernel_rfl)];exact laidMet_laidAll _ (by kernel_rfl) (by kernel_rfl))) ?_
 intro W base args ds gs before hval0 hW _ hsz _ _
 have hval:∀(j:Nat) t v,Tryz.f4.params[j]? =some t→args[j]? =some v→Value.okWide Tryz.prog W .any base t v:=hval0
 have hW':=hW
 obtain⟨p,q,hA0,hV,rfl,_,_⟩:=hW
 have hA:DataW.TrodAll enc Tryz.prog W 0 (fun _=>true) true Tryz.f4.params.toList args.toList ds p:=hA0
 rw[Tryz.params4] at hA hval
 obtain⟨v0,vs0,d0,ds0,p0,q0,hargs,rfl,rfl,h0,r0⟩:=trodAll_cons hA
 obtain⟨v1,vs1,d1,ds1,p1,q1,rfl,rfl,rfl,h1,r1⟩:=trodAll_cons r0
 obtain⟨rfl,rfl,rfl⟩:=trodAll_nil r1
 obtain rfl:args=#[v0,v1]:=by cases args;simp_all
 obtain⟨rfl,rfl⟩:=trodVars_none hV
 rw[Tryz.params4] at hsz
 obtain⟨x0,R0,s0⟩:=arg_one tabOK (n:=8) rfl h0 (weightsEach_get hsz (i:=0) rfl rfl) (one_slice Tryz.underlying22 (hval 0 22 v0 rfl rfl))
 obtain⟨a0,e0,b0⟩:=chs_of s0
 subst e0
 obtain⟨x1,R1,s1⟩:=arg_one tabOK (n:=8) rfl h1 (weightsEach_get hsz (i:=1) rfl rfl) (one_slice Tryz.underlying22 (hval 1 22 v1 rfl rfl))
 obtain⟨a1,e1,b1⟩:=chs_of s1
 subst e1
 have hv:=(RepL.cons R0).app (RepL.cons R1)
 refine (law_calls (bDoes_ok a0 a1 (Nat.lt_of_le_of_lt b0 (by decide)) (Nat.lt_of_le_of_lt b1 (by decide))) hv).mono fun e W' ⟨he,hb⟩=>?_
 subst he
 refine⟨_,rfl,?_⟩
 exact law_post Tryz.laidOut rfl Tryz.underlying4 rfl (by rw[Tryz.params4];intro t ht;simp only[List.mem_cons,List.not_mem_nil,or_false] at ht;rcases ht with rfl|rfl<;>exact⟨by kernel_rfl,by decide+kernel⟩) hW' hb rfl rfl rfl
theorem batchDoes_holds:Rows.BatchDoesSaid:=
 OpenClaim.holds_of_wide 4 Tryz.f4 rfl rfl rfl rfl rfl rfl rfl ⟨rfl,rfl,rfl,rfl,rfl⟩ rfl rfl rfl rfl rfl (by kernel_rfl) Tryz.func4 (by kernel_rfl)
  (of_decide_eq_true (by kernel_rfl)) (by unfold Func.isWrapper;first|(rw[if_pos (by decide+kernel)];kernel_rfl)|(rw[if_neg (by decide+kernel)];exact⟨rfl,rfl⟩))
  (fun os started H enc _=>batchDoes_lifted os started H enc)
theorem batchDoes_card:Rows.BatchDoesCardSaid:=
 Claim7.holds_tied_plain_at .later [] [.data,.pinned] true (true, "2af5f7963bdeb398f0d1c457461d35a0c3fe10c9525036e2288f2e2dc9ccf9d4") true
  batchDoes_holds (fun _ h=>by cases h) (by kernel_rfl) (fun _ h=>by cases h) batchDoes_row_tie rfl ⟨rfl,rfl⟩ (by kernel_rfl) rfl
  (fun f fn hf hfn=>by
   obtain rfl:f=4:=Option.some.inj ((show Tryz.prog.funcNamed Rows.batchDoesRow.func=some 4 by kernel_rfl).symm.trans hf) |>.symm
   obtain rfl:fn=Tryz.f4:=(Option.some.inj (Tryz.func4.symm.trans hfn)).symm
   exact⟨by kernel_rfl,fun j t ht=>by
    rw[Tryz.params4] at ht
    have hm:t∈[22,22]:=by simpa using Array.mem_of_getElem? ht
    have hall:([22,22].all fun u=>!Tryz.prog.wantsStandIn u)=true:=by kernel_rfl
    exact (show Tryz.prog.wantsStandIn t=false by simpa using List.all_eq_true.1 hall t hm)⟩)
  (by kernel_rfl)
#print axioms batchDoes_card
end Go.Proofs.YtbcaejhhgkcgpaaGreatDoor
