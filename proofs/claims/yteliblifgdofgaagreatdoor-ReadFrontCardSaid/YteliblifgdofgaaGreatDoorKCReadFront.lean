/- The statement holds, and so does its tied card. No further condition. -/
import Derived.Test.YteliblifgdofgaaGreatDoorK26
import Derived.Test.YteliblifgdofgaaGreatDoorK27
set_option linter.unusedVariables false
set_option linter.unusedSimpArgs false
set_option maxRecDepth 100000
set_option maxHeartbeats 8000000
namespace Go.Proofs.YteliblifgdofgaaGreatDoor
open Go.Ab Go.RowKit Go.ChangeShapes Go.WideShapes Go.ChangeAt
theorem uJ (os:Os) (started:os.Started) (H:Type) (enc:TypeId×Value→H):
  ReturnsInHanded {} Tryz.checked os 3 .any (fun w args=>(Rows.readFrontSpec.pre enc Tryz.prog Tryz.f3 Rows.readFrontRow.domain false w args∧laidMetH Tryz.prog Rows.readFrontRow.laid w)∧sizedMet enc Tryz.prog Tryz.f3 (OpenSpec.ofChange Rows.readFrontSpec) false w args)
   (Rows.readFrontSpec.post enc Tryz.prog Tryz.f3 false true false false):=by
 refine returnsInHanded_of_change_and (C:=Tryz.checked) (X:=fun w _=>laidMetH Tryz.prog Rows.readFrontRow.laid w) (fun _ _ _ hh h=>h.of_heap hh) Tryz.own started (by kernel_rfl) Tryz.func3
  (ChangeSpec.witness_shaped (enc:=enc) (C:=Tryz.checked) (os:=os) (X:=fun w _=>laidMetH Tryz.prog Rows.readFrontRow.laid w) false (World.laidAll Tryz.prog os Rows.readFrontRow.laid) #[.slice none 0 0,.int .i64 0,.string ⟨#[]⟩,.int .i64 0] 8 (World.laidAll_os _ _ _)
   (World.shaped_of_ZipB (by kernel_rfl) (by kernel_rfl)) (by kernel_rfl) (by kernel_rfl) (by kernel_rfl)
   (by rw[MakeChecks.laidMetH_plain _ _ _ (by kernel_rfl)];exact laidMet_laidAll _ (by kernel_rfl) (by kernel_rfl))) ?_
 intro W base args ds gs before hval0 hW _ hsz _ _
 have hval:∀(j:Nat) t v,Tryz.f3.params[j]? =some t→args[j]? =some v→Value.okWide Tryz.prog W .any base t v:=hval0
 have hW':=hW
 obtain⟨p,q,hA0,hV,rfl,_,_⟩:=hW
 have hA:DataW.TrodAll enc Tryz.prog W 0 (fun _=>true) true Tryz.f3.params.toList args.toList ds p:=hA0
 rw[Tryz.params3] at hA hval
 obtain⟨v0,vs0,d0,ds0,p0,q0,hargs,rfl,rfl,h0,r0⟩:=trodAll_cons hA
 obtain⟨v1,vs1,d1,ds1,p1,q1,rfl,rfl,rfl,h1,r1⟩:=trodAll_cons r0
 obtain⟨v2,vs2,d2,ds2,p2,q2,rfl,rfl,rfl,h2,r2⟩:=trodAll_cons r1
 obtain⟨v3,vs3,d3,ds3,p3,q3,rfl,rfl,rfl,h3,r3⟩:=trodAll_cons r2
 obtain⟨rfl,rfl,rfl⟩:=trodAll_nil r3
 obtain rfl:args=#[v0,v1,v2,v3]:=by cases args;simp_all
 obtain⟨rfl,rfl⟩:=trodVars_none hV
 rw[Tryz.params3] at hsz
 obtain⟨x0,R0,s0⟩:=mF aF (n:=8) rfl h0 (cO hsz (i:=0) rfl rfl) (C6 Tryz.underlying22 (hval 0 22 v0 rfl rfl))
 obtain⟨a0,e0,b0⟩:=VU s0
 subst e0
 obtain⟨x1,R1,s1⟩:=mF aF (n:=8) rfl h1 (cO hsz (i:=1) rfl rfl) (G4 Tryz.underlying3 (hval 1 3 v1 rfl rfl))
 obtain⟨a1,rfl,b1⟩:=L7 s1 rfl
 obtain⟨x2,R2,s2⟩:=mF aF (n:=8) rfl h2 (cO hsz (i:=2) rfl rfl) (OT Tryz.underlying9 (hval 2 9 v2 rfl rfl))
 obtain⟨a2,rfl,b2⟩:=TZ s2 rfl
 obtain⟨x3,R3,s3⟩:=mF aF (n:=8) rfl h3 (cO hsz (i:=3) rfl rfl) (G4 Tryz.underlying3 (hval 3 3 v3 rfl rfl))
 obtain⟨a3,rfl,b3⟩:=L7 s3 rfl
 have hv:=(cN.cons R0).app ((cN.cons R1).app ((cN.cons R2).app (cN.cons R3)))
 refine (CJ (G0 a0 b0 a1 a2 a3) hv).mono fun e W' ⟨he,hb⟩=>?_
 subst he
 refine⟨_,rfl,?_⟩
 exact HV Tryz.laidOut rfl Tryz.underlying4 rfl (by rw[Tryz.params3];intro t ht;simp only[List.mem_cons,List.not_mem_nil,or_false] at ht;rcases ht with rfl|rfl|rfl|rfl<;>exact⟨by kernel_rfl,by decide+kernel⟩) hW' hb rfl rfl rfl
theorem uV:joinedFacts Tryz.checked.prog 3 Tryz.f3 Rows.readFrontSpec Rows.readFrontRow=true:=by
 unfold joinedFacts
 simp only[Bool.and_eq_true]
 repeat' with_reducible refine And.intro ?_ ?_
 all_goals as_aux_lemma=>kernel_rfl
theorem mQ:Tryz.checked.prog.funcNamed Rows.readFrontRow.func=some 3:=by kernel_rfl
theorem y9:decide (Tryz.f3.isInstance Tryz.checked.prog Rows.readFrontRow.origin Rows.readFrontRow.targs)=true:=by kernel_rfl
theorem wK:Tryz.f3.isWrapper Tryz.checked.prog Rows.readFrontRow.wrapper Rows.readFrontRow.mainSum:=by
 unfold Func.isWrapper;first|(rw[if_pos (by decide+kernel)];kernel_rfl)|(rw[if_neg (by decide+kernel)];exact⟨rfl,rfl⟩)
theorem wM:Rows.ReadFrontSaid:=
 OpenClaim.holds_of_wide 3 Tryz.f3 rfl rfl rfl rfl rfl rfl rfl ⟨rfl,rfl,rfl,rfl,rfl⟩ rfl rfl rfl rfl rfl mQ Tryz.func3 uV
  (of_decide_eq_true y9) wK
  (fun os started H enc _=>uJ os started H enc)
theorem readFront_card:Rows.ReadFrontCardSaid:=
 Claim7.holds_tied_plain_at .later [] [.data,.pinned] true (true, "1642c1bdcb9f767c9cb3b2620a4ebd727fd21ba7b9669ca7633764c850ed8646") true
  wM (fun _ h=>by cases h) (by kernel_rfl) (fun _ h=>by cases h) readFront_row_tie rfl ⟨rfl,rfl⟩ (by kernel_rfl) rfl
  (fun f fn hf hfn=>by
   obtain rfl:f=3:=Option.some.inj (mQ.symm.trans hf) |>.symm
   obtain rfl:fn=Tryz.f3:=(Option.some.inj (Tryz.func3.symm.trans hfn)).symm
   exact⟨by kernel_rfl,fun j t ht=>by
    rw[Tryz.params3] at ht
    have hm:t∈[22,3,9,3]:=by simpa using Array.mem_of_getElem? ht
    have hall:([22,3,9,3].all fun u=>!Tryz.prog.wantsStandIn u)=true:=by kernel_rfl
    exact (show Tryz.prog.wantsStandIn t=false by simpa using List.all_eq_true.1 hall t hm)⟩)
  (by kernel_rfl)
#print axioms readFront_card
end Go.Proofs.YteliblifgdofgaaGreatDoor
