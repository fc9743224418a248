/- Proved: the law AuditCheck of the program holds for every input; the row's listed variables are tied to the program's text. No conditions. -/
import Derived.Test.YtlnhdpjnlffaoaaGreatDoorQS
import Derived.Test.YtlnhdpjnlffaoaaGreatDoorZRbX
import Derived.Test.YtlnhdpjnlffaoaaGreatDoorQV
namespace Go.Proofs.YtlnhdpjnlffaoaaGreatDoor
open Go Go.Sx Go.ChangeShapes Go.WideShapes Go.ChangeAt Go.RowKit
set_option maxRecDepth 100000
set_option maxHeartbeats 2000000
set_option linter.unusedVariables false
theorem kC (os:Os) (started:os.Started) (H:Type) (enc:TypeId×Value→H) :
 ReturnsInHanded {} Tryz.checked os 3 .any (fun w args=>(Rows.auditCheckSpec.pre enc Tryz.prog Tryz.f3 Rows.auditCheckRow.domain false w args∧laidMetH Tryz.prog Rows.auditCheckRow.laid w)∧sizedMet enc Tryz.prog Tryz.f3 (OpenSpec.ofChange Rows.auditCheckSpec) false w args)
  (Rows.auditCheckSpec.post enc Tryz.prog Tryz.f3 false true false false):=by
 refine returnsInHanded_of_change_and (C:=Tryz.checked) (X:=fun w _=>laidMetH Tryz.prog Rows.auditCheckRow.laid w) (fun _ _ _ hh h=>h.of_heap hh) AA started (by kernel_rfl) Tryz.func3
  (ChangeSpec.witness_shaped (enc:=enc) (C:=Tryz.checked) (os:=os) (X:=fun w _=>laidMetH Tryz.prog Rows.auditCheckRow.laid w) false (World.laidAll Tryz.prog os Rows.auditCheckRow.laid) #[.agg ⟨jN kS⟩] 12 (World.laidAll_os _ _ _)
   (World.shaped_of_ZipB (by kernel_rfl) (by kernel_rfl)) (by kernel_rfl) (by kernel_rfl) (by kernel_rfl)
   (by rw[MakeChecks.laidMetH_plain _ _ _ (by kernel_rfl)];exact laidMet_laidAll _ (by kernel_rfl) (by kernel_rfl))) ?_
 intro W base args ds gs before hval0 hW hc hz hL hq
 have hval : ∀ (j:Nat) t v,Tryz.f3.params[j]? = some t→args[j]? = some v→Value.okWide Tryz.prog W .any base t v:=hval0
 have hW':=hW
 obtain⟨p,q,hA0,hV,rfl,_,_⟩:=hW
 have hA:DataW.TrodAll enc Tryz.prog W 0 (fun _=>true) true Tryz.f3.params.toList args.toList ds p:=hA0
 rw[Tryz.params3] at hA hval
 rw[show Tryz.checked.prog=Tryz.prog from rfl,Tryz.params3] at hz
 obtain⟨v0,d0,rfl,rfl,h0⟩:=trodAll_one hA
 obtain⟨s,rfl,hs⟩:=vb (hval 0 _ v0 rfl rfl) h0 hz (j:=0) rfl rfl
 have hf:=yl hL
 have spec:=mV wc s hs.wide hs.data hs.fly
 refine((spec).run (agree ⟨hs.rows,hf⟩ fun w' hw=>⟨⟨Rows.agree hs.rows.1 hw,ai.agree hs.rows.2 hw⟩,ai.agree hf hw⟩)).mono fun e W'=>?_
 rintro⟨v,F,rfl,hkeep,rfl⟩
 exact⟨_,rfl,yD rfl rfl rfl rfl Tryz.underlying4 tV pX y7 (by rw[Tryz.params3];decide +kernel) hW' hkeep⟩
theorem ly:Rows.AuditCheckSaid:=
 OpenClaim.holds_of_wide 3 Tryz.f3 rfl rfl rfl rfl rfl rfl rfl ⟨rfl,rfl,rfl,rfl,rfl⟩ rfl rfl rfl rfl rfl (by kernel_rfl) Tryz.func3 lD
  (of_decide_eq_true (by kernel_rfl)) (by unfold Func.isWrapper;first | (rw[if_pos (by decide +kernel)];kernel_rfl) | (rw[if_neg (by decide +kernel)];exact⟨rfl,rfl⟩))
  (fun os started H enc _=>kC os started H enc)
theorem auditCheck_card_holds:Rows.AuditCheckCardSaid:=
 Claim7.holds_tied_plain_at .later [] [.data] true (true,"5056554e030bbb82d8e859271c405ab54893cedd27147be461b67b869532d5ae") false ly (fun _ h=>by cases h) (by kernel_rfl) (fun _ h=>by cases h) auditCheck_row_tie rfl ⟨rfl,rfl⟩ (by kernel_rfl) rfl
  (fun f fn hf hfn=>by
   obtain rfl:f=3:=Option.some.inj ((show Tryz.prog.funcNamed "ratoon/ratoonlaw57.AuditCheck" = some 3 by kernel_rfl).symm.trans hf) |>.symm
   obtain rfl:fn=Tryz.f3:=(Option.some.inj (Tryz.func3.symm.trans hfn)).symm
   exact⟨by kernel_rfl,fun j t ht=>by
    rw[Tryz.params3] at ht
    have hm:t∈[74]:=by simpa using Array.mem_of_getElem? ht
    have hall:([74].all fun u=>!Tryz.prog.wantsStandIn u)=true:=by kernel_rfl
    exact(show Tryz.prog.wantsStandIn t=false by simpa using List.all_eq_true.1 hall t hm)⟩)
  (by kernel_rfl)
end Go.Proofs.YtlnhdpjnlffaoaaGreatDoor
