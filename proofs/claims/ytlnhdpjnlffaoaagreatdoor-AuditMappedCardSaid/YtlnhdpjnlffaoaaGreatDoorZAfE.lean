/- Proved: the law AuditMapped of the program holds for every input; the row's listed variables are tied to the program's text. No conditions. -/
import Derived.Test.YtlnhdpjnlffaoaaGreatDoorQS
import Derived.Test.YtlnhdpjnlffaoaaGreatDoorZAfD
import Derived.Test.YtlnhdpjnlffaoaaGreatDoorQT
namespace Go.Proofs.YtlnhdpjnlffaoaaGreatDoor
open Go Go.Sx Go.ChangeShapes Go.WideShapes Go.ChangeAt Go.RowKit
set_option maxRecDepth 100000
set_option maxHeartbeats 2000000
set_option linter.unusedVariables false
theorem tp {H:Type} {enc:TypeId×Value→H} {w:World} {base:Nat} {spare:Nat→Bool} {held:Bool} {r:Reach} {b0:Nat} {v:Value} {d:DataW H} {p:List MemPlace} (hv:Value.okWide Tryz.prog w r b0 5 v) (h:DataW.Trod enc Tryz.prog w base spare held 5 v d p) : ∃ a:Nat,v = .int .u8 a:=by
 obtain⟨q,hq⟩:=h
 have hv2:v.cells.toList = [v]:=by
  have hc:Cell.okWide Tryz.prog w r b0 5 v:=by simpa only[Value.okWide,Tryz.underlying5] using hv
  cases v<;>first | rfl | (simp[Cell.okWide,Cell.ok,Tryz.underlying5] at hc)
 rw[hv2] at hq
 obtain⟨z,h1,_,hw⟩:=DataW.trod_int Tryz.underlying5 hq
 cases h1
 have hb:=bounds_u8 hw
 refine⟨z.toNat,?_⟩
 congr 1
 omega
theorem iI (os:Os) (started:os.Started) (H:Type) (enc:TypeId×Value→H) :
 ReturnsInHanded {} Tryz.checked os 5 .any (fun w args=>(Rows.auditMappedSpec.pre enc Tryz.prog Tryz.f5 Rows.auditMappedRow.domain false w args∧laidMetH Tryz.prog Rows.auditMappedRow.laid w)∧sizedMet enc Tryz.prog Tryz.f5 (OpenSpec.ofChange Rows.auditMappedSpec) false w args)
  (Rows.auditMappedSpec.post enc Tryz.prog Tryz.f5 false true false false):=by
 refine returnsInHanded_of_change_and (C:=Tryz.checked) (X:=fun w _=>laidMetH Tryz.prog Rows.auditMappedRow.laid w) (fun _ _ _ hh h=>h.of_heap hh) xh started (by kernel_rfl) Tryz.func5
  (ChangeSpec.witness_shaped (enc:=enc) (C:=Tryz.checked) (os:=os) (X:=fun w _=>laidMetH Tryz.prog Rows.auditMappedRow.laid w) false (World.laidAll Tryz.prog os Rows.auditMappedRow.laid) #[.agg ⟨gj jr⟩,.int .u8 0,.int .u8 0] 12 (World.laidAll_os _ _ _)
   (World.shaped_of_ZipB (by kernel_rfl) (by kernel_rfl)) (by kernel_rfl) (by kernel_rfl) (by kernel_rfl)
   (by rw[MakeChecks.laidMetH_plain _ _ _ (by kernel_rfl)];exact laidMet_laidAll _ (by kernel_rfl) (by kernel_rfl))) ?_
 intro W base args ds gs before hval0 hW hc hz hL hq
 have hval : ∀ (j:Nat) t v,Tryz.f5.params[j]? = some t→args[j]? = some v→Value.okWide Tryz.prog W .any base t v:=hval0
 have hW':=hW
 obtain⟨p,q,hA0,hV,rfl,_,_⟩:=hW
 have hA:DataW.TrodAll enc Tryz.prog W 0 (fun _=>true) true Tryz.f5.params.toList args.toList ds p:=hA0
 rw[Tryz.params5] at hA hval
 rw[show Tryz.checked.prog=Tryz.prog from rfl,Tryz.params5] at hz
 obtain⟨v0,v1,v2,d0,d1,d2,p0,p1,p2,rfl,rfl,rfl,h0,h1,h2⟩:=trodAll_three hA
 obtain⟨s,rfl,hs⟩:=rn (hval 0 _ v0 rfl rfl) h0 hz (j:=0) rfl rfl
 obtain⟨a,rfl⟩:=tp (hval 1 _ v1 rfl rfl) h1
 obtain⟨b,rfl⟩:=tp (hval 2 _ v2 rfl rfl) h2
 have hf:=vV hL
 have spec:=so rM s hs.wide hs.data hs.fly a b
 refine((spec).run (agree ⟨hs.rows,hf⟩ fun w' hw=>⟨⟨Rows.agree hs.rows.1 hw,af.agree hs.rows.2 hw⟩,af.agree hf hw⟩)).mono fun e W'=>?_
 rintro⟨v,F,rfl,hkeep,rfl⟩
 exact⟨_,rfl,wB rfl rfl rfl rfl Tryz.underlying4 ra m9 vR (by rw[Tryz.params5];decide +kernel) hW' hkeep⟩
theorem jt:Rows.AuditMappedSaid:=
 OpenClaim.holds_of_wide 5 Tryz.f5 rfl rfl rfl rfl rfl rfl rfl ⟨rfl,rfl,rfl,rfl,rfl⟩ rfl rfl rfl rfl rfl (by kernel_rfl) Tryz.func5 i_
  (of_decide_eq_true (by kernel_rfl)) (by unfold Func.isWrapper;first | (rw[if_pos (by decide +kernel)];kernel_rfl) | (rw[if_neg (by decide +kernel)];exact⟨rfl,rfl⟩))
  (fun os started H enc _=>iI os started H enc)
theorem auditMapped_card_holds:Rows.AuditMappedCardSaid:=
 Claim7.holds_tied_plain_at .later [] [.data] true (true,"5056554e030bbb82d8e859271c405ab54893cedd27147be461b67b869532d5ae") false jt (fun _ h=>by cases h) (by kernel_rfl) (fun _ h=>by cases h) auditMapped_row_tie rfl ⟨rfl,rfl⟩ (by kernel_rfl) rfl
  (fun f fn hf hfn=>by
   obtain rfl:f=5:=Option.some.inj ((show Tryz.prog.funcNamed "ratoon/ratoonlaw57.AuditMapped" = some 5 by kernel_rfl).symm.trans hf) |>.symm
   obtain rfl:fn=Tryz.f5:=(Option.some.inj (Tryz.func5.symm.trans hfn)).symm
   exact⟨by kernel_rfl,fun j t ht=>by
    rw[Tryz.params5] at ht
    have hm:t∈[74,5,5]:=by simpa using Array.mem_of_getElem? ht
    have hall:([74,5,5].all fun u=>!Tryz.prog.wantsStandIn u)=true:=by kernel_rfl
    exact(show Tryz.prog.wantsStandIn t=false by simpa using List.all_eq_true.1 hall t hm)⟩)
  (by kernel_rfl)
end Go.Proofs.YtlnhdpjnlffaoaaGreatDoor
