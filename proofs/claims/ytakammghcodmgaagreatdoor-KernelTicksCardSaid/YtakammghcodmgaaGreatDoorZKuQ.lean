/- Proved: the law KernelTicks of the program holds for every input; the row's listed variables are tied to the program's text. No conditions. -/
import Derived.Test.YtakammghcodmgaaGreatDoorQW
import Derived.Test.YtakammghcodmgaaGreatDoorZKuP
import Derived.Test.YtakammghcodmgaaGreatDoorTie
import Derived.Test.YtakammghcodmgaaGreatDoorCards
import Derived.ProofKit
import Derived.OpenShut
import Derived.LaidMore
import Derived.Lay
import Derived.SevenTiedAt
import Derived.Stop.Joined
import Derived.ChangeMaps5
namespace Go.Proofs.YtakammghcodmgaaGreatDoor
open Go Go.Sx Go.ChangeShapes Go.WideShapes Go.ChangeAt Go.RowKit
set_option maxRecDepth 100000
set_option maxHeartbeats 2000000
set_option linter.unusedVariables false

theorem Tryzown : ownKnob Tryz.prog.godebug = none := by kernel_rfl
theorem TryzlaidOut : laidOutB Tryz.prog = true := by kernel_rfl
theorem TryzmapsRowed : mapsRowed Tryz.prog = true := by kernel_rfl
theorem Tryzfull : ((List.range Tryz.prog.types.size).all fun t => match Tryz.prog.underlying t with | some (.slice e) => decide (0 < Tryz.prog.cellsOf e) | _ => true) = true := by kernel_rfl

theorem kernelTicks_lifted (os : Os) (started : os.Started) (H : Type) (enc : TypeId × Value → H) :
 ReturnsInHanded {} Tryz.checked os 3 .any (fun w args => (Rows.kernelTicksSpec.pre enc Tryz.prog Tryz.f3 Rows.kernelTicksRow.domain false w args ∧ laidMetH Tryz.prog Rows.kernelTicksRow.laid w) ∧ sizedMet enc Tryz.prog Tryz.f3 (OpenSpec.ofChange Rows.kernelTicksSpec) false w args)
  (Rows.kernelTicksSpec.post enc Tryz.prog Tryz.f3 false true false false) := by
 refine returnsInHanded_of_change_and (C := Tryz.checked) (X := fun w _ => laidMetH Tryz.prog Rows.kernelTicksRow.laid w) (fun _ _ _ hh h => h.of_heap hh) Tryzown started (by kernel_rfl) Tryz.func3
  (ChangeSpec.witness_shaped (enc := enc) (C := Tryz.checked) (os := os) (X := fun w _ => laidMetH Tryz.prog Rows.kernelTicksRow.laid w) false (World.laidAll Tryz.prog os Rows.kernelTicksRow.laid) #[.agg ⟨mchC ⟨default, default, default⟩⟩, .int .u8 0] 12 (World.laidAll_os _ _ _)
   (World.shaped_of_ZipB (by kernel_rfl) (by kernel_rfl)) (by kernel_rfl) (by kernel_rfl) (by kernel_rfl)
   (by rw [MakeChecks.laidMetH_plain _ _ _ (by kernel_rfl)]; exact laidMet_laidAll _ (by kernel_rfl) (by kernel_rfl))) ?_
 intro W base args ds gs before hval0 hW hc hz hL hq
 have hval : ∀ (j : Nat) t v, Tryz.f3.params[j]? = some t → args[j]? = some v → Value.okWide Tryz.prog W .any base t v := hval0
 have hW' := hW
 obtain ⟨p, q, hA0, hV, rfl, _, _⟩ := hW
 have hA : DataW.TrodAll enc Tryz.prog W 0 (fun _ => true) true Tryz.f3.params.toList args.toList ds p := hA0
 rw [Tryz.params3] at hA hval
 rw [show Tryz.checked.prog = Tryz.prog from rfl, Tryz.params3] at hz
 obtain ⟨v0, v1, d0, d1, p0, p1, rfl, rfl, rfl, h0, h1⟩ := trodAll_two hA
 obtain ⟨x, rfl, hx1, hx2, hx3⟩ := open_mach (hval 0 _ v0 rfl rfl) h0 hz (j := 0) rfl rfl
 obtain ⟨a, rfl, ha⟩ := open_small (hval 1 _ v1 rfl rfl) h1
 have b1 : By W x.c.h x.c.l := by have h := hx1.row; rw [byC_map] at h; exact h
 have b2 : By W x.i.h x.i.l := by have h := hx2.row; rw [byC_map] at h; exact h
 have b3 : By W x.p.h x.p.l := by have h := hx3.row; rw [byC_map] at h; exact h
 have spec := ticks_spec x.c.h x.i.h x.p.h x.c.l x.i.l x.p.l hx1.h hx2.h hx3.h a ha
 refine ((spec).run (agree ⟨b1, b2, b3⟩ fun w' hw => ⟨By.agree b1 hw, By.agree b2 hw, By.agree b3 hw⟩)).mono fun e W' => ?_
 rintro ⟨v, F, rfl, hkeep, rfl⟩
 exact ⟨_, rfl, post_law rfl rfl rfl rfl Tryz.underlying4 TryzlaidOut TryzmapsRowed Tryzfull (by rw [Tryz.params3]; decide +kernel) hW' hkeep⟩

theorem kernelTicks_holds : Rows.KernelTicksSaid :=
 OpenClaim.holds_of_wide 3 Tryz.f3 rfl rfl rfl rfl rfl rfl rfl ⟨rfl, rfl, rfl, rfl, rfl⟩ rfl rfl rfl rfl rfl (by kernel_rfl) Tryz.func3 kernelTicks_facts
  (of_decide_eq_true (by kernel_rfl)) (by unfold Func.isWrapper; first | (rw [if_pos (by decide +kernel)]; kernel_rfl) | (rw [if_neg (by decide +kernel)]; exact ⟨rfl, rfl⟩))
  (fun os started H enc _ => kernelTicks_lifted os started H enc)

theorem kt_wf : Rows.kernelTicksRow.wfByText (OpenSpec.ofChange Rows.kernelTicksSpec) = true := by kernel_rfl
theorem kt_main : Tryz.pinned.checked.prog.mainIs = some (true, "85d81f4b610c6c2fbdcb9b23c5dedff52cea418f6124780ecd902d27115b8803".toList) := by kernel_rfl
theorem kt_looks : false = Tryz.pinned.checked.prog.looks [] := by kernel_rfl
theorem kt_name : Tryz.prog.funcNamed "ratoon/ratoonlaw24.KernelTicks" = some 3 := by kernel_rfl
theorem kt_stand : ([24, 5].all fun u => !Tryz.prog.wantsStandIn u) = true := by kernel_rfl
theorem kt_goes : false = Rows.kernelTicksRow.goesBy Tryz.pinned.checked.prog := by kernel_rfl

theorem kernelTicks_card_holds : Rows.KernelTicksCardSaid :=
 Claim7.holds_tied_plain_at .later [] [.data] true (true, "85d81f4b610c6c2fbdcb9b23c5dedff52cea418f6124780ecd902d27115b8803") false kernelTicks_holds (fun _ h => by cases h) kt_wf (fun _ h => by cases h) kernelTicks_row_tie rfl ⟨rfl, rfl⟩ kt_main rfl
  (fun f fn hf hfn => by
   obtain rfl : f = 3 := Option.some.inj (kt_name.symm.trans hf) |>.symm
   obtain rfl : fn = Tryz.f3 := (Option.some.inj (Tryz.func3.symm.trans hfn)).symm
   exact ⟨kt_looks, fun j t ht => by
    rw [Tryz.params3] at ht
    have hm : t ∈ [24, 5] := by simpa using Array.mem_of_getElem? ht
    exact (show Tryz.prog.wantsStandIn t = false by simpa using List.all_eq_true.1 kt_stand t hm)⟩)
  kt_goes

end Go.Proofs.YtakammghcodmgaaGreatDoor
