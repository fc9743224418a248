/- Proved: the law KernelNil of the program holds for every input; the row's listed variables are tied to the program's text. No conditions. -/
import Derived.Test.YtajkcdplmkaipaaGreatDoorQQ
import Derived.Test.YtajkcdplmkaipaaGreatDoorZKmJ
import Derived.Test.YtajkcdplmkaipaaGreatDoorQS
import Derived.Test.YtajkcdplmkaipaaGreatDoorTie
import Derived.Test.YtajkcdplmkaipaaGreatDoorCards
import Derived.ProofKit
import Derived.OpenShut
import Derived.LaidMore
import Derived.Lay
import Derived.SevenTiedAt
import Derived.Stop.Joined
import Derived.ChangeMaps5
namespace Go.Proofs.YtajkcdplmkaipaaGreatDoor
open Go Go.Sx Go.ChangeShapes Go.WideShapes Go.ChangeAt Go.RowKit
set_option maxRecDepth 100000
set_option maxHeartbeats 2000000
set_option linter.unusedVariables false

theorem Tryzown : ownKnob Tryz.prog.godebug = none := by kernel_rfl
theorem TryzlaidOut : laidOutB Tryz.prog = true := by kernel_rfl
theorem TryzmapsRowed : mapsRowed Tryz.prog = true := by kernel_rfl
theorem Tryzfull : ((List.range Tryz.prog.types.size).all fun t => match Tryz.prog.underlying t with | some (.slice e) => decide (0 < Tryz.prog.cellsOf e) | _ => true) = true := by kernel_rfl

theorem kernelNil_lifted (os : Os) (started : os.Started) (H : Type) (enc : TypeId × Value → H) :
 ReturnsInHanded {} Tryz.checked os 3 .any (fun w args => (Rows.kernelNilSpec.pre enc Tryz.prog Tryz.f3 Rows.kernelNilRow.domain false w args ∧ laidMetH Tryz.prog Rows.kernelNilRow.laid w) ∧ sizedMet enc Tryz.prog Tryz.f3 (OpenSpec.ofChange Rows.kernelNilSpec) false w args)
  (Rows.kernelNilSpec.post enc Tryz.prog Tryz.f3 false true false false) := by
 refine returnsInHanded_of_change_and (C := Tryz.checked) (X := fun w _ => laidMetH Tryz.prog Rows.kernelNilRow.laid w) (fun _ _ _ hh h => h.of_heap hh) Tryzown started (by kernel_rfl) Tryz.func3
  (ChangeSpec.witness_shaped (enc := enc) (C := Tryz.checked) (os := os) (X := fun w _ => laidMetH Tryz.prog Rows.kernelNilRow.laid w) false (World.laidAll Tryz.prog os Rows.kernelNilRow.laid) #[.agg ⟨stC 0 0 0 0 0 0 default Hd.nil []⟩] 12 (World.laidAll_os _ _ _)
   (World.shaped_of_ZipB (by kernel_rfl) (by kernel_rfl)) (by kernel_rfl) (by kernel_rfl) (by kernel_rfl)
   (by rw [MakeChecks.laidMetH_plain _ _ _ (by kernel_rfl)]; exact laidMet_laidAll _ (by kernel_rfl) (by kernel_rfl))) ?_
 intro W base args ds gs before hval0 hW hc hz hL hq
 have hval : ∀ (j : Nat) t v, Tryz.f3.params[j]? = some t → args[j]? = some v → Value.okWide Tryz.prog W .any base t v := hval0
 have hW' := hW
 obtain ⟨p, q, hA0, hV, rfl, _, _⟩ := hW
 have hA : DataW.TrodAll enc Tryz.prog W 0 (fun _ => true) true Tryz.f3.params.toList args.toList ds p := hA0
 rw [Tryz.params3] at hA hval
 rw [show Tryz.checked.prog = Tryz.prog from rfl, Tryz.params3] at hz
 obtain ⟨v0, d0, rfl, rfl, h0⟩ := trodAll_one hA
 obtain ⟨x, rfl, hx⟩ := open_step (hval 0 _ v0 rfl rfl) h0 hz (j := 0) rfl rfl
 have hxo := hx.ok (by decide)
 have spec := kernelNil_spec x.k x.t x.a0 x.a1 x.a2 x.a3 x.d x.e.h x.e.l hxo.h hxo.le
 refine ((spec).run (agree hx.row fun w' hw => RowAt.agree hx.row hw)).mono fun e W' => ?_
 rintro ⟨v, F, rfl, hkeep, rfl⟩
 exact ⟨_, rfl, post_law rfl rfl rfl rfl Tryz.underlying4 TryzlaidOut TryzmapsRowed Tryzfull (by rw [Tryz.params3]; decide +kernel) hW' hkeep⟩

theorem kernelNil_holds : Rows.KernelNilSaid :=
 OpenClaim.holds_of_wide 3 Tryz.f3 rfl rfl rfl rfl rfl rfl rfl ⟨rfl, rfl, rfl, rfl, rfl⟩ rfl rfl rfl rfl rfl (by kernel_rfl) Tryz.func3 kernelNil_facts
  (of_decide_eq_true (by kernel_rfl)) (by unfold Func.isWrapper; first | (rw [if_pos (by decide +kernel)]; kernel_rfl) | (rw [if_neg (by decide +kernel)]; exact ⟨rfl, rfl⟩))
  (fun os started H enc _ => kernelNil_lifted os started H enc)

theorem kn_wf : Rows.kernelNilRow.wfByText (OpenSpec.ofChange Rows.kernelNilSpec) = true := by kernel_rfl
theorem kn_main : Tryz.pinned.checked.prog.mainIs = some (true, "af077e78bfaaaf166203ee8c09cb62972cc9e008eb85e2e9cc97089df3864406".toList) := by kernel_rfl
theorem kn_looks : false = Tryz.pinned.checked.prog.looks [] := by kernel_rfl
theorem kn_name : Tryz.prog.funcNamed "ratoon/ratoonlaw24.KernelNil" = some 3 := by kernel_rfl
theorem kn_stand : ([26].all fun u => !Tryz.prog.wantsStandIn u) = true := by kernel_rfl
theorem kn_goes : false = Rows.kernelNilRow.goesBy Tryz.pinned.checked.prog := by kernel_rfl

theorem kernelNil_card_holds : Rows.KernelNilCardSaid :=
 Claim7.holds_tied_plain_at .later [] [.data] true (true, "af077e78bfaaaf166203ee8c09cb62972cc9e008eb85e2e9cc97089df3864406") false kernelNil_holds (fun _ h => by cases h) kn_wf (fun _ h => by cases h) kernelNil_row_tie rfl ⟨rfl, rfl⟩ kn_main rfl
  (fun f fn hf hfn => by
   obtain rfl : f = 3 := Option.some.inj (kn_name.symm.trans hf) |>.symm
   obtain rfl : fn = Tryz.f3 := (Option.some.inj (Tryz.func3.symm.trans hfn)).symm
   exact ⟨kn_looks, fun j t ht => by
    rw [Tryz.params3] at ht
    have hm : t ∈ [26] := by simpa using Array.mem_of_getElem? ht
    exact (show Tryz.prog.wantsStandIn t = false by simpa using List.all_eq_true.1 kn_stand t hm)⟩)
  kn_goes

end Go.Proofs.YtajkcdplmkaipaaGreatDoor
