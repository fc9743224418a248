/- Proved: the law FilesMake of the program holds for every input; the row's listed variables are tied to the program's text. No conditions. -/
import Derived.Test.YtfeoedkmndkbjaaGreatDoorQP
import Derived.Test.YtfeoedkmndkbjaaGreatDoorQR
import Derived.Test.YtfeoedkmndkbjaaGreatDoorTie
import Derived.Test.YtfeoedkmndkbjaaGreatDoorCards
import Derived.ProofKit
import Derived.OpenShut
import Derived.LaidMore
import Derived.Lay
import Derived.SevenTiedAt
import Derived.Stop.Joined
import Derived.ChangeMaps5
namespace Go.Proofs.YtfeoedkmndkbjaaGreatDoor
open Go Go.Sx Go.ChangeShapes Go.WideShapes Go.ChangeAt Go.RowKit
set_option maxRecDepth 100000
set_option maxHeartbeats 2000000
set_option linter.unusedVariables false

theorem Tryzown : ownKnob Tryz.prog.godebug = none := by kernel_rfl
theorem TryzlaidOut : laidOutB Tryz.prog = true := by kernel_rfl
theorem TryzmapsRowed : mapsRowed Tryz.prog = true := by kernel_rfl
theorem Tryzfull : ((List.range Tryz.prog.types.size).all fun t => match Tryz.prog.underlying t with | some (.slice e) => decide (0 < Tryz.prog.cellsOf e) | _ => true) = true := by kernel_rfl

theorem filesMake_lifted (os : Os) (started : os.Started) (H : Type) (enc : TypeId × Value → H) :
    ReturnsInHanded {} Tryz.checked os 4 .any (fun w args => (Rows.filesMakeSpec.pre enc Tryz.prog Tryz.f4 Rows.filesMakeRow.domain false w args ∧ laidMetH Tryz.prog Rows.filesMakeRow.laid w) ∧ sizedMet enc Tryz.prog Tryz.f4 (OpenSpec.ofChange Rows.filesMakeSpec) false w args)
      (Rows.filesMakeSpec.post enc Tryz.prog Tryz.f4 false true false false) := by
  refine returnsInHanded_of_change_and (C := Tryz.checked) (X := fun w _ => laidMetH Tryz.prog Rows.filesMakeRow.laid w) (fun _ _ _ hh h => h.of_heap hh) Tryzown started (by kernel_rfl) Tryz.func4
    (ChangeSpec.witness_shaped (enc := enc) (C := Tryz.checked) (os := os) (X := fun w _ => laidMetH Tryz.prog Rows.filesMakeRow.laid w) false (World.laidAll Tryz.prog os Rows.filesMakeRow.laid) #[.slice none 0 0] 8 (World.laidAll_os _ _ _)
      (World.shaped_of_ZipB (by kernel_rfl) (by kernel_rfl)) (by kernel_rfl) (by kernel_rfl) (by kernel_rfl)
      (by rw [MakeChecks.laidMetH_plain _ _ _ (by kernel_rfl)]; exact laidMet_laidAll _ (by kernel_rfl) (by kernel_rfl))) ?_
  intro W base args ds gs before hval0 hW hc hz hL hq
  have hval : ∀ (j : Nat) t v, Tryz.f4.params[j]? = some t → args[j]? = some v → Value.okWide Tryz.prog W .any base t v := hval0
  have hW' := hW
  obtain ⟨p, q, hA0, hV, rfl, _, _⟩ := hW
  have hA : DataW.TrodAll enc Tryz.prog W 0 (fun _ => true) true Tryz.f4.params.toList args.toList ds p := hA0
  rw [Tryz.params4] at hA hval
  rw [show Tryz.checked.prog = Tryz.prog from rfl, Tryz.params4] at hz
  obtain ⟨v0, d0, rfl, rfl, h0⟩ := trodAll_one hA
  obtain ⟨k, l, rfl, hk, ho, hb, hd⟩ := open_files (hval 0 22 v0 rfl rfl) h0
  have spec := filesMake_law l k hk (files_size hz (j := 0) rfl rfl hd) ho
  refine ((spec).run (agree hb fun w' hw => hb.agree hw)).mono fun e W' => ?_
  rintro ⟨v, F, rfl, hkeep, rfl⟩
  exact ⟨_, rfl, post_law rfl rfl rfl rfl Tryz.underlying4 TryzlaidOut TryzmapsRowed Tryzfull (by rw [Tryz.params4]; decide +kernel) hW' hkeep⟩

theorem filesMake_holds : Rows.FilesMakeSaid :=
  OpenClaim.holds_of_wide 4 Tryz.f4 rfl rfl rfl rfl rfl rfl rfl ⟨rfl, rfl, rfl, rfl, rfl⟩ rfl rfl rfl rfl rfl (by kernel_rfl) Tryz.func4 (by kernel_rfl)
    (of_decide_eq_true (by kernel_rfl)) (by unfold Func.isWrapper; first | (rw [if_pos (by decide +kernel)]; kernel_rfl) | (rw [if_neg (by decide +kernel)]; exact ⟨rfl, rfl⟩))
    (fun os started H enc _ => filesMake_lifted os started H enc)

theorem filesMake_card_holds : Rows.FilesMakeCardSaid :=
  Claim7.holds_tied_plain_at .later [] [.data, .pinned] true (true, "23db5021047b85fc66c6139d095f3d070c0d2af1c8286730d795e50b89704ffb") false filesMake_holds (fun _ h => by cases h) (by kernel_rfl) (fun _ h => by cases h) filesMake_row_tie rfl ⟨rfl, rfl⟩ (by kernel_rfl) rfl
    (fun f fn hf hfn => by
      obtain rfl : f = 4 := Option.some.inj ((show Tryz.prog.funcNamed "ratoon/ratoonlaw39.FilesMake" = some 4 by kernel_rfl).symm.trans hf) |>.symm
      obtain rfl : fn = Tryz.f4 := (Option.some.inj (Tryz.func4.symm.trans hfn)).symm
      exact ⟨by kernel_rfl, fun j t ht => by
        rw [Tryz.params4] at ht
        have hm : t ∈ [22] := by simpa using Array.mem_of_getElem? ht
        have hall : ([22].all fun u => !Tryz.prog.wantsStandIn u) = true := by kernel_rfl
        exact (show Tryz.prog.wantsStandIn t = false by simpa using List.all_eq_true.1 hall t hm)⟩)
    (by kernel_rfl)

end Go.Proofs.YtfeoedkmndkbjaaGreatDoor
