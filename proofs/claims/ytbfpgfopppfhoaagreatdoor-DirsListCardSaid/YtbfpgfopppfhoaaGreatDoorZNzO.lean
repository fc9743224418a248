/- Proved: the law DirsList of the program holds for every input; the row's listed variables are tied to the program's text. No conditions. -/
import Derived.Test.YtbfpgfopppfhoaaGreatDoorQQ
import Derived.Test.YtbfpgfopppfhoaaGreatDoorTie
import Derived.Test.YtbfpgfopppfhoaaGreatDoorCards
import Derived.ProofKit
import Derived.OpenShut
import Derived.LaidMore
import Derived.Lay
import Derived.SevenTiedAt
import Derived.Stop.Joined
import Derived.ChangeMaps5
namespace Go.Proofs.YtbfpgfopppfhoaaGreatDoor
open Go Go.Sx Go.ChangeShapes Go.WideShapes Go.ChangeAt Go.RowKit
set_option maxRecDepth 100000
set_option maxHeartbeats 2000000
set_option linter.unusedVariables false

theorem Tryzown : ownKnob Tryz.prog.godebug = none := by kernel_rfl
theorem TryzlaidOut : laidOutB Tryz.prog = true := by kernel_rfl
theorem TryzmapsRowed : mapsRowed Tryz.prog = true := by kernel_rfl
theorem Tryzfull : ((List.range Tryz.prog.types.size).all fun t => match Tryz.prog.underlying t with | some (.slice e) => decide (0 < Tryz.prog.cellsOf e) | _ => true) = true := by kernel_rfl

theorem list_lifted (os : Os) (started : os.Started) (H : Type) (enc : TypeId × Value → H) :
    ReturnsInHanded {} Tryz.checked os 11 .any (fun w args => (Rows.dirsListSpec.pre enc Tryz.prog Tryz.f11 Rows.dirsListRow.domain false w args ∧ laidMetH Tryz.prog Rows.dirsListRow.laid w) ∧ sizedMet enc Tryz.prog Tryz.f11 (OpenSpec.ofChange Rows.dirsListSpec) false w args)
      (Rows.dirsListSpec.post enc Tryz.prog Tryz.f11 false true false false) := by
  refine returnsInHanded_of_change_and (C := Tryz.checked) (X := fun w _ => laidMetH Tryz.prog Rows.dirsListRow.laid w) (fun _ _ _ hh h => h.of_heap hh) Tryzown started (by kernel_rfl) Tryz.func11
    (ChangeSpec.witness_shaped (enc := enc) (C := Tryz.checked) (os := os) (X := fun w _ => laidMetH Tryz.prog Rows.dirsListRow.laid w) false (World.laidAll Tryz.prog os Rows.dirsListRow.laid) #[.slice none 0 0, .string ⟨#[]⟩] 8 (World.laidAll_os _ _ _)
      (World.shaped_of_ZipB (by kernel_rfl) (by kernel_rfl)) (by kernel_rfl) (by kernel_rfl) (by kernel_rfl)
      (by rw [MakeChecks.laidMetH_plain _ _ _ (by kernel_rfl)]; exact laidMet_laidAll _ (by kernel_rfl) (by kernel_rfl))) ?_
  intro W base args ds gs before hval0 hW hc hz hL hq
  have hval : ∀ (j : Nat) t v, Tryz.f11.params[j]? = some t → args[j]? = some v → Value.okWide Tryz.prog W .any base t v := hval0
  have hW' := hW
  obtain ⟨p, q, hA0, hV, rfl, _, _⟩ := hW
  have hA : DataW.TrodAll enc Tryz.prog W 0 (fun _ => true) true Tryz.f11.params.toList args.toList ds p := hA0
  rw [Tryz.params11] at hA hval
  rw [show Tryz.checked.prog = Tryz.prog from rfl, Tryz.params11] at hz
  obtain ⟨v0, v1, d0, d1, p0, p1, rfl, rfl, rfl, h0, h1⟩ := trodAll_two hA
  obtain ⟨k, l, rfl, hk, ho, hb, hd⟩ := open_ops (hval 0 29 v0 rfl rfl) h0
  obtain ⟨s, rfl, rfl, rfl, -⟩ := Go.ChangeMaps.open_string Tryz.underlying9 (hval 1 9 v1 rfl rfl) h1
  obtain ⟨⟨s⟩⟩ := s
  have spec := dirsList_spec l k hk (ops_size (vars := []) (gs := gs) hz (j := 0) rfl rfl hd) ho s
  refine ((spec).run (agree hb fun w' hw => hb.agree hw)).mono fun e W' => ?_
  rintro ⟨v, F, rfl, hkeep, rfl⟩
  exact ⟨_, rfl, post_law rfl rfl rfl rfl Tryz.underlying4 TryzlaidOut TryzmapsRowed Tryzfull (by rw [Tryz.params11]; decide +kernel) hW' hkeep⟩

theorem list_holds : Rows.DirsListSaid :=
  OpenClaim.holds_of_wide 11 Tryz.f11 rfl rfl rfl rfl rfl rfl rfl ⟨rfl, rfl, rfl, rfl, rfl⟩ rfl rfl rfl rfl rfl (by kernel_rfl) Tryz.func11 (by kernel_rfl)
    (of_decide_eq_true (by kernel_rfl)) (by unfold Func.isWrapper; first | (rw [if_pos (by decide +kernel)]; kernel_rfl) | (rw [if_neg (by decide +kernel)]; exact ⟨rfl, rfl⟩))
    (fun os started H enc _ => list_lifted os started H enc)

theorem list_card_holds : Rows.DirsListCardSaid :=
  Claim7.holds_tied_plain_at .later [] [.data, .pinned] true (true, "2973c71a2a670c4d69cecd78a251561222006d7a41dbb49bfd395a09465aeb9c") false list_holds (fun _ h => by cases h) (by kernel_rfl) (fun _ h => by cases h) dirsList_row_tie rfl ⟨rfl, rfl⟩ (by kernel_rfl) rfl
    (fun f fn hf hfn => by
      obtain rfl : f = 11 := Option.some.inj ((show Tryz.prog.funcNamed "ratoon/ratoonlaw38.DirsList" = some 11 by kernel_rfl).symm.trans hf) |>.symm
      obtain rfl : fn = Tryz.f11 := (Option.some.inj (Tryz.func11.symm.trans hfn)).symm
      exact ⟨by kernel_rfl, fun j t ht => by
        rw [Tryz.params11] at ht
        have hm : t ∈ [29, 9] := by simpa using Array.mem_of_getElem? ht
        have hall : ([29, 9].all fun u => !Tryz.prog.wantsStandIn u) = true := by kernel_rfl
        exact (show Tryz.prog.wantsStandIn t = false by simpa using List.all_eq_true.1 hall t hm)⟩)
    (by kernel_rfl)

end Go.Proofs.YtbfpgfopppfhoaaGreatDoor
