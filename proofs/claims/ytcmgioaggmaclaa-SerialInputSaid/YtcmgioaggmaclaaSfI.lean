/- Proved: the law SerialInput of the program holds for every input. No conditions. -/
import Derived.Test.YtcmgioaggmaclaaSfH
import Derived.Test.YtcmgioaggmaclaaSerU
namespace Go.Proofs.Ytcmgioaggmaclaa
open Go Go.Sx Go.ChangeShapes Go.WideShapes Go.ChangeAt Go.RowKit
set_option maxRecDepth 100000
set_option maxHeartbeats 2000000
set_option linter.unusedVariables false

theorem input_lifted (os : Os) (started : os.Started) (H : Type) (enc : TypeId × Value → H) :
    ReturnsInHanded {} Try.checked os 5 .any (Rows.serialInputSpec.pre6 enc Try.prog Try.f5 Rows.serialInputRow.domain false) (Rows.serialInputSpec.post enc Try.prog Try.f5 false true false false) := by
  refine returnsInHanded_of_change (C := Try.checked) Tryown started (by kernel_rfl) Try.func5
    (ChangeSpec.witness6 (enc := enc) (C := Try.checked) false ⟨#[], #[.slice none 0 0, .int .u16 0, .slice none 0 0], []⟩ 8 (by kernel_rfl) (by kernel_rfl) (by kernel_rfl) (by kernel_rfl)) ?_
  intro W base args ds gs before hval0 hW hcnd _
  have hval : ∀ (j : Nat) t v, Try.f5.params[j]? = some t → args[j]? = some v → Value.okWide Try.prog W .any base t v := hval0
  have hW' := hW
  obtain ⟨p, q, hA0, hV, rfl, hfz, hnd⟩ := hW
  have hA : DataW.TrodAll enc Try.prog W 0 (fun _ => true) true Try.f5.params.toList args.toList ds p := hA0
  rw [Try.params5] at hA hval
  obtain ⟨v0, v1, v2, d0, d1, d2, p0, p1, p2, rfl, rfl, rfl, h0, h1, h2⟩ := trodAll_three hA
  obtain ⟨k, l, rfl, hk, hb⟩ := open_bytes (hval 0 22 v0 rfl rfl) h0
  obtain ⟨z, rfl, _, _, hz⟩ := open_int Try.underlying63 (hval 1 63 v1 rfl rfl) h1
  obtain ⟨m, g, rfl, hm, hl⟩ := open_bytes (hval 2 22 v2 rfl rfl) h2
  have spec := lawInput_spec k l hk z (bounds_u16 hz) m g hm
  refine (spec.run (agree ⟨hb, hl⟩ fun w' hw => ⟨hb.agree hw, hl.agree hw⟩)).mono fun e W' => ?_
  rintro ⟨v, F, rfl, hkeep, rfl⟩
  exact ⟨_, rfl, post_law rfl rfl rfl rfl Try.underlying4 TrylaidOut TrymapsRowed Tryfull (by rw [Try.params5]; decide +kernel) hW' hkeep⟩

theorem input_holds : Rows.SerialInputSaid :=
  OpenClaim.holds_of_wide 5 Try.f5 rfl rfl rfl rfl rfl rfl rfl ⟨rfl, rfl, rfl, rfl, rfl⟩ rfl rfl rfl rfl rfl (by kernel_rfl) Try.func5 (by kernel_rfl)
    (of_decide_eq_true (by kernel_rfl)) (by unfold Func.isWrapper; first | (rw [if_pos (by decide +kernel)]; kernel_rfl) | (rw [if_neg (by decide +kernel)]; exact ⟨rfl, rfl⟩))
    (fun os started H enc _ => input_lifted os started H enc)

end Go.Proofs.Ytcmgioaggmaclaa
