/- Proved: the law SerialOutput of the program holds for every input. No conditions. -/
import Derived.Test.YtcmgioaggmaclaaSfB
import Derived.Test.YtcmgioaggmaclaaSerU
namespace Go.Proofs.Ytcmgioaggmaclaa
open Go Go.Sx Go.ChangeShapes Go.WideShapes Go.ChangeAt Go.RowKit
set_option maxRecDepth 100000
set_option maxHeartbeats 2000000
set_option linter.unusedVariables false

theorem output_lifted (os : Os) (started : os.Started) (H : Type) (enc : TypeId × Value → H) :
    ReturnsInHanded {} Try.checked os 4 .any (Rows.serialOutputSpec.pre6 enc Try.prog Try.f4 Rows.serialOutputRow.domain false) (Rows.serialOutputSpec.post enc Try.prog Try.f4 false true false false) := by
  refine returnsInHanded_of_change (C := Try.checked) Tryown started (by kernel_rfl) Try.func4
    (ChangeSpec.witness6 (enc := enc) (C := Try.checked) false ⟨#[], #[.agg ⟨S.zero.rcells 0 0 SH.nil⟩, .slice none 0 0, .int .i64 0], []⟩ 8 (by kernel_rfl) (by kernel_rfl) (by kernel_rfl) (by kernel_rfl)) ?_
  intro W base args ds gs before hval0 hW hcnd _
  have hval : ∀ (j : Nat) t v, Try.f4.params[j]? = some t → args[j]? = some v → Value.okWide Try.prog W .any base t v := hval0
  have hW' := hW
  obtain ⟨p, q, hA0, hV, rfl, hfz, hnd⟩ := hW
  have hA : DataW.TrodAll enc Try.prog W 0 (fun _ => true) true Try.f4.params.toList args.toList ds p := hA0
  rw [Try.params4] at hA hval
  obtain ⟨v0, v1, v2, d0, d1, d2, p0, p1, p2, rfl, rfl, rfl, h0, h1, h2⟩ := trodAll_three hA
  obtain ⟨s, lo, li, k, rfl, hk, hb, hft, _⟩ := open_state (hval 0 30 v0 rfl rfl) h0
  obtain ⟨m, l, rfl, hm, hl⟩ := open_bytes (hval 1 22 v1 rfl rfl) h1
  obtain ⟨z, rfl, _, _, _⟩ := open_int Try.underlying3 (hval 2 3 v2 rfl rfl) h2
  have spec := lawOutput_spec s lo li k hk hft.1.1 m l hm z
  refine (spec.run (agree ⟨hb, hl⟩ fun w' hw => ⟨hb.agree hw, hl.agree hw⟩)).mono fun e W' => ?_
  rintro ⟨v, F, rfl, hkeep, rfl⟩
  exact ⟨_, rfl, post_law rfl rfl rfl rfl Try.underlying4 TrylaidOut TrymapsRowed Tryfull (by rw [Try.params4]; decide +kernel) hW' hkeep⟩

theorem output_holds : Rows.SerialOutputSaid :=
  OpenClaim.holds_of_wide 4 Try.f4 rfl rfl rfl rfl rfl rfl rfl ⟨rfl, rfl, rfl, rfl, rfl⟩ rfl rfl rfl rfl rfl (by kernel_rfl) Try.func4 (by kernel_rfl)
    (of_decide_eq_true (by kernel_rfl)) (by unfold Func.isWrapper; first | (rw [if_pos (by decide +kernel)]; kernel_rfl) | (rw [if_neg (by decide +kernel)]; exact ⟨rfl, rfl⟩))
    (fun os started H enc _ => output_lifted os started H enc)

end Go.Proofs.Ytcmgioaggmaclaa
