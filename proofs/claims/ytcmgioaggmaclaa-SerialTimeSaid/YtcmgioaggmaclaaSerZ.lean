/- Proved: the law SerialTime of the program holds for every input. No conditions. -/
import Derived.Test.YtcmgioaggmaclaaSerY
import Derived.Test.YtcmgioaggmaclaaSerU
namespace Go.Proofs.Ytcmgioaggmaclaa
open Go Go.Sx Go.ChangeShapes Go.WideShapes Go.ChangeAt Go.RowKit
set_option maxRecDepth 100000
set_option maxHeartbeats 2000000
set_option linter.unusedVariables false

theorem time_lifted (os : Os) (started : os.Started) (H : Type) (enc : TypeId × Value → H) :
    ReturnsInHanded {} Try.checked os 6 .any (Rows.serialTimeSpec.pre6 enc Try.prog Try.f6 Rows.serialTimeRow.domain false) (Rows.serialTimeSpec.post enc Try.prog Try.f6 false true false false) := by
  refine returnsInHanded_of_change (C := Try.checked) Tryown started (by kernel_rfl) Try.func6
    (ChangeSpec.witness6 (enc := enc) (C := Try.checked) false ⟨#[], #[.slice none 0 0], []⟩ 8 (by kernel_rfl) (by kernel_rfl) (by kernel_rfl) (by kernel_rfl)) ?_
  intro W base args ds gs before hval0 hW hcnd _
  have hval : ∀ (j : Nat) t v, Try.f6.params[j]? = some t → args[j]? = some v → Value.okWide Try.prog W .any base t v := hval0
  have hW' := hW
  obtain ⟨p, q, hA0, hV, rfl, hfz, hnd⟩ := hW
  have hA : DataW.TrodAll enc Try.prog W 0 (fun _ => true) true Try.f6.params.toList args.toList ds p := hA0
  rw [Try.params6] at hA hval
  obtain ⟨v0, vs0, d0, ds0, p0, q0, hargs, rfl, rfl, h0, r0⟩ := trodAll_cons hA
  obtain ⟨rfl, rfl, rfl⟩ := trodAll_nil r0
  obtain rfl : args = #[v0] := by cases args; simp_all
  obtain ⟨m, l, rfl, hm, hl⟩ := open_bytes (hval 0 22 v0 rfl rfl) h0
  have spec := lawTime_spec m l hm
  refine (spec.run (agree hl fun w' hw => hl.agree hw)).mono fun e W' => ?_
  rintro ⟨v, F, rfl, hkeep, rfl⟩
  exact ⟨_, rfl, post_law rfl rfl rfl rfl Try.underlying4 TrylaidOut TrymapsRowed Tryfull (by rw [Try.params6]; decide +kernel) hW' hkeep⟩

theorem time_holds : Rows.SerialTimeSaid :=
  OpenClaim.holds_of_wide 6 Try.f6 rfl rfl rfl rfl rfl rfl rfl ⟨rfl, rfl, rfl, rfl, rfl⟩ rfl rfl rfl rfl rfl (by kernel_rfl) Try.func6 (by kernel_rfl)
    (of_decide_eq_true (by kernel_rfl)) (by unfold Func.isWrapper; first | (rw [if_pos (by decide +kernel)]; kernel_rfl) | (rw [if_neg (by decide +kernel)]; exact ⟨rfl, rfl⟩))
    (fun os started H enc _ => time_lifted os started H enc)

end Go.Proofs.Ytcmgioaggmaclaa
