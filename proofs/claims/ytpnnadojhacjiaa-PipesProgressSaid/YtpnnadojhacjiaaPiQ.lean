/- Proved: the law PipesProgress of the program holds for every input. No conditions. -/
import Derived.Test.YtpnnadojhacjiaaPiO
import Derived.Test.YtpnnadojhacjiaaPiP
namespace Go.Proofs.Ytpnnadojhacjiaa
open Go Go.Sx Go.ChangeShapes Go.WideShapes Go.ChangeAt Go.RowKit
set_option maxRecDepth 100000
set_option maxHeartbeats 2000000
set_option linter.unusedVariables false

theorem progress_lifted (os : Os) (started : os.Started) (H : Type) (enc : TypeId × Value → H) :
    ReturnsInHanded {} Try.checked os 6 .any (Rows.pipesProgressSpec.pre6 enc Try.prog Try.f6 Rows.pipesProgressRow.domain false) (Rows.pipesProgressSpec.post enc Try.prog Try.f6 false true false false) := by
  refine returnsInHanded_of_change_sized (C := Try.checked) Tryown started (by kernel_rfl) Try.func6
    (ChangeSpec.witness6 (enc := enc) (C := Try.checked) false ⟨#[], #[.slice none 0 0, .agg ⟨Req.cells ⟨0, false, 0, []⟩ Hd.nil⟩], []⟩ 8 (by kernel_rfl) (by kernel_rfl) (by kernel_rfl) (by kernel_rfl)) ?_
  intro W base args ds gs before hval0 hW hcnd hz _
  have hval : ∀ (j : Nat) t v, Try.f6.params[j]? = some t → args[j]? = some v → Value.okWide Try.prog W .any base t v := hval0
  have hW' := hW
  obtain ⟨p, q, hA0, hV, rfl, hfz, hnd⟩ := hW
  have hA : DataW.TrodAll enc Try.prog W 0 (fun _ => true) true Try.f6.params.toList args.toList ds p := hA0
  rw [show Try.checked.prog = Try.prog from rfl, Try.params6] at hz
  rw [Try.params6] at hA hval
  obtain ⟨v0, v1, d0, d1, p0, p1, rfl, rfl, rfl, h0, h1⟩ := trodAll_two hA
  obtain ⟨k, l, rfl, hk, ho, hb, hd⟩ := open_steps (hval 0 22 v0 rfl rfl) h0
  obtain ⟨c, m, rfl, hm, hc⟩ := open_req (hval 1 37 v1 rfl rfl) h1
  have spec := progress_spec k l hk ho (steps_size (vars := []) (gs := gs) hz (j := 0) rfl rfl hd) c m hm
  refine (spec.run (agree ⟨hb, hc⟩ fun w' hw => ⟨hb.agree hw, hc.agree hw⟩)).mono fun e W' => ?_
  rintro ⟨v, F, rfl, hkeep, rfl⟩
  exact ⟨_, rfl, post_law rfl rfl rfl rfl Try.underlying4 TrylaidOut TrymapsRowed Tryfull (by rw [Try.params6]; decide +kernel) hW' hkeep⟩

theorem progress_holds : Rows.PipesProgressSaid :=
  OpenClaim.holds_of_wide 6 Try.f6 rfl rfl rfl rfl rfl rfl rfl ⟨rfl, rfl, rfl, rfl, rfl⟩ rfl rfl rfl rfl rfl (by kernel_rfl) Try.func6 (by kernel_rfl)
    (of_decide_eq_true (by kernel_rfl)) (by unfold Func.isWrapper; first | (rw [if_pos (by decide +kernel)]; kernel_rfl) | (rw [if_neg (by decide +kernel)]; exact ⟨rfl, rfl⟩))
    (fun os started H enc _ => progress_lifted os started H enc)

end Go.Proofs.Ytpnnadojhacjiaa
