/- Proved: the law PipesOrder of the program holds for every input. No conditions. -/
import Derived.Test.YtpnnadojhacjiaaPjD
import Derived.Test.YtpnnadojhacjiaaPiP
namespace Go.Proofs.Ytpnnadojhacjiaa
open Go Go.Sx Go.ChangeShapes Go.WideShapes Go.ChangeAt Go.RowKit
set_option maxRecDepth 100000
set_option maxHeartbeats 2000000
set_option linter.unusedVariables false

theorem order_lifted (os : Os) (started : os.Started) (H : Type) (enc : TypeId × Value → H) :
    ReturnsInHanded {} Try.checked os 4 .any (Rows.pipesOrderSpec.pre6 enc Try.prog Try.f4 Rows.pipesOrderRow.domain false) (Rows.pipesOrderSpec.post enc Try.prog Try.f4 false true false false) := by
  refine returnsInHanded_of_change_sized (C := Try.checked) Tryown started (by kernel_rfl) Try.func4
    (ChangeSpec.witness6 (enc := enc) (C := Try.checked) false ⟨#[], #[.slice none 0 0, .int .u8 0], []⟩ 8 (by kernel_rfl) (by kernel_rfl) (by kernel_rfl) (by kernel_rfl)) ?_
  intro W base args ds gs before hval0 hW hcnd hz _
  have hval : ∀ (j : Nat) t v, Try.f4.params[j]? = some t → args[j]? = some v → Value.okWide Try.prog W .any base t v := hval0
  have hW' := hW
  obtain ⟨p, q, hA0, hV, rfl, hfz, hnd⟩ := hW
  have hA : DataW.TrodAll enc Try.prog W 0 (fun _ => true) true Try.f4.params.toList args.toList ds p := hA0
  rw [show Try.checked.prog = Try.prog from rfl, Try.params4] at hz
  rw [Try.params4] at hA hval
  obtain ⟨v0, v1, d0, d1, p0, p1, rfl, rfl, rfl, h0, h1⟩ := trodAll_two hA
  obtain ⟨k, l, rfl, hk, ho, hb, hd⟩ := open_steps (hval 0 22 v0 rfl rfl) h0
  obtain ⟨n, rfl, hn⟩ : ∃ n : Int, v1 = .int .u8 n ∧ 0 ≤ n ∧ n ≤ 255 := by
    have hv := hval 1 5 v1 rfl rfl
    have hc : Cell.okWide Try.prog W .any base 5 v1 := by simpa only [Value.okWide, Try.underlying5] using hv
    cases v1 <;> simp [Cell.okWide, Cell.ok, Try.underlying5] at hc
    obtain ⟨rfl, h2⟩ := hc
    exact ⟨_, rfl, h2⟩
  have spec := order_walk k l hk ho (by have := steps_size (vars := []) (gs := gs) hz (j := 0) rfl rfl hd; omega) n hn
  refine (spec.run (agree hb fun w' hw => hb.agree hw)).mono fun e W' => ?_
  rintro ⟨v, F, rfl, hkeep, rfl⟩
  exact ⟨_, rfl, post_law rfl rfl rfl rfl Try.underlying4 TrylaidOut TrymapsRowed Tryfull (by rw [Try.params4]; decide +kernel) hW' hkeep⟩

theorem order_holds : Rows.PipesOrderSaid :=
  OpenClaim.holds_of_wide 4 Try.f4 rfl rfl rfl rfl rfl rfl rfl ⟨rfl, rfl, rfl, rfl, rfl⟩ rfl rfl rfl rfl rfl (by kernel_rfl) Try.func4 (by kernel_rfl)
    (of_decide_eq_true (by kernel_rfl)) (by unfold Func.isWrapper; first | (rw [if_pos (by decide +kernel)]; kernel_rfl) | (rw [if_neg (by decide +kernel)]; exact ⟨rfl, rfl⟩))
    (fun os started H enc _ => order_lifted os started H enc)

end Go.Proofs.Ytpnnadojhacjiaa
