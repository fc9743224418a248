/- Proved: the law SerialTick of the program holds for every input. No conditions. -/
import Derived.Test.YtcmgioaggmaclaaSerT
import Derived.Test.YtcmgioaggmaclaaSerU
namespace Go.Proofs.Ytcmgioaggmaclaa
open Go Go.Sx Go.ChangeShapes Go.WideShapes Go.ChangeAt Go.RowKit
set_option maxRecDepth 100000
set_option maxHeartbeats 2000000
set_option linter.unusedVariables false

theorem SH.By.agree {W w' : World} {k : SH} {s : S} (h : k.By s W) (hw : ∀ b, b < W.heap.size → w'.heap[b]? = W.heap[b]?) : k.By s w' :=
  ⟨Sx.By.agree h.inp hw, Sx.By.agree h.got hw, Sx.By.agree h.out hw, ⟨Sx.By.agree h.o.d hw, Sx.By.agree h.o.l hw⟩, ⟨Sx.By.agree h.i.d hw, Sx.By.agree h.i.l hw⟩⟩

theorem tick_lifted (os : Os) (started : os.Started) (H : Type) (enc : TypeId × Value → H) :
    ReturnsInHanded {} Try.checked os 3 .any (Rows.serialTickSpec.pre6 enc Try.prog Try.f3 Rows.serialTickRow.domain false) (Rows.serialTickSpec.post enc Try.prog Try.f3 false true false false) := by
  refine returnsInHanded_of_change (C := Try.checked) Tryown started (by kernel_rfl) Try.func3
    (ChangeSpec.witness6 (enc := enc) (C := Try.checked) false ⟨#[], #[.agg ⟨S.zero.rcells 0 0 SH.nil⟩, .slice none 0 0], []⟩ 8 (by kernel_rfl) (by kernel_rfl) (by kernel_rfl) (by kernel_rfl)) ?_
  intro W base args ds gs before hval0 hW hcnd _
  have hval : ∀ (j : Nat) t v, Try.f3.params[j]? = some t → args[j]? = some v → Value.okWide Try.prog W .any base t v := hval0
  have hW' := hW
  obtain ⟨p, q, hA0, hV, rfl, hfz, hnd⟩ := hW
  have hA : DataW.TrodAll enc Try.prog W 0 (fun _ => true) true Try.f3.params.toList args.toList ds p := hA0
  rw [Try.params3] at hA hval
  obtain ⟨v0, v1, d0, d1, p0, p1, rfl, rfl, rfl, h0, h1⟩ := trodAll_two hA
  obtain ⟨s, lo, li, k, rfl, hk, hb, _⟩ := open_state (hval 0 30 v0 rfl rfl) h0
  obtain ⟨m, l, rfl, hm, hl⟩ := open_bytes (hval 1 22 v1 rfl rfl) h1
  have spec := lawTick_spec s lo li k hk m l hm
  refine (spec.run (agree ⟨hb, hl⟩ fun w' hw => ⟨hb.agree hw, hl.agree hw⟩)).mono fun e W' => ?_
  rintro ⟨v, F, rfl, hkeep, rfl⟩
  exact ⟨_, rfl, post_law rfl rfl rfl rfl Try.underlying4 TrylaidOut TrymapsRowed Tryfull (by rw [Try.params3]; decide +kernel) hW' hkeep⟩

theorem tick_holds : Rows.SerialTickSaid :=
  OpenClaim.holds_of_wide 3 Try.f3 rfl rfl rfl rfl rfl rfl rfl ⟨rfl, rfl, rfl, rfl, rfl⟩ rfl rfl rfl rfl rfl (by kernel_rfl) Try.func3 (by kernel_rfl)
    (of_decide_eq_true (by kernel_rfl)) (by unfold Func.isWrapper; first | (rw [if_pos (by decide +kernel)]; kernel_rfl) | (rw [if_neg (by decide +kernel)]; exact ⟨rfl, rfl⟩))
    (fun os started H enc _ => tick_lifted os started H enc)

end Go.Proofs.Ytcmgioaggmaclaa
