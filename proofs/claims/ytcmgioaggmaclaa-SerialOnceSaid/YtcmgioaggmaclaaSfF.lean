/- Proved: the law SerialOnce of the program holds for every input. No conditions. -/
import Derived.Test.YtcmgioaggmaclaaSfE
import Derived.Test.YtcmgioaggmaclaaSerU
namespace Go.Proofs.Ytcmgioaggmaclaa
open Go Go.Sx Go.ChangeShapes Go.WideShapes Go.ChangeAt Go.RowKit
set_option maxRecDepth 100000
set_option maxHeartbeats 2000000
set_option linter.unusedVariables false

theorem once_lifted (os : Os) (started : os.Started) (H : Type) (enc : TypeId × Value → H) :
    ReturnsInHanded {} Try.checked os 8 .any (Rows.serialOnceSpec.pre6 enc Try.prog Try.f8 Rows.serialOnceRow.domain false) (Rows.serialOnceSpec.post enc Try.prog Try.f8 false true false false) := by
  refine returnsInHanded_of_change (C := Try.checked) Tryown started (by kernel_rfl) Try.func8
    (ChangeSpec.witness6 (enc := enc) (C := Try.checked) false ⟨#[], #[.agg ⟨S.zero.rcells 0 0 SH.nil⟩, .agg ⟨Cmd.zero.cells Hd.nil⟩, .agg ⟨Cmd.zero.cells Hd.nil⟩], []⟩ 8 (by kernel_rfl) (by kernel_rfl) (by kernel_rfl) (by kernel_rfl)) ?_
  intro W base args ds gs before hval0 hW hcnd _
  have hval : ∀ (j : Nat) t v, Try.f8.params[j]? = some t → args[j]? = some v → Value.okWide Try.prog W .any base t v := hval0
  have hW' := hW
  obtain ⟨p, q, hA0, hV, rfl, hfz, hnd⟩ := hW
  have hA : DataW.TrodAll enc Try.prog W 0 (fun _ => true) true Try.f8.params.toList args.toList ds p := hA0
  rw [Try.params8] at hA hval
  obtain ⟨v0, v1, v2, d0, d1, d2, p0, p1, p2, rfl, rfl, rfl, h0, h1, h2⟩ := trodAll_three hA
  obtain ⟨s, lo, li, k, rfl, hk, hb, _⟩ := open_state (hval 0 30 v0 rfl rfl) h0
  obtain ⟨c, m, rfl, hm, hl, _⟩ := open_cmd (hval 1 24 v1 rfl rfl) h1
  obtain ⟨o, n, rfl, hn, ho, _⟩ := open_cmd (hval 2 24 v2 rfl rfl) h2
  have spec := lawOnce_spec s lo li k hk c m hm o n hn
  refine (spec.run (agree ⟨⟨hb, hl⟩, ho⟩ fun w' hw => ⟨⟨hb.agree hw, hl.agree hw⟩, ho.agree hw⟩)).mono fun e W' => ?_
  rintro ⟨v, F, rfl, hkeep, rfl⟩
  exact ⟨_, rfl, post_law rfl rfl rfl rfl Try.underlying4 TrylaidOut TrymapsRowed Tryfull (by rw [Try.params8]; decide +kernel) hW' hkeep⟩

theorem once_holds : Rows.SerialOnceSaid :=
  OpenClaim.holds_of_wide 8 Try.f8 rfl rfl rfl rfl rfl rfl rfl ⟨rfl, rfl, rfl, rfl, rfl⟩ rfl rfl rfl rfl rfl (by kernel_rfl) Try.func8 (by kernel_rfl)
    (of_decide_eq_true (by kernel_rfl)) (by unfold Func.isWrapper; first | (rw [if_pos (by decide +kernel)]; kernel_rfl) | (rw [if_neg (by decide +kernel)]; exact ⟨rfl, rfl⟩))
    (fun os started H enc _ => once_lifted os started H enc)

end Go.Proofs.Ytcmgioaggmaclaa
