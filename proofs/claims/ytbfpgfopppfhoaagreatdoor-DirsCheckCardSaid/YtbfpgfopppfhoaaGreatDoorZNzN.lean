/- Proved: the law DirsCheck of the program holds for every input; the row's listed variables are tied to the program's text. No conditions. -/
import Derived.Test.YtbfpgfopppfhoaaGreatDoorQQ
import Derived.Test.YtbfpgfopppfhoaaGreatDoorTie
import Derived.Test.YtbfpgfopppfhoaaGreatDoorCards
import Derived.ProofKit
import Derived.OpenShut
import Derived.LaidMore
import Derived.Lay
import Derived.SevenTiedAt
import Derived.Stop.Joined
import Derived.ChangeMaps5
namespace Go.Proofs.YtbfpgfopppfhoaaGreatDoor
open Go Go.Sx Go.ChangeShapes Go.WideShapes Go.ChangeAt Go.RowKit
set_option maxRecDepth 100000
set_option maxHeartbeats 2000000
set_option linter.unusedVariables false

section
variable {H : Type} {enc : TypeId × Value → H} {w : World} {base : Nat} {spare : Nat → Bool} {held : Bool} {r : Reach} {b0 : Nat}
theorem open_change {v : Value} {d : DataW H} {p : List MemPlace} (hv : Value.okWide Tryz.prog w r b0 41 v) (h : DataW.Trod enc Tryz.prog w base spare held 41 v d p) :
    ∃ (n m : Nat), n < 65536 ∧ m < 256 ∧ v = .agg ⟨[.int .u16 (n : Int), .int .u8 (m : Int)]⟩ := by
  obtain ⟨q, hq⟩ := h
  simp only [Value.okWide, Tryz.underlying41] at hv
  obtain ⟨⟨cs⟩, rfl, hsz, hr⟩ := hv
  rw [show Tryz.prog.cellsOf 41 = 2 from cellsOf_tab tabOk (t := 41) rfl] at hsz
  obtain ⟨a, b, rfl⟩ : ∃ a b, cs = [a, b] := by
    rcases cs with _ | ⟨a, _ | ⟨b, _ | ⟨c, l⟩⟩⟩ <;> simp at hsz
    exact ⟨a, b, rfl⟩
  obtain ⟨_, _, h0⟩ := trod_at Tryz.underlying41 hq 0 (u := 39) (o := 0) rfl (cellsOf_tab tabOk (t := 39) rfl)
  obtain ⟨_, _, h1⟩ := trod_at Tryz.underlying41 hq 1 (u := 5) (o := 1) rfl c5
  obtain ⟨z, e0, _, w0⟩ := DataW.trod_int Tryz.underlying39 h0
  obtain ⟨y, e1, _, w1⟩ := DataW.trod_int Tryz.underlying5 h1
  cases e0
  cases e1
  have g1 := bounds_u8 w1
  have g0 : 0 ≤ z ∧ z ≤ 65535 := by
    simp [Lit.wf, IntKind.min, IntKind.max, IntKind.signed, IntKind.bits] at w0
    omega
  refine ⟨z.toNat, y.toNat, by omega, by omega, ?_⟩
  rw [Int.toNat_of_nonneg (by omega), Int.toNat_of_nonneg (by omega)]
end

theorem Tryzown : ownKnob Tryz.prog.godebug = none := by kernel_rfl
theorem TryzlaidOut : laidOutB Tryz.prog = true := by kernel_rfl
theorem TryzmapsRowed : mapsRowed Tryz.prog = true := by kernel_rfl
theorem Tryzfull : ((List.range Tryz.prog.types.size).all fun t => match Tryz.prog.underlying t with | some (.slice e) => decide (0 < Tryz.prog.cellsOf e) | _ => true) = true := by kernel_rfl

theorem check_lifted (os : Os) (started : os.Started) (H : Type) (enc : TypeId × Value → H) :
    ReturnsInHanded {} Tryz.checked os 6 .any (fun w args => (Rows.dirsCheckSpec.pre enc Tryz.prog Tryz.f6 Rows.dirsCheckRow.domain false w args ∧ laidMetH Tryz.prog Rows.dirsCheckRow.laid w) ∧ sizedMet enc Tryz.prog Tryz.f6 (OpenSpec.ofChange Rows.dirsCheckSpec) false w args)
      (Rows.dirsCheckSpec.post enc Tryz.prog Tryz.f6 false true false false) := by
  refine returnsInHanded_of_change_and (C := Tryz.checked) (X := fun w _ => laidMetH Tryz.prog Rows.dirsCheckRow.laid w) (fun _ _ _ hh h => h.of_heap hh) Tryzown started (by kernel_rfl) Tryz.func6
    (ChangeSpec.witness_shaped (enc := enc) (C := Tryz.checked) (os := os) (X := fun w _ => laidMetH Tryz.prog Rows.dirsCheckRow.laid w) false (World.laidAll Tryz.prog os Rows.dirsCheckRow.laid) #[.slice none 0 0, .agg ⟨[.int .u16 0, .int .u8 0]⟩] 8 (World.laidAll_os _ _ _)
      (World.shaped_of_ZipB (by kernel_rfl) (by kernel_rfl)) (by kernel_rfl) (by kernel_rfl) (by kernel_rfl)
      (by rw [MakeChecks.laidMetH_plain _ _ _ (by kernel_rfl)]; exact laidMet_laidAll _ (by kernel_rfl) (by kernel_rfl))) ?_
  intro W base args ds gs before hval0 hW hc hz hL hq
  have hval : ∀ (j : Nat) t v, Tryz.f6.params[j]? = some t → args[j]? = some v → Value.okWide Tryz.prog W .any base t v := hval0
  have hW' := hW
  obtain ⟨p, q, hA0, hV, rfl, _, _⟩ := hW
  have hA : DataW.TrodAll enc Tryz.prog W 0 (fun _ => true) true Tryz.f6.params.toList args.toList ds p := hA0
  rw [Tryz.params6] at hA hval
  rw [show Tryz.checked.prog = Tryz.prog from rfl, Tryz.params6] at hz
  obtain ⟨v0, v1, d0, d1, p0, p1, rfl, rfl, rfl, h0, h1⟩ := trodAll_two hA
  obtain ⟨k, l, rfl, hk, ho, hb, hd⟩ := open_ops (hval 0 29 v0 rfl rfl) h0
  obtain ⟨n1, m1, hn1, hm1, rfl⟩ := open_change (hval 1 41 v1 rfl rfl) h1
  have spec := dirsCheck_spec l k hk (ops_size (vars := []) (gs := gs) hz (j := 0) rfl rfl hd) ho n1 hn1 m1 hm1
  refine ((spec).run (agree hb fun w' hw => hb.agree hw)).mono fun e W' => ?_
  rintro ⟨v, F, rfl, hkeep, rfl⟩
  exact ⟨_, rfl, post_law rfl rfl rfl rfl Tryz.underlying4 TryzlaidOut TryzmapsRowed Tryzfull (by rw [Tryz.params6]; decide +kernel) hW' hkeep⟩

theorem check_holds : Rows.DirsCheckSaid :=
  OpenClaim.holds_of_wide 6 Tryz.f6 rfl rfl rfl rfl rfl rfl rfl ⟨rfl, rfl, rfl, rfl, rfl⟩ rfl rfl rfl rfl rfl (by kernel_rfl) Tryz.func6 (by kernel_rfl)
    (of_decide_eq_true (by kernel_rfl)) (by unfold Func.isWrapper; first | (rw [if_pos (by decide +kernel)]; kernel_rfl) | (rw [if_neg (by decide +kernel)]; exact ⟨rfl, rfl⟩))
    (fun os started H enc _ => check_lifted os started H enc)

theorem check_card_holds : Rows.DirsCheckCardSaid :=
  Claim7.holds_tied_plain_at .later [] [.data, .pinned] true (true, "2973c71a2a670c4d69cecd78a251561222006d7a41dbb49bfd395a09465aeb9c") false check_holds (fun _ h => by cases h) (by kernel_rfl) (fun _ h => by cases h) dirsCheck_row_tie rfl ⟨rfl, rfl⟩ (by kernel_rfl) rfl
    (fun f fn hf hfn => by
      obtain rfl : f = 6 := Option.some.inj ((show Tryz.prog.funcNamed "ratoon/ratoonlaw38.DirsCheck" = some 6 by kernel_rfl).symm.trans hf) |>.symm
      obtain rfl : fn = Tryz.f6 := (Option.some.inj (Tryz.func6.symm.trans hfn)).symm
      exact ⟨by kernel_rfl, fun j t ht => by
        rw [Tryz.params6] at ht
        have hm : t ∈ [29, 41] := by simpa using Array.mem_of_getElem? ht
        have hall : ([29, 41].all fun u => !Tryz.prog.wantsStandIn u) = true := by kernel_rfl
        exact (show Tryz.prog.wantsStandIn t = false by simpa using List.all_eq_true.1 hall t hm)⟩)
    (by kernel_rfl)

end Go.Proofs.YtbfpgfopppfhoaaGreatDoor
