/- Proved: the law FilesWrites of the program holds for every input; the row's listed variables are tied to the program's text. No conditions. -/
import Derived.Test.YtfeoedkmndkbjaaGreatDoorQP
import Derived.Test.YtfeoedkmndkbjaaGreatDoorQR
import Derived.Test.YtfeoedkmndkbjaaGreatDoorTie
import Derived.Test.YtfeoedkmndkbjaaGreatDoorCards
import Derived.ProofKit
import Derived.OpenShut
import Derived.LaidMore
import Derived.Lay
import Derived.SevenTiedAt
import Derived.Stop.Joined
import Derived.ChangeMaps5
namespace Go.Proofs.YtfeoedkmndkbjaaGreatDoor
open Go Go.Sx Go.ChangeShapes Go.WideShapes Go.ChangeAt Go.RowKit
set_option maxRecDepth 100000
set_option maxHeartbeats 2000000
set_option linter.unusedVariables false

section
variable {H : Type} {enc : TypeId × Value → H} {w : World} {base : Nat} {spare : Nat → Bool} {held : Bool} {r : Reach} {b0 : Nat}
theorem open_data {v : Value} {d : DataW H} {p : List MemPlace} (hv : Value.okWide Tryz.prog w r b0 50 v) (h : DataW.Trod enc Tryz.prog w base spare held 50 v d p) :
    ∃ (node at0 : Int) (k : Hd) (l : List UInt8), at0 ≤ 9223372036854775807 ∧ k.Ok l.length ∧ By w k l ∧ v = .agg ⟨[.int .i64 node, .int .i64 at0, k.v l.length]⟩ := by
  obtain ⟨q, hq⟩ := h
  simp only [Value.okWide, Tryz.underlying50] at hv
  obtain ⟨⟨cs⟩, rfl, hsz, hr⟩ := hv
  rw [show Tryz.prog.cellsOf 50 = 3 from cellsOf_tab tabOk (t := 50) rfl] at hsz
  obtain ⟨x0, x1, x2, rfl⟩ : ∃ a b c, cs = [a, b, c] := by
    rcases cs with _ | ⟨a, _ | ⟨b, _ | ⟨c, _ | ⟨d, l⟩⟩⟩⟩ <;> simp at hsz
    exact ⟨a, b, c, rfl⟩
  obtain ⟨_, _, h0⟩ := trod_at Tryz.underlying50 hq 0 (u := 3) (o := 0) rfl cInt
  obtain ⟨_, _, h1⟩ := trod_at Tryz.underlying50 hq 1 (u := 3) (o := 1) rfl cInt
  obtain ⟨_, _, h2⟩ := trod_at Tryz.underlying50 hq 2 (u := 23) (o := 2) rfl cBytes
  obtain ⟨n, rfl, -, -⟩ := int_cell h0
  obtain ⟨a, rfl, -, ha⟩ := int_cell h1
  obtain ⟨k, l, rfl, hk, hb⟩ := bytes_open Tryz.underlying23 Tryz.underlying5 cByte h2
  exact ⟨n, a, k, l, ha, hk, hb, rfl⟩
end

theorem Tryzown : ownKnob Tryz.prog.godebug = none := by kernel_rfl
theorem TryzlaidOut : laidOutB Tryz.prog = true := by kernel_rfl
theorem TryzmapsRowed : mapsRowed Tryz.prog = true := by kernel_rfl
theorem Tryzfull : ((List.range Tryz.prog.types.size).all fun t => match Tryz.prog.underlying t with | some (.slice e) => decide (0 < Tryz.prog.cellsOf e) | _ => true) = true := by kernel_rfl

theorem filesWrites_lifted (os : Os) (started : os.Started) (H : Type) (enc : TypeId × Value → H) :
    ReturnsInHanded {} Tryz.checked os 5 .any (fun w args => (Rows.filesWritesSpec.pre enc Tryz.prog Tryz.f5 Rows.filesWritesRow.domain false w args ∧ laidMetH Tryz.prog Rows.filesWritesRow.laid w) ∧ sizedMet enc Tryz.prog Tryz.f5 (OpenSpec.ofChange Rows.filesWritesSpec) false w args)
      (Rows.filesWritesSpec.post enc Tryz.prog Tryz.f5 false true false false) := by
  refine returnsInHanded_of_change_and (C := Tryz.checked) (X := fun w _ => laidMetH Tryz.prog Rows.filesWritesRow.laid w) (fun _ _ _ hh h => h.of_heap hh) Tryzown started (by kernel_rfl) Tryz.func5
    (ChangeSpec.witness_shaped (enc := enc) (C := Tryz.checked) (os := os) (X := fun w _ => laidMetH Tryz.prog Rows.filesWritesRow.laid w) false (World.laidAll Tryz.prog os Rows.filesWritesRow.laid) #[.slice none 0 0, .agg ⟨[.int .i64 0, .int .i64 0, .slice none 0 0]⟩] 8 (World.laidAll_os _ _ _)
      (World.shaped_of_ZipB (by kernel_rfl) (by kernel_rfl)) (by kernel_rfl) (by kernel_rfl) (by kernel_rfl)
      (by rw [MakeChecks.laidMetH_plain _ _ _ (by kernel_rfl)]; exact laidMet_laidAll _ (by kernel_rfl) (by kernel_rfl))) ?_
  intro W base args ds gs before hval0 hW hc hz hL hq
  have hval : ∀ (j : Nat) t v, Tryz.f5.params[j]? = some t → args[j]? = some v → Value.okWide Tryz.prog W .any base t v := hval0
  have hW' := hW
  obtain ⟨p, q, hA0, hV, rfl, _, _⟩ := hW
  have hA : DataW.TrodAll enc Tryz.prog W 0 (fun _ => true) true Tryz.f5.params.toList args.toList ds p := hA0
  rw [Tryz.params5] at hA hval
  rw [show Tryz.checked.prog = Tryz.prog from rfl, Tryz.params5] at hz
  obtain ⟨v0, v1, d0, d1, p0, p1, rfl, rfl, rfl, h0, h1⟩ := trodAll_two hA
  obtain ⟨k, l, rfl, hk, ho, hb, hd⟩ := open_files (hval 0 22 v0 rfl rfl) h0
  obtain ⟨node, at0, kd, data, hat, hkd, hbd, rfl⟩ := open_data (hval 1 50 v1 rfl rfl) h1
  have spec := filesWrites_law l k hk (files_size hz (j := 0) rfl rfl hd) ho node at0 kd data hkd hat
  refine ((spec).run (agree ⟨hb, hbd⟩ fun w' hw => ⟨hb.agree hw, Sx.By.agree hbd hw⟩)).mono fun e W' => ?_
  rintro ⟨v, F, rfl, hkeep, rfl⟩
  exact ⟨_, rfl, post_law rfl rfl rfl rfl Tryz.underlying4 TryzlaidOut TryzmapsRowed Tryzfull (by rw [Tryz.params5]; decide +kernel) hW' hkeep⟩

theorem filesWrites_holds : Rows.FilesWritesSaid :=
  OpenClaim.holds_of_wide 5 Tryz.f5 rfl rfl rfl rfl rfl rfl rfl ⟨rfl, rfl, rfl, rfl, rfl⟩ rfl rfl rfl rfl rfl (by kernel_rfl) Tryz.func5 (by kernel_rfl)
    (of_decide_eq_true (by kernel_rfl)) (by unfold Func.isWrapper; first | (rw [if_pos (by decide +kernel)]; kernel_rfl) | (rw [if_neg (by decide +kernel)]; exact ⟨rfl, rfl⟩))
    (fun os started H enc _ => filesWrites_lifted os started H enc)

theorem filesWrites_card_holds : Rows.FilesWritesCardSaid :=
  Claim7.holds_tied_plain_at .later [] [.data, .pinned] true (true, "23db5021047b85fc66c6139d095f3d070c0d2af1c8286730d795e50b89704ffb") false filesWrites_holds (fun _ h => by cases h) (by kernel_rfl) (fun _ h => by cases h) filesWrites_row_tie rfl ⟨rfl, rfl⟩ (by kernel_rfl) rfl
    (fun f fn hf hfn => by
      obtain rfl : f = 5 := Option.some.inj ((show Tryz.prog.funcNamed "ratoon/ratoonlaw39.FilesWrites" = some 5 by kernel_rfl).symm.trans hf) |>.symm
      obtain rfl : fn = Tryz.f5 := (Option.some.inj (Tryz.func5.symm.trans hfn)).symm
      exact ⟨by kernel_rfl, fun j t ht => by
        rw [Tryz.params5] at ht
        have hm : t ∈ [22, 50] := by simpa using Array.mem_of_getElem? ht
        have hall : ([22, 50].all fun u => !Tryz.prog.wantsStandIn u) = true := by kernel_rfl
        exact (show Tryz.prog.wantsStandIn t = false by simpa using List.all_eq_true.1 hall t hm)⟩)
    (by kernel_rfl)

end Go.Proofs.YtfeoedkmndkbjaaGreatDoor
