/- Serial, part R: the document's example. -/
import Derived.Test.YtcmgioaggmaclaaSerQ
import Derived.Test.YtcmgioaggmaclaaSxY
namespace Go.Proofs.Ytcmgioaggmaclaa
open Go Go.Sx
set_option maxRecDepth 100000
set_option maxHeartbeats 2000000
set_option linter.unusedVariables false
set_option linter.unusedSimpArgs false

def aw0 : S := (S.new [97, 130, 98]).1
def aw1 := aw0.tick
def aw2 := aw1.1.do ⟨2, 0, 0, [7]⟩
def aw3 := aw2.1.tick
def aw4 := aw3.1.tick
def aw5 := aw4.1.tick
def aw6 := aw5.1.tick

theorem few_of {s : S} (h : decide (s.input.length ≤ 1000000 ∧ s.got.length ≤ 1000000 ∧ s.output.length ≤ 1000000 ∧ s.o.cmd.data.length ≤ 1000000 ∧ s.o.last.data.length ≤ 1000000 ∧ s.i.cmd.data.length ≤ 1000000 ∧ s.i.last.data.length ≤ 1000000) = true) : s.Few := by
  obtain ⟨h1, h2, h3, h4, h5, h6, h7⟩ := of_decide_eq_true h
  exact ⟨h1, h2, h3, ⟨h4, h5⟩, ⟨h6, h7⟩⟩

theorem aw0_few : aw0.Few := few_of (by decide +kernel)
theorem aw1_few : aw1.1.Few := few_of (by decide +kernel)
theorem aw2_few : aw2.1.Few := few_of (by decide +kernel)
theorem aw3_few : aw3.1.Few := few_of (by decide +kernel)
theorem aw4_few : aw4.1.Few := few_of (by decide +kernel)
theorem aw5_few : aw5.1.Few := few_of (by decide +kernel)

theorem aw_new : (S.new [97, 130, 98]).2 = 0 := by decide +kernel
theorem aw_do : aw2.2 = 0 := by decide +kernel
theorem aw_a : aw1.2.2 = [97] := by decide +kernel
theorem aw_b : aw6.2.2 = [98] := by decide +kernel
theorem aw_l : ∃ a : Ans, aw3.2.1 = [a] ∧ a.ans = 1 := ⟨⟨2, 1, []⟩, by kernel_rfl, rfl⟩

theorem aw_ex : ∃ (s0 : S × Int) (t1 : S × List Ans × List UInt8) (d2 : S × Int) (t3 t4 t5 t6 : S × List Ans × List UInt8),
    S.new [97, 130, 98] = s0 ∧ s0.1.tick = t1 ∧ t1.1.do ⟨2, 0, 0, [7]⟩ = d2 ∧ d2.1.tick = t3 ∧ t3.1.tick = t4 ∧ t4.1.tick = t5 ∧ t5.1.tick = t6 ∧
    s0.1.Few ∧ t1.1.Few ∧ d2.1.Few ∧ t3.1.Few ∧ t4.1.Few ∧ t5.1.Few ∧ s0.2 = 0 ∧ d2.2 = 0 ∧ t1.2.2 = [97] ∧ t6.2.2 = [98] ∧ ∃ a : Ans, t3.2.1 = [a] ∧ a.ans = 1 :=
  ⟨S.new [97, 130, 98], aw1, aw2, aw3, aw4, aw5, aw6, rfl, rfl, rfl, rfl, rfl, rfl, rfl, aw0_few, aw1_few, aw2_few, aw3_few, aw4_few, aw5_few, aw_new, aw_do, aw_a, aw_b, aw_l⟩

theorem awake_spec : PureSpec Try.prog 9 [] (fun _ => True) (fun v F => v = .bool true) := by
  obtain ⟨s0, t1, d2, t3, t4, t5, t6, es0, et1, ed2, et3, et4, et5, et6, f0, f1, f2, f3, f4, f5, e0, e2, ea, eb, a3, el, ea3⟩ := aw_ex
  refine PureSpec.of_xc tabOk Try.func9 rfl (by decide) (n := Try.f9.ntmps) rfl rfl fun w0 av => ?_
  conv => whnf
  refine XVal.build tabOk (t := 22) rfl rfl rfl [byteV 97, byteV 130, byteV 98] rfl rfl (by simp [byteV, Value.cells]) (by decide) fun b => ?_
  conv => whnf
  refine XCall.ent (Ent.shareAll.trans (Ent.imp (D' := fun w => By w ⟨some ⟨b, 0, none⟩, 3⟩ [97, 130, 98]) fun w h => h.2.1)) ?_
  refine XCall.pure (new_spec ⟨some ⟨b, 0, none⟩, 3⟩ [97, 130, 98] ⟨by simp, by simp⟩ (by simp)) (fun w h => h) ?_
  rw [es0]
  rintro v F ⟨h0, rfl, hh0, rfl⟩
  conv => whnf
  intro b1
  conv => whnf
  refine XCall.pure (tick_spec s0.1 h0 hh0 f0) (fun w h => h.2) ?_
  rw [et1]
  rintro v F ⟨h1, ka1, l1, k1, rfl, hh1, hka1, hl1, hok1, hk1, rfl⟩
  conv => whnf
  refine XVal.build tabOk (t := 22) rfl rfl rfl [byteV 7] rfl rfl (by simp [byteV, Value.cells]) (by decide) fun b2 => ?_
  conv => whnf
  refine XCall.ent (Ent.shareAll.trans (Ent.imp (D' := fun w => (h1.By t1.1 w ∧ By w ⟨some ⟨b2, 0, none⟩, 1⟩ [7]) ∧ By w k1 t1.2.2) fun w h => ⟨⟨h.1.2.1, h.2.1⟩, h.1.2.2.2⟩)) ?_
  refine XCall.pure (do_spec t1.1 h1 hh1 f1 ⟨2, 0, 0, [7]⟩ ⟨some ⟨b2, 0, none⟩, 1⟩ ⟨by simp, by simp⟩ (by simp)) (fun w h => h.1) ?_
  rw [ed2]
  rintro v F ⟨h2, rfl, hh2, rfl⟩
  conv => whnf
  refine XCall.pure (tick_spec d2.1 h2 hh2 f2) (fun w h => h.2) ?_
  rw [et3]
  rintro v F ⟨h3, ka3, l3, k3, rfl, hh3, hka3, hl3, hok3, hk3, rfl⟩
  conv => whnf
  refine XCall.pure (tick_spec t3.1 h3 hh3 f3) (fun w h => h.2.1) ?_
  rw [et4]
  rintro v F ⟨h4, ka4, l4, k4, rfl, hh4, hka4, hl4, hok4, hk4, rfl⟩
  conv => whnf
  refine XCall.pure (tick_spec t4.1 h4 hh4 f4) (fun w h => h.2.1) ?_
  rw [et5]
  rintro v F ⟨h5, ka5, l5, k5, rfl, hh5, hka5, hl5, hok5, hk5, rfl⟩
  conv => whnf
  refine XCall.pure (tick_spec t5.1 h5 hh5 f5) (fun w h => h.2.1) ?_
  rw [et6]
  rintro v F ⟨h6, ka6, l6, k6, rfl, hh6, hka6, hl6, hok6, hk6, rfl⟩
  conv => whnf
  intro b3
  have hm3 : ∃ kk, l3 = [(a3, kk)] := by
    rw [el] at hl3
    rcases l3 with _ | ⟨⟨x, kk⟩, _ | ⟨y, l⟩⟩
    · simp at hl3
    · simp at hl3
      exact ⟨kk, by rw [hl3]⟩
    · simp at hl3
  obtain ⟨kk, rfl⟩ := hm3
  conv => whnf
  refine XSame.of ?_
  conv => whnf
  refine XSame.of ?_
  conv => whnf
  refine XIf.split (fun hc => ?_) (fun hc => ?_)
  rotate_left
  · exfalso
    simp [iEq_eq, e0, e2, ea] at hc
  conv => whnf
  refine XVal.of_read (XRead.byteAt tabOk (t := 22) rfl rfl rfl rfl (h := k1) 0 rfl (by rw [ea]; simp) hk1 fun ad had => ?_)
  conv => whnf
  refine XVal.of_read (XRead.byteLd tabOk (t := 5) rfl rfl had (l := t1.2.2) (Sees.fact fun w hw => hw.1.1.1.1.1.2) (by rw [ea]; simp) ?_)
  conv => whnf
  have hb1 : t1.2.2[0]'(by rw [ea]; simp) = 97 := by simp [ea]
  have hb6 : t6.2.2[0]'(by rw [eb]; simp) = 98 := by simp [eb]
  repeat (refine XSame.of ?_; conv => whnf)
  refine XIf.split (fun hc => ?_) (fun hc => ?_)
  rotate_left
  · exfalso
    rw [hb1, eb] at hc
    simp [iEq_eq] at hc
  conv => whnf
  refine XVal.of_read (XRead.byteAt tabOk (t := 22) rfl rfl rfl rfl (h := k6) 0 rfl (by rw [eb]; simp) hk6 fun ad2 had2 => ?_)
  conv => whnf
  refine XVal.of_read (XRead.byteLd tabOk (t := 5) rfl rfl had2 (l := t6.2.2) (Sees.fact fun w hw => hw.2.2.2) (by rw [eb]; simp) ?_)
  conv => whnf
  repeat (refine XSame.of ?_; conv => whnf)
  refine XIf.split (fun hc => ?_) (fun hc => ?_)
  rotate_left
  · exfalso
    rw [hb6, el] at hc
    simp [iEq_eq] at hc
  conv => whnf
  refine XVal.of_read (XRead.index tabOk (t := 44) rfl rfl rfl (by omega) (by rw [el]; simp) hka3.nil fun ad3 had3 => ?_)
  conv => whnf
  refine XVal.of_read (XRead.load tabOk (t := 3) rfl rfl (ad := ad3) (k := 1) (L := ansCells [(a3, kk)]) (v := .int .i64 a3.ans) (fun w hst => had3 ▸ hst.now.1.1.1.2.2.1.1) (by simp [Addr.add]) rfl ?_)
  conv => whnf
  repeat (refine XSame.of ?_; conv => whnf)
  refine ⟨_, Ent.refl _, ?_⟩
  simp [iEq_eq, ea3]

end Go.Proofs.Ytcmgioaggmaclaa
