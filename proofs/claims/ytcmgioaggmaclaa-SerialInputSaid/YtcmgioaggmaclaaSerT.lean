/- Serial, part T: the law SerialTick. -/
import Derived.Test.YtcmgioaggmaclaaSerS
namespace Go.Proofs.Ytcmgioaggmaclaa
open Go Go.Sx
set_option maxRecDepth 100000
set_option maxHeartbeats 2000000
set_option linter.unusedVariables false
set_option linter.unusedSimpArgs false

theorem finish_few {c : Chan} (h : c.Few) {n : Int} {l : List UInt8} (hl : l.length ≤ 1000000) : (c.finish n l).1.Few ∧ (c.finish n l).2.data.length ≤ 1000000 := by
  unfold Chan.finish
  dsimp only
  split
  · exact ⟨⟨by simp, hl⟩, hl⟩
  · exact ⟨⟨by simp, h.l⟩, h.l⟩

theorem tickOut_few' {s : S} (h : s.o.Few) : s.tickOut.1.o.Few ∧ ∀ a ∈ s.tickOut.2, a.data.length ≤ 1000000 := by
  unfold S.tickOut
  split
  · dsimp only
    have e : (if iNe s.o.cmd.tag s.o.last.tag then s.write s.o.cmd else (s, 0)).1.o = s.o := by
      split
      · exact (S.write_chan s _).1
      · rfl
    generalize (if iNe s.o.cmd.tag s.o.last.tag then s.write s.o.cmd else (s, 0)) = r at *
    rw [e]
    have := finish_few h (n := r.2) (l := []) (by simp)
    refine ⟨this.1, fun a ha => ?_⟩
    obtain rfl := List.mem_singleton.1 ha
    exact this.2
  · exact ⟨h, by simp⟩

theorem tickIn_few' {s : S} (h : s.i.Few) : s.tickIn.1.i.Few ∧ ∀ a ∈ s.tickIn.2, a.data.length ≤ 1000000 := by
  unfold S.tickIn
  split
  · have e : (if iNe s.i.cmd.tag s.i.last.tag then s.rd s.i.cmd else (0, [], true)).2.1.length ≤ 1000000 := by
      split
      · exact rd_len s _
      · simp
    generalize (if iNe s.i.cmd.tag s.i.last.tag then s.rd s.i.cmd else (0, [], true)) = r at *
    dsimp only
    split
    · have := finish_few h (n := r.1) (l := r.2.1) e
      refine ⟨this.1, fun a ha => ?_⟩
      obtain rfl := List.mem_singleton.1 ha
      exact this.2
    · exact ⟨h, by simp⟩
  · exact ⟨h, by simp⟩

theorem tickIn_o (s : S) : s.tickIn.1.o = s.o := by
  unfold S.tickIn
  split
  · generalize (if iNe s.i.cmd.tag s.i.last.tag then s.rd s.i.cmd else (0, [], true)) = r
    dsimp only
    split <;> rfl
  · rfl

theorem va_few {s : S} (h : s.Va) (ho : s.o.Few) (hi : s.i.Few) : s.Few := by
  have := h.inp
  have := h.out
  have := h.got
  have := h.le
  exact ⟨by omega, by omega, by omega, ho, hi⟩

theorem tick_few {s : S} (h : s.Few) : s.tick.1.Few ∧ s.tick.2.1.length ≤ 2 ∧ s.tick.2.2.length ≤ 1 ∧ ∀ a ∈ s.tick.2.1, a.data.length ≤ 1000000 := by
  have hv := S.tick_valid s
  unfold S.tick at *
  split
  · exact ⟨few_of (by decide +kernel), by simp, by simp, by simp⟩
  · rename_i hn
    rw [if_neg hn] at hv
    dsimp only at hv ⊢
    obtain ⟨_, a2, a3, _, a5⟩ := s.arrive_rest
    have t1 := tickOut_few' (s := s.arrive.1) (by rw [a2]; exact h.o)
    have r1 := S.tickOut_rest s.arrive.1
    have t2 := tickIn_few' (s := s.arrive.1.tickOut.1) (by rw [r1.2, a3]; exact h.i)
    refine ⟨va_few (S.valid_va hv) (by rw [tickIn_o]; exact t1.1) t2.1, ?_, a5, ?_⟩
    · have := S.tickOut_few s.arrive.1
      have := S.tickIn_few s.arrive.1.tickOut.1
      simp
      omega
    · intro a ha
      rcases List.mem_append.1 ha with ha | ha
      · exact t1.2 a ha
      · exact t2.2 a ha

theorem lawTick_spec (s : S) (lo li : Int) (h : SH) (hh : h.Ok s) (k : Hd) (l : List UInt8) (hk : k.Ok l.length) :
    PureSpec Try.prog 3 [.agg ⟨s.rcells lo li h⟩, k.v l.length] (fun w => h.By s w ∧ By w k l) (fun v F => v = .bool true) := by
  refine PureSpec.of_xc tabOk Try.func3 rfl (by decide) (n := Try.f3.ntmps - 2) rfl rfl fun w0 av => ?_
  conv => whnf
  intro b1
  conv => whnf
  refine XCall.val awake_spec (fun _ _ => trivial) (fun v D hv => ?_)
  subst hv
  conv => whnf
  refine XCall.val (lfew_spec s lo li h .zero Hd.nil) (fun _ _ => trivial) (fun v D hv => ?_)
  subst hv
  conv => whnf
  repeat (refine XSame.of ?_; conv => whnf)
  refine XIf.split (fun hc => ?_) (fun hc => ?_)
  · conv => whnf
    refine XCall.val awake_spec (fun _ _ => trivial) (fun v D hv => ?_)
    subst hv
    conv => whnf
    exact ⟨_, Ent.refl _, rfl⟩
  have hfw : s.fw = true ∧ lo = 0 ∧ li = 0 ∧ l.length ≤ 4100 := by
    simp [S.lfew, iGt_eq, iEq_eq] at hc
    refine ⟨hc.1.1.1.1, hc.1.1.2, hc.1.2, by omega⟩
  obtain ⟨hfw, rfl, rfl, hl⟩ := hfw
  have hf := fw_few hfw
  clear hc
  conv => whnf
  refine XCall.pure (new_spec k l hk (by omega)) (fun w h => h.2) ?_
  rintro v F ⟨h1, rfl, hh1, rfl⟩
  conv => whnf
  intro b2
  conv => whnf
  refine XCall.pure (rnew_spec k l hk (by omega)) (fun w h => h.1.2) ?_
  rintro v F ⟨h2, rfl, hh2, rfl⟩
  conv => whnf
  intro b3
  conv => whnf
  refine XCall.val (to_spec s 0 0 h) (fun _ _ => trivial) (fun v D hv => ?_)
  subst hv
  conv => whnf
  refine XCall.pure (tick_spec s h hh hf) (fun w h => h.1.1.1) ?_
  rintro v F ⟨h3, ka3, l3, k3, rfl, hh3, hka3, hl3, hok3, hk3, rfl⟩
  conv => whnf
  intro b4
  conv => whnf
  refine XCall.pure (rtick_spec s h hh hf) (fun w h => h.1.1.1.1) ?_
  rw [← S.tick_eq]
  rintro v F ⟨h4, ka4, l4, k4, rfl, hh4, hka4, hl4, hok4, hk4, rfl⟩
  conv => whnf
  intro b5
  conv => whnf
  refine XStop.draw tabOk mixed rfl rfl ?_
  conv => whnf
  have e1 : iEq (S.new l).2 (S.new l).2 = true := by simp [iEq_eq]
  generalize (S.new l).2 = en at *
  have q1 := S.same_self (S.new l).1
  have q2 := S.same_self s.tick.1
  have q3 := S.tick_valid s
  have hfn := new_few (l := l) (by omega)
  obtain ⟨f1, f2, f3, f4⟩ := tick_few hf
  generalize (S.new l).1 = n at *
  generalize s.tick = t at *
  have g3 : t.2.1.length = l3.length := by rw [← hl3]; simp
  have g4 : t.2.1.length = l4.length := by rw [← hl4]; simp
  have os := own_spec ka3 l3 (g3 ▸ hka3) (by omega)
  rw [← g3] at os
  refine XIf.yes e1 ?_
  conv => whnf
  repeat (first
    | (refine XSame.of ?_; conv => whnf)
    | (refine XHeld.same rfl ?_; conv => whnf)
    | (refine XHeld.call rfl ?_; conv => whnf)
    | (refine XKeep.of ?_; conv => whnf)
    | (refine XCall.val (from_spec n h1) (fun _ _ => trivial) (fun v D hv => ?_); subst hv; conv => whnf)
    | (refine XCall.val (from_spec t.1 h3) (fun _ _ => trivial) (fun v D hv => ?_); subst hv; conv => whnf)
    | (refine XCall.val (valid_spec t.1 h3) (fun _ _ => trivial) (fun v D hv => ?_); subst hv; conv => whnf)
    | (refine XCall.val (requal_spec n n 0 0 0 0 h1 h2 hh1 hh2 hfn) (fun w h => ⟨h.1.1.1.2, h.1.1.2⟩) (fun v D hv => ?_); subst hv; conv => whnf)
    | (refine XCall.val (requal_spec t.1 t.1 0 0 0 0 h3 h4 hh3 hh4 f1) (fun w h => ⟨h.1.2.1, h.2.1⟩) (fun v D hv => ?_); subst hv; conv => whnf)
    | (refine XIf.yes e1 ?_; conv => whnf)
    | (refine XIf.yes q1 ?_; conv => whnf)
    | (refine XIf.yes q2 ?_; conv => whnf))
  refine XCall.pure os (fun w h => h.1.2.2.1) ?_
  rintro v F ⟨k5, rfl, hk5, rfl⟩
  conv => whnf
  have hdat : ∀ p ∈ l3, p.1.data.length ≤ 1000000 := fun p hp => f4 p.1 (by rw [← hl3]; exact List.mem_map_of_mem hp)
  have sas := sameAnswers_spec k5 ka4 l3 l4 hk5 (g4 ▸ hka4) (by omega) hok3 hok4 (by rw [hl3, hl4]) hdat
  rw [← g4] at sas
  refine XCall.val sas (fun w h => ⟨h.2, h.1.2.2.1⟩) (fun v D hv => ?_)
  subst hv
  conv => whnf
  repeat (first
    | (refine XSame.of ?_; conv => whnf)
    | (refine XHeld.same rfl ?_; conv => whnf)
    | (refine XHeld.call rfl ?_; conv => whnf)
    | (refine XKeep.of ?_; conv => whnf)
    | (refine XCall.val (sameBytes_spec k3 k4 t.2.2 t.2.2 hk3 hk4 (by omega)) (fun w h => ⟨h.1.1.2.2.2, h.1.2.2.2⟩) (fun v D hv => ?_); subst hv; conv => whnf)
    | (refine XCall.val (valid_spec t.1 h3) (fun _ _ => trivial) (fun v D hv => ?_); subst hv; conv => whnf)
    | (refine XIf.yes (beq_self_eq_true _) ?_; conv => whnf)
    | (refine XIf.yes rfl ?_; conv => whnf))
  exact ⟨_, Ent.refl _, by simp [q3]⟩

end Go.Proofs.Ytcmgioaggmaclaa
