/- Serial, part W: the law SerialDo. -/
import Derived.Test.YtcmgioaggmaclaaSerT
namespace Go.Proofs.Ytcmgioaggmaclaa
open Go Go.Sx
set_option maxRecDepth 100000
set_option maxHeartbeats 2000000
set_option linter.unusedVariables false
set_option linter.unusedSimpArgs false

theorem Chan.take_eq (c : Chan) (x : Cmd) : (c.rtake 0 x 1).2.2 = (c.take x).2 ∧ ((c.take x).2 = 0 → (c.rtake 0 x 1).1 = (c.take x).1) := by
  obtain ⟨o, cmd, last⟩ := c
  unfold Chan.rtake Chan.take
  cases o
  · simp only [Bool.false_and, Bool.false_or, Bool.not_false, Bool.true_and, Bool.false_eq_true, if_false]
    by_cases h1 : iLt x.tag last.tag = true
    · simp [h1]
    · simp only [h1, if_false]
      by_cases h2 : iEq x.tag last.tag = true
      · simp [h2]
      · simp [h2]
  · simp only [Bool.true_and, Bool.not_true, Bool.false_and, Bool.or_false, if_true]
    by_cases h1 : iLt x.tag cmd.tag = true
    · have h2 : iGt x.tag cmd.tag = false := by simp [iLt_eq, iGt_eq] at *; omega
      simp [h1, h2]
    · by_cases h2 : iGt x.tag cmd.tag = true
      · simp [h1, h2]
      · simp [h1, h2]

theorem S.do_eq (s : S) (c : Cmd) : s.rdo 0 0 c = ((s.do c).1, 0, 0, (s.do c).2) := by
  unfold S.rdo S.do
  rw [← S.valid_eq]
  by_cases hv : s.valid = true
  · simp only [hv, Bool.not_true, Bool.false_eq_true, if_false]
    by_cases h0 : iEq c.op 0 = true
    · have e0 : c.op = 0 := by simpa [iEq_eq] using h0
      simp only [e0, proper_eq0]
      split
      · rfl
      · have h1 : iEq (0 : Int) 1 = false := by simp [iEq_eq]
        have h2 : iEq (0 : Int) 0 = true := by simp [iEq_eq]
        simp only [h1, h2, if_true, Bool.false_eq_true, if_false]
        obtain ⟨q1, q2⟩ := Chan.take_eq s.o c
        rw [q1]
        by_cases h3 : iNe (s.o.take c).2 0 = true
        · simp [h3]
        · simp only [h3, if_false]
          rw [q2 (by simpa [iNe_eq] using h3)]
          rfl
    · by_cases h1 : iEq c.op 1 = true
      · have e1 : c.op = 1 := by simpa [iEq_eq] using h1
        simp only [e1, proper_eq1]
        split
        · rfl
        · have h1 : iEq (1 : Int) 1 = true := by simp [iEq_eq]
          have h2 : iEq (1 : Int) 0 = false := by simp [iEq_eq]
          simp only [h1, h2, if_true, Bool.false_eq_true, if_false]
          obtain ⟨q1, q2⟩ := Chan.take_eq s.i c
          rw [q1]
          by_cases h3 : iNe (s.i.take c).2 0 = true
          · simp [h3]
          · simp only [h3, if_false]
            rw [q2 (by simpa [iNe_eq] using h3)]
            rfl
      · have e : (iNe c.op 0 && iNe c.op 1) = true := by simp [iEq_eq, iNe_eq] at *; exact ⟨h0, h1⟩
        simp [e]
  · simp [hv]

theorem Chan.take_valid {c : Chan} {x : Cmd} {op : Int} (h : c.valid op = true) (hp : proper x.tag op = true) (he : (c.take x).2 = 0) : (c.take x).1.valid op = true := by
  obtain ⟨o, cmd, last⟩ := c
  unfold Chan.take at *
  cases o
  · simp only [Bool.false_and, Bool.false_or, Bool.not_false, Bool.true_and, Bool.false_eq_true, if_false] at *
    by_cases h1 : iLt x.tag last.tag = true
    · simp [h1] at he
    · have hge0 : ¬ iLt x.tag last.tag = true → iGe x.tag last.tag = true := by simp [iLt_eq, iGe_eq]
      have hge : iGe x.tag last.tag = true := hge0 h1
      rw [if_neg h1]
      unfold Chan.valid at h ⊢
      dsimp only at h ⊢
      split at h
      · cases h
      · rename_i hl
        rw [if_neg hl]
        have ht : (if iEq x.tag last.tag = true then (⟨x.tag, 0, 0, []⟩ : Cmd) else x).tag = x.tag := by split <;> rfl
        rw [ht, hp, hge]
        rfl
  · simp only [Bool.true_and, Bool.not_true, Bool.false_and, Bool.or_false, if_true] at *
    split at he
    · cases he
    · split at he
      · cases he
      · rename_i h1 h2
        simp only [h1, h2, if_false]
        exact h

theorem Chan.take_few {c : Chan} (h : c.Few) {x : Cmd} (hx : x.data.length ≤ 1000000) : (c.take x).1.Few := by
  unfold Chan.take
  repeat' split
  all_goals first | exact h | exact ⟨hx, h.l⟩ | exact ⟨by simp, h.l⟩

theorem S.zero_few : S.zero.Few := few_of (by decide +kernel)

theorem do_few {s : S} (h : s.Few) {c : Cmd} (hc : c.data.length ≤ 1000000) : (s.do c).1.Few := by
  unfold S.do
  split
  · exact S.zero_few
  · split
    · exact S.zero_few
    · split
      · dsimp only
        split
        · exact S.zero_few
        · exact ⟨h.inp, h.got, h.out, h.o, Chan.take_few h.i hc⟩
      · dsimp only
        split
        · exact S.zero_few
        · exact ⟨h.inp, h.got, h.out, Chan.take_few h.o hc, h.i⟩

theorem S.do_valid {s : S} {c : Cmd} (he : (s.do c).2 = 0) : (s.do c).1.valid = true := by
  unfold S.do at *
  split at he
  · cases he
  · rename_i hv
    have hv' : s.valid = true := by simpa using hv
    obtain ⟨h1, h2, h3⟩ := s.valid_iff.1 hv'
    rw [if_neg hv]
    split at he
    · cases he
    · rename_i hp
      rw [if_neg hp]
      simp only [Bool.or_eq_true, Bool.and_eq_true, not_or, not_and, Bool.not_eq_true', Bool.not_eq_false] at hp
      split at he
      · rename_i ho
        rw [if_pos ho]
        have e1 : c.op = 1 := by simpa [iEq_eq] using ho
        dsimp only at he ⊢
        split at he
        · rename_i hn
          dsimp only at he
          simp [iNe_eq, he] at hn
        · rename_i hn
          rw [if_neg hn]
          rw [S.valid_iff]
          exact ⟨⟨h1.inp, h1.pos, h1.le, h1.pause, h1.lt, h1.got, h1.out⟩, h2, Chan.take_valid h3 (by rw [← e1]; exact hp.2) (by simpa [iNe_eq] using hn)⟩
      · rename_i ho
        rw [if_neg ho]
        have e0 : c.op = 0 := by
          have := hp.1
          simp [iNe_eq, iEq_eq] at this ho
          by_cases h : c.op = 0
          · exact h
          · exact absurd (this h) ho
        dsimp only at he ⊢
        split at he
        · rename_i hn
          dsimp only at he
          simp [iNe_eq, he] at hn
        · rename_i hn
          rw [if_neg hn]
          rw [S.valid_iff]
          exact ⟨⟨h1.inp, h1.pos, h1.le, h1.pause, h1.lt, h1.got, h1.out⟩, Chan.take_valid h2 (by rw [← e0]; exact hp.2) (by simpa [iNe_eq] using hn), h3⟩

theorem S.equal_eq (s t : S) : s.equal t = s.same 0 0 t 0 0 := by
  simp [S.equal, S.same, Chan.equal, Chan.same, Cmd.same, Ans.same, iEq_eq, Bool.and_assoc]

theorem lawDo_spec (s : S) (lo li : Int) (h : SH) (hh : h.Ok s) (c : Cmd) (k : Hd) (hk : k.Ok c.data.length) :
    PureSpec Try.prog 7 [.agg ⟨s.rcells lo li h⟩, .agg ⟨c.cells k⟩] (fun w => h.By s w ∧ By w k c.data) (fun v F => v = .bool true) := by
  refine PureSpec.of_xc tabOk Try.func7 rfl (by decide) (n := Try.f7.ntmps - 2) rfl rfl fun w0 av => ?_
  conv => whnf
  intro b1
  conv => whnf
  intro b2
  conv => whnf
  refine XCall.val awake_spec (fun _ _ => trivial) (fun v D hv => ?_)
  subst hv
  conv => whnf
  refine XCall.val (lfew_spec s lo li h c k) (fun _ _ => trivial) (fun v D hv => ?_)
  subst hv
  conv => whnf
  repeat (refine XSame.of ?_; conv => whnf)
  refine XIf.split (fun hc => ?_) (fun hc => ?_)
  · conv => whnf
    refine XCall.val awake_spec (fun _ _ => trivial) (fun v D hv => ?_)
    subst hv
    conv => whnf
    exact ⟨_, Ent.refl _, rfl⟩
  have hfw : s.fw = true ∧ lo = 0 ∧ li = 0 ∧ c.data.length ≤ 300 := by
    simp [S.lfew, iLe_eq, iEq_eq] at hc
    refine ⟨hc.1.1.1, hc.1.2, hc.2, by omega⟩
  obtain ⟨hfw, rfl, rfl, hl⟩ := hfw
  have hf := fw_few hfw
  clear hc
  conv => whnf
  refine XStop.draw tabOk mixed rfl rfl ?_
  conv => whnf
  repeat' (first
    | (refine And.intro ?_ ?_ <;> conv => whnf)
    | (refine XSame.of ?_; conv => whnf)
    | (refine XHeld.same rfl ?_; conv => whnf)
    | (refine XHeld.call rfl ?_; conv => whnf)
    | (refine XKeep.of ?_; conv => whnf)
    | (refine XCall.val (to_spec s 0 0 h) (fun _ _ => trivial) (fun v D hv => ?_); subst hv; conv => whnf)
    | (refine XCall.pure (do_spec s h hh hf c k hk (by omega)) (fun w h => h) ?_; rintro v F ⟨h3, rfl, hh3, rfl⟩; conv => whnf)
    | (intro b3; conv => whnf))
  all_goals
    refine XCall.pure (rdo_spec s 0 0 h hh hf c k hk (by omega)) (fun w h => h.1) ?_
    rw [S.do_eq]
    rintro v F ⟨h4, rfl, hh4, rfl⟩
    conv => whnf
    intro b4
    conv => whnf
    refine XStop.draw tabOk mixed rfl rfl ?_
    conv => whnf
    have e1 : iEq (s.do c).2 (s.do c).2 = true := by simp [iEq_eq]
    have q1 := S.same_self (s.do c).1
    have rv := rvalid_spec s 0 0 h hh hf
    rw [← S.valid_eq] at rv
    have q3 : iNe (s.do c).2 0 = false → (s.do c).1.valid = true := fun h => S.do_valid (by simpa [iNe_eq] using h)
    have ft := do_few hf (c := c) (by omega)
    have seq := sequal_spec s (s.do c).1 h h3
    have req := requal_spec s (s.do c).1 0 0 0 0 h h4 hh hh4 hf
    rw [← S.equal_eq] at req
    generalize s.do c = t at *
    refine XIf.yes e1 ?_
    conv => whnf
    repeat' (first
      | (refine XSame.of ?_; conv => whnf)
      | (refine XHeld.same rfl ?_; conv => whnf)
      | (refine XHeld.call rfl ?_; conv => whnf)
      | (refine XKeep.of ?_; conv => whnf)
      | (refine And.intro ?_ ?_ <;> conv => whnf)
      | (refine XCall.val (from_spec t.1 h3) (fun _ _ => trivial) (fun v D hv => ?_); subst hv; conv => whnf)
      | (refine XCall.val (to_spec s 0 0 h) (fun _ _ => trivial) (fun v D hv => ?_); subst hv; conv => whnf)
      | (refine XCall.val (requal_spec t.1 t.1 0 0 0 0 h3 h4 hh3 hh4 ft) (fun w h => ⟨h.1.2, h.2⟩) (fun v D hv => ?_); subst hv; conv => whnf)
      | (refine XCall.val (valid_spec t.1 h3) (fun _ _ => trivial) (fun v D hv => ?_); subst hv; conv => whnf)
      | (refine XCall.val (valid_spec s h) (fun _ _ => trivial) (fun v D hv => ?_); subst hv; conv => whnf)
      | (refine XCall.val rv (fun w h => h.1.1.1) (fun v D hv => ?_); subst hv; conv => whnf)
      | (refine XCall.val seq (fun w h => ⟨h.1.1.1, h.1.2⟩) (fun v D hv => ?_); subst hv; conv => whnf)
      | (refine XCall.val req (fun w h => ⟨h.1.1.1, h.2⟩) (fun v D hv => ?_); subst hv; conv => whnf)
      | (refine XIf.yes e1 ?_; conv => whnf)
      | (refine XIf.yes q1 ?_; conv => whnf)
      | (refine XIf.yes (beq_self_eq_true _) ?_; conv => whnf)
      | (refine XIf.split (fun hc => ?_) (fun hc => ?_) <;> conv => whnf))
  all_goals first
    | (exfalso; rename_i x1; simp [q3 x1] at hc; done)
    | (refine ⟨_, Ent.refl _, ?_⟩; simp; done)

end Go.Proofs.Ytcmgioaggmaclaa
