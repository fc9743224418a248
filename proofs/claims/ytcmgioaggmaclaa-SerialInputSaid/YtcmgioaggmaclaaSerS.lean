/- Serial, part S: the plain laws of Valid, Do and Tick. -/
import Derived.Test.YtcmgioaggmaclaaSerR
namespace Go.Proofs.Ytcmgioaggmaclaa
open Go Go.Sx
set_option maxRecDepth 100000
set_option maxHeartbeats 2000000
set_option linter.unusedVariables false
set_option linter.unusedSimpArgs false

theorem proper_eq0 (t : Int) : rproper t 0 = proper t 0 := by
  have : IntKind.i64.wrap (2 - 0) = 2 := by decide
  simp only [rproper, proper, this]
  simp [iEq_eq]

theorem proper_eq1 (t : Int) : rproper t 1 = proper t 1 := by
  have : IntKind.i64.wrap (2 - 1) = 1 := by decide
  simp only [rproper, proper, this]
  simp [iEq_eq]

theorem Chan.valid_eq (c : Chan) {op : Int} (hp : ∀ t, rproper t op = proper t op) : c.valid op = c.rvalid12 0 op := by
  obtain ⟨o, ⟨ct, cop, cp, cd⟩, ⟨lt, la, ld⟩⟩ := c
  simp only [Chan.valid, Chan.rvalid12, Chan.rvalid, hp]
  split
  · rfl
  · cases o with
    | true => simp [iGe_eq, iLe_eq]
    | false => cases cd <;> simp [Cmd.same, Cmd.zero, iEq_eq] <;> omega

theorem S.valid_eq (s : S) : s.valid = s.rvalid 0 0 := by
  simp only [S.valid, S.rvalid, Chan.valid_eq _ proper_eq0, Chan.valid_eq _ proper_eq1]

theorem S.tick_eq (s : S) : s.tick = s.rtick := by
  simp only [S.tick, S.rtick, S.valid_eq]

theorem Cmd.same_self (c : Cmd) : c.same c = true := by simp [Cmd.same, iEq_eq]
theorem Chan.same_self (c : Chan) : c.same 0 c 0 = true := by simp [Chan.same, iEq_eq, Cmd.same_self, Ans.same_self]
theorem S.same_self (s : S) : s.same 0 0 s 0 0 = true := by simp [S.same, iEq_eq, Chan.same_self]

theorem S.zero_valid : S.zero.valid = true := by decide +kernel

theorem S.valid_iff (s : S) : s.valid = true ↔ s.Va ∧ s.o.valid 0 = true ∧ s.i.valid 1 = true := by
  constructor
  · intro h
    refine ⟨S.valid_va h, ?_⟩
    simp [S.valid] at h
    exact ⟨h.1.2, h.2⟩
  · rintro ⟨h, h2, h3⟩
    have := h.inp
    have := h.out
    have := h.got
    simp [S.valid, iLe_eq, iGe_eq, iLt_eq, h2, h3, h.pos, h.le, h.pause, h.lt]
    omega

theorem S.arrive_va {s : S} (h : s.Va) : s.arrive.1.Va := by
  have h1 := h.inp
  have h2 := h.le
  have h3 := h.got
  have h4 := h.pos
  have h5 := h.pause
  have h6 := h.lt
  unfold S.arrive
  split
  · rename_i hp
    simp [iGt_eq] at hp
    exact ⟨h1, h4, h2, by show 0 ≤ s.pause - 1; omega, by show s.pause - 1 < 128; omega, h3, h.out⟩
  · split
    · exact h
    · rename_i hp hn
      simp [iEq_eq] at hn
      simp [iGt_eq] at hp
      dsimp only
      split
      · rename_i hc
        have := (s.input.getD s.pos.toNat 0).toNat_lt
        exact ⟨h1, by show 0 ≤ s.pos + 1; omega, by show s.pos + 1 ≤ (s.input.length : Int); omega, by show 0 ≤ (_ : Int) - 128; omega, by show (_ : Int) - 128 < 128; omega, by show (s.got.length : Int) ≤ s.pos + 1; omega, h.out⟩
      · exact ⟨h1, by show 0 ≤ s.pos + 1; omega, by show s.pos + 1 ≤ (s.input.length : Int); omega, h5, h6, by show ((s.got ++ [_]).length : Int) ≤ s.pos + 1; simp; omega, h.out⟩

theorem Chan.finish_valid {c : Chan} {op : Int} (h : c.valid op = true) (ho : c.isOpen = true) (n : Int) (l : List UInt8) : (c.finish n l).1.valid op = true := by
  unfold Chan.valid at h
  simp only [ho, if_true] at h
  unfold Chan.finish Chan.valid
  split at h
  · cases h
  · rename_i hl
    simp only [Bool.and_eq_true] at h
    simp only [Bool.false_eq_true, if_false, List.length_nil]
    have hz : (iEq 0 0 && iEq 0 0 && iEq 0 0 && iEq ((0 : Nat) : Int) 0) = true := by simp [iEq_eq]
    split
    · simp [h.1, iEq_eq]
    · exact hz

theorem S.write_va {s : S} (h : s.Va) (c : Cmd) : (s.write c).1.Va := by
  unfold S.write
  split
  · exact h
  · split
    · exact h
    · rename_i h1 h2
      split
      · refine ⟨h.inp, h.pos, h.le, h.pause, h.lt, h.got, ?_⟩
        show (s.output ++ _).length ≤ 100000
        simp [iLt_eq, iGt_eq] at h1 h2
        have := h.out
        rw [wrap_i64 (by omega)] at h2
        simp
        omega
      · exact h

theorem S.write_chan (s : S) (c : Cmd) : (s.write c).1.o = s.o ∧ (s.write c).1.i = s.i := by
  unfold S.write
  repeat' split
  all_goals exact ⟨rfl, rfl⟩

theorem S.tickOut_valid {s : S} (h : s.valid = true) : s.tickOut.1.valid = true := by
  obtain ⟨h1, h2, h3⟩ := s.valid_iff.1 h
  unfold S.tickOut
  split
  · rename_i ho
    dsimp only
    rw [S.valid_iff]
    have e : ∀ r : S × Int, r = (if iNe s.o.cmd.tag s.o.last.tag then s.write s.o.cmd else (s, 0)) → r.1.Va ∧ r.1.o = s.o ∧ r.1.i = s.i := by
      rintro r rfl
      split
      · exact ⟨S.write_va h1 _, S.write_chan s _⟩
      · exact ⟨h1, rfl, rfl⟩
    generalize hr : (if iNe s.o.cmd.tag s.o.last.tag then s.write s.o.cmd else (s, 0)) = r
    obtain ⟨e1, e2, e3⟩ := e r hr.symm
    refine ⟨⟨e1.inp, e1.pos, e1.le, e1.pause, e1.lt, e1.got, e1.out⟩, ?_, ?_⟩
    · show ((r.1.o.finish r.2 []).1).valid 0 = true
      rw [e2]
      exact Chan.finish_valid h2 ho _ _
    · show r.1.i.valid 1 = true
      rw [e3]
      exact h3
  · exact h

theorem S.tickIn_valid {s : S} (h : s.valid = true) : s.tickIn.1.valid = true := by
  obtain ⟨h1, h2, h3⟩ := s.valid_iff.1 h
  unfold S.tickIn
  split
  · rename_i ho
    generalize (if iNe s.i.cmd.tag s.i.last.tag then s.rd s.i.cmd else (0, [], true)) = r
    dsimp only
    split
    · rw [S.valid_iff]
      exact ⟨⟨h1.inp, h1.pos, h1.le, h1.pause, h1.lt, h1.got, h1.out⟩, h2, Chan.finish_valid h3 ho _ _⟩
    · exact h
  · exact h

theorem S.arrive_valid {s : S} (h : s.valid = true) : s.arrive.1.valid = true := by
  obtain ⟨h1, h2, h3⟩ := s.valid_iff.1 h
  obtain ⟨_, a2, a3, _⟩ := s.arrive_rest
  rw [S.valid_iff, a2, a3]
  exact ⟨S.arrive_va h1, h2, h3⟩

theorem S.tick_valid (s : S) : s.tick.1.valid = true := by
  unfold S.tick
  split
  · exact S.zero_valid
  · rename_i h
    simp at h
    exact S.tickIn_valid (S.tickOut_valid (S.arrive_valid h))

theorem fw_few {s : S} (h : s.fw = true) : s.Few := by
  simp [S.fw, Chan.fw, iLe_eq] at h
  exact ⟨by omega, by omega, by omega, ⟨by omega, by omega⟩, ⟨by omega, by omega⟩⟩

theorem new_few {l : List UInt8} (h : l.length ≤ 1000000) : (S.new l).1.Few := by
  unfold S.new
  split
  · exact ⟨by simp [S.zero], by simp [S.zero], by simp [S.zero], ⟨by simp [S.zero, Chan.zero, Cmd.zero], by simp [S.zero, Chan.zero, Ans.zero]⟩, ⟨by simp [S.zero, Chan.zero, Cmd.zero], by simp [S.zero, Chan.zero, Ans.zero]⟩⟩
  · exact ⟨by simpa using h, by simp [S.zero], by simp [S.zero], ⟨by simp [S.zero, Chan.zero, Cmd.zero], by simp [S.zero, Chan.zero, Ans.zero]⟩, ⟨by simp [S.zero, Chan.zero, Cmd.zero], by simp [S.zero, Chan.zero, Ans.zero]⟩⟩

end Go.Proofs.Ytcmgioaggmaclaa
