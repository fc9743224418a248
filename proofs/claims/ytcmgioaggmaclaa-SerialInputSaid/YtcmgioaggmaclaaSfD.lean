/- Serial, part AD: a command given again, plainly. -/
import Derived.Test.YtcmgioaggmaclaaSfA
namespace Go.Proofs.Ytcmgioaggmaclaa
open Go Go.Sx
set_option maxRecDepth 100000
set_option maxHeartbeats 2000000
set_option linter.unusedVariables false
set_option linter.unusedSimpArgs false

theorem take_open {c : Chan} {x : Cmd} (h : (c.take x).2 = 0) : (c.take x).1.isOpen = true ∧ (c.take x).1.cmd.tag = x.tag := by
  unfold Chan.take at *
  split
  · rename_i h1
    rw [if_pos h1] at h
    cases h
  · rename_i h1
    rw [if_neg h1] at h
    split
    · rename_i h2
      rw [if_pos h2] at h
      cases h
    · rename_i h2
      split
      · rename_i h3
        refine ⟨h3, ?_⟩
        simp [h3, iGt_eq, iLt_eq] at h1 h2
        show c.cmd.tag = x.tag
        omega
      · refine ⟨rfl, ?_⟩
        dsimp only
        split <;> rfl

theorem take_again {c : Chan} {x : Cmd} (h : c.isOpen = true) (ht : c.cmd.tag = x.tag) : c.take x = (c, 0) := by
  unfold Chan.take
  simp [h, ht, iGt_eq, iLt_eq]

theorem take_done {c : Chan} {x : Cmd} (h : c.isOpen = false) (ht : c.last.tag = x.tag) : c.take x = (⟨true, ⟨x.tag, 0, 0, []⟩, c.last⟩, 0) := by
  unfold Chan.take
  simp [h, ht, iEq_eq, iLt_eq]

theorem do0 {s : S} {x : Cmd} (hv : s.valid = true) (hp : proper x.tag x.op = true) (ho : x.op = 0) (h : (s.o.take x).2 = 0) : s.do x = ({ s with o := (s.o.take x).1 }, 0) := by
  unfold S.do
  have e1 : ((iNe x.op 0 && iNe x.op 1) || !proper x.tag x.op) = false := by rw [hp]; simp [iNe_eq, ho]
  have e2 : iEq x.op 1 = false := by simp [iEq_eq, ho]
  simp only [hv, e1, e2, h]
  simp [iNe_eq]

theorem do1 {s : S} {x : Cmd} (hv : s.valid = true) (hp : proper x.tag x.op = true) (ho : x.op = 1) (h : (s.i.take x).2 = 0) : s.do x = ({ s with i := (s.i.take x).1 }, 0) := by
  unfold S.do
  have e1 : ((iNe x.op 0 && iNe x.op 1) || !proper x.tag x.op) = false := by rw [hp]; simp [iNe_eq, ho]
  have e2 : iEq x.op 1 = true := by simp [iEq_eq, ho]
  simp only [hv, e1, e2, h]
  simp [iNe_eq]

theorem do_inv {s : S} {x : Cmd} (h : (s.do x).2 = 0) : s.valid = true ∧ proper x.tag x.op = true ∧ ((x.op = 0 ∧ (s.o.take x).2 = 0) ∨ (x.op = 1 ∧ (s.i.take x).2 = 0)) := by
  unfold S.do at h
  split at h
  · cases h
  · rename_i hv
    have hv' : s.valid = true := by simpa using hv
    split at h
    · cases h
    · rename_i hp
      simp only [Bool.or_eq_true, Bool.and_eq_true, not_or, not_and, Bool.not_eq_true', Bool.not_eq_false] at hp
      refine ⟨hv', hp.2, ?_⟩
      split at h
      · rename_i ho
        dsimp only at h
        refine .inr ⟨by simpa [iEq_eq] using ho, ?_⟩
        split at h
        · exact h
        · rename_i hn
          simpa [iNe_eq] using hn
      · rename_i ho
        dsimp only at h
        have e0 : x.op = 0 := by
          have := hp.1
          simp [iNe_eq, iEq_eq] at this ho
          by_cases h : x.op = 0
          · exact h
          · exact absurd (this h) ho
        refine .inl ⟨e0, ?_⟩
        split at h
        · exact h
        · rename_i hn
          simpa [iNe_eq] using hn

theorem tickOut_open {s : S} (ho : s.o.isOpen = true) : ∃ a : Ans, s.tickOut.2 = [a] ∧ a.tag = s.o.cmd.tag ∧ s.tickOut.1.o = ⟨false, ⟨0, 0, 0, []⟩, a⟩ ∧ (s.o.cmd.tag = s.o.last.tag → a = s.o.last ∧ s.tickOut.1.output = s.output) := by
  unfold S.tickOut
  simp only [ho, if_true]
  by_cases h : iNe s.o.cmd.tag s.o.last.tag = true
  · have w := (S.write_chan s s.o.cmd).1
    have hne : s.o.cmd.tag ≠ s.o.last.tag := by simpa [iNe_eq] using h
    simp only [h, if_true, Chan.finish, w]
    exact ⟨_, rfl, rfl, rfl, fun e => absurd e hne⟩
  · have he : s.o.cmd.tag = s.o.last.tag := by simpa [iNe_eq] using h
    have hf : iNe s.o.cmd.tag s.o.last.tag = false := by simpa using h
    simp only [hf, Bool.false_eq_true, if_false, Chan.finish]
    exact ⟨s.o.last, rfl, he.symm, rfl, fun _ => by simp⟩

theorem tickOut_shut {s : S} (ho : s.o.isOpen = false) : s.tickOut = (s, []) := by
  unfold S.tickOut
  rw [ho]
  rfl

theorem tickIn_open {s : S} (hi : s.i.isOpen = true) : (s.tickIn.2 = [] ∧ s.i.cmd.tag ≠ s.i.last.tag) ∨ ∃ a : Ans, s.tickIn.2 = [a] ∧ a.tag = s.i.cmd.tag ∧ s.tickIn.1.i = ⟨false, ⟨0, 0, 0, []⟩, a⟩ ∧ (s.i.cmd.tag = s.i.last.tag → a = s.i.last) := by
  unfold S.tickIn
  simp only [hi, if_true]
  by_cases h : iNe s.i.cmd.tag s.i.last.tag = true
  · have hne : s.i.cmd.tag ≠ s.i.last.tag := by simpa [iNe_eq] using h
    simp only [h, if_true]
    by_cases hr : (s.rd s.i.cmd).2.2 = true
    · simp only [hr, if_true, Chan.finish, h]
      exact .inr ⟨_, rfl, rfl, rfl, fun e => absurd e hne⟩
    · simp only [hr, if_false]
      exact .inl ⟨rfl, hne⟩
  · have he : s.i.cmd.tag = s.i.last.tag := by simpa [iNe_eq] using h
    have hf : iNe s.i.cmd.tag s.i.last.tag = false := by simpa using h
    simp only [hf, Bool.false_eq_true, if_false, if_true, Chan.finish]
    exact .inr ⟨s.i.last, rfl, he.symm, rfl, fun _ => rfl⟩

theorem ansOf_skip {l m : List Ans} {t : Int} (h : ∀ a ∈ l, iEq a.tag t = false) : ansOf (l ++ m) t = ansOf m t := by
  unfold ansOf
  rw [List.find?_append, List.find?_eq_none.2 (fun x hx => by simp [h x hx])]
  rfl

theorem tickOut_even {s : S} (hv : s.valid = true) {t : Int} (ht : proper t 1 = true) : ∀ a ∈ s.tickOut.2, iEq a.tag t = false := by
  intro a ha
  cases ho : s.o.isOpen with
  | false => rw [tickOut_shut ho] at ha; simp at ha
  | true =>
    obtain ⟨b, e1, e2, _⟩ := tickOut_open ho
    rw [e1] at ha
    obtain rfl := List.mem_singleton.1 ha
    obtain ⟨_, h2, _⟩ := s.valid_iff.1 hv
    unfold Chan.valid at h2
    split at h2
    · cases h2
    · simp only [ho, if_true, Bool.and_eq_true] at h2
      have h3 := h2.1
      rw [e2]
      simp only [proper, iEq_eq, iGe_eq] at h3 ht ⊢
      simp at h3 ht ⊢
      intro e
      rw [e] at h3
      omega

theorem tick_parts {s : S} (hv : s.valid = true) : s.tick = (s.arrive.1.tickOut.1.tickIn.1, s.arrive.1.tickOut.2 ++ s.arrive.1.tickOut.1.tickIn.2, s.arrive.2) := by
  unfold S.tick
  rw [hv]
  rfl

/-- What is asked of a command given again. -/
structure Once (a : S) (o : Cmd) : Prop where
  same : a.do o = (a, 0)
  miss : (ansOf a.tick.2.1 o.tag).2 = false → o.op = 1
  err : (ansOf a.tick.2.1 o.tag).2 = true → (a.tick.1.do o).2 = 0
  ans : (ansOf a.tick.2.1 o.tag).2 = true → ansOf (a.tick.1.do o).1.tick.2.1 o.tag = ansOf a.tick.2.1 o.tag
  out : (ansOf a.tick.2.1 o.tag).2 = true → iEq o.op 1 = false → (a.tick.1.do o).1.tick.1.output = a.tick.1.output

theorem once0 {a : S} {o : Cmd} (hv : a.valid = true) (hp : proper o.tag o.op = true) (h0 : o.op = 0) (ho : a.o.isOpen = true) (ht : a.o.cmd.tag = o.tag) : Once a o := by
  have hs : a.do o = (a, 0) := by
    rw [do0 hv hp h0 (by rw [take_again ho ht]), take_again ho ht]
  obtain ⟨r1, r2, r3, _⟩ := a.arrive_rest
  obtain ⟨x, e1, e2, e3, _⟩ := tickOut_open (s := a.arrive.1) (by rw [r2]; exact ho)
  rw [r2, ht] at e2
  have hf : ansOf a.tick.2.1 o.tag = (x, true) := by
    rw [tick_parts hv, e1, ← e2]
    exact ansOf_head x _
  have ho2 : a.tick.1.o = ⟨false, ⟨0, 0, 0, []⟩, x⟩ := by
    rw [tick_parts hv]
    show (a.arrive.1.tickOut.1.tickIn.1).o = _
    rw [tickIn_o, e3]
  have hv2 := S.tick_valid a
  suffices H : ((ansOf a.tick.2.1 o.tag).2 = false → o.op = 1) ∧ ((ansOf a.tick.2.1 o.tag).2 = true → (a.tick.1.do o).2 = 0) ∧
      ((ansOf a.tick.2.1 o.tag).2 = true → ansOf (a.tick.1.do o).1.tick.2.1 o.tag = ansOf a.tick.2.1 o.tag) ∧
      ((ansOf a.tick.2.1 o.tag).2 = true → iEq o.op 1 = false → (a.tick.1.do o).1.tick.1.output = a.tick.1.output) from ⟨hs, H.1, H.2.1, H.2.2.1, H.2.2.2⟩
  generalize a.tick = t at *
  have td : t.1.o.take o = (⟨true, ⟨o.tag, 0, 0, []⟩, x⟩, 0) := by
    rw [take_done (by rw [ho2]) (by rw [ho2]; exact e2), ho2]
  have ed : t.1.do o = ({ t.1 with o := ⟨true, ⟨o.tag, 0, 0, []⟩, x⟩ }, 0) := by
    rw [do0 hv2 hp h0 (by rw [td]), td]
  have hv3 : (t.1.do o).1.valid = true := S.do_valid (by rw [ed])
  have eo : (t.1.do o).1.o = ⟨true, ⟨o.tag, 0, 0, []⟩, x⟩ := by rw [ed]
  have eu : (t.1.do o).1.output = t.1.output := by rw [ed]
  have ee : (t.1.do o).2 = 0 := by rw [ed]
  clear ed
  generalize t.1.do o = d at *
  obtain ⟨s1, s2, s3, _⟩ := d.1.arrive_rest
  obtain ⟨y, f1, f2, f3, f4⟩ := tickOut_open (s := d.1.arrive.1) (by rw [s2, eo])
  rw [s2, eo] at f2 f4
  obtain ⟨f5, f6⟩ := f4 (by show o.tag = x.tag; exact e2.symm)
  subst f5
  refine ⟨fun h => (by rw [hf] at h; cases h), fun _ => ee, fun _ => ?_, fun _ _ => ?_⟩
  · rw [hf, tick_parts hv3, f1, ← e2]
    exact ansOf_head y _
  · rw [tick_parts hv3]
    show (d.1.arrive.1.tickOut.1.tickIn.1).output = _
    rw [tickIn_output, f6, s1, eu]

theorem once1 {a : S} {o : Cmd} (hv : a.valid = true) (hp : proper o.tag o.op = true) (h0 : o.op = 1) (ho : a.i.isOpen = true) (ht : a.i.cmd.tag = o.tag) : Once a o := by
  have hs : a.do o = (a, 0) := by
    rw [do1 hv hp h0 (by rw [take_again ho ht]), take_again ho ht]
  have hp1 : proper o.tag 1 = true := by rw [← h0]; exact hp
  obtain ⟨r1, r2, r3, _⟩ := a.arrive_rest
  have hv1 := S.arrive_valid hv
  have hsk := tickOut_even hv1 hp1
  have q := S.tickOut_rest a.arrive.1
  have hi : a.arrive.1.tickOut.1.i.isOpen = true := by rw [q.2, r3]; exact ho
  have hit : a.arrive.1.tickOut.1.i.cmd.tag = o.tag := by rw [q.2, r3]; exact ht
  have ef : ansOf a.tick.2.1 o.tag = ansOf a.arrive.1.tickOut.1.tickIn.2 o.tag := by
    rw [tick_parts hv]
    exact ansOf_skip hsk
  rcases tickIn_open hi with ⟨e1, _⟩ | ⟨x, e1, e2, e3, _⟩
  · rw [e1] at ef
    have hf : (ansOf a.tick.2.1 o.tag).2 = false := by rw [ef]; rfl
    exact ⟨hs, fun _ => h0, fun h => (by rw [hf] at h; cases h), fun h => (by rw [hf] at h; cases h), fun h => (by rw [hf] at h; cases h)⟩
  · rw [hit] at e2
    have hf : ansOf a.tick.2.1 o.tag = (x, true) := by
      rw [ef, e1, ← e2]
      exact ansOf_head x _
    have hi2 : a.tick.1.i = ⟨false, ⟨0, 0, 0, []⟩, x⟩ := by
      rw [tick_parts hv]
      exact e3
    have hv2 := S.tick_valid a
    clear ef
    suffices H : ((ansOf a.tick.2.1 o.tag).2 = false → o.op = 1) ∧ ((ansOf a.tick.2.1 o.tag).2 = true → (a.tick.1.do o).2 = 0) ∧
        ((ansOf a.tick.2.1 o.tag).2 = true → ansOf (a.tick.1.do o).1.tick.2.1 o.tag = ansOf a.tick.2.1 o.tag) ∧
        ((ansOf a.tick.2.1 o.tag).2 = true → iEq o.op 1 = false → (a.tick.1.do o).1.tick.1.output = a.tick.1.output) from ⟨hs, H.1, H.2.1, H.2.2.1, H.2.2.2⟩
    generalize a.tick = t at *
    have td : t.1.i.take o = (⟨true, ⟨o.tag, 0, 0, []⟩, x⟩, 0) := by
      rw [take_done (by rw [hi2]) (by rw [hi2]; exact e2), hi2]
    have ed : t.1.do o = ({ t.1 with i := ⟨true, ⟨o.tag, 0, 0, []⟩, x⟩ }, 0) := by
      rw [do1 hv2 hp h0 (by rw [td]), td]
    have hv3 : (t.1.do o).1.valid = true := S.do_valid (by rw [ed])
    have ei : (t.1.do o).1.i = ⟨true, ⟨o.tag, 0, 0, []⟩, x⟩ := by rw [ed]
    have ee : (t.1.do o).2 = 0 := by rw [ed]
    clear ed
    generalize t.1.do o = d at *
    obtain ⟨s1, s2, s3, _⟩ := d.1.arrive_rest
    have hv4 := S.arrive_valid hv3
    have q' := S.tickOut_rest d.1.arrive.1
    have hj : d.1.arrive.1.tickOut.1.i = ⟨true, ⟨o.tag, 0, 0, []⟩, x⟩ := by rw [q'.2, s3, ei]
    refine ⟨fun h => (by rw [hf] at h; cases h), fun _ => ee, fun _ => ?_, fun _ h => ?_⟩
    · rw [hf, tick_parts hv3]
      show ansOf (d.1.arrive.1.tickOut.2 ++ _) _ = _
      rw [ansOf_skip (tickOut_even hv4 hp1)]
      rcases tickIn_open (s := d.1.arrive.1.tickOut.1) (by rw [hj]) with ⟨_, f2⟩ | ⟨y, f1, f2, f3, f4⟩
      · rw [hj] at f2
        exact absurd e2.symm f2
      · rw [hj] at f4
        have f5 := f4 e2.symm
        subst f5
        rw [f1, ← e2]
        exact ansOf_head y _
    · simp [h0, iEq_eq] at h

theorem once_law {s : S} {c : Cmd} (he : (s.do c).2 = 0) (p : Int) (d : List UInt8) : Once (s.do c).1 ⟨c.tag, c.op, p, d⟩ := by
  obtain ⟨hv, hp, h⟩ := do_inv he
  have hv2 := S.do_valid he
  rcases h with ⟨h0, h1⟩ | ⟨h0, h1⟩
  · have e := do0 hv hp h0 h1
    obtain ⟨h2, h3⟩ := take_open h1
    exact once0 hv2 hp h0 (by rw [e]; exact h2) (by rw [e]; exact h3)
  · have e := do1 hv hp h0 h1
    obtain ⟨h2, h3⟩ := take_open h1
    exact once1 hv2 hp h0 (by rw [e]; exact h2) (by rw [e]; exact h3)

end Go.Proofs.Ytcmgioaggmaclaa
