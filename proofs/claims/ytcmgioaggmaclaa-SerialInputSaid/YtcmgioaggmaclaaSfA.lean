/- Serial, part AA: what a Write does, plainly. -/
import Derived.Test.YtcmgioaggmaclaaSerW
namespace Go.Proofs.Ytcmgioaggmaclaa
open Go Go.Sx
set_option maxRecDepth 100000
set_option maxHeartbeats 2000000
set_option linter.unusedVariables false
set_option linter.unusedSimpArgs false

/-- The output behind a Write, and its answer. -/
def wo (out : List UInt8) (place : Int) (data : List UInt8) : List UInt8 × Int :=
  if iLt data.length 1 || iGt data.length 128 then (out, -1)
  else if (iLt place 0 || iGt place out.length) || iGt (IntKind.i64.wrap (place + data.length)) 100000 then (out, -2)
  else if iGt (IntKind.i64.wrap (place + data.length)) out.length then
    (out ++ data.drop (out.length - place.toNat), ((out ++ data.drop (out.length - place.toNat)).length : Int))
  else (out, (out.length : Int))

theorem write_wo (s : S) (c : Cmd) : (s.write c).1.output = (wo s.output c.place c.data).1 ∧ (s.write c).2 = (wo s.output c.place c.data).2 := by
  unfold S.write wo
  repeat' split
  all_goals exact ⟨rfl, rfl⟩

theorem wo_grows (out : List UInt8) (p : Int) (d : List UInt8) : ∃ m, (wo out p d).1 = out ++ m := by
  unfold wo
  repeat' split
  · exact ⟨[], by simp⟩
  · exact ⟨[], by simp⟩
  · exact ⟨_, rfl⟩
  · exact ⟨[], by simp⟩

theorem wo_first {out d : List UInt8} (h1 : 1 ≤ d.length) (h2 : d.length ≤ 128) (h3 : out.length ≤ 1000) : wo out out.length d = (out ++ d, (out.length : Int) + d.length) := by
  unfold wo
  rw [wrap_i64 (by omega)]
  have e1 : (iLt (d.length : Int) 1 || iGt (d.length : Int) 128) = false := by simp [iLt_eq, iGt_eq]; omega
  have e2 : ((iLt (out.length : Int) 0 || iGt (out.length : Int) out.length) || iGt ((out.length : Int) + d.length) 100000) = false := by simp [iLt_eq, iGt_eq]; omega
  have e3 : iGt ((out.length : Int) + d.length) out.length = true := by simp [iGt_eq]; omega
  rw [e1, e2, e3]
  simp

theorem wo_again {out d : List UInt8} (h1 : 1 ≤ d.length) (h2 : d.length ≤ 128) (h3 : out.length ≤ 1000) : wo (out ++ d) out.length d = (out ++ d, (out.length : Int) + d.length) := by
  unfold wo
  rw [wrap_i64 (by omega)]
  have e1 : (iLt (d.length : Int) 1 || iGt (d.length : Int) 128) = false := by simp [iLt_eq, iGt_eq]; omega
  have e2 : ((iLt (out.length : Int) 0 || iGt (out.length : Int) (out ++ d).length) || iGt ((out.length : Int) + d.length) 100000) = false := by simp [iLt_eq, iGt_eq]; omega
  have e3 : iGt ((out.length : Int) + d.length) (out ++ d).length = false := by simp [iGt_eq]
  rw [e1, e2, e3]
  simp

theorem ansOf_head (a : Ans) (l : List Ans) : ansOf (a :: l) a.tag = (a, true) := by simp [ansOf, iEq_eq]

/-- A command given and one tick: what a Write leaves. -/
structure Put (s : S) (t place : Int) (data : List UInt8) : Prop where
  err : (s.do ⟨t, 0, place, data⟩).2 = 0
  valid : (s.do ⟨t, 0, place, data⟩).1.tick.1.valid = true
  shut : (s.do ⟨t, 0, place, data⟩).1.tick.1.o.isOpen = false
  tag : (s.do ⟨t, 0, place, data⟩).1.tick.1.o.last.tag = t
  out : (s.do ⟨t, 0, place, data⟩).1.tick.1.output = (wo s.output place data).1
  ans : ansOf (s.do ⟨t, 0, place, data⟩).1.tick.2.1 t = (⟨t, (wo s.output place data).2, []⟩, true)

theorem tickIn_output (s : S) : s.tickIn.1.output = s.output := by
  unfold S.tickIn
  split
  · generalize (if iNe s.i.cmd.tag s.i.last.tag then s.rd s.i.cmd else (0, [], true)) = r
    dsimp only
    split <;> rfl
  · rfl

theorem put_law {s : S} (hv : s.valid = true) (ho : s.o.isOpen = false) {t place : Int} {data : List UInt8} (hp : proper t 0 = true) (ht : s.o.last.tag < t) : Put s t place data := by
  have ed : s.do ⟨t, 0, place, data⟩ = ({ s with o := ⟨true, ⟨t, 0, place, data⟩, s.o.last⟩ }, 0) := by
    unfold S.do
    have e1 : ((iNe (0 : Int) 0 && iNe (0 : Int) 1) || !proper t 0) = false := by simp [iNe_eq, hp]
    have e2 : iEq (0 : Int) 1 = false := by simp [iEq_eq]
    have e3 : s.o.take ⟨t, 0, place, data⟩ = (⟨true, ⟨t, 0, place, data⟩, s.o.last⟩, 0) := by
      unfold Chan.take
      have h1 : iLt t s.o.last.tag = false := by simp [iLt_eq]; omega
      have h2 : iEq t s.o.last.tag = false := by simp [iEq_eq]; omega
      simp [ho, h1, h2]
    simp only [hv, e1, e2, e3]
    simp [iNe_eq]
  have hdv : (s.do ⟨t, 0, place, data⟩).1.valid = true := S.do_valid (by rw [ed])
  have htv := S.tick_valid (s.do ⟨t, 0, place, data⟩).1
  obtain ⟨u, hu⟩ : ∃ u, u = (s.do ⟨t, 0, place, data⟩).1 := ⟨_, rfl⟩
  have hu1 : u.o = ⟨true, ⟨t, 0, place, data⟩, s.o.last⟩ := by rw [hu, ed]
  have hu2 : u.output = s.output := by rw [hu, ed]
  rw [← hu] at hdv htv
  obtain ⟨a1, a2, a3, _⟩ := u.arrive_rest
  have hne : iNe t s.o.last.tag = true := by simp [iNe_eq]; omega
  have eo : u.arrive.1.tickOut = ({ (u.arrive.1.write ⟨t, 0, place, data⟩).1 with o := ⟨false, ⟨0, 0, 0, []⟩, ⟨t, (wo s.output place data).2, []⟩⟩ }, [⟨t, (wo s.output place data).2, []⟩]) := by
    unfold S.tickOut
    have w := write_wo u.arrive.1 ⟨t, 0, place, data⟩
    rw [a1, hu2] at w
    have w3 := (S.write_chan u.arrive.1 ⟨t, 0, place, data⟩).1
    rw [a2, hu1] at w3
    simp only [a2, hu1, if_true, hne, Chan.finish, w3, w.2]
  have w := write_wo u.arrive.1 ⟨t, 0, place, data⟩
  rw [a1, hu2] at w
  have et : u.tick = (u.arrive.1.tickOut.1.tickIn.1, u.arrive.1.tickOut.2 ++ u.arrive.1.tickOut.1.tickIn.2, u.arrive.2) := by
    unfold S.tick
    rw [hdv]
    rfl
  refine ⟨by rw [ed], by rw [← hu]; exact htv, ?_, ?_, ?_, ?_⟩
  · rw [← hu, et]
    show (u.arrive.1.tickOut.1.tickIn.1).o.isOpen = false
    rw [tickIn_o, eo]
  · rw [← hu, et]
    show (u.arrive.1.tickOut.1.tickIn.1).o.last.tag = t
    rw [tickIn_o, eo]
  · rw [← hu, et]
    show (u.arrive.1.tickOut.1.tickIn.1).output = _
    rw [tickIn_output, eo]
    exact w.1
  · rw [← hu, et]
    show ansOf (u.arrive.1.tickOut.2 ++ _) t = _
    rw [eo]
    exact ansOf_head ⟨t, _, []⟩ _

theorem next_tag {s : S} (hv : s.valid = true) (ho : s.o.isOpen = false) : 0 ≤ s.o.last.tag ∧ proper (s.o.last.tag + 2) 0 = true := by
  obtain ⟨_, h2, _⟩ := s.valid_iff.1 hv
  unfold Chan.valid at h2
  split at h2
  · cases h2
  · rename_i h
    simp [proper, iNe_eq, iEq_eq, iGe_eq] at h
    by_cases h0 : s.o.last.tag = 0
    · rw [h0]
      exact ⟨by omega, by decide +kernel⟩
    · have := h h0
      simp [proper, iEq_eq, iGe_eq]
      have e : (s.o.last.tag + 2).tmod 2 = s.o.last.tag.tmod 2 := by
        rw [Int.tmod_eq_emod_of_nonneg (by omega), Int.tmod_eq_emod_of_nonneg (by omega)]
        omega
      rw [e]
      omega

end Go.Proofs.Ytcmgioaggmaclaa
