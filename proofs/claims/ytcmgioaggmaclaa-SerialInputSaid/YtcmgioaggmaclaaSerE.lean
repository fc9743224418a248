/- Serial, part E: write, read. -/
import Derived.Test.YtcmgioaggmaclaaSerD
namespace Go.Proofs.Ytcmgioaggmaclaa
open Go Go.Sx
set_option maxRecDepth 100000
set_option maxHeartbeats 2000000
set_option linter.unusedVariables false

def S.write (s : S) (c : Cmd) : S × Int :=
  if iLt c.data.length 1 || iGt c.data.length 128 then (s, -1)
  else if (iLt c.place 0 || iGt c.place s.output.length) || iGt (IntKind.i64.wrap (c.place + c.data.length)) 100000 then (s, -2)
  else if iGt (IntKind.i64.wrap (c.place + c.data.length)) s.output.length then
    ({ s with output := s.output ++ c.data.drop (s.output.length - c.place.toNat) }, ((s.output ++ c.data.drop (s.output.length - c.place.toNat)).length : Int))
  else (s, (s.output.length : Int))

/-- A state's cells with new handles, and a number. -/
def RelSI (s : S) (n : Int) (v : Value) (c : List Value) (F : Fx) : Prop := ∃ h : SH, c = s.cells h ∧ v = .int .i64 n ∧ h.Ok s ∧ F = ⟨h.By s, []⟩

theorem write_spec (s : S) (h : SH) (hh : h.Ok s) (hv : s.output.length ≤ 100000) (ho : h.out.c = s.output.length) (c : Cmd) (k : Hd) (hk : k.Ok c.data.length) (hc : c.data.length ≤ 1000000) :
    PtrSpec Try.prog 33 [] [.agg ⟨c.cells k⟩] (s.cells h) (fun w => h.By s w ∧ By w k c.data) (RelSI (s.write c).1 (s.write c).2) := by
  refine PtrSpec.of_xc tabOk Try.func33 rfl (by decide) (n := Try.f33.ntmps - 2) rfl rfl fun w0 av b o => ?_
  conv => whnf
  intro b1
  conv => whnf
  refine XSame.of ?_
  conv => whnf
  refine XIf.split (fun h1 => ?_) (fun h1 => ?_)
  · conv => whnf
    have e : s.write c = (s, -1) := by simp only [S.write, h1, if_true]
    rw [e]
    exact ⟨⟨rfl, rfl, rfl⟩, ⟨h.By s, []⟩, Ent.imp fun w hw => hw.1, h, rfl, rfl, hh, rfl⟩
  · conv => whnf
    refine XSame.of ?_
    conv => whnf
    refine XSame.of ?_
    conv => whnf
    refine XIf.split (fun h2 => ?_) (fun h2 => ?_)
    · conv => whnf
      have e : s.write c = (s, -2) := by simp only [S.write, h1, h2, Bool.false_eq_true, if_false, if_true]
      rw [e]
      exact ⟨⟨rfl, rfl, rfl⟩, ⟨h.By s, []⟩, Ent.imp fun w hw => hw.1, h, rfl, rfl, hh, rfl⟩
    · conv => whnf
      have hp : (0 ≤ c.place ∧ c.place ≤ s.output.length) ∧ IntKind.i64.wrap (c.place + c.data.length) ≤ 100000 := by
        simp [iLt_eq, iGt_eq] at h2
        omega
      have hwr : IntKind.i64.wrap (c.place + c.data.length) = c.place + c.data.length := wrap_i64 (by omega)
      refine XIf.split (fun h3 => ?_) (fun h3 => ?_)
      · conv => whnf
        have h3' : (s.output.length : Int) < c.place + c.data.length := by
          have := h3
          rw [hwr] at this
          simpa [iGt_eq] using this
        refine XStop.draw tabOk mixed rfl rfl ?_
        conv => whnf
        have hwd : IntKind.i64.wrap (s.output.length - c.place) = s.output.length - c.place := wrap_i64 (by omega)
        refine XRead.slice tabOk (t := 22) rfl rfl rfl (lo := some (IntKind.i64.wrap (s.output.length - c.place))) (hi := none) (mx := none) (k2 := .i64) (k3 := .i64) (s.output.length - c.place.toNat) c.data.length k.c
          (by simp only [Option.getD_some, hwd]; omega) rfl rfl (by omega) hk.cap (Nat.le_refl _) (by simp) ?_
        conv => whnf
        have hcut : ∀ w, By w k c.data → RowAt w (cutA k.a (s.output.length - c.place.toNat) k.c 1) ((c.data.drop (s.output.length - c.place.toNat)).map byteV) := fun w hw => by
          have := RowAt.cut hw (l := s.output.length - c.place.toNat) (hi := c.data.length) (m := k.c) (size := 1) ⟨by omega, hk.cap⟩
          simpa [List.map_drop, List.take_of_length_le] using this
        refine XVal.appendNew tabOk (t := 22) (xt := 22) rfl rfl rfl rfl rfl rfl (L := s.output.map byteV) (M := (c.data.drop (s.output.length - c.place.toNat)).map byteV) (Sees.fact fun w h => h.1.out) (by simp) (Sees.fact fun w h => hcut w h.2) (by simp) (by omega) (by omega) (by simp; omega) fun b2 cap' C' hO => ?_
        conv => whnf
        repeat (refine XKeep.of ?_; conv => whnf)
        have hO' : Own 1 (s.output.length + (c.data.length - (s.output.length - c.place.toNat))) (some ⟨b2, 0, none⟩) cap' C' (s.output.map byteV ++ (c.data.drop (s.output.length - c.place.toNat)).map byteV) := hO
        have e : s.write c = ({ s with output := s.output ++ c.data.drop (s.output.length - c.place.toNat) }, ((s.output ++ c.data.drop (s.output.length - c.place.toNat)).length : Int)) := by
          simp only [S.write, h1, h2, h3, Bool.false_eq_true, if_false, if_true]
        rw [e]
        have hl : (s.output ++ c.data.drop (s.output.length - c.place.toNat)).length = s.output.length + (c.data.length - (s.output.length - c.place.toNat)) := by simp
        refine ⟨⟨rfl, rfl, rfl⟩, ⟨SH.By ⟨h.inp, h.got, ⟨some ⟨b2, 0, none⟩, cap'⟩, h.o, h.i⟩ { s with output := s.output ++ c.data.drop (s.output.length - c.place.toNat) }, []⟩,
          Ent.shareAll.trans (Ent.imp fun w hw => ?_), ⟨h.inp, h.got, ⟨some ⟨b2, 0, none⟩, cap'⟩, h.o, h.i⟩, ?_, ?_, ⟨hh.inp, hh.got, ?_, hh.o, hh.i⟩, rfl⟩
        · obtain ⟨hw, r1, _⟩ := hw
          refine ⟨hw.1.inp, hw.1.got, ?_, hw.1.o, hw.1.i⟩
          have := hO'.row r1
          simpa [By] using this
        · simp [S.cells]
        · rw [hl]
        · have := hO'.hd
          rw [← hl] at this
          exact this
      · conv => whnf
        have e : s.write c = (s, (s.output.length : Int)) := by simp only [S.write, h1, h2, h3, Bool.false_eq_true, if_false]
        rw [e]
        exact ⟨⟨rfl, rfl, rfl⟩, ⟨h.By s, []⟩, Ent.imp fun w hw => hw.1, h, rfl, rfl, hh, rfl⟩

end Go.Proofs.Ytcmgioaggmaclaa
