/- Serial, part D: the methods that change a state. -/
import Derived.Test.YtcmgioaggmaclaaSerC
namespace Go.Proofs.Ytcmgioaggmaclaa
open Go Go.Sx
set_option maxRecDepth 100000
set_option maxHeartbeats 2000000
set_option linter.unusedVariables false

def S.arrive (s : S) : S × List UInt8 :=
  if iGt s.pause 0 then ({ s with pause := s.pause - 1 }, [])
  else if iEq s.pos s.input.length then (s, [])
  else
    let c := s.input.getD s.pos.toNat 0
    if 128 ≤ c.toNat then ({ s with pos := s.pos + 1, pause := (c.toNat : Int) - 128 }, [])
    else ({ s with pos := s.pos + 1, got := s.got ++ [c] }, [c])

structure S.Va (s : S) : Prop where
  inp : s.input.length ≤ 4000
  pos : 0 ≤ s.pos
  le : s.pos ≤ s.input.length
  pause : 0 ≤ s.pause
  lt : s.pause < 128
  got : s.got.length ≤ s.pos
  out : s.output.length ≤ 100000

/-- A state's cells with new handles, and bytes. -/
def RelSB (s : S) (l : List UInt8) (v : Value) (c : List Value) (F : Fx) : Prop :=
  ∃ (h : SH) (k : Hd), c = s.cells h ∧ v = k.v l.length ∧ h.Ok s ∧ k.Ok l.length ∧ h.out.c = s.output.length ∧ F = ⟨fun w => h.By s w ∧ By w k l, []⟩

theorem and128 : ∀ x : UInt8, (Sx.bits .and .u8 (x.toNat : Int) 128 = 0 ↔ x.toNat < 128) ∧ (128 ≤ x.toNat → IntKind.i64.wrap (Sx.bits .andNot .u8 (x.toNat : Int) 128) = (x.toNat : Int) - 128) := by
  have h : ∀ n : Fin 256, (Sx.bits .and .u8 (n.val : Int) 128 = 0 ↔ n.val < 128) ∧ (128 ≤ n.val → IntKind.i64.wrap (Sx.bits .andNot .u8 (n.val : Int) 128) = (n.val : Int) - 128) := by decide +kernel
  intro x
  exact h ⟨x.toNat, x.toNat_lt⟩

theorem arrive_spec (s : S) (h : SH) (hh : h.Ok s) (hv : s.Va) (hg : h.got.c = s.got.length) (ho : h.out.c = s.output.length) :
    PtrSpec Try.prog 32 [] [] (s.cells h) (h.By s) (RelSB s.arrive.1 s.arrive.2) := by
  refine PtrSpec.of_xc tabOk Try.func32 rfl (by decide) (n := Try.f32.ntmps - 1) rfl rfl fun w0 av b o => ?_
  conv => whnf
  refine XIf.split (fun h1 => ?_) (fun h1 => ?_)
  · conv => whnf
    have e : s.arrive = ({ s with pause := s.pause - 1 }, []) := by simp [S.arrive, h1]
    rw [e]
    have hp : 0 < s.pause := by simpa [iGt_eq] using h1
    rw [wrap_i64 (by have := hv.lt; omega)]
    exact ⟨⟨rfl, rfl, rfl⟩, ⟨fun w => h.By { s with pause := s.pause - 1 } w ∧ By w Hd.nil [], []⟩, Ent.imp fun w hw => ⟨⟨hw.inp, hw.got, hw.out, hw.o, hw.i⟩, By.nil w⟩, h, Hd.nil, rfl, rfl, ⟨hh.inp, hh.got, hh.out, hh.o, hh.i⟩, Hd.nil_ok, ho, rfl⟩
  · conv => whnf
    refine XStop.draw tabOk mixed rfl rfl ?_
    conv => whnf
    refine XIf.split (fun h2 => ?_) (fun h2 => ?_)
    · conv => whnf
      have e : s.arrive = (s, []) := by simp [S.arrive, h1, h2]
      rw [e]
      exact ⟨⟨rfl, rfl, rfl⟩, ⟨fun w => h.By s w ∧ By w Hd.nil [], []⟩, Ent.imp fun w hw => ⟨hw, By.nil w⟩, h, Hd.nil, rfl, rfl, hh, Hd.nil_ok, ho, rfl⟩
    · conv => whnf
      refine XStop.draw tabOk mixed rfl rfl ?_
      conv => whnf
      have hlt : s.pos.toNat < s.input.length := by
        have : ¬ s.pos = s.input.length := by simpa [iEq_eq] using h2
        have := hv.le
        have := hv.pos
        omega
      have hc : s.input.getD s.pos.toNat 0 = s.input[s.pos.toNat] := by simp [hlt]
      have hw1 : IntKind.i64.wrap (s.pos + 1) = s.pos + 1 := wrap_i64 (by have := hv.pos; have := hv.le; have := hv.inp; omega)
      refine XRead.byteAt tabOk (t := 22) rfl rfl rfl rfl s.pos.toNat (by have := hv.pos; omega) hlt hh.inp fun ad had => ?_
      conv => whnf
      refine XRead.byteLd tabOk (t := 5) rfl rfl had (Sees.fact fun w h => h.inp) hlt ?_
      conv => whnf
      refine XIf.split (fun h3 => ?_) (fun h3 => ?_)
      · conv => whnf
        have hb : 128 ≤ s.input[s.pos.toNat].toNat := by
          have h4 : ¬ Sx.bits .and .u8 (s.input[s.pos.toNat].toNat : Int) 128 = 0 := by simpa [iNe_eq] using h3
          have := (and128 s.input[s.pos.toNat]).1
          omega
        rw [hw1, (and128 s.input[s.pos.toNat]).2 hb]
        have e : s.arrive = ({ s with pos := s.pos + 1, pause := (s.input[s.pos.toNat].toNat : Int) - 128 }, []) := by
          simp only [S.arrive, h1, h2, hc, hb, if_true, Bool.false_eq_true, if_false]
        rw [e]
        exact ⟨⟨rfl, rfl, rfl⟩, ⟨fun w => h.By { s with pos := s.pos + 1, pause := (s.input[s.pos.toNat].toNat : Int) - 128 } w ∧ By w Hd.nil [], []⟩, Ent.imp fun w hw => ⟨⟨hw.inp, hw.got, hw.out, hw.o, hw.i⟩, By.nil w⟩, h, Hd.nil, rfl, rfl, ⟨hh.inp, hh.got, hh.out, hh.o, hh.i⟩, Hd.nil_ok, ho, rfl⟩
      · conv => whnf
        have hb : ¬ 128 ≤ s.input[s.pos.toNat].toNat := by
          have h4 : Sx.bits .and .u8 (s.input[s.pos.toNat].toNat : Int) 128 = 0 := by simpa [iNe_eq] using h3
          have := (and128 s.input[s.pos.toNat]).1
          omega
        refine XVal.build tabOk (t := 22) rfl rfl rfl [byteV s.input[s.pos.toNat]] rfl rfl (by simp [byteV, Value.cells]) (by decide) fun b1 => ?_
        conv => whnf
        refine XVal.appendNew tabOk (t := 22) (xt := 22) rfl rfl rfl rfl rfl rfl (L := s.got.map byteV) (M := [byteV s.input[s.pos.toNat]]) (Sees.fact fun w h => h.got) (by simp) (Sees.row (by simp [byteV, Value.cells])) (by simp) (by omega) (by have := hv.got; have := hv.le; have := hv.inp; omega) (by have := hv.got; have := hv.le; have := hv.inp; simp; omega) fun b2 cap' C' hO => ?_
        conv => whnf
        refine XVal.build tabOk (t := 22) rfl rfl rfl [byteV s.input[s.pos.toNat]] rfl rfl (by simp [byteV, Value.cells]) (by decide) fun b3 => ?_
        conv => whnf
        rw [hw1]
        have e : s.arrive = ({ s with pos := s.pos + 1, got := s.got ++ [s.input[s.pos.toNat]] }, [s.input[s.pos.toNat]]) := by
          simp only [S.arrive, h1, h2, hc, hb, Bool.false_eq_true, if_false]
        rw [e]
        have hO' : Own 1 (s.got.length + 1) (some ⟨b2, 0, none⟩) cap' C' (s.got.map byteV ++ [byteV s.input[s.pos.toNat]]) := hO
        refine ⟨⟨rfl, rfl, rfl⟩, ⟨fun w => SH.By ⟨h.inp, ⟨some ⟨b2, 0, none⟩, cap'⟩, h.out, h.o, h.i⟩ { s with pos := s.pos + 1, got := s.got ++ [s.input[s.pos.toNat]] } w ∧ By w ⟨some ⟨b3, 0, none⟩, 1⟩ [s.input[s.pos.toNat]], []⟩,
          Ent.shareAll.trans (Ent.imp fun w hw => ?_), ⟨h.inp, ⟨some ⟨b2, 0, none⟩, cap'⟩, h.out, h.o, h.i⟩, ⟨some ⟨b3, 0, none⟩, 1⟩, ?_, rfl, ⟨hh.inp, ?_, hh.out, hh.o, hh.i⟩, ⟨(fun h => by cases h), Nat.le_refl _⟩, ho, rfl⟩
        · obtain ⟨hw, r1, r2, r3, _⟩ := hw
          refine ⟨⟨hw.inp, ?_, hw.out, hw.o, hw.i⟩, r3⟩
          have := hO'.row r2
          simpa [By] using this
        · simp [S.cells]
        · have := hO'.hd
          simpa using this

end Go.Proofs.Ytcmgioaggmaclaa
