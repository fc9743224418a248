/- Serial, part L: the reference's arrive. -/
import Derived.Test.YtcmgioaggmaclaaSerK
namespace Go.Proofs.Ytcmgioaggmaclaa
open Go Go.Sx
set_option maxRecDepth 100000
set_option maxHeartbeats 2000000
set_option linter.unusedVariables false
set_option linter.unusedSimpArgs false

theorem ans_row {w : World} {b : Nat} {a : Ans} {k : Hd} (h : RowAt w (some ⟨b, 0, none⟩) ([Value.agg ⟨a.cells k⟩].flatMap (·.cells.toList))) : RowAt w (some ⟨b, 0, none⟩) (ansCells [(a, k)]) := by
  simp [Value.cells] at h
  simpa [ansCells] using h

/-- A reference state, and bytes. -/
def RelRA (s : S) (lo li : Int) (l : List UInt8) (v : Value) (F : Fx) : Prop :=
  ∃ (h : SH) (k : Hd), v = .tuple #[.agg ⟨s.rcells lo li h⟩, k.v l.length] ∧ h.Ok s ∧ k.Ok l.length ∧ F = ⟨fun w => h.By s w ∧ By w k l, []⟩

theorem rarrive_spec (s : S) (lo li : Int) (h : SH) (hh : h.Ok s) (hv : s.Va) :
    PureSpec Try.prog 37 [.agg ⟨s.rcells lo li h⟩] (h.By s) (RelRA s.arrive.1 lo li s.arrive.2) := by
  refine PureSpec.of_xc tabOk Try.func37 rfl (by decide) (n := Try.f37.ntmps - 1) rfl rfl fun w0 av => ?_
  conv => whnf
  intro b1
  conv => whnf
  intro b2
  conv => whnf
  refine XIf.split (fun h1 => ?_) (fun h1 => ?_)
  · conv => whnf
    have e : s.arrive = ({ s with pause := s.pause - 1 }, []) := by simp [S.arrive, h1]
    rw [e]
    have hp : 0 < s.pause := by simpa [iGt_eq] using h1
    rw [wrap_i64 (by have := hv.lt; omega)]
    exact ⟨⟨fun w => h.By { s with pause := s.pause - 1 } w ∧ By w Hd.nil [], []⟩, Ent.imp fun w hw => ⟨⟨hw.inp, hw.got, hw.out, hw.o, hw.i⟩, By.nil w⟩, h, Hd.nil, rfl, ⟨hh.inp, hh.got, hh.out, hh.o, hh.i⟩, Hd.nil_ok, rfl⟩
  · conv => whnf
    try (refine XStop.draw tabOk mixed rfl rfl ?_; conv => whnf)
    refine XIf.split (fun h2 => ?_) (fun h2 => ?_)
    · conv => whnf
      have e : s.arrive = (s, []) := by simp [S.arrive, h1, h2]
      rw [e]
      exact ⟨⟨fun w => h.By s w ∧ By w Hd.nil [], []⟩, Ent.imp fun w hw => ⟨hw, By.nil w⟩, h, Hd.nil, rfl, hh, Hd.nil_ok, rfl⟩
    · conv => whnf
      try (refine XStop.draw tabOk mixed rfl rfl ?_; conv => whnf)
      have hlt : s.pos.toNat < s.input.length := by
        have : ¬ s.pos = s.input.length := by simpa [iEq_eq] using h2
        have := hv.le
        have := hv.pos
        omega
      have hc : s.input.getD s.pos.toNat 0 = s.input[s.pos.toNat] := by simp [hlt]
      have hw1 : IntKind.i64.wrap (s.pos + 1) = s.pos + 1 := wrap_i64 (by have := hv.pos; have := hv.le; have := hv.inp; omega)
      refine XVal.of_read ?_
      refine XRead.byteAt tabOk (t := 22) rfl rfl rfl rfl s.pos.toNat (by have := hv.pos; omega) hlt hh.inp fun ad had => ?_
      conv => whnf
      refine XVal.of_read ?_
      refine XRead.byteLd tabOk (t := 5) rfl rfl had (Sees.fact fun w h => h.inp) hlt ?_
      conv => whnf
      have h256 := s.input[s.pos.toNat].toNat_lt
      refine XIf.split (fun h3 => ?_) (fun h3 => ?_)
      · conv => whnf
        have hb : 128 ≤ s.input[s.pos.toNat].toNat := by
          have : (128 : Int) ≤ s.input[s.pos.toNat].toNat := by simpa [iGe_eq] using h3
          omega
        have hw2 : IntKind.i64.wrap (IntKind.i64.wrap (s.input[s.pos.toNat].toNat : Int) - 128) = (s.input[s.pos.toNat].toNat : Int) - 128 := by
          rw [wrap_i64 (n := (s.input[s.pos.toNat].toNat : Int)) (by omega), wrap_i64 (by omega)]
        rw [hw1, hw2]
        have e : s.arrive = ({ s with pos := s.pos + 1, pause := (s.input[s.pos.toNat].toNat : Int) - 128 }, []) := by
          simp only [S.arrive, h1, h2, hc, hb, if_true, Bool.false_eq_true, if_false]
        rw [e]
        exact ⟨⟨fun w => h.By { s with pos := s.pos + 1, pause := (s.input[s.pos.toNat].toNat : Int) - 128 } w ∧ By w Hd.nil [], []⟩, Ent.imp fun w hw => ⟨⟨hw.inp, hw.got, hw.out, hw.o, hw.i⟩, By.nil w⟩, h, Hd.nil, rfl, ⟨hh.inp, hh.got, hh.out, hh.o, hh.i⟩, Hd.nil_ok, rfl⟩
      · conv => whnf
        have hb : ¬ 128 ≤ s.input[s.pos.toNat].toNat := by
          have : ¬ (128 : Int) ≤ s.input[s.pos.toNat].toNat := by simpa [iGe_eq] using h3
          omega
        refine XVal.build tabOk (t := 22) rfl rfl rfl [] rfl rfl (by simp) (by decide) fun b4 => ?_
        conv => whnf
        refine XVal.append tabOk (t := 22) (xt := 22) rfl rfl rfl rfl rfl rfl (r1 := []) (r2 := []) (C := []) (L := []) (M := s.got.map byteV) (Own.full (by simp)) (Sees.fact fun w h => h.got) (by simp) byte_one (by have := hv.got; have := hv.le; have := hv.inp; omega) (by have := hv.got; have := hv.le; have := hv.inp; simp; omega) fun a' cap' C' hO => ?_
        simp only [List.nil_append, List.append_nil, Nat.zero_add] at hO ⊢
        conv => whnf
        refine XVal.build tabOk (t := 22) rfl rfl rfl [byteV s.input[s.pos.toNat]] rfl rfl (by simp [byteV, Value.cells]) (by decide) fun b5 => ?_
        conv => whnf
        refine XVal.append tabOk (t := 22) (xt := 22) rfl rfl rfl rfl rfl rfl (r1 := []) (r2 := [(b5, [byteV s.input[s.pos.toNat]])]) (M := [byteV s.input[s.pos.toNat]]) (m := 1) hO (Sees.row (b := b5) (by simp [orow])) (by simp) (by simp [byteV, oneCell]) (by have := hv.got; have := hv.le; have := hv.inp; omega) (by have := hv.got; have := hv.le; have := hv.inp; simp; omega) fun a2 cap2 C2 hO2 => ?_
        obtain ⟨b6, rfl⟩ := own_some hO2 (by omega)
        conv => whnf
        refine XVal.build tabOk (t := 22) rfl rfl rfl [byteV s.input[s.pos.toNat]] rfl rfl (by simp [byteV, Value.cells]) (by decide) fun b3 => ?_
        conv => whnf
        rw [hw1]
        have e : s.arrive = ({ s with pos := s.pos + 1, got := s.got ++ [s.input[s.pos.toNat]] }, [s.input[s.pos.toNat]]) := by
          simp only [S.arrive, h1, h2, hc, hb, Bool.false_eq_true, if_false]
        rw [e]
        have hO' : Own 1 (s.got.length + 1) (some ⟨b6, 0, none⟩) cap2 C2 (s.got.map byteV ++ [byteV s.input[s.pos.toNat]]) := hO2
        refine ⟨⟨fun w => SH.By ⟨h.inp, ⟨some ⟨b6, 0, none⟩, cap2⟩, h.out, h.o, h.i⟩ { s with pos := s.pos + 1, got := s.got ++ [s.input[s.pos.toNat]] } w ∧ By w ⟨some ⟨b3, 0, none⟩, 1⟩ [s.input[s.pos.toNat]], []⟩,
          Ent.shareAll.trans (Ent.imp fun w hw => ?_), ⟨h.inp, ⟨some ⟨b6, 0, none⟩, cap2⟩, h.out, h.o, h.i⟩, ⟨some ⟨b3, 0, none⟩, 1⟩, ?_, ⟨hh.inp, ?_, hh.out, hh.o, hh.i⟩, ⟨(fun h => by cases h), Nat.le_refl _⟩, rfl⟩
        · obtain ⟨hw, r1, r2, r3, _⟩ := hw
          refine ⟨⟨hw.inp, ?_, hw.out, hw.o, hw.i⟩, r3⟩
          have := hO'.row r1
          simpa [By] using this
        · simp [S.rcells]
        · have := hO'.hd
          simpa using this

end Go.Proofs.Ytcmgioaggmaclaa
