/- Serial, part F: read, finish, take. -/
import Derived.Test.YtcmgioaggmaclaaSerE
namespace Go.Proofs.Ytcmgioaggmaclaa
open Go Go.Sx
set_option maxRecDepth 100000
set_option maxHeartbeats 2000000
set_option linter.unusedVariables false

def S.rd (s : S) (c : Cmd) : Int × List UInt8 × Bool :=
  if iGt c.data.length 0 then (-1, [], true)
  else if iLt c.place 0 || iGt c.place s.got.length then (-2, [], true)
  else if iEq c.place s.got.length then (0, [], false)
  else
    let n := min (s.got.length - c.place.toNat) 128
    (c.place + n, (s.got.drop c.place.toNat).take n, true)

def RelRd (s : S) (h : SH) (r : Int × List UInt8 × Bool) (v : Value) (c : List Value) (F : Fx) : Prop :=
  ∃ k : Hd, c = s.cells h ∧ v = .tuple #[.int .i64 r.1, k.v r.2.1.length, .bool r.2.2] ∧ k.Ok r.2.1.length ∧ F = ⟨fun w => By w k r.2.1, []⟩

theorem read_spec (s : S) (h : SH) (hh : h.Ok s) (hv : s.got.length ≤ 4000) (c : Cmd) (k : Hd) :
    PtrSpec Try.prog 35 [] [.agg ⟨c.cells k⟩] (s.cells h) (fun w => h.By s w) (RelRd s h (s.rd c)) := by
  refine PtrSpec.of_xc tabOk Try.func35 rfl (by decide) (n := Try.f35.ntmps - 2) rfl rfl fun w0 av b o => ?_
  conv => whnf
  intro b1
  conv => whnf
  refine XIf.split (fun h1 => ?_) (fun h1 => ?_)
  · conv => whnf
    have e : s.rd c = (-1, [], true) := by simp only [S.rd, h1, if_true]
    rw [e]
    exact ⟨⟨rfl, rfl, rfl⟩, ⟨fun w => By w Hd.nil [], []⟩, Ent.imp fun w hw => By.nil w, Hd.nil, rfl, rfl, Hd.nil_ok, rfl⟩
  · conv => whnf
    refine XStop.draw tabOk mixed rfl rfl ?_
    conv => whnf
    refine XIf.split (fun h2 => ?_) (fun h2 => ?_)
    · conv => whnf
      have e : s.rd c = (-2, [], true) := by simp only [S.rd, h1, h2, Bool.false_eq_true, if_false, Bool.true_or, if_true]
      rw [e]
      exact ⟨⟨rfl, rfl, rfl⟩, ⟨fun w => By w Hd.nil [], []⟩, Ent.imp fun w hw => By.nil w, Hd.nil, rfl, rfl, Hd.nil_ok, rfl⟩
    · conv => whnf
      refine XIf.split (fun h3 => ?_) (fun h3 => ?_)
      · conv => whnf
        replace h3 : iGt c.place s.got.length = true := h3
        have e : s.rd c = (-2, [], true) := by simp only [S.rd, h1, h2, h3, Bool.false_eq_true, if_false, Bool.or_true, if_true]
        rw [e]
        exact ⟨⟨rfl, rfl, rfl⟩, ⟨fun w => By w Hd.nil [], []⟩, Ent.imp fun w hw => By.nil w, Hd.nil, rfl, rfl, Hd.nil_ok, rfl⟩
      · conv => whnf
        replace h3 : iGt c.place s.got.length = false := h3
        refine XStop.draw tabOk mixed rfl rfl ?_
        conv => whnf
        refine XIf.split (fun h4 => ?_) (fun h4 => ?_)
        · conv => whnf
          have e : s.rd c = (0, [], false) := by simp only [S.rd, h1, h2, h3, h4, Bool.false_eq_true, if_false, Bool.or_false, if_true]
          rw [e]
          exact ⟨⟨rfl, rfl, rfl⟩, ⟨fun w => By w Hd.nil [], []⟩, Ent.imp fun w hw => By.nil w, Hd.nil, rfl, rfl, Hd.nil_ok, rfl⟩
        · conv => whnf
          have hp : 0 ≤ c.place ∧ c.place < s.got.length := by
            simp [iLt_eq] at h2
            simp [iGt_eq] at h3
            simp [iEq_eq] at h4
            omega
          refine XStop.draw tabOk mixed rfl rfl ?_
          conv => whnf
          refine XStop.draw tabOk mixed rfl rfl ?_
          conv => whnf
          have e1 : IntKind.i64.wrap (s.got.length - c.place) = s.got.length - c.place := wrap_i64 (by omega)
          have e2 : (if (128 : Int) < s.got.length - c.place then 128 else s.got.length - c.place) = ((min (s.got.length - c.place.toNat) 128 : Nat) : Int) := by split <;> omega
          have e3 : IntKind.i64.wrap (c.place + ((min (s.got.length - c.place.toNat) 128 : Nat) : Int)) = c.place + ((min (s.got.length - c.place.toNat) 128 : Nat) : Int) := wrap_i64 (by omega)
          rw [e1, e2, e3]
          refine XRead.slice tabOk (t := 22) rfl rfl rfl (lo := some c.place) (hi := some (c.place + ((min (s.got.length - c.place.toNat) 128 : Nat) : Int))) (mx := none) (k3 := .i64) c.place.toNat (c.place.toNat + min (s.got.length - c.place.toNat) 128) h.got.c
            (by simp only [Option.getD_some]; omega) (by simp only [Option.getD_some]; omega) rfl (by omega) (by have := hh.got.cap; omega) (Nat.le_refl _) (by simp) ?_
          conv => whnf
          have e : s.rd c = (c.place + ((min (s.got.length - c.place.toNat) 128 : Nat) : Int), (s.got.drop c.place.toNat).take (min (s.got.length - c.place.toNat) 128), true) := by
            simp only [S.rd, h1, h2, h3, h4, Bool.false_eq_true, if_false, Bool.or_false]
          rw [e]
          have hl : ((s.got.drop c.place.toNat).take (min (s.got.length - c.place.toNat) 128)).length = c.place.toNat + min (s.got.length - c.place.toNat) 128 - c.place.toNat := by simp
          refine ⟨⟨rfl, rfl, rfl⟩, ⟨fun w => By w ⟨cutA h.got.a c.place.toNat h.got.c 1, h.got.c - c.place.toNat⟩ ((s.got.drop c.place.toNat).take (min (s.got.length - c.place.toNat) 128)), []⟩, Ent.imp fun w hw => ?_,
            ⟨cutA h.got.a c.place.toNat h.got.c 1, h.got.c - c.place.toNat⟩, rfl, ?_, ⟨fun hn => ?_, ?_⟩, rfl⟩
          · have := RowAt.cut hw.got (l := c.place.toNat) (hi := c.place.toNat + min (s.got.length - c.place.toNat) 128) (m := h.got.c) (size := 1) ⟨by omega, by have := hh.got.cap; omega⟩
            simpa [By, List.map_drop, List.map_take] using this
          · simp only [hl]
          · have := hh.got.nil (cutA_none hn)
            omega
          · rw [hl]
            have := hh.got.cap
            simp only
            omega

def Chan.finish (c : Chan) (n : Int) (l : List UInt8) : Chan × Ans :=
  let a : Ans := if iNe c.cmd.tag c.last.tag then ⟨c.cmd.tag, n, l⟩ else c.last
  (⟨false, ⟨0, 0, 0, []⟩, a⟩, a)

/-- A channel's cells with new handles, and an answer. -/
def RelCA (r : Chan × Ans) (v : Value) (c : List Value) (F : Fx) : Prop :=
  ∃ (h : CH) (k : Hd), c = r.1.cells h ∧ v = .agg ⟨r.2.cells k⟩ ∧ h.Ok r.1 ∧ k.Ok r.2.data.length ∧ F = ⟨fun w => h.By r.1 w ∧ By w k r.2.data, []⟩

theorem finish_spec (c : Chan) (h : CH) (hh : h.Ok c) (hf : c.Few) (n : Int) (l : List UInt8) (k : Hd) (hk : k.Ok l.length) (hl : l.length ≤ 1000000) :
    PtrSpec Try.prog 34 [] [.int .i64 n, k.v l.length] (c.cells h) (fun w => h.By c w ∧ By w k l) (RelCA (c.finish n l)) := by
  refine PtrSpec.of_xc tabOk Try.func34 rfl (by decide) (n := Try.f34.ntmps - 3) rfl rfl fun w0 av b o => ?_
  conv => whnf
  intro b1
  conv => whnf
  refine XStop.draw tabOk mixed rfl rfl ?_
  conv => whnf
  refine XIf.split (fun h1 => ?_) (fun h1 => ?_)
  · conv => whnf
    refine XStop.draw tabOk mixed rfl rfl ?_
    conv => whnf
    refine XCall.pure (clone_spec _ _ hk hl) (fun w h => h.2) ?_
    rintro v F ⟨k1, rfl, ho1, rfl⟩
    conv => whnf
    first | (refine XKeep.of ?_; conv => whnf) | skip
    intro b2
    conv => whnf
    refine XCall.pure (clone_spec _ _ ho1 hl) (fun w h => h.2) ?_
    rintro v F ⟨k2, rfl, ho2, rfl⟩
    conv => whnf
    have e : c.finish n l = (⟨false, ⟨0, 0, 0, []⟩, ⟨c.cmd.tag, n, l⟩⟩, ⟨c.cmd.tag, n, l⟩) := by simp only [Chan.finish, h1, if_true]
    rw [e]
    exact ⟨⟨rfl, rfl, rfl⟩, ⟨fun w => CH.By ⟨Hd.nil, k1⟩ ⟨false, ⟨0, 0, 0, []⟩, ⟨c.cmd.tag, n, l⟩⟩ w ∧ By w k2 l, []⟩, Ent.imp fun w h => ⟨⟨By.nil w, h.1.2⟩, h.2⟩, ⟨Hd.nil, k1⟩, k2, rfl, rfl, ⟨Hd.nil_ok, ho1⟩, ho2, rfl⟩
  · conv => whnf
    intro b2
    conv => whnf
    refine XCall.pure (clone_spec _ _ hh.l hf.l) (fun w h => h.1.l) ?_
    rintro v F ⟨k2, rfl, ho2, rfl⟩
    conv => whnf
    have e : c.finish n l = (⟨false, ⟨0, 0, 0, []⟩, c.last⟩, c.last) := by simp only [Chan.finish, h1, Bool.false_eq_true, if_false]
    rw [e]
    exact ⟨⟨rfl, rfl, rfl⟩, ⟨fun w => CH.By ⟨Hd.nil, h.l⟩ ⟨false, ⟨0, 0, 0, []⟩, c.last⟩ w ∧ By w k2 c.last.data, []⟩, Ent.imp fun w h => ⟨⟨By.nil w, h.1.1.l⟩, h.2⟩, ⟨Hd.nil, h.l⟩, k2, rfl, rfl, ⟨Hd.nil_ok, hh.l⟩, ho2, rfl⟩

def Chan.take (c : Chan) (x : Cmd) : Chan × Int :=
  if c.isOpen && iGt x.tag c.cmd.tag then (c, 12)
  else if (c.isOpen && iLt x.tag c.cmd.tag) || (!c.isOpen && iLt x.tag c.last.tag) then (c, 19)
  else if c.isOpen then (c, 0)
  else (⟨true, if iEq x.tag c.last.tag then ⟨x.tag, 0, 0, []⟩ else x, c.last⟩, 0)

/-- A channel's cells with new handles, and a number. -/
def RelCI (r : Chan × Int) (v : Value) (c : List Value) (F : Fx) : Prop := ∃ h : CH, c = r.1.cells h ∧ v = .int .i64 r.2 ∧ h.Ok r.1 ∧ F = ⟨h.By r.1, []⟩

theorem take_spec (c : Chan) (h : CH) (hh : h.Ok c) (x : Cmd) (k : Hd) (hk : k.Ok x.data.length) (hl : x.data.length ≤ 1000000) :
    PtrSpec Try.prog 45 [] [.agg ⟨x.cells k⟩] (c.cells h) (fun w => h.By c w ∧ By w k x.data) (RelCI (c.take x)) := by
  obtain ⟨op, cmd, last⟩ := c
  refine PtrSpec.of_xc tabOk Try.func45 rfl (by decide) (n := Try.f45.ntmps - 2) rfl rfl fun w0 av b o => ?_
  cases op
  · conv => whnf
    intro b1
    conv => whnf
    repeat' (first
      | (refine XStop.draw tabOk mixed rfl rfl ?_; conv => whnf)
      | (refine XIf.split (fun hc => ?_) (fun hc => ?_) <;> conv => whnf))
    · have h1 : iLt x.tag last.tag = true := hc
      have e : (Chan.mk false cmd last).take x = (⟨false, cmd, last⟩, 19) := by simp [Chan.take, h1]
      rw [e]
      exact ⟨⟨rfl, rfl, rfl⟩, ⟨h.By ⟨false, cmd, last⟩, []⟩, Ent.imp fun w hw => hw.1, h, rfl, rfl, hh, rfl⟩
    · rename_i h1
      replace h1 : iLt x.tag last.tag = false := h1
      have h2 : iEq x.tag last.tag = true := hc
      refine XCall.pure (clone_spec Hd.nil [] Hd.nil_ok (by simp)) (fun w h => By.nil w) ?_
      rintro v F ⟨k1, rfl, ho1, rfl⟩
      conv => whnf
      refine XStop.draw tabOk mixed rfl rfl ?_
      conv => whnf
      refine XKeep.of ?_
      conv => whnf
      have e : (Chan.mk false cmd last).take x = (⟨true, ⟨x.tag, 0, 0, []⟩, last⟩, 0) := by simp [Chan.take, h1, h2]
      rw [e]
      exact ⟨⟨rfl, rfl, rfl⟩, ⟨CH.By ⟨k1, h.l⟩ ⟨true, ⟨x.tag, 0, 0, []⟩, last⟩, []⟩, Ent.imp fun w hw => ⟨hw.2, hw.1.1.l⟩, ⟨k1, h.l⟩, rfl, rfl, ⟨ho1, hh.l⟩, rfl⟩
    · rename_i h1
      replace h1 : iLt x.tag last.tag = false := h1
      have h2 : iEq x.tag last.tag = false := hc
      refine XCall.pure (clone_spec k x.data hk hl) (fun w h => h.2) ?_
      rintro v F ⟨k1, rfl, ho1, rfl⟩
      conv => whnf
      refine XStop.draw tabOk mixed rfl rfl ?_
      conv => whnf
      refine XKeep.of ?_
      conv => whnf
      have e : (Chan.mk false cmd last).take x = (⟨true, x, last⟩, 0) := by simp [Chan.take, h1, h2]
      rw [e]
      exact ⟨⟨rfl, rfl, rfl⟩, ⟨CH.By ⟨k1, h.l⟩ ⟨true, x, last⟩, []⟩, Ent.imp fun w hw => ⟨hw.2, hw.1.1.l⟩, ⟨k1, h.l⟩, rfl, rfl, ⟨ho1, hh.l⟩, rfl⟩
  · conv => whnf
    intro b1
    conv => whnf
    repeat' (first
      | (refine XStop.draw tabOk mixed rfl rfl ?_; conv => whnf)
      | (refine XIf.split (fun hc => ?_) (fun hc => ?_) <;> conv => whnf))
    · have h1 : iGt x.tag cmd.tag = true := hc
      have e : (Chan.mk true cmd last).take x = (⟨true, cmd, last⟩, 12) := by simp [Chan.take, h1]
      rw [e]
      exact ⟨⟨rfl, rfl, rfl⟩, ⟨h.By ⟨true, cmd, last⟩, []⟩, Ent.imp fun w hw => hw.1, h, rfl, rfl, hh, rfl⟩
    · rename_i h1 h2
      replace h1 : iGt x.tag cmd.tag = false := h1
      replace h2 : iLt x.tag cmd.tag = true := h2
      have e : (Chan.mk true cmd last).take x = (⟨true, cmd, last⟩, 19) := by simp [Chan.take, h1, h2]
      rw [e]
      exact ⟨⟨rfl, rfl, rfl⟩, ⟨h.By ⟨true, cmd, last⟩, []⟩, Ent.imp fun w hw => hw.1, h, rfl, rfl, hh, rfl⟩
    · rename_i h1 h2
      rw [h2] at hc
      cases hc
    · rename_i h1
      replace h1 : iGt x.tag cmd.tag = false := h1
      have h2 : iLt x.tag cmd.tag = false := hc
      have e : (Chan.mk true cmd last).take x = (⟨true, cmd, last⟩, 0) := by simp [Chan.take, h1, h2]
      rw [e]
      exact ⟨⟨rfl, rfl, rfl⟩, ⟨h.By ⟨true, cmd, last⟩, []⟩, Ent.imp fun w hw => hw.1, h, rfl, rfl, hh, rfl⟩

end Go.Proofs.Ytcmgioaggmaclaa
