/- Serial, part A: contracts of functions of the library and of small ones. -/
import Derived.Test.YtcmgioaggmaclaaTab
import Derived.Test.YtcmgioaggmaclaaSxW
namespace Go.Proofs.Ytcmgioaggmaclaa
open Go Go.Sx
set_option maxRecDepth 100000
set_option linter.unusedVariables false

theorem mixed : Try.prog.follows .mixedOrders = true := by kernel_rfl

theorem clone_spec (h : Hd) (l : List UInt8) (hh : h.Ok l.length) (hn : l.length ≤ 1000000) : PureSpec Try.prog 30 [h.v l.length] (fun w => By w h l) (RelB l) := by
  refine PureSpec.of_xc tabOk Try.func30 rfl (by decide) (n := 7) rfl rfl fun w0 av => ?_
  conv => whnf
  refine XVal.of_read (XRead.eqNil tabOk (t := 22) rfl rfl ?_)
  conv => whnf
  refine XIf.split (fun hc => ?_) (fun hc => ?_)
  · conv => whnf
    have h0 : h.a = none := by simpa using hc
    have hl : l = [] := List.eq_nil_of_length_eq_zero (hh.nil h0)
    subst hl
    exact ⟨⟨fun w => By w Hd.nil [], []⟩, Ent.imp fun w _ => By.nil w, Hd.nil, rfl, Hd.nil_ok, rfl⟩
  · conv => whnf
    refine XVal.build tabOk (t := 22) rfl rfl rfl [] rfl rfl (by simp) (by decide) fun b => ?_
    conv => whnf
    refine XVal.append tabOk (t := 22) (xt := 22) rfl rfl rfl rfl rfl rfl (r1 := []) (r2 := []) (C := []) (L := []) (M := l.map byteV) (Own.full (by simp)) (Sees.fact fun w h => h) (by simp) byte_one (by omega) (by simp; omega) fun a' cap' C' hO => ?_
    conv => whnf
    simp only [List.nil_append, Nat.zero_add] at hO ⊢
    exact ⟨_, (hO.share (r1 := []) (r2 := [])).trans (Ent.imp fun w h => h.2), ⟨a', cap'⟩, rfl, hO.hd, rfl⟩

theorem clip_spec (h : Hd) (n : Nat) (hh : h.Ok n) : PureSpec Try.prog 51 [h.v n] (fun w => True) (fun v F => v = .slice h.a n n) := by
  refine PureSpec.of_xc tabOk Try.func51 rfl (by decide) (n := 8) rfl rfl fun w0 av => ?_
  conv => whnf
  refine XVal.of_read (XRead.slice tabOk (t := 22) rfl rfl rfl (lo := none) (hi := some (n : Int)) (mx := some (n : Int)) (k1 := .i64) 0 n n rfl rfl rfl (by omega) (by omega) hh.cap (fun _ => rfl) ?_)
  conv => whnf
  exact ⟨_, Ent.refl _, by rw [cutA_zero]; rfl⟩

theorem equal_spec (h k : Hd) (l m : List UInt8) : PureSpec Try.prog 48 [h.v l.length, k.v m.length] (fun w => By w h l ∧ By w k m) (fun v F => v = .bool (l == m)) := by
  refine PureSpec.of_xc tabOk Try.func48 rfl (by decide) (n := 8) rfl rfl fun w0 av => ?_
  conv => whnf
  refine XVal.of_read (XRead.bytes tabOk (t := 22) (u := 9) rfl rfl rfl rfl rfl rfl (Sees.fact fun w h => h.1) rfl ?_)
  conv => whnf
  refine XVal.of_read (XRead.bytes tabOk (t := 22) (u := 9) rfl rfl rfl rfl rfl rfl (Sees.fact fun w h => h.2) rfl ?_)
  conv => whnf
  refine XVal.of_read (XRead.strEq ?_)
  conv => whnf
  exact ⟨_, Ent.refl _, rfl⟩

theorem add0 (ad : Addr) : ad.add 0 = ad := by simp [Addr.add]

/-- Two lists of bytes, compared from place k on. -/
theorem sameBytes_spec (h k : Hd) (l m : List UInt8) (hh : h.Ok l.length) (hk : k.Ok m.length) (hn : l.length ≤ 1000000) : PureSpec Try.prog 20 [h.v l.length, k.v m.length] (fun w => By w h l ∧ By w k m) (fun v F => v = .bool (l == m)) := by
  refine PureSpec.of_xc tabOk Try.func20 rfl (by decide) (n := 24) rfl rfl fun w0 av => ?_
  conv => whnf
  refine XIf.split (fun hc => ?_) (fun hc => ?_)
  · conv => whnf
    refine ⟨_, Ent.refl _, ?_⟩
    have hne : l ≠ m := fun e => by subst e; simp [iNe_eq] at hc
    rw [beq_false_of_ne hne]
  · conv => whnf
    have hlen : l.length = m.length := by
      have : (l.length : Int) = m.length := by simpa [iNe_eq] using hc
      omega
    refine XStop.loop tabOk (ι := Nat) [5, 11, 12, 13, 14, 15, 16, 17, 18, 19, 20, 21, 22, 23, 24, 25, 4] (fun i => i ≤ l.length ∧ l.take i = m.take i) (fun i => [(5, .v (.int .i64 (i : Int)))]) (fun _ => []) (fun _ => ⟨fun w => By w h l ∧ By w k m, []⟩)
      (fun i => l.length - i) 0 ⟨by omega, rfl⟩ ?_ rfl (Ent.refl _) fun i hi => ?_
    · conv => whnf
      repeat (first | exact FLe.nil | refine FLe.any ?_ | refine FLe.cons ?_)
    · conv => whnf
      refine XIf.split (fun hlt => ?_) (fun hge => ?_)
      · conv => whnf
        have hlt' : i < l.length := by have : (i : Int) < l.length := by simpa [iLt_eq] using hlt
                                       omega
        refine XStop.draw tabOk mixed rfl rfl ?_
        conv => whnf
        refine XRead.byteAt tabOk (t := 22) rfl rfl rfl rfl i rfl hlt' hh fun ad had => ?_
        conv => whnf
        refine XRead.byteLd tabOk (t := 5) rfl rfl had (Sees.fact fun w hw => hw.1) hlt' ?_
        conv => whnf
        refine XRead.byteAt tabOk (t := 22) rfl rfl rfl rfl i rfl (by omega) hk fun ad2 had2 => ?_
        conv => whnf
        refine XRead.byteLd tabOk (t := 5) rfl rfl had2 (Sees.fact fun w hw => hw.2) (by omega) ?_
        conv => whnf
        refine XIf.split (fun hne => ?_) (fun heq => ?_)
        · conv => whnf
          exact ⟨_, Ent.refl _, by dsimp only; rw [beq_false_of_ne (ne_of_get hlt' (by omega) (byte_ne hne))]⟩
        · conv => whnf
          refine ⟨i + 1, ⟨⟨by omega, take_next hi.2 hlt' (by omega) (byte_eq heq)⟩, by dsimp only; omega⟩, ?_, trivial, Ent.refl _⟩
          conv => whnf
          refine ⟨?_, rfl⟩
          repeat (first | exact FLe.nil | refine FLe.any ?_ | refine FLe.cons ?_ | refine FLe.eq (by rw [wrap_i64 (by omega)]; rfl) ?_)
      · conv => whnf
        have hge' : l.length ≤ i := by
          have : ¬ (i : Int) < l.length := by simpa [iLt_eq] using hge
          omega
        exact ⟨_, Ent.refl _, by dsimp only; rw [eq_of_take hi.2 hge' hlen]; simp⟩

end Go.Proofs.Ytcmgioaggmaclaa
