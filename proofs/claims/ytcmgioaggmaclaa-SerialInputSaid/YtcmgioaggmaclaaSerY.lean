/- Serial, part Y: the law SerialTime. -/
import Derived.Test.YtcmgioaggmaclaaSerT
namespace Go.Proofs.Ytcmgioaggmaclaa
open Go Go.Sx
set_option maxRecDepth 100000
set_option maxHeartbeats 2000000
set_option linter.unusedVariables false
set_option linter.unusedSimpArgs false

/-- A number of ticks. -/
def tks : Nat → S → S
  | 0, s => s
  | n + 1, s => (tks n s).tick.1

theorem tks_add (s : S) (a : Nat) : ∀ b, tks (a + b) s = tks b (tks a s)
  | 0 => rfl
  | b + 1 => by show (tks (a + b) s).tick.1 = (tks b (tks a s)).tick.1; rw [tks_add s a b]

theorem tks_few {s : S} (h : s.Few) : ∀ n, (tks n s).Few
  | 0 => h
  | n + 1 => (tick_few (tks_few h n)).1

/-- Place i of a script, with a pause. -/
def Q (l : List UInt8) (i : Nat) (p : Int) : S := ⟨l, i, p, sBytes (l.take i), [], .zero, .zero⟩

theorem sBytes_le (l : List UInt8) : (sBytes l).length ≤ l.length := List.length_filter_le _ _

theorem Q_valid {l : List UInt8} {i : Nat} {p : Int} (hl : l.length ≤ 4000) (hi : i ≤ l.length) (h0 : 0 ≤ p) (h1 : p < 128) : (Q l i p).valid = true := by
  rw [S.valid_iff]
  have := sBytes_le (l.take i)
  have : (l.take i).length = i := by simp; omega
  refine ⟨⟨hl, ?_, ?_, h0, h1, ?_, ?_⟩, ?_, ?_⟩
  · show (0 : Int) ≤ (i : Int); omega
  · show (i : Int) ≤ (l.length : Int); omega
  · show ((sBytes (l.take i)).length : Int) ≤ (i : Int); omega
  · show ([] : List UInt8).length ≤ 100000; simp
  · show Chan.zero.valid 0 = true; decide +kernel
  · show Chan.zero.valid 1 = true; decide +kernel

theorem tick_idle {s : S} (hv : s.valid = true) (ho : s.o.isOpen = false) (hi : s.i.isOpen = false) : s.tick = (s.arrive.1, [], s.arrive.2) := by
  obtain ⟨_, a2, a3, _⟩ := s.arrive_rest
  have e1 : s.arrive.1.tickOut = (s.arrive.1, []) := by
    unfold S.tickOut
    rw [a2, ho]
    rfl
  unfold S.tick
  simp only [hv, Bool.not_true, Bool.false_eq_true, if_false, e1]
  unfold S.tickIn
  rw [a3, hi]
  rfl

theorem Q_pause {l : List UInt8} {i : Nat} (hl : l.length ≤ 4000) (hi : i ≤ l.length) : ∀ p : Nat, p < 128 → tks p (Q l i p) = Q l i 0
  | 0, _ => rfl
  | p + 1, hp => by
    have h1 : (Q l i ((p + 1 : Nat) : Int)).tick = ((Q l i ((p + 1 : Nat) : Int)).arrive.1, [], (Q l i ((p + 1 : Nat) : Int)).arrive.2) := tick_idle (Q_valid hl hi (by omega) (by omega)) rfl rfl
    have h2 : (Q l i ((p + 1 : Nat) : Int)).arrive.1 = Q l i p := by
      unfold S.arrive
      have : iGt (Q l i ((p + 1 : Nat) : Int)).pause 0 = true := by simp [Q, iGt_eq] <;> omega
      rw [if_pos this]
      simp [Q]
    rw [Nat.add_comm, tks_add]
    show tks p ((Q l i ((1 + p : Nat) : Int)).tick.1) = _
    rw [Nat.add_comm 1 p, h1, h2]
    exact Q_pause hl hi p (by omega)

theorem Q_step {l : List UInt8} {i : Nat} (hl : l.length ≤ 4000) (hi : i < l.length) : tks (sTicks [l[i]]).toNat (Q l i 0) = Q l (i + 1) 0 := by
  have htk : l.take (i + 1) = l.take i ++ [l[i]] := List.take_succ_eq_append_getElem hi
  have h1 : (Q l i 0).tick = ((Q l i 0).arrive.1, [], (Q l i 0).arrive.2) := tick_idle (Q_valid hl (by omega) (by omega) (by omega)) rfl rfl
  have hg : (Q l i 0).input.getD (Q l i 0).pos.toNat 0 = l[i] := by simp [Q, hi]
  have hp : iGt (Q l i 0).pause 0 = false := by simp [Q, iGt_eq]
  have he : iEq (Q l i 0).pos (Q l i 0).input.length = false := by simp [Q, iEq_eq]; omega
  have hx : l[i].toNat < 256 := l[i].toNat_lt
  by_cases hc : iLt (l[i].toNat : Int) 128 = true
  · have e1 : sTicks [l[i]] = 1 := by simp [sTicks, hc]
    have h2 : (Q l i 0).arrive.1 = Q l (i + 1) 0 := by
      unfold S.arrive
      rw [hp, he, hg]
      simp only [Bool.false_eq_true, if_false]
      have hn : ¬ 128 ≤ l[i].toNat := by simp [iLt_eq] at hc; omega
      rw [if_neg hn]
      have := sBytes_lo (l.take i) hc
      rw [← htk] at this
      simp [Q, this]
    rw [e1]
    show (Q l i 0).tick.1 = _
    rw [h1, h2]
  · have hc' : iLt (l[i].toNat : Int) 128 = false := by simpa using hc
    have hn : 128 ≤ l[i].toNat := by simp [iLt_eq] at hc; omega
    have e1 : (sTicks [l[i]]).toNat = 1 + (l[i].toNat - 128) := by simp [sTicks, hc']; omega
    have h2 : (Q l i 0).arrive.1 = Q l (i + 1) ((l[i].toNat - 128 : Nat) : Int) := by
      unfold S.arrive
      rw [hp, he, hg]
      simp only [Bool.false_eq_true, if_false]
      rw [if_pos hn]
      have := sBytes_hi (l.take i) hc'
      rw [← htk] at this
      simp [Q, this]
      omega
    rw [e1, tks_add]
    show tks _ (Q l i 0).tick.1 = _
    rw [h1, h2]
    exact Q_pause hl (by omega) _ (by omega)

theorem sTicks_append (l m : List UInt8) : sTicks (l ++ m) = sTicks l + sTicks m := by simp [sTicks]

theorem Q_run {l : List UInt8} (hl : l.length ≤ 4000) : ∀ i, i ≤ l.length → tks (sTicks (l.take i)).toNat (Q l 0 0) = Q l i 0
  | 0, _ => by simp [sTicks]; rfl
  | i + 1, hi => by
    have htk : l.take (i + 1) = l.take i ++ [l[i]] := List.take_succ_eq_append_getElem (by omega)
    have h1 := (sTicks_le (l.take i)).1
    have h2 := (sTicks_le [l[i]]).1
    rw [htk, sTicks_append, Int.toNat_add h1 h2, tks_add, Q_run hl i (by omega)]
    exact Q_step hl (by omega)

theorem Q_end {l : List UInt8} (hl : l.length ≤ 4000) : tks (sTicks l).toNat (S.new l).1 = Q l l.length 0 := by
  have := Q_run hl l.length (Nat.le_refl _)
  rw [List.take_length] at this
  have e : (S.new l).1 = Q l 0 0 := by
    unfold S.new
    have : iGt (l.length : Int) 4000 = false := by simp [iGt_eq]; omega
    rw [this]
    rfl
  rw [e]
  exact this

theorem lawTime_spec (k : Hd) (l : List UInt8) (hk : k.Ok l.length) :
    PureSpec Try.prog 6 [k.v l.length] (fun w => By w k l) (fun v F => v = .bool true) := by
  refine PureSpec.of_xc tabOk Try.func6 rfl (by decide) (n := Try.f6.ntmps - 1) rfl rfl fun w0 av => ?_
  conv => whnf
  refine XCall.val awake_spec (fun _ _ => trivial) (fun v D hv => ?_)
  subst hv
  conv => whnf
  repeat (refine XSame.of ?_; conv => whnf)
  refine XIf.split (fun hc => ?_) (fun hc => ?_)
  · conv => whnf
    refine XCall.val awake_spec (fun _ _ => trivial) (fun v D hv => ?_)
    subst hv
    conv => whnf
    exact ⟨_, Ent.refl _, rfl⟩
  have hl : l.length ≤ 40 := by
    simp [iGt_eq] at hc
    omega
  clear hc
  conv => whnf
  refine XStop.loop tabOk (ι := Nat) [2, 3, 18, 19, 20, 21, 22, 23, 24, 25, 26] (fun x => x ≤ l.length)
    (fun x => [(18, .v (.int .i64 (x : Int)))]) (fun _ => []) (fun x => ⟨fun w => By w k l, []⟩)
    (fun x => l.length - x) 0 (Nat.zero_le _) ?_ rfl (Ent.refl _) fun i hi => ?_
  · conv => whnf
    repeat (first | exact FLe.nil | refine FLe.any ?_ | refine FLe.cons ?_)
  conv => whnf
  refine XIf.split (fun hlt => ?_) (fun hge => ?_)
  · conv => whnf
    have hlt' : i < l.length := by
      have : (i : Int) < l.length := by simpa [iLt_eq] using hlt
      omega
    refine XVal.of_read (XRead.byteAt tabOk (t := 22) rfl rfl rfl rfl i rfl hlt' hk fun ad had => ?_)
    conv => whnf
    refine XVal.of_read (XRead.byteLd tabOk (t := 5) rfl rfl had (Sees.fact fun w hw => hw) hlt' ?_)
    conv => whnf
    refine XIf.split (fun hc => ?_) (fun hc => ?_)
    · conv => whnf
      exact ⟨_, Ent.refl _, rfl⟩
    · conv => whnf
      refine ⟨i + 1, ⟨hlt', by dsimp only; omega⟩, ?_, trivial, Ent.refl _⟩
      conv => whnf
      refine ⟨?_, rfl⟩
      repeat (first | exact FLe.nil | refine FLe.any ?_ | refine FLe.cons ?_ | refine FLe.eq (by rw [wrap_i64 (by omega)]; rfl) ?_)
  conv => whnf
  refine XCall.pure (new_spec k l hk (by omega)) (fun w h => h) ?_
  have en : (S.new l).2 = 0 := by
    unfold S.new
    have : iGt (l.length : Int) 4000 = false := by simp [iGt_eq]; omega
    rw [this]
    rfl
  have hend := Q_end (l := l) (by omega)
  have hfn := new_few (l := l) (by omega)
  generalize S.new l = r at *
  rintro v F ⟨h1, rfl, hh1, rfl⟩
  conv => whnf
  intro b1
  conv => whnf
  refine XCall.pure (bytes_spec k l hk (by omega)) (fun w h => h.1) ?_
  have hn := sTicks_le l
  have hq : (Q l l.length 0).got = sBytes l := by simp [Q]
  have hbl := sBytes_le l
  generalize sTicks l = n at *
  rintro v F ⟨k2, rfl, hk2, rfl⟩
  conv => whnf
  refine XStop.loop tabOk (ι := Nat × SH) [38, 39, 40, 41, 42, 43, 44, 45, 46] (fun x => (x.1 : Int) ≤ n ∧ x.2.Ok (tks x.1 r.1))
    (fun x => [(38, .v (.int .i64 (x.1 : Int)))]) (fun x => [(tks x.1 r.1).cells x.2]) (fun x => ⟨fun w => By w k2 (sBytes l) ∧ x.2.By (tks x.1 r.1) w, []⟩)
    (fun x => n.toNat - x.1) (0, h1) ⟨hn.1, hh1⟩ ?_ rfl (Ent.imp fun w h => ⟨h.2, h.1.2⟩) fun x hx => ?_
  · conv => whnf
    repeat (first | exact FLe.nil | refine FLe.any ?_ | refine FLe.cons ?_)
  obtain ⟨j, h⟩ := x
  obtain ⟨hj, hh⟩ := hx
  dsimp only at hj hh ⊢
  have hfj := tks_few hfn j
  conv => whnf
  refine XIf.split (fun hlt => ?_) (fun hge => ?_)
  · conv => whnf
    have hlt' : (j : Int) < n := by simpa [iLt_eq] using hlt
    have spec := tick_spec (tks j r.1) h hh hfj
    have et : (tks j r.1).tick.1 = tks (j + 1) r.1 := rfl
    generalize (tks j r.1).tick = t at *
    refine XCall.pure spec (fun w h => h.2) ?_
    rintro v F ⟨h3, ka3, l3, k3, rfl, hh3, hka3, hl3, hok3, hk3, rfl⟩
    rw [et] at hh3
    conv => whnf
    refine ⟨(j + 1, h3), ⟨⟨by dsimp only; omega, hh3⟩, by dsimp only; omega⟩, ?_, ?_, ?_⟩
    · conv => whnf
      refine ⟨?_, rfl⟩
      repeat (first | exact FLe.nil | refine FLe.any ?_ | refine FLe.cons ?_ | refine FLe.eq (by rw [wrap_i64 (by omega)]; rfl) ?_)
    · conv => whnf
      exact ⟨⟨rfl, by rw [et]; rfl⟩, trivial⟩
    · exact Ent.imp fun w h => ⟨h.1.1, by rw [← et]; exact h.2.1⟩
  · conv => whnf
    have hge' : ¬ (j : Int) < n := by simpa [iLt_eq] using hge
    have hjn : j = n.toNat := by omega
    subst hjn
    rw [hend] at *
    have e1 : iEq r.2 0 = true := by simp [iEq_eq, en]
    generalize hS : Q l l.length 0 = t at *
    have ep : t.pos = l.length := by rw [← hS]; rfl
    have eu : t.pause = 0 := by rw [← hS]; rfl
    refine XIf.yes e1 ?_
    conv => whnf
    refine XCall.val (sameBytes_spec h.got k2 t.got (sBytes l) hh.got hk2 (by rw [hq]; omega)) (fun w h => ⟨h.2.got, h.1⟩) (fun v D hv => ?_)
    subst hv
    conv => whnf
    repeat (refine XSame.of ?_; conv => whnf)
    refine ⟨_, Ent.refl _, ?_⟩
    simp [hq, ep, eu, iEq_eq, en]

end Go.Proofs.Ytcmgioaggmaclaa
