/- Serial, part AB: the law SerialOutput. -/
import Derived.Test.YtcmgioaggmaclaaSfA
namespace Go.Proofs.Ytcmgioaggmaclaa
open Go Go.Sx
set_option maxRecDepth 100000
set_option maxHeartbeats 2000000
set_option linter.unusedVariables false
set_option linter.unusedSimpArgs false

theorem lawOutput_spec (s : S) (lo li : Int) (h : SH) (hh : h.Ok s) (hfit : -9223372036854775808 ≤ s.o.last.tag) (k : Hd) (l : List UInt8) (hk : k.Ok l.length) (place : Int) :
    PureSpec Try.prog 4 [.agg ⟨s.rcells lo li h⟩, k.v l.length, .int .i64 place] (fun w => h.By s w ∧ By w k l) (fun v F => v = .bool true) := by
  refine PureSpec.of_xc tabOk Try.func4 rfl (by decide) (n := Try.f4.ntmps - 3) rfl rfl fun w0 av => ?_
  conv => whnf
  intro b1
  conv => whnf
  refine XCall.val awake_spec (fun _ _ => trivial) (fun v D hv => ?_)
  subst hv
  conv => whnf
  refine XCall.val (lfew_spec s lo li h .zero Hd.nil) (fun _ _ => trivial) (fun v D hv => ?_)
  subst hv
  conv => whnf
  repeat (refine XSame.of ?_; conv => whnf)
  refine XIf.split (fun hc => ?_) (fun hc => ?_)
  · conv => whnf
    repeat (refine XSame.of ?_; conv => whnf)
    refine XCall.val awake_spec (fun _ _ => trivial) (fun v D hv => ?_)
    subst hv
    conv => whnf
    exact ⟨_, Ent.refl _, rfl⟩
  have hfw : s.fw = true ∧ lo = 0 ∧ li = 0 := by
    simp [S.lfew, iGt_eq, iEq_eq] at hc
    exact ⟨hc.1.1.1, hc.1.2, hc.2⟩
  obtain ⟨hfw, rfl, rfl⟩ := hfw
  have hf := fw_few hfw
  clear hc
  conv => whnf
  refine XCall.val (rvalid_spec s 0 0 h hh hf) (fun w h => h.1) (fun v D hv => ?_)
  subst hv
  rw [← S.valid_eq]
  conv => whnf
  repeat (refine XSame.of ?_; conv => whnf)
  refine XIf.split (fun hc => ?_) (fun hc => ?_)
  · conv => whnf
    refine XCall.val awake_spec (fun _ _ => trivial) (fun v D hv => ?_)
    subst hv
    conv => whnf
    exact ⟨_, Ent.refl _, rfl⟩
  have hg : s.valid = true ∧ s.o.isOpen = false ∧ s.o.last.tag ≤ 1099511627776 ∧ 1 ≤ l.length ∧ l.length ≤ 128 := by
    simp [iGt_eq, iLt_eq] at hc
    obtain ⟨⟨⟨⟨c1, c2⟩, c3⟩, c4⟩, c5⟩ := hc
    exact ⟨c1, c2, by omega, by omega, by omega⟩
  obtain ⟨hv, ho, htg, hl1, hl2⟩ := hg
  clear hc
  obtain ⟨ht0, hp0⟩ := next_tag hv ho
  have hol : s.output.length ≤ 1000 := by
    simp [S.fw, iLe_eq] at hfw
    omega
  have P1 : Put s (s.o.last.tag + 2) s.output.length l := put_law hv ho hp0 (by omega)
  conv => whnf
  rw [wrap_i64 (n := s.o.last.tag + 2) (by omega)]
  refine XCall.val (to_spec s 0 0 h) (fun _ _ => trivial) (fun v D hv => ?_)
  subst hv
  conv => whnf
  refine XCall.pure (do_spec s h hh hf ⟨s.o.last.tag + 2, 0, s.output.length, l⟩ k hk (by simp; omega)) (fun w h => h) ?_
  have f1 := do_few hf (c := ⟨s.o.last.tag + 2, 0, s.output.length, l⟩) (by simp; omega)
  obtain ⟨p1, p2, p3, p4, p5, p6⟩ := P1
  rw [wo_first hl1 hl2 hol] at p5 p6
  generalize s.do ⟨s.o.last.tag + 2, 0, s.output.length, l⟩ = r1 at *
  rintro v F ⟨h1, rfl, hh1, rfl⟩
  conv => whnf
  intro b2
  conv => whnf
  refine XCall.pure (tick_spec r1.1 h1 hh1 f1) (fun w h => h.2) ?_
  obtain ⟨f2, n2, _, _⟩ := tick_few f1
  generalize r1.1.tick = t1 at *
  rintro v F ⟨h2, ka2, l2, k2, rfl, hh2, hka2, hl2', hok2, hk2, rfl⟩
  conv => whnf
  have g2 : t1.2.1.length = l2.length := by rw [← hl2']; simp
  have as1 := answer_spec ka2 l2 (s.o.last.tag + 2) (g2 ▸ hka2) (by omega) hok2
  rw [← g2, hl2', p6] at as1
  refine XCall.pure as1 (fun w h => h.2.2.1) ?_
  rintro v F ⟨k3, rfl, hk3, rfl⟩
  conv => whnf
  intro b3
  conv => whnf
  refine XStop.draw tabOk mixed rfl rfl ?_
  conv => whnf
  have q1 : iNe r1.2 0 = false := by simp [iNe_eq, p1]
  have ew : IntKind.i64.wrap ((s.output.length : Int) + l.length) = (s.output.length : Int) + l.length := wrap_i64 (by omega)
  refine XIf.no q1 ?_
  conv => whnf
  repeat (first
    | (refine XSame.of ?_; conv => whnf)
    | (refine XHeld.same rfl ?_; conv => whnf)
    | (refine XKeep.of ?_; conv => whnf)
    | (refine XIf.no (by simp [ew, iNe_eq]; done) ?_; conv => whnf))
  refine XVal.build tabOk (t := 22) rfl rfl rfl [] rfl rfl (by simp) (by decide) fun b4 => ?_
  conv => whnf
  repeat (first
    | (refine XSame.of ?_; conv => whnf)
    | (refine XHeld.same rfl ?_; conv => whnf)
    | (refine XHeld.row rfl ?_; conv => whnf)
    | (refine XKeep.of ?_; conv => whnf))
  refine XVal.append tabOk (t := 22) (xt := 22) rfl rfl rfl rfl rfl rfl (r1 := []) (r2 := []) (C := []) (L := []) (M := s.output.map byteV) (Own.full (by simp)) (Sees.fact fun w h => h.1.1.1.1.out) (by simp) byte_one (by omega) (by simp; omega) fun a' cap' C' hO => ?_
  conv => whnf
  simp only [List.nil_append, Nat.zero_add] at hO ⊢
  repeat (first
    | (refine XSame.of ?_; conv => whnf)
    | (refine XHeld.same rfl ?_; conv => whnf)
    | (refine XHeld.row rfl ?_; conv => whnf)
    | (refine XKeep.of ?_; conv => whnf))
  refine XVal.append tabOk (t := 22) (xt := 22) rfl rfl rfl rfl rfl rfl (r1 := []) (r2 := []) (M := l.map byteV) hO (Sees.fact fun w h => h.1.1.1.2) (by simp) byte_one (by omega) (by simp; omega) fun a2 cap2 C2 hO2 => ?_
  conv => whnf
  repeat (first
    | (refine XSame.of ?_; conv => whnf)
    | (refine XHeld.same rfl ?_; conv => whnf)
    | (refine XHeld.row rfl ?_; conv => whnf)
    | (refine XKeep.of ?_; conv => whnf))
  rw [← List.map_append] at hO2
  have e5 : s.output.length + l.length = (s.output ++ l).length := by simp
  rw [e5] at hO2 ⊢
  refine XCall.ent (Own.share (r1 := []) (r2 := []) hO2) ?_
  refine XCall.val (sameBytes_spec h2.out ⟨a2, cap2⟩ t1.1.output (s.output ++ l) hh2.out ⟨hO2.none_nil, hO2.fit⟩ (by rw [p5]; simp; omega)) (fun w h => ⟨h.1.1.2.1.out, h.2⟩) (fun v D hv => ?_)
  subst hv
  conv => whnf
  have q2 : (t1.1.output == s.output ++ l) = true := by simp [p5]
  repeat (first
    | (refine XSame.of ?_; conv => whnf)
    | (refine XHeld.same rfl ?_; conv => whnf)
    | (refine XHeld.row rfl ?_; conv => whnf)
    | (refine XKeep.of ?_; conv => whnf))
  refine XIf.no (by simp [p5]) ?_
  conv => whnf
  have ew2 : IntKind.i64.wrap (s.o.last.tag + 2 + 2) = s.o.last.tag + 4 := by rw [wrap_i64 (by omega)]; omega
  have ew3 : IntKind.i64.wrap (s.o.last.tag + 2 + 4) = s.o.last.tag + 6 := by rw [wrap_i64 (by omega)]; omega
  have hp4 : proper (s.o.last.tag + 4) 0 = true := by
    have := (next_tag p2 p3).2
    rw [p4] at this
    rwa [show s.o.last.tag + 4 = s.o.last.tag + 2 + 2 by omega]
  have P2 : Put t1.1 (s.o.last.tag + 4) s.output.length l := put_law p2 p3 hp4 (by omega)
  rw [ew2]
  refine XCall.pure (do_spec t1.1 h2 hh2 f2 ⟨s.o.last.tag + 4, 0, s.output.length, l⟩ k hk (by simp; omega)) (fun w h => ⟨h.1.1.2.1, h.1.1.1.1.2⟩) ?_
  have f3 := do_few f2 (c := ⟨s.o.last.tag + 4, 0, s.output.length, l⟩) (by simp; omega)
  obtain ⟨u1, u2, u3, u4, u5, u6⟩ := P2
  rw [p5, wo_again hl1 hl2 hol] at u5 u6
  generalize t1.1.do ⟨s.o.last.tag + 4, 0, s.output.length, l⟩ = r2 at *
  rintro v F ⟨h4, rfl, hh4, rfl⟩
  conv => whnf
  intro b5
  conv => whnf
  refine XCall.pure (tick_spec r2.1 h4 hh4 f3) (fun w h => h.2) ?_
  obtain ⟨f4, n4, _, _⟩ := tick_few f3
  generalize r2.1.tick = t2 at *
  rintro v F ⟨h5, ka5, l5, k5, rfl, hh5, hka5, hl5', hok5, hk5, rfl⟩
  conv => whnf
  have g5 : t2.2.1.length = l5.length := by rw [← hl5']; simp
  have as2 := answer_spec ka5 l5 (s.o.last.tag + 4) (g5 ▸ hka5) (by omega) hok5
  rw [← g5, hl5', u6] at as2
  rw [ew2]
  refine XCall.pure as2 (fun w h => h.2.2.1) ?_
  rintro v F ⟨k6, rfl, hk6, rfl⟩
  conv => whnf
  intro b6
  conv => whnf
  repeat (refine XSame.of ?_; conv => whnf)
  refine XIf.no (by simp [u1, iNe_eq, ew]) ?_
  conv => whnf
  refine XCall.val (sameBytes_spec h2.out h5.out t1.1.output t2.1.output hh2.out hh5.out (by rw [p5]; simp; omega)) (fun w h => ⟨h.1.1.1.1.1.2.1.out, h.1.2.1.out⟩) (fun v D hv => ?_)
  subst hv
  conv => whnf
  repeat (refine XSame.of ?_; conv => whnf)
  refine XIf.no (by simp [p5, u5]) ?_
  conv => whnf
  have hp6 : proper (s.o.last.tag + 6) 0 = true := by
    have := (next_tag u2 u3).2
    rw [u4] at this
    rwa [show s.o.last.tag + 6 = s.o.last.tag + 4 + 2 by omega]
  have P3 : Put t2.1 (s.o.last.tag + 6) place l := put_law u2 u3 hp6 (by omega)
  rw [ew3]
  refine XCall.pure (do_spec t2.1 h5 hh5 f4 ⟨s.o.last.tag + 6, 0, place, l⟩ k hk (by simp; omega)) (fun w h => ⟨h.1.2.1, h.1.1.1.1.1.1.1.2⟩) ?_
  have f5 := do_few f4 (c := ⟨s.o.last.tag + 6, 0, place, l⟩) (by simp; omega)
  obtain ⟨z1, z2, z3, z4, z5, z6⟩ := P3
  obtain ⟨m, hm⟩ := wo_grows t2.1.output place l
  rw [hm] at z5
  generalize t2.1.do ⟨s.o.last.tag + 6, 0, place, l⟩ = r3 at *
  rintro v F ⟨h7, rfl, hh7, rfl⟩
  conv => whnf
  intro b7
  conv => whnf
  refine XCall.pure (tick_spec r3.1 h7 hh7 f5) (fun w h => h.2) ?_
  obtain ⟨f6, n6, _, _⟩ := tick_few f5
  generalize r3.1.tick = t3 at *
  rintro v F ⟨h8, ka8, l8, k8, rfl, hh8, hka8, hl8', hok8, hk8, rfl⟩
  conv => whnf
  refine XStop.draw tabOk mixed rfl rfl ?_
  conv => whnf
  have hlen : t2.1.output.length ≤ t3.1.output.length := by rw [z5]; simp
  have hcap := hh8.out.cap
  refine XIf.yes (by simp [z1, iEq_eq]) ?_
  conv => whnf
  repeat (first
    | (refine XSame.of ?_; conv => whnf)
    | (refine XHeld.same rfl ?_; conv => whnf)
    | (refine XKeep.of ?_; conv => whnf)
    | (refine XIf.yes (by simp [iGe_eq]; omega) ?_; conv => whnf))
  refine XRead.slice tabOk (t := 22) rfl rfl rfl (lo := none) (hi := some (t2.1.output.length : Int)) (mx := none) (k1 := .i64) (k3 := .i64) 0 t2.1.output.length h8.out.c rfl rfl rfl (by omega) (by omega) (Nat.le_refl _) (fun h => by cases h) ?_
  simp only [cutA_zero, Nat.sub_zero]
  conv => whnf
  repeat (first
    | (refine XSame.of ?_; conv => whnf)
    | (refine XHeld.same rfl ?_; conv => whnf)
    | (refine XKeep.of ?_; conv => whnf)
    | (refine XIf.yes (by simp [iGe_eq]; omega) ?_; conv => whnf))
  have htake : ∀ w, By w h8.out t3.1.output → By w h8.out t2.1.output := fun w hb => by
    have := RowAt.take hb t2.1.output.length
    rw [z5, List.map_append, List.take_append_of_le_length (by simp), List.take_of_length_le (by simp)] at this
    exact this
  refine XCall.val (sameBytes_spec h8.out h5.out t2.1.output t2.1.output ⟨fun e => by have := hh8.out.nil e; omega, by omega⟩ hh5.out (by rw [u5]; simp; omega)) (fun w h => ⟨htake w h.2.1.out, h.1.1.1.2.1.out⟩) (fun v D hv => ?_)
  subst hv
  conv => whnf
  repeat (first
    | (refine XSame.of ?_; conv => whnf)
    | (refine XHeld.same rfl ?_; conv => whnf)
    | (refine XKeep.of ?_; conv => whnf))
  refine ⟨_, Ent.refl _, ?_⟩
  simp

end Go.Proofs.Ytcmgioaggmaclaa
