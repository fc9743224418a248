/- Serial, part AH: the law SerialInput. -/
import Derived.Test.YtcmgioaggmaclaaSfG
namespace Go.Proofs.Ytcmgioaggmaclaa
open Go Go.Sx
set_option maxRecDepth 100000
set_option maxHeartbeats 4000000
set_option linter.unusedVariables false
set_option linter.unusedSimpArgs false

/-- What the loop of SerialInput goes by. -/
structure GIn where
  j : Nat
  s : S
  h : SH
  g : List UInt8
  tag : Int
  ga : Option Addr
  gc : Nat
  gC : List Value
  aa : Option Addr
  ac : Nat
  aC : List Value

theorem Ent.two {D : World → Prop} {n n' : Nat} {a b : Option Addr} {c c' : Nat} {C C' L L' : List Value} (h : Own 1 n a c C L) (h' : Own 1 n' b c' C' L') :
    Ent ⟨D, orow a C ++ orow b C'⟩ ⟨fun w => (D w ∧ RowAt w a L) ∧ RowAt w b L', []⟩ := by
  have h1 := Own.share (r1 := []) (r2 := orow b C') h (D := D)
  have h2 := Own.share (r1 := []) (r2 := []) h' (D := fun w => D w ∧ RowAt w a L)
  simp only [List.nil_append, List.append_nil] at h1 h2
  exact h1.trans h2

theorem do_got {s : S} {c : Cmd} (h : (s.do c).2 = 0) : (s.do c).1.got = s.got := by
  obtain ⟨hv, hp, h⟩ := do_inv h
  rcases h with ⟨h0, h1⟩ | ⟨h0, h1⟩
  · rw [do0 hv hp h0 h1]
  · rw [do1 hv hp h0 h1]

theorem lawInput_spec (k : Hd) (l : List UInt8) (hk : k.Ok l.length) (z : Int) (hz : 0 ≤ z ∧ z ≤ 65535) (m : Hd) (gaps : List UInt8) (hm : m.Ok gaps.length) :
    PureSpec Try.prog 5 [k.v l.length, .int .u16 z, m.v gaps.length] (fun w => By w k l ∧ By w m gaps) (fun v F => v = .bool true) := by
  refine PureSpec.of_xc tabOk Try.func5 rfl (by decide) (n := Try.f5.ntmps - 3) rfl rfl fun w0 av => ?_
  conv => whnf
  refine XCall.val awake_spec (fun _ _ => trivial) (fun v D hv => ?_)
  subst hv
  conv => whnf
  repeat (refine XSame.of ?_; conv => whnf)
  refine XIf.split (fun hc => ?_) (fun hc => ?_)
  · conv => whnf
    refine XCall.val awake_spec (fun _ _ => trivial) (fun v D hv => ?_)
    subst hv
    conv => whnf
    exact ⟨_, Ent.refl _, rfl⟩
  have hl : l.length ≤ 200 ∧ gaps.length ≤ 50 := by
    simp [iGt_eq] at hc
    omega
  obtain ⟨hl, hg⟩ := hl
  clear hc
  conv => whnf
  refine XCall.pure (new_spec k l hk (by omega)) (fun w h => h.1) ?_
  obtain ⟨en, hg0, R0⟩ := Rin.start (l := l) (by omega)
  generalize S.new l = r at *
  rintro v F ⟨h1, rfl, hh1, rfl⟩
  conv => whnf
  intro b1
  conv => whnf
  have hN : 0 ≤ IntKind.i64.wrap (z.tmod (Int.ofNat (299 + 1))) ∧ IntKind.i64.wrap (z.tmod (Int.ofNat (299 + 1))) ≤ 300 := by
    have h1 := Int.tmod_nonneg (Int.ofNat (299 + 1)) hz.1
    have h2 := Int.tmod_lt_of_pos z (b := Int.ofNat (299 + 1)) (by decide)
    have h3 : Int.ofNat (299 + 1) = 300 := rfl
    rw [h3] at h1 h2 ⊢
    rw [wrap_i64 (by omega)]
    omega
  generalize IntKind.i64.wrap (z.tmod (Int.ofNat (299 + 1))) = N at *
  refine XStop.loop tabOk (ι := GIn) [6, 9, 10, 11, 12, 13, 14, 15, 16, 17, 18, 19, 43, 44, 45, 46, 47, 48, 49, 50, 51, 52, 53, 54, 55, 56, 57, 58, 59, 60, 61, 62, 63, 64, 65, 66, 67, 68, 69, 70, 71, 72, 73, 74, 75, 76, 77, 78, 79, 80, 81, 82, 83, 84, 85, 86, 87, 88, 89, 90, 91, 92, 93, 94, 95, 96, 97, 98, 99, 100, 101, 102, 103, 104, 105, 106]
    (fun x => Rin l x.s x.g x.tag x.j ∧ (x.j : Int) ≤ N ∧ x.h.Ok x.s ∧ Own 1 x.g.length x.ga x.gc x.gC (x.g.map byteV) ∧ Own 1 x.s.got.length x.aa x.ac x.aC (x.s.got.map byteV))
    (fun x => [(9, .v (.slice x.ga x.g.length x.gc)), (10, .v (.slice x.aa x.s.got.length x.ac)), (11, .v (.int .i64 x.tag)), (43, .v (.int .i64 (x.j : Int)))])
    (fun x => [x.s.cells x.h]) (fun x => ⟨fun w => (By w k l ∧ By w m gaps) ∧ x.h.By x.s w, orow x.ga x.gC ++ orow x.aa x.aC⟩)
    (fun x => N.toNat - x.j) ⟨0, r.1, h1, [], 1, none, 0, [], none, 0, []⟩ ⟨R0, hN.1, hh1, Own.nil 1, ?_⟩ ?_ rfl (Ent.imp fun w h => h) fun x hx => ?_
  · dsimp only
    rw [hg0]
    exact Own.nil 1
  · conv => whnf
    repeat (first | exact FLe.nil | refine FLe.any ?_ | refine FLe.cons ?_ | refine FLe.eq (by dsimp only; rw [hg0]; rfl) ?_)
  obtain ⟨j, s, h, g, tag, ga, gc, gC, aa, ac, aC⟩ := x
  obtain ⟨R, hj, hh, hOg, hOa⟩ := hx
  dsimp only at R hj hh hOg hOa ⊢
  have hva := S.valid_va R.valid
  have hgl : s.got.length ≤ 4000 := by
    have := hva.got
    have := hva.le
    have := hva.inp
    omega
  have hgg := R.glen
  conv => whnf
  refine XIf.split (fun hlt => ?_) (fun hge => ?_)
  · conv => whnf
    have hlt' : (j : Int) < N := by simpa [iLt_eq] using hlt
    have T := R.tick
    obtain ⟨f2, n2, a5, dl2⟩ := tick_few R.few
    have hvt := S.valid_va (S.tick_valid s)
    refine XCall.pure (tick_spec s h hh R.few) (fun w h => h.2) ?_
    generalize s.tick = t at *
    rintro v F ⟨h3, ka3, l3, k3, rfl, hh3, hka3, hl3, hok3, hk3, rfl⟩
    obtain ⟨T1, T2, T3⟩ := T
    conv => whnf
    intro b2
    conv => whnf
    refine XVal.append tabOk (t := 22) (xt := 22) rfl rfl rfl rfl rfl rfl (r1 := orow ga gC) (r2 := []) (M := t.2.2.map byteV) hOa (Sees.fact fun w h => h.2.2.2) (by simp) byte_one (by omega) (by simp; omega) fun aa' ac' aC' hOa' => ?_
    conv => whnf
    have e1 : s.got.length + t.2.2.length = t.1.got.length := by rw [T1]; simp
    rw [← List.map_append, ← T1, e1] at hOa'
    rw [e1]
    have hgl2 : t.1.got.length ≤ 4000 := by
      have := hvt.got
      have := hvt.le
      have := hvt.inp
      omega
    have g3 : t.2.1.length = l3.length := by rw [← hl3]; simp
    have as1 := answer_spec ka3 l3 tag (g3 ▸ hka3) (by omega) hok3
    rw [← g3, hl3] at as1
    refine XCall.ent (F' := ⟨fun w => ((By w k l ∧ By w m gaps) ∧ h3.By t.1 w) ∧ AnsAt w ka3 l3, orow ga gC ++ orow aa' aC'⟩) (Ent.of_le ⟨by simp [Fx.and], fun w h => ⟨⟨h.1.1, h.2.1⟩, h.2.2.1⟩⟩) ?_
    refine XCall.pure as1 (fun w h => h.2) ?_
    have dx : (ansOf t.2.1 tag).1.data.length ≤ 1000000 := by
      unfold ansOf
      split
      · rename_i a ha
        exact dl2 a (List.mem_of_find?_eq_some ha)
      · simp [Ans.zero]
    generalize ansOf t.2.1 tag = x at *
    rintro v F ⟨k4, rfl, hk4, rfl⟩
    conv => whnf
    intro b3
    conv => whnf
    have htl := R.tagle
    have htp : 1 ≤ tag := by
      have := R.tagp
      simp [proper, iEq_eq, iGe_eq] at this
      omega
    refine XIf.split (fun hx => ?_) (fun hx => ?_)
    · conv => whnf
      obtain ⟨T4, R'⟩ := T3 hx
      have hgl3 := R'.glen
      rw [List.length_append] at hgl3
      refine XVal.ent (F' := ⟨fun w => (((By w k l ∧ By w m gaps) ∧ h3.By t.1 w) ∧ AnsAt w ka3 l3) ∧ By w k4 x.1.data, [] ++ orow ga gC ++ orow aa' aC'⟩) (Ent.of_le ⟨by simp [Fx.and], fun w h => h⟩) ?_
      refine XVal.append tabOk (t := 22) (xt := 22) rfl rfl rfl rfl rfl rfl (r1 := []) (r2 := orow aa' aC') (M := x.1.data.map byteV) hOg (Sees.fact fun w h => h.2) (by simp) byte_one (by omega) (by simp; omega) fun ga' gc' gC' hOg' => ?_
      conv => whnf
      refine XIf.no (by simp [iNe_eq, T4]) ?_
      conv => whnf
      have e6 : g.length + x.1.data.length = (g ++ x.1.data).length := by simp
      have hOG : Own 1 (g ++ x.1.data).length ga' gc' gC' ((g ++ x.1.data).map byteV) := by
        rw [List.map_append, ← e6]
        exact hOg'
      rw [e6, wrap_i64 (n := tag + 2) (by omega)]
      refine XIf.split (fun ho => ?_) (fun ho => ?_)
      · conv => whnf
        repeat (refine XSame.of ?_; conv => whnf)
        refine XIf.split (fun hz => ?_) (fun hz => ?_)
        · conv => whnf
          repeat (refine XSame.of ?_; conv => whnf)
          have ho' : t.1.i.isOpen = false := by simpa using ho
          have Gv := R'.give ho'
          have hgd : (t.1.do ⟨tag + 2, 1, ((g ++ x.1.data).length : Int), []⟩).1.got = t.1.got := do_got Gv.1
          refine XCall.pure (do_spec t.1 h3 hh3 f2 ⟨tag + 2, 1, ((g ++ x.1.data).length : Int), []⟩ Hd.nil Hd.nil_ok (by simp)) (fun w h => ⟨h.1.1.2, By.nil w⟩) ?_
          generalize t.1.do ⟨tag + 2, 1, ((g ++ x.1.data).length : Int), []⟩ = d at *
          rintro v F ⟨h5, rfl, hh5, rfl⟩
          obtain ⟨de, RR⟩ := Gv
          conv => whnf
          intro b4
          conv => whnf
          refine XIf.no (by simp [iNe_eq, de]) ?_
          conv => whnf
          have hOa2 : Own 1 d.1.got.length aa' ac' aC' (d.1.got.map byteV) := by rw [hgd]; exact hOa'
          refine ⟨⟨j + 1, d.1, h5, g ++ x.1.data, tag + 2, ga', gc', gC', aa', ac', aC'⟩, ⟨⟨RR, by dsimp only; omega, by dsimp only; assumption, hOG, hOa2⟩, by dsimp only; omega⟩, ?_, ?_, ?_⟩
          · conv => whnf
            refine ⟨?_, rfl⟩
            repeat (first | exact FLe.nil | refine FLe.any ?_ | refine FLe.cons ?_ | refine FLe.eq (by rw [wrap_i64 (by omega)]; rfl) ?_ | refine FLe.eq (by dsimp only; rw [hgd]) ?_)
          · conv => whnf
            exact ⟨⟨rfl, rfl⟩, trivial⟩
          · exact Ent.of_le ⟨by simp [Fx.and], fun w h => ⟨h.1.1.1.1, h.2⟩⟩
        · conv => whnf
          repeat (refine XSame.of ?_; conv => whnf)
          have hg0' : gaps.length ≠ 0 := by simpa [iEq_eq] using hz
          refine ⟨by omega, ?_⟩
          conv => whnf
          refine XVal.of_read (XRead.byteAt tabOk (t := 22) rfl rfl rfl rfl (j % gaps.length) (by rw [Int.tmod_eq_emod_of_nonneg (by omega)]; rfl) (Nat.mod_lt _ (by omega)) hm fun ad had => ?_)
          conv => whnf
          refine XVal.of_read (XRead.byteLd tabOk (t := 5) rfl rfl had (l := gaps) (Sees.fact fun w hw => hw.1.1.1.2) (Nat.mod_lt _ (by omega)) ?_)
          conv => whnf
          repeat (refine XSame.of ?_; conv => whnf)
          refine XIf.split (fun hp => ?_) (fun hp => ?_)
          · conv => whnf
            have ho' : t.1.i.isOpen = false := by simpa using ho
            have Gv := R'.give ho'
            have hgd : (t.1.do ⟨tag + 2, 1, ((g ++ x.1.data).length : Int), []⟩).1.got = t.1.got := do_got Gv.1
            refine XCall.pure (do_spec t.1 h3 hh3 f2 ⟨tag + 2, 1, ((g ++ x.1.data).length : Int), []⟩ Hd.nil Hd.nil_ok (by simp)) (fun w h => ⟨h.1.1.2, By.nil w⟩) ?_
            generalize t.1.do ⟨tag + 2, 1, ((g ++ x.1.data).length : Int), []⟩ = d at *
            rintro v F ⟨h5, rfl, hh5, rfl⟩
            obtain ⟨de, RR⟩ := Gv
            conv => whnf
            intro b4
            conv => whnf
            refine XIf.no (by simp [iNe_eq, de]) ?_
            conv => whnf
            have hOa2 : Own 1 d.1.got.length aa' ac' aC' (d.1.got.map byteV) := by rw [hgd]; exact hOa'
            refine ⟨⟨j + 1, d.1, h5, g ++ x.1.data, tag + 2, ga', gc', gC', aa', ac', aC'⟩, ⟨⟨RR, by dsimp only; omega, by dsimp only; assumption, hOG, hOa2⟩, by dsimp only; omega⟩, ?_, ?_, ?_⟩
            · conv => whnf
              refine ⟨?_, rfl⟩
              repeat (first | exact FLe.nil | refine FLe.any ?_ | refine FLe.cons ?_ | refine FLe.eq (by rw [wrap_i64 (by omega)]; rfl) ?_ | refine FLe.eq (by dsimp only; rw [hgd]) ?_)
            · conv => whnf
              exact ⟨⟨rfl, rfl⟩, trivial⟩
            · exact Ent.of_le ⟨by simp [Fx.and], fun w h => ⟨h.1.1.1.1, h.2⟩⟩
          · conv => whnf
            have RR := R'
            have hgd : t.1.got = t.1.got := rfl
            refine ⟨⟨j + 1, t.1, h3, g ++ x.1.data, tag + 2, ga', gc', gC', aa', ac', aC'⟩, ⟨⟨RR, by dsimp only; omega, by dsimp only; assumption, hOG, hOa'⟩, by dsimp only; omega⟩, ?_, ?_, ?_⟩
            · conv => whnf
              refine ⟨?_, rfl⟩
              repeat (first | exact FLe.nil | refine FLe.any ?_ | refine FLe.cons ?_ | refine FLe.eq (by rw [wrap_i64 (by omega)]; rfl) ?_ | refine FLe.eq (by dsimp only; rw [hgd]) ?_)
            · conv => whnf
              exact ⟨⟨rfl, rfl⟩, trivial⟩
            · exact Ent.of_le ⟨by simp [Fx.and], fun w h => ⟨h.1.1.1, h.1.1.2⟩⟩
      · conv => whnf
        repeat (refine XSame.of ?_; conv => whnf)
        have RR := R'
        have hgd : t.1.got = t.1.got := rfl
        refine ⟨⟨j + 1, t.1, h3, g ++ x.1.data, tag + 2, ga', gc', gC', aa', ac', aC'⟩, ⟨⟨RR, by dsimp only; omega, by dsimp only; assumption, hOG, hOa'⟩, by dsimp only; omega⟩, ?_, ?_, ?_⟩
        · conv => whnf
          refine ⟨?_, rfl⟩
          repeat (first | exact FLe.nil | refine FLe.any ?_ | refine FLe.cons ?_ | refine FLe.eq (by rw [wrap_i64 (by omega)]; rfl) ?_ | refine FLe.eq (by dsimp only; rw [hgd]) ?_)
        · conv => whnf
          exact ⟨⟨rfl, rfl⟩, trivial⟩
        · exact Ent.of_le ⟨by simp [Fx.and], fun w h => ⟨h.1.1.1, h.1.1.2⟩⟩
    · conv => whnf
      have R' := T2 hx
      have hOG := hOg
      refine XIf.split (fun ho => ?_) (fun ho => ?_)
      · conv => whnf
        repeat (refine XSame.of ?_; conv => whnf)
        refine XIf.split (fun hz => ?_) (fun hz => ?_)
        · conv => whnf
          repeat (refine XSame.of ?_; conv => whnf)
          have ho' : t.1.i.isOpen = false := by simpa using ho
          have Gv := R'.give ho'
          have hgd : (t.1.do ⟨tag, 1, ((g).length : Int), []⟩).1.got = t.1.got := do_got Gv.1
          refine XCall.pure (do_spec t.1 h3 hh3 f2 ⟨tag, 1, ((g).length : Int), []⟩ Hd.nil Hd.nil_ok (by simp)) (fun w h => ⟨h.1.1.2, By.nil w⟩) ?_
          generalize t.1.do ⟨tag, 1, ((g).length : Int), []⟩ = d at *
          rintro v F ⟨h5, rfl, hh5, rfl⟩
          obtain ⟨de, RR⟩ := Gv
          conv => whnf
          intro b4
          conv => whnf
          refine XIf.no (by simp [iNe_eq, de]) ?_
          conv => whnf
          have hOa2 : Own 1 d.1.got.length aa' ac' aC' (d.1.got.map byteV) := by rw [hgd]; exact hOa'
          refine ⟨⟨j + 1, d.1, h5, g, tag, ga, gc, gC, aa', ac', aC'⟩, ⟨⟨RR, by dsimp only; omega, by dsimp only; assumption, hOG, hOa2⟩, by dsimp only; omega⟩, ?_, ?_, ?_⟩
          · conv => whnf
            refine ⟨?_, rfl⟩
            repeat (first | exact FLe.nil | refine FLe.any ?_ | refine FLe.cons ?_ | refine FLe.eq (by rw [wrap_i64 (by omega)]; rfl) ?_ | refine FLe.eq (by dsimp only; rw [hgd]) ?_)
          · conv => whnf
            exact ⟨⟨rfl, rfl⟩, trivial⟩
          · exact Ent.of_le ⟨by simp [Fx.and], fun w h => ⟨h.1.1.1.1, h.2⟩⟩
        · conv => whnf
          repeat (refine XSame.of ?_; conv => whnf)
          have hg0' : gaps.length ≠ 0 := by simpa [iEq_eq] using hz
          refine ⟨by omega, ?_⟩
          conv => whnf
          refine XVal.of_read (XRead.byteAt tabOk (t := 22) rfl rfl rfl rfl (j % gaps.length) (by rw [Int.tmod_eq_emod_of_nonneg (by omega)]; rfl) (Nat.mod_lt _ (by omega)) hm fun ad had => ?_)
          conv => whnf
          refine XVal.of_read (XRead.byteLd tabOk (t := 5) rfl rfl had (l := gaps) (Sees.fact fun w hw => hw.1.1.1.2) (Nat.mod_lt _ (by omega)) ?_)
          conv => whnf
          repeat (refine XSame.of ?_; conv => whnf)
          refine XIf.split (fun hp => ?_) (fun hp => ?_)
          · conv => whnf
            have ho' : t.1.i.isOpen = false := by simpa using ho
            have Gv := R'.give ho'
            have hgd : (t.1.do ⟨tag, 1, ((g).length : Int), []⟩).1.got = t.1.got := do_got Gv.1
            refine XCall.pure (do_spec t.1 h3 hh3 f2 ⟨tag, 1, ((g).length : Int), []⟩ Hd.nil Hd.nil_ok (by simp)) (fun w h => ⟨h.1.1.2, By.nil w⟩) ?_
            generalize t.1.do ⟨tag, 1, ((g).length : Int), []⟩ = d at *
            rintro v F ⟨h5, rfl, hh5, rfl⟩
            obtain ⟨de, RR⟩ := Gv
            conv => whnf
            intro b4
            conv => whnf
            refine XIf.no (by simp [iNe_eq, de]) ?_
            conv => whnf
            have hOa2 : Own 1 d.1.got.length aa' ac' aC' (d.1.got.map byteV) := by rw [hgd]; exact hOa'
            refine ⟨⟨j + 1, d.1, h5, g, tag, ga, gc, gC, aa', ac', aC'⟩, ⟨⟨RR, by dsimp only; omega, by dsimp only; assumption, hOG, hOa2⟩, by dsimp only; omega⟩, ?_, ?_, ?_⟩
            · conv => whnf
              refine ⟨?_, rfl⟩
              repeat (first | exact FLe.nil | refine FLe.any ?_ | refine FLe.cons ?_ | refine FLe.eq (by rw [wrap_i64 (by omega)]; rfl) ?_ | refine FLe.eq (by dsimp only; rw [hgd]) ?_)
            · conv => whnf
              exact ⟨⟨rfl, rfl⟩, trivial⟩
            · exact Ent.of_le ⟨by simp [Fx.and], fun w h => ⟨h.1.1.1.1, h.2⟩⟩
          · conv => whnf
            have RR := R'
            have hgd : t.1.got = t.1.got := rfl
            refine ⟨⟨j + 1, t.1, h3, g, tag, ga, gc, gC, aa', ac', aC'⟩, ⟨⟨RR, by dsimp only; omega, by dsimp only; assumption, hOG, hOa'⟩, by dsimp only; omega⟩, ?_, ?_, ?_⟩
            · conv => whnf
              refine ⟨?_, rfl⟩
              repeat (first | exact FLe.nil | refine FLe.any ?_ | refine FLe.cons ?_ | refine FLe.eq (by rw [wrap_i64 (by omega)]; rfl) ?_ | refine FLe.eq (by dsimp only; rw [hgd]) ?_)
            · conv => whnf
              exact ⟨⟨rfl, rfl⟩, trivial⟩
            · exact Ent.of_le ⟨by simp [Fx.and], fun w h => ⟨h.1.1.1, h.1.1.2⟩⟩
      · conv => whnf
        repeat (refine XSame.of ?_; conv => whnf)
        have RR := R'
        have hgd : t.1.got = t.1.got := rfl
        refine ⟨⟨j + 1, t.1, h3, g, tag, ga, gc, gC, aa', ac', aC'⟩, ⟨⟨RR, by dsimp only; omega, by dsimp only; assumption, hOG, hOa'⟩, by dsimp only; omega⟩, ?_, ?_, ?_⟩
        · conv => whnf
          refine ⟨?_, rfl⟩
          repeat (first | exact FLe.nil | refine FLe.any ?_ | refine FLe.cons ?_ | refine FLe.eq (by rw [wrap_i64 (by omega)]; rfl) ?_ | refine FLe.eq (by dsimp only; rw [hgd]) ?_)
        · conv => whnf
          exact ⟨⟨rfl, rfl⟩, trivial⟩
        · exact Ent.of_le ⟨by simp [Fx.and], fun w h => ⟨h.1.1.1, h.1.1.2⟩⟩
  · conv => whnf
    have kg : (⟨ga, gc⟩ : Hd).Ok g.length := ⟨hOg.none_nil, hOg.fit⟩
    have ka : (⟨aa, ac⟩ : Hd).Ok s.got.length := ⟨hOa.none_nil, hOa.fit⟩
    refine XCall.ent (F' := ⟨fun w => (((By w k l ∧ By w m gaps) ∧ h.By s w) ∧ By w ⟨ga, gc⟩ g) ∧ By w ⟨aa, ac⟩ s.got, []⟩)
      (Ent.two hOg hOa) ?_
    refine XCall.pure (bytes_spec k l hk (by omega)) (fun w h => h.1.1.1.1) ?_
    obtain ⟨W1, W2⟩ := R.want
    have W3 := R.pre
    have hbl := sBytes_le l
    generalize sBytes l = want at *
    rintro v F ⟨k2, rfl, hk2, rfl⟩
    conv => whnf
    have hcap := ka.cap
    have hcap2 := hk2.cap
    have tk1 : ∀ w, By w ⟨aa, ac⟩ s.got → By w ⟨aa, ac⟩ g := fun w hb => by
      have := RowAt.take hb g.length
      rw [← List.map_take, ← W3] at this
      exact this
    have tk2 : ∀ w, By w k2 want → By w k2 s.got := fun w hb => by
      have := RowAt.take hb s.got.length
      rw [← List.map_take, ← W2] at this
      exact this
    repeat (refine XSame.of ?_; conv => whnf)
    refine XIf.yes (by simp [iEq_eq, iLe_eq, en]; omega) ?_
    conv => whnf
    refine XVal.of_read (XRead.slice tabOk (t := 22) rfl rfl rfl (lo := none) (hi := some (g.length : Int)) (mx := none) (k1 := .i64) (k3 := .i64) 0 g.length ac rfl rfl rfl (by omega) (by dsimp only at hcap; omega) (Nat.le_refl _) (fun h => by cases h) ?_)
    simp only [cutA_zero, Nat.sub_zero]
    conv => whnf
    refine XCall.val (sameBytes_spec ⟨ga, gc⟩ ⟨aa, ac⟩ g g kg ⟨fun e => by have := ka.nil e; omega, by dsimp only at hcap ⊢; omega⟩ (by omega)) (fun w h => ⟨h.1.1.2, tk1 w h.1.2⟩) (fun v D hv => ?_)
    subst hv
    conv => whnf
    repeat (refine XSame.of ?_; conv => whnf)
    refine XIf.yes (by simp [iLe_eq]; omega) ?_
    conv => whnf
    refine XVal.of_read (XRead.slice tabOk (t := 22) rfl rfl rfl (lo := none) (hi := some (s.got.length : Int)) (mx := none) (k1 := .i64) (k3 := .i64) 0 s.got.length k2.c rfl rfl rfl (by omega) (by omega) (Nat.le_refl _) (fun h => by cases h) ?_)
    simp only [cutA_zero, Nat.sub_zero]
    conv => whnf
    refine XCall.val (sameBytes_spec ⟨aa, ac⟩ k2 s.got s.got ka ⟨fun e => by have := hk2.nil e; omega, by omega⟩ (by omega)) (fun w h => ⟨h.1.2, tk2 w h.2⟩) (fun v D hv => ?_)
    subst hv
    conv => whnf
    repeat (refine XSame.of ?_; conv => whnf)
    refine XIf.yes (by simp) ?_
    conv => whnf
    refine XCall.val (sameBytes_spec h.got ⟨aa, ac⟩ s.got s.got hh.got ka (by omega)) (fun w h => ⟨h.1.1.1.2.got, h.1.2⟩) (fun v D hv => ?_)
    subst hv
    conv => whnf
    repeat (refine XSame.of ?_; conv => whnf)
    refine ⟨_, Ent.refl _, ?_⟩
    simp

end Go.Proofs.Ytcmgioaggmaclaa
