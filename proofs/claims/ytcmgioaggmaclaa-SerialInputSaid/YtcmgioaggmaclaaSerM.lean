/- Serial, part M: the reference's write. -/
import Derived.Test.YtcmgioaggmaclaaSerL
import Derived.Test.YtcmgioaggmaclaaSxX
namespace Go.Proofs.Ytcmgioaggmaclaa
open Go Go.Sx
set_option maxRecDepth 100000
set_option maxHeartbeats 2000000
set_option linter.unusedVariables false
set_option linter.unusedSimpArgs false

/-- A reference state, and answers. -/
def RelRW (r : S × List Ans) (v : Value) (F : Fx) : Prop :=
  ∃ (h : SH) (ka : Hd) (l : List (Ans × Hd)), v = .tuple #[.agg ⟨r.1.rcells 0 0 h⟩, ka.v r.2.length] ∧ h.Ok r.1 ∧ ka.Ok r.2.length ∧ l.map (·.1) = r.2 ∧ AnsOk l ∧ F = ⟨fun w => h.By r.1 w ∧ AnsAt w ka l, []⟩

theorem ansOk_one {a : Ans} {k : Hd} (h : k.Ok a.data.length) : AnsOk [(a, k)] := by
  intro p hp
  obtain rfl := List.mem_singleton.1 hp
  exact h

theorem ansBy_one {w : World} {a : Ans} {k : Hd} (h : By w k a.data) : ∀ p ∈ [(a, k)], By w p.2 p.1.data := by
  intro p hp
  obtain rfl := List.mem_singleton.1 hp
  exact h

theorem tickOut_write (s : S) (h1 : s.o.isOpen = true) (h2 : iNe s.o.cmd.tag s.o.last.tag = true) (h3 : (iLt s.o.cmd.data.length 1 || iGt s.o.cmd.data.length 128) = false)
    (h4 : (iLt s.o.cmd.place 0 || iGt s.o.cmd.place s.output.length || iGt (IntKind.i64.wrap (s.o.cmd.place + s.o.cmd.data.length)) 100000) = false)
    (hp : (0 ≤ s.o.cmd.place ∧ s.o.cmd.place ≤ s.output.length) ∧ IntKind.i64.wrap (s.o.cmd.place + s.o.cmd.data.length) ≤ 100000)
    (hwr : IntKind.i64.wrap (s.o.cmd.place + s.o.cmd.data.length) = s.o.cmd.place + s.o.cmd.data.length) :
    s.tickOut = ({ s with output := s.output ++ s.o.cmd.data.drop (s.output.length - s.o.cmd.place.toNat), o := ⟨false, .zero, ⟨s.o.cmd.tag, ((s.output ++ s.o.cmd.data.drop (s.output.length - s.o.cmd.place.toNat)).length : Int), []⟩⟩ },
      [⟨s.o.cmd.tag, ((s.output ++ s.o.cmd.data.drop (s.output.length - s.o.cmd.place.toNat)).length : Int), []⟩]) := by
  by_cases h5 : iGt (IntKind.i64.wrap (s.o.cmd.place + s.o.cmd.data.length)) s.output.length = true
  · simp only [S.tickOut, S.write, Chan.finish, Cmd.zero, h1, h2, h3, h4, h5, Bool.false_eq_true, if_false, if_true]
  · have h6 : s.o.cmd.data.drop (s.output.length - s.o.cmd.place.toNat) = [] := by
      rw [hwr] at h5
      simp [iGt_eq] at h5
      apply List.drop_of_length_le
      omega
    simp only [S.tickOut, S.write, Chan.finish, Cmd.zero, h1, h2, h3, h4, h5, h6, Bool.false_eq_true, if_false, if_true, List.append_nil]

theorem rwrite_spec (s : S) (h : SH) (hh : h.Ok s) (hv : s.output.length ≤ 100000) (hf : s.o.Few) :
    PureSpec Try.prog 38 [.agg ⟨s.rcells 0 0 h⟩] (h.By s) (RelRW s.tickOut) := by
  refine PureSpec.of_xc tabOk Try.func38 rfl (by decide) (n := Try.f38.ntmps - 1) rfl rfl fun w0 av => ?_
  conv => whnf
  intro b1
  conv => whnf
  intro b2
  conv => whnf
  refine XIf.split (fun h1 => ?_) (fun h1 => ?_)
  · conv => whnf
    have h1' : s.o.isOpen = false := by simpa using h1
    have e : s.tickOut = (s, []) := by simp [S.tickOut, h1']
    rw [e]
    exact ⟨⟨fun w => h.By s w ∧ AnsAt w Hd.nil [], []⟩, Ent.imp fun w hw => ⟨hw, rfl, by simp⟩, h, Hd.nil, [], rfl, hh, Hd.nil_ok, rfl, by simp [AnsOk], rfl⟩
  · conv => whnf
    have h1' : s.o.isOpen = true := by simpa using h1
    intro b3
    conv => whnf
    intro b4
    conv => whnf
    try (refine XStop.draw tabOk mixed rfl rfl ?_; conv => whnf)
    repeat' (first
      | (refine XSame.of ?_; conv => whnf)
      | (refine XKeep.of ?_; conv => whnf)
      | (refine XIf.split (fun hc => ?_) (fun hc => ?_) <;> conv => whnf)
      | (refine XStop.draw tabOk mixed rfl rfl ?_; conv => whnf))
    -- arms begin
    · have h2 : iNe s.o.cmd.tag s.o.last.tag = false := by simpa [iNe_eq, iEq_eq] using hc
      refine XCall.val (rfinish_spec s.o.last h.o.l) (fun _ _ => trivial) (fun v D hv => ?_)
      subst hv
      conv => whnf
      have e : s.tickOut = ({ s with o := ⟨false, .zero, s.o.last⟩ }, [s.o.last]) := by simp only [S.tickOut, Chan.finish, Cmd.zero, Bool.false_eq_true, if_false, if_true, Bool.not_true, Bool.not_false, h1', h2]
      try (refine XStop.draw tabOk mixed rfl rfl ?_; conv => whnf)
      refine And.intro ?_ ?_
      all_goals
        conv => whnf
        repeat' (refine XKeep.of ?_; conv => whnf)
        refine XVal.build tabOk (t := 48) (n := 1) rfl rfl rfl [.agg ⟨Ans.cells s.o.last h.o.l⟩] rfl rfl (ans_sz _ _) (by decide) fun b5 => ?_
        conv => whnf
        repeat' (refine XKeep.of ?_; conv => whnf)
        rw [e]
        refine ⟨⟨fun w => SH.By { h with o := ⟨.nil, h.o.l⟩ } { s with o := ⟨false, .zero, s.o.last⟩ } w ∧ AnsAt w ⟨some ⟨b5, 0, none⟩, 1⟩ [(s.o.last, h.o.l)], []⟩, Ent.shareAll.trans (Ent.imp fun w hw => ?_), { h with o := ⟨.nil, h.o.l⟩ }, ⟨some ⟨b5, 0, none⟩, 1⟩, [(s.o.last, h.o.l)], rfl, ⟨hh.inp, hh.got, hh.out, ⟨Hd.nil_ok, hh.o.l⟩, hh.i⟩, ⟨fun h => (by cases h), Nat.le_refl _⟩, rfl, ansOk_one hh.o.l, rfl⟩
        obtain ⟨hw, r1, _⟩ := hw
        exact ⟨⟨hw.inp, hw.got, hw.out, ⟨By.nil w, hw.o.l⟩, hw.i⟩, ⟨ans_row r1, ansBy_one hw.o.l⟩⟩
    · rename_i h2'
      have h2 : iNe s.o.cmd.tag s.o.last.tag = true := by simpa [iNe_eq, iEq_eq] using h2'
      have h3 := hc
      refine XCall.val (rfinish_spec (Ans.mk s.o.cmd.tag (-1) []) Hd.nil) (fun _ _ => trivial) (fun v D hv => ?_)
      subst hv
      conv => whnf
      have e : s.tickOut = ({ s with o := ⟨false, .zero, (Ans.mk s.o.cmd.tag (-1) [])⟩ }, [(Ans.mk s.o.cmd.tag (-1) [])]) := by simp only [S.tickOut, S.write, Chan.finish, Cmd.zero, Bool.false_eq_true, if_false, if_true, Bool.not_true, Bool.not_false, h1', h2, h3]
      try (refine XStop.draw tabOk mixed rfl rfl ?_; conv => whnf)
      refine And.intro ?_ ?_
      all_goals
        conv => whnf
        repeat' (refine XKeep.of ?_; conv => whnf)
        refine XVal.build tabOk (t := 48) (n := 1) rfl rfl rfl [.agg ⟨Ans.cells (Ans.mk s.o.cmd.tag (-1) []) Hd.nil⟩] rfl rfl (ans_sz _ _) (by decide) fun b5 => ?_
        conv => whnf
        repeat' (refine XKeep.of ?_; conv => whnf)
        rw [e]
        refine ⟨⟨fun w => SH.By { h with o := ⟨.nil, Hd.nil⟩ } { s with o := ⟨false, .zero, (Ans.mk s.o.cmd.tag (-1) [])⟩ } w ∧ AnsAt w ⟨some ⟨b5, 0, none⟩, 1⟩ [((Ans.mk s.o.cmd.tag (-1) []), Hd.nil)], []⟩, Ent.shareAll.trans (Ent.imp fun w hw => ?_), { h with o := ⟨.nil, Hd.nil⟩ }, ⟨some ⟨b5, 0, none⟩, 1⟩, [((Ans.mk s.o.cmd.tag (-1) []), Hd.nil)], rfl, ⟨hh.inp, hh.got, hh.out, ⟨Hd.nil_ok, Hd.nil_ok⟩, hh.i⟩, ⟨fun h => (by cases h), Nat.le_refl _⟩, rfl, ansOk_one Hd.nil_ok, rfl⟩
        obtain ⟨hw, r1, _⟩ := hw
        exact ⟨⟨hw.inp, hw.got, hw.out, ⟨By.nil w, By.nil w⟩, hw.i⟩, ⟨ans_row r1, ansBy_one (By.nil w)⟩⟩
    · rename_i h2' h3
      have h2 : iNe s.o.cmd.tag s.o.last.tag = true := by simpa [iNe_eq, iEq_eq] using h2'
      have h4 := hc
      refine XCall.val (rfinish_spec (Ans.mk s.o.cmd.tag (-2) []) Hd.nil) (fun _ _ => trivial) (fun v D hv => ?_)
      subst hv
      conv => whnf
      have e : s.tickOut = ({ s with o := ⟨false, .zero, (Ans.mk s.o.cmd.tag (-2) [])⟩ }, [(Ans.mk s.o.cmd.tag (-2) [])]) := by simp only [S.tickOut, S.write, Chan.finish, Cmd.zero, Bool.false_eq_true, if_false, if_true, Bool.not_true, Bool.not_false, h1', h2, h3, h4]
      try (refine XStop.draw tabOk mixed rfl rfl ?_; conv => whnf)
      refine And.intro ?_ ?_
      all_goals
        conv => whnf
        repeat' (refine XKeep.of ?_; conv => whnf)
        refine XVal.build tabOk (t := 48) (n := 1) rfl rfl rfl [.agg ⟨Ans.cells (Ans.mk s.o.cmd.tag (-2) []) Hd.nil⟩] rfl rfl (ans_sz _ _) (by decide) fun b5 => ?_
        conv => whnf
        repeat' (refine XKeep.of ?_; conv => whnf)
        rw [e]
        refine ⟨⟨fun w => SH.By { h with o := ⟨.nil, Hd.nil⟩ } { s with o := ⟨false, .zero, (Ans.mk s.o.cmd.tag (-2) [])⟩ } w ∧ AnsAt w ⟨some ⟨b5, 0, none⟩, 1⟩ [((Ans.mk s.o.cmd.tag (-2) []), Hd.nil)], []⟩, Ent.shareAll.trans (Ent.imp fun w hw => ?_), { h with o := ⟨.nil, Hd.nil⟩ }, ⟨some ⟨b5, 0, none⟩, 1⟩, [((Ans.mk s.o.cmd.tag (-2) []), Hd.nil)], rfl, ⟨hh.inp, hh.got, hh.out, ⟨Hd.nil_ok, Hd.nil_ok⟩, hh.i⟩, ⟨fun h => (by cases h), Nat.le_refl _⟩, rfl, ansOk_one Hd.nil_ok, rfl⟩
        obtain ⟨hw, r1, _⟩ := hw
        exact ⟨⟨hw.inp, hw.got, hw.out, ⟨By.nil w, By.nil w⟩, hw.i⟩, ⟨ans_row r1, ansBy_one (By.nil w)⟩⟩
    · rename_i h2' h3
      have h2 : iNe s.o.cmd.tag s.o.last.tag = true := by simpa [iNe_eq, iEq_eq] using h2'
      have h4 := hc
      have hp : (0 ≤ s.o.cmd.place ∧ s.o.cmd.place ≤ s.output.length) ∧ IntKind.i64.wrap (s.o.cmd.place + s.o.cmd.data.length) ≤ 100000 := by
        have := h4
        simp [iLt_eq, iGt_eq] at this
        omega
      have hd := hf.d
      have hwr : IntKind.i64.wrap (s.o.cmd.place + s.o.cmd.data.length) = s.o.cmd.place + s.o.cmd.data.length := wrap_i64 (by omega)
      have hwd : IntKind.i64.wrap (s.output.length - s.o.cmd.place) = s.output.length - s.o.cmd.place := wrap_i64 (by omega)
      have hmin : (if (s.o.cmd.data.length : Int) < IntKind.i64.wrap (s.output.length - s.o.cmd.place) then (s.o.cmd.data.length : Int) else IntKind.i64.wrap (s.output.length - s.o.cmd.place)) = ((min (s.output.length - s.o.cmd.place.toNat) s.o.cmd.data.length : Nat) : Int) := by
        rw [hwd]
        split <;> omega
      rw [hmin]
      try (refine XStop.draw tabOk mixed rfl rfl ?_; conv => whnf)
      refine XRead.slice tabOk (t := 22) rfl rfl rfl (lo := some ((min (s.output.length - s.o.cmd.place.toNat) s.o.cmd.data.length : Nat) : Int)) (hi := none) (mx := none) (k2 := .i64) (k3 := .i64) (min (s.output.length - s.o.cmd.place.toNat) s.o.cmd.data.length) s.o.cmd.data.length h.o.d.c
        rfl rfl rfl (by omega) hh.o.d.cap (Nat.le_refl _) (by simp) ?_
      conv => whnf
      have hdrop : s.o.cmd.data.drop (min (s.output.length - s.o.cmd.place.toNat) s.o.cmd.data.length) = s.o.cmd.data.drop (s.output.length - s.o.cmd.place.toNat) := by
        rcases Nat.le_total (s.output.length - s.o.cmd.place.toNat) s.o.cmd.data.length with hle | hle
        · rw [Nat.min_eq_left hle]
        · rw [Nat.min_eq_right hle, List.drop_of_length_le (Nat.le_refl _), List.drop_of_length_le hle]
      have hcut : ∀ w, By w h.o.d s.o.cmd.data → RowAt w (cutA h.o.d.a (min (s.output.length - s.o.cmd.place.toNat) s.o.cmd.data.length) h.o.d.c 1) ((s.o.cmd.data.drop (s.output.length - s.o.cmd.place.toNat)).map byteV) := fun w hw => by
        have := RowAt.cut hw (l := min (s.output.length - s.o.cmd.place.toNat) s.o.cmd.data.length) (hi := s.o.cmd.data.length) (m := h.o.d.c) (size := 1) ⟨by omega, hh.o.d.cap⟩
        rw [← hdrop]
        simpa [List.map_drop, List.take_of_length_le] using this
      have h3' : 1 ≤ s.o.cmd.data.length := by
        have := h3
        simp [iLt_eq] at this
        omega
      refine XVal.build tabOk (t := 22) rfl rfl rfl [] rfl rfl (by simp) (by decide) fun b6 => ?_
      conv => whnf
      refine XHeld.row rfl ?_
      conv => whnf
      by_cases hout : s.output.length = 0
      · have hnil : s.output = [] := List.eq_nil_of_length_eq_zero hout
        refine XVal.append0 tabOk (t := 22) (xt := 22) rfl rfl rfl rfl rfl (Nat.le_refl _) hout (Sees.fact fun w h => by have := h.out; rw [hnil] at this; exact this) ?_
        conv => whnf
        refine XHeld.same rfl ?_
        conv => whnf
        refine XVal.append tabOk (t := 22) (xt := 22) rfl rfl rfl rfl rfl rfl (r1 := []) (r2 := []) (C := []) (L := []) (m := s.o.cmd.data.length - min (s.output.length - s.o.cmd.place.toNat) s.o.cmd.data.length) (M := (s.o.cmd.data.drop (s.output.length - s.o.cmd.place.toNat)).map byteV) (Own.full (by simp)) (Sees.fact fun w h => hcut w h.o.d) (by simp; omega) byte_one (by omega) (by simp; omega) fun a2 cap2 C2 hO2 => ?_
        obtain ⟨b7, rfl⟩ := own_some hO2 (by omega)
        conv => whnf
        repeat' (refine XKeep.of ?_; conv => whnf)
        have hN : 0 + (s.o.cmd.data.length - min (s.output.length - s.o.cmd.place.toNat) s.o.cmd.data.length) = (s.output ++ s.o.cmd.data.drop (s.output.length - s.o.cmd.place.toNat)).length := by simp; omega
        rw [hN] at hO2 ⊢
        refine XCall.val (rfinish_spec (Ans.mk s.o.cmd.tag ((s.output ++ s.o.cmd.data.drop (s.output.length - s.o.cmd.place.toNat)).length : Int) []) Hd.nil) (fun _ _ => trivial) (fun v D hv => ?_)
        subst hv
        conv => whnf
        have e : s.tickOut = ({ s with output := (s.output ++ s.o.cmd.data.drop (s.output.length - s.o.cmd.place.toNat)), o := ⟨false, .zero, (Ans.mk s.o.cmd.tag ((s.output ++ s.o.cmd.data.drop (s.output.length - s.o.cmd.place.toNat)).length : Int) [])⟩ }, [(Ans.mk s.o.cmd.tag ((s.output ++ s.o.cmd.data.drop (s.output.length - s.o.cmd.place.toNat)).length : Int) [])]) := tickOut_write s h1' h2 h3 h4 hp hwr
        try (refine XStop.draw tabOk mixed rfl rfl ?_; conv => whnf)
        refine And.intro ?_ ?_
        all_goals
          conv => whnf
          repeat' (refine XKeep.of ?_; conv => whnf)
          refine XVal.build tabOk (t := 48) (n := 1) rfl rfl rfl [.agg ⟨Ans.cells (Ans.mk s.o.cmd.tag ((s.output ++ s.o.cmd.data.drop (s.output.length - s.o.cmd.place.toNat)).length : Int) []) Hd.nil⟩] rfl rfl (ans_sz _ _) (by decide) fun b5 => ?_
          conv => whnf
          repeat' (refine XKeep.of ?_; conv => whnf)
          rw [e]
          refine ⟨⟨fun w => SH.By { { h with out := ⟨some ⟨b7, 0, none⟩, cap2⟩ } with o := ⟨.nil, Hd.nil⟩ } { { s with output := (s.output ++ s.o.cmd.data.drop (s.output.length - s.o.cmd.place.toNat)) } with o := ⟨false, .zero, (Ans.mk s.o.cmd.tag ((s.output ++ s.o.cmd.data.drop (s.output.length - s.o.cmd.place.toNat)).length : Int) [])⟩ } w ∧ AnsAt w ⟨some ⟨b5, 0, none⟩, 1⟩ [((Ans.mk s.o.cmd.tag ((s.output ++ s.o.cmd.data.drop (s.output.length - s.o.cmd.place.toNat)).length : Int) []), Hd.nil)], []⟩, Ent.shareAll.trans (Ent.imp fun w hw => ?_), { { h with out := ⟨some ⟨b7, 0, none⟩, cap2⟩ } with o := ⟨.nil, Hd.nil⟩ }, ⟨some ⟨b5, 0, none⟩, 1⟩, [((Ans.mk s.o.cmd.tag ((s.output ++ s.o.cmd.data.drop (s.output.length - s.o.cmd.place.toNat)).length : Int) []), Hd.nil)], rfl, ⟨hh.inp, hh.got, hO2.hd, ⟨Hd.nil_ok, Hd.nil_ok⟩, hh.i⟩, ⟨fun h => (by cases h), Nat.le_refl _⟩, rfl, ansOk_one Hd.nil_ok, rfl⟩
          obtain ⟨hw, rr, r1, _⟩ := hw
          exact ⟨⟨hw.inp, hw.got, by simpa [By, hnil] using hO2.row rr, ⟨By.nil w, By.nil w⟩, hw.i⟩, ⟨ans_row r1, ansBy_one (By.nil w)⟩⟩
      · refine XVal.appendNew tabOk (t := 22) (xt := 22) rfl rfl rfl rfl rfl rfl (L := []) (M := s.output.map byteV) (Sees.row (b := b6) (by simp)) rfl (Sees.fact fun w h => h.out) (by simp) (by omega) (by omega) (by simp; omega) fun b8 cap8 C8 hO8 => ?_
        conv => whnf
        refine XHeld.row rfl ?_
        conv => whnf
        simp only [List.nil_append, Nat.zero_add] at hO8 ⊢
        refine XVal.append tabOk (t := 22) (xt := 22) rfl rfl rfl rfl rfl rfl (r1 := [(b6, [])]) (r2 := []) (m := s.o.cmd.data.length - min (s.output.length - s.o.cmd.place.toNat) s.o.cmd.data.length) (M := (s.o.cmd.data.drop (s.output.length - s.o.cmd.place.toNat)).map byteV) hO8 (Sees.fact fun w h => hcut w h.o.d) (by simp; omega) byte_one (by omega) (by simp; omega) fun a2 cap2 C2 hO2 => ?_
        obtain ⟨b7, rfl⟩ := own_some hO2 (by omega)
        conv => whnf
        repeat' (refine XKeep.of ?_; conv => whnf)
        have hN : s.output.length + (s.o.cmd.data.length - min (s.output.length - s.o.cmd.place.toNat) s.o.cmd.data.length) = (s.output ++ s.o.cmd.data.drop (s.output.length - s.o.cmd.place.toNat)).length := by simp; omega
        rw [hN] at hO2 ⊢
        refine XCall.val (rfinish_spec (Ans.mk s.o.cmd.tag ((s.output ++ s.o.cmd.data.drop (s.output.length - s.o.cmd.place.toNat)).length : Int) []) Hd.nil) (fun _ _ => trivial) (fun v D hv => ?_)
        subst hv
        conv => whnf
        have e : s.tickOut = ({ s with output := (s.output ++ s.o.cmd.data.drop (s.output.length - s.o.cmd.place.toNat)), o := ⟨false, .zero, (Ans.mk s.o.cmd.tag ((s.output ++ s.o.cmd.data.drop (s.output.length - s.o.cmd.place.toNat)).length : Int) [])⟩ }, [(Ans.mk s.o.cmd.tag ((s.output ++ s.o.cmd.data.drop (s.output.length - s.o.cmd.place.toNat)).length : Int) [])]) := tickOut_write s h1' h2 h3 h4 hp hwr
        try (refine XStop.draw tabOk mixed rfl rfl ?_; conv => whnf)
        refine And.intro ?_ ?_
        all_goals
          conv => whnf
          repeat' (refine XKeep.of ?_; conv => whnf)
          refine XVal.build tabOk (t := 48) (n := 1) rfl rfl rfl [.agg ⟨Ans.cells (Ans.mk s.o.cmd.tag ((s.output ++ s.o.cmd.data.drop (s.output.length - s.o.cmd.place.toNat)).length : Int) []) Hd.nil⟩] rfl rfl (ans_sz _ _) (by decide) fun b5 => ?_
          conv => whnf
          repeat' (refine XKeep.of ?_; conv => whnf)
          rw [e]
          refine ⟨⟨fun w => SH.By { { h with out := ⟨some ⟨b7, 0, none⟩, cap2⟩ } with o := ⟨.nil, Hd.nil⟩ } { { s with output := (s.output ++ s.o.cmd.data.drop (s.output.length - s.o.cmd.place.toNat)) } with o := ⟨false, .zero, (Ans.mk s.o.cmd.tag ((s.output ++ s.o.cmd.data.drop (s.output.length - s.o.cmd.place.toNat)).length : Int) [])⟩ } w ∧ AnsAt w ⟨some ⟨b5, 0, none⟩, 1⟩ [((Ans.mk s.o.cmd.tag ((s.output ++ s.o.cmd.data.drop (s.output.length - s.o.cmd.place.toNat)).length : Int) []), Hd.nil)], []⟩, Ent.shareAll.trans (Ent.imp fun w hw => ?_), { { h with out := ⟨some ⟨b7, 0, none⟩, cap2⟩ } with o := ⟨.nil, Hd.nil⟩ }, ⟨some ⟨b5, 0, none⟩, 1⟩, [((Ans.mk s.o.cmd.tag ((s.output ++ s.o.cmd.data.drop (s.output.length - s.o.cmd.place.toNat)).length : Int) []), Hd.nil)], rfl, ⟨hh.inp, hh.got, hO2.hd, ⟨Hd.nil_ok, Hd.nil_ok⟩, hh.i⟩, ⟨fun h => (by cases h), Nat.le_refl _⟩, rfl, ansOk_one Hd.nil_ok, rfl⟩
          obtain ⟨hw, _, rr, r1, _⟩ := hw
          exact ⟨⟨hw.inp, hw.got, by simpa [By] using hO2.row rr, ⟨By.nil w, By.nil w⟩, hw.i⟩, ⟨ans_row r1, ansBy_one (By.nil w)⟩⟩
    -- arms end

end Go.Proofs.Ytcmgioaggmaclaa
