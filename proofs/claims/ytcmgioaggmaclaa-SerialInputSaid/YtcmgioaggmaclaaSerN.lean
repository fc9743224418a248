/- Serial, part N: the reference's read. -/
import Derived.Test.YtcmgioaggmaclaaSerM
namespace Go.Proofs.Ytcmgioaggmaclaa
open Go Go.Sx
set_option maxRecDepth 100000
set_option maxHeartbeats 2000000
set_option linter.unusedVariables false
set_option linter.unusedSimpArgs false

theorem rread_spec (s : S) (h : SH) (hh : h.Ok s) (hv : s.got.length ≤ 4000) (hf : s.i.Few) :
    PureSpec Try.prog 39 [.agg ⟨s.rcells 0 0 h⟩] (h.By s) (RelRW s.tickIn) := by
  refine PureSpec.of_xc tabOk Try.func39 rfl (by decide) (n := Try.f39.ntmps - 1) rfl rfl fun w0 av => ?_
  conv => whnf
  intro b1
  conv => whnf
  intro b2
  conv => whnf
  refine XIf.split (fun h1 => ?_) (fun h1 => ?_)
  · conv => whnf
    have h1' : s.i.isOpen = false := by simpa using h1
    have e : s.tickIn = (s, []) := by simp [S.tickIn, h1']
    rw [e]
    exact ⟨⟨fun w => h.By s w ∧ AnsAt w Hd.nil [], []⟩, Ent.imp fun w hw => ⟨hw, rfl, by simp⟩, h, Hd.nil, [], rfl, hh, Hd.nil_ok, rfl, by simp [AnsOk], rfl⟩
  · conv => whnf
    have h1' : s.i.isOpen = true := by simpa using h1
    intro b3
    conv => whnf
    intro b4
    conv => whnf
    repeat' (first
      | (refine XSame.of ?_; conv => whnf)
      | (refine XKeep.of ?_; conv => whnf)
      | (refine XIf.split (fun hc => ?_) (fun hc => ?_) <;> conv => whnf)
      | (refine XStop.draw tabOk mixed rfl rfl ?_; conv => whnf))
    -- arms begin
    · have h2 : iNe s.i.cmd.tag s.i.last.tag = false := by simpa [iNe_eq, iEq_eq] using hc
      refine XCall.val (rfinish_spec s.i.last h.i.l) (fun _ _ => trivial) (fun v D hv => ?_)
      subst hv
      conv => whnf
      have e : s.tickIn = ({ s with i := ⟨false, .zero, s.i.last⟩ }, [s.i.last]) := by simp only [S.tickIn, Chan.finish, Cmd.zero, Bool.false_eq_true, if_false, if_true, Bool.not_true, Bool.not_false, h1', h2]
      try (refine XStop.draw tabOk mixed rfl rfl ?_; conv => whnf)
      refine And.intro ?_ ?_
      all_goals
        conv => whnf
        repeat' (refine XKeep.of ?_; conv => whnf)
        refine XVal.build tabOk (t := 48) (n := 1) rfl rfl rfl [.agg ⟨Ans.cells s.i.last h.i.l⟩] rfl rfl (ans_sz _ _) (by decide) fun b5 => ?_
        conv => whnf
        repeat' (refine XKeep.of ?_; conv => whnf)
        rw [e]
        refine ⟨⟨fun w => SH.By { h with i := ⟨.nil, h.i.l⟩ } { s with i := ⟨false, .zero, s.i.last⟩ } w ∧ AnsAt w ⟨some ⟨b5, 0, none⟩, 1⟩ [(s.i.last, h.i.l)], []⟩, Ent.shareAll.trans (Ent.imp fun w hw => ?_), { h with i := ⟨.nil, h.i.l⟩ }, ⟨some ⟨b5, 0, none⟩, 1⟩, [(s.i.last, h.i.l)], rfl, ⟨hh.inp, hh.got, hh.out, hh.o, ⟨Hd.nil_ok, hh.i.l⟩⟩, ⟨fun h => (by cases h), Nat.le_refl _⟩, rfl, ansOk_one hh.i.l, rfl⟩
        obtain ⟨hw, r1, _⟩ := hw
        exact ⟨⟨hw.inp, hw.got, hw.out, hw.o, ⟨By.nil w, hw.i.l⟩⟩, ⟨ans_row r1, ansBy_one hw.i.l⟩⟩
    · rename_i h2'
      have h2 : iNe s.i.cmd.tag s.i.last.tag = true := by simpa [iNe_eq, iEq_eq] using h2'
      have h3 := hc
      refine XCall.val (rfinish_spec (Ans.mk s.i.cmd.tag (-1) []) Hd.nil) (fun _ _ => trivial) (fun v D hv => ?_)
      subst hv
      conv => whnf
      have e : s.tickIn = ({ s with i := ⟨false, .zero, (Ans.mk s.i.cmd.tag (-1) [])⟩ }, [(Ans.mk s.i.cmd.tag (-1) [])]) := by simp only [S.tickIn, S.rd, Chan.finish, Cmd.zero, Bool.false_eq_true, if_false, if_true, Bool.not_true, Bool.not_false, h1', h2, h3]
      try (refine XStop.draw tabOk mixed rfl rfl ?_; conv => whnf)
      refine And.intro ?_ ?_
      all_goals
        conv => whnf
        repeat' (refine XKeep.of ?_; conv => whnf)
        refine XVal.build tabOk (t := 48) (n := 1) rfl rfl rfl [.agg ⟨Ans.cells (Ans.mk s.i.cmd.tag (-1) []) Hd.nil⟩] rfl rfl (ans_sz _ _) (by decide) fun b5 => ?_
        conv => whnf
        repeat' (refine XKeep.of ?_; conv => whnf)
        rw [e]
        refine ⟨⟨fun w => SH.By { h with i := ⟨.nil, Hd.nil⟩ } { s with i := ⟨false, .zero, (Ans.mk s.i.cmd.tag (-1) [])⟩ } w ∧ AnsAt w ⟨some ⟨b5, 0, none⟩, 1⟩ [((Ans.mk s.i.cmd.tag (-1) []), Hd.nil)], []⟩, Ent.shareAll.trans (Ent.imp fun w hw => ?_), { h with i := ⟨.nil, Hd.nil⟩ }, ⟨some ⟨b5, 0, none⟩, 1⟩, [((Ans.mk s.i.cmd.tag (-1) []), Hd.nil)], rfl, ⟨hh.inp, hh.got, hh.out, hh.o, ⟨Hd.nil_ok, Hd.nil_ok⟩⟩, ⟨fun h => (by cases h), Nat.le_refl _⟩, rfl, ansOk_one Hd.nil_ok, rfl⟩
        obtain ⟨hw, r1, _⟩ := hw
        exact ⟨⟨hw.inp, hw.got, hw.out, hw.o, ⟨By.nil w, By.nil w⟩⟩, ⟨ans_row r1, ansBy_one (By.nil w)⟩⟩
    · rename_i h2' h3
      have h2 : iNe s.i.cmd.tag s.i.last.tag = true := by simpa [iNe_eq, iEq_eq] using h2'
      have h4 := hc
      refine XCall.val (rfinish_spec (Ans.mk s.i.cmd.tag (-2) []) Hd.nil) (fun _ _ => trivial) (fun v D hv => ?_)
      subst hv
      conv => whnf
      have e : s.tickIn = ({ s with i := ⟨false, .zero, (Ans.mk s.i.cmd.tag (-2) [])⟩ }, [(Ans.mk s.i.cmd.tag (-2) [])]) := by simp only [S.tickIn, S.rd, Chan.finish, Cmd.zero, Bool.false_eq_true, if_false, if_true, Bool.not_true, Bool.not_false, h1', h2, h3, h4]
      try (refine XStop.draw tabOk mixed rfl rfl ?_; conv => whnf)
      refine And.intro ?_ ?_
      all_goals
        conv => whnf
        repeat' (refine XKeep.of ?_; conv => whnf)
        refine XVal.build tabOk (t := 48) (n := 1) rfl rfl rfl [.agg ⟨Ans.cells (Ans.mk s.i.cmd.tag (-2) []) Hd.nil⟩] rfl rfl (ans_sz _ _) (by decide) fun b5 => ?_
        conv => whnf
        repeat' (refine XKeep.of ?_; conv => whnf)
        rw [e]
        refine ⟨⟨fun w => SH.By { h with i := ⟨.nil, Hd.nil⟩ } { s with i := ⟨false, .zero, (Ans.mk s.i.cmd.tag (-2) [])⟩ } w ∧ AnsAt w ⟨some ⟨b5, 0, none⟩, 1⟩ [((Ans.mk s.i.cmd.tag (-2) []), Hd.nil)], []⟩, Ent.shareAll.trans (Ent.imp fun w hw => ?_), { h with i := ⟨.nil, Hd.nil⟩ }, ⟨some ⟨b5, 0, none⟩, 1⟩, [((Ans.mk s.i.cmd.tag (-2) []), Hd.nil)], rfl, ⟨hh.inp, hh.got, hh.out, hh.o, ⟨Hd.nil_ok, Hd.nil_ok⟩⟩, ⟨fun h => (by cases h), Nat.le_refl _⟩, rfl, ansOk_one Hd.nil_ok, rfl⟩
        obtain ⟨hw, r1, _⟩ := hw
        exact ⟨⟨hw.inp, hw.got, hw.out, hw.o, ⟨By.nil w, By.nil w⟩⟩, ⟨ans_row r1, ansBy_one (By.nil w)⟩⟩
    · rename_i h2' h3 h4
      have h2 : iNe s.i.cmd.tag s.i.last.tag = true := by simpa [iNe_eq, iEq_eq] using h2'
      have e : s.tickIn = (s, []) := by simp only [S.tickIn, S.rd, Bool.false_eq_true, if_false, if_true, Bool.not_true, Bool.not_false, h1', h2, h3, h4, hc]
      rw [e]
      exact ⟨⟨fun w => h.By s w ∧ AnsAt w Hd.nil [], []⟩, Ent.imp fun w hw => ⟨hw, rfl, by simp⟩, h, Hd.nil, [], rfl, hh, Hd.nil_ok, rfl, by simp [AnsOk], rfl⟩
    · rename_i h2' h3 h4
      have h2 : iNe s.i.cmd.tag s.i.last.tag = true := by simpa [iNe_eq, iEq_eq] using h2'
      have hp : 0 ≤ s.i.cmd.place ∧ s.i.cmd.place < s.got.length := by
        have h4' := h4
        have hc' := hc
        simp [iLt_eq, iGt_eq] at h4'
        simp [iEq_eq] at hc'
        omega
      have hmin : (if IntKind.i64.wrap (s.i.cmd.place + 128) < (s.got.length : Int) then IntKind.i64.wrap (s.i.cmd.place + 128) else (s.got.length : Int)) = s.i.cmd.place + ((min (s.got.length - s.i.cmd.place.toNat) 128) : Nat) := by
        rw [wrap_i64 (by omega)]
        split <;> omega
      refine XVal.build tabOk (t := 22) rfl rfl rfl [] rfl rfl (by simp) (by decide) fun b6 => ?_
      conv => whnf
      repeat' (refine XKeep.of ?_; conv => whnf)
      rw [hmin]
      refine XVal.of_read (XRead.slice tabOk (t := 22) rfl rfl rfl (lo := some s.i.cmd.place) (hi := some (s.i.cmd.place + ((min (s.got.length - s.i.cmd.place.toNat) 128) : Nat))) (mx := none) (k3 := .i64) s.i.cmd.place.toNat (s.i.cmd.place.toNat + (min (s.got.length - s.i.cmd.place.toNat) 128)) h.got.c
        (by simp only [Option.getD_some]; omega) (by simp only [Option.getD_some]; omega) rfl (by omega) (by have := hh.got.cap; omega) (Nat.le_refl _) (by simp) ?_)
      conv => whnf
      repeat' (refine XKeep.of ?_; conv => whnf)
      have hcut : ∀ w, By w h.got s.got → RowAt w (cutA h.got.a s.i.cmd.place.toNat h.got.c 1) (((s.got.drop s.i.cmd.place.toNat).take (min (s.got.length - s.i.cmd.place.toNat) 128)).map byteV) := fun w hw => by
        have := RowAt.cut hw (l := s.i.cmd.place.toNat) (hi := s.i.cmd.place.toNat + (min (s.got.length - s.i.cmd.place.toNat) 128)) (m := h.got.c) (size := 1) ⟨by omega, by have := hh.got.cap; omega⟩
        simpa [By, List.map_drop, List.map_take] using this
      refine XVal.append tabOk (t := 22) (xt := 22) rfl rfl rfl rfl rfl rfl (r1 := []) (r2 := []) (C := []) (L := []) (m := s.i.cmd.place.toNat + (min (s.got.length - s.i.cmd.place.toNat) 128) - s.i.cmd.place.toNat) (M := ((s.got.drop s.i.cmd.place.toNat).take (min (s.got.length - s.i.cmd.place.toNat) 128)).map byteV) (Own.full (by simp)) (Sees.fact fun w h => hcut w h.got) (by simp) byte_one (by omega) (by simp; omega) fun a2 cap2 C2 hO2 => ?_
      obtain ⟨b7, rfl⟩ := own_some hO2 (by omega)
      conv => whnf
      repeat' (refine XKeep.of ?_; conv => whnf)
      have hN : 0 + (s.i.cmd.place.toNat + (min (s.got.length - s.i.cmd.place.toNat) 128) - s.i.cmd.place.toNat) = ((s.got.drop s.i.cmd.place.toNat).take (min (s.got.length - s.i.cmd.place.toNat) 128)).length := by simp
      rw [hN] at hO2 ⊢
      refine XCall.val (rfinish_spec (Ans.mk s.i.cmd.tag (s.i.cmd.place + ((min (s.got.length - s.i.cmd.place.toNat) 128) : Nat)) ((s.got.drop s.i.cmd.place.toNat).take (min (s.got.length - s.i.cmd.place.toNat) 128))) ⟨some ⟨b7, 0, none⟩, cap2⟩) (fun _ _ => trivial) (fun v D hv => ?_)
      subst hv
      conv => whnf
      have e : s.tickIn = ({ s with i := ⟨false, .zero, (Ans.mk s.i.cmd.tag (s.i.cmd.place + ((min (s.got.length - s.i.cmd.place.toNat) 128) : Nat)) ((s.got.drop s.i.cmd.place.toNat).take (min (s.got.length - s.i.cmd.place.toNat) 128)))⟩ }, [(Ans.mk s.i.cmd.tag (s.i.cmd.place + ((min (s.got.length - s.i.cmd.place.toNat) 128) : Nat)) ((s.got.drop s.i.cmd.place.toNat).take (min (s.got.length - s.i.cmd.place.toNat) 128)))]) := by simp only [S.tickIn, S.rd, Chan.finish, Cmd.zero, Bool.false_eq_true, if_false, if_true, Bool.not_true, Bool.not_false, h1', h2, h3, h4, hc]
      try (refine XStop.draw tabOk mixed rfl rfl ?_; conv => whnf)
      refine And.intro ?_ ?_
      all_goals
        conv => whnf
        repeat' (refine XKeep.of ?_; conv => whnf)
        refine XVal.build tabOk (t := 48) (n := 1) rfl rfl rfl [.agg ⟨Ans.cells (Ans.mk s.i.cmd.tag (s.i.cmd.place + ((min (s.got.length - s.i.cmd.place.toNat) 128) : Nat)) ((s.got.drop s.i.cmd.place.toNat).take (min (s.got.length - s.i.cmd.place.toNat) 128))) ⟨some ⟨b7, 0, none⟩, cap2⟩⟩] rfl rfl (ans_sz _ _) (by decide) fun b5 => ?_
        conv => whnf
        repeat' (refine XKeep.of ?_; conv => whnf)
        rw [e]
        refine ⟨⟨fun w => SH.By { h with i := ⟨.nil, ⟨some ⟨b7, 0, none⟩, cap2⟩⟩ } { s with i := ⟨false, .zero, (Ans.mk s.i.cmd.tag (s.i.cmd.place + ((min (s.got.length - s.i.cmd.place.toNat) 128) : Nat)) ((s.got.drop s.i.cmd.place.toNat).take (min (s.got.length - s.i.cmd.place.toNat) 128)))⟩ } w ∧ AnsAt w ⟨some ⟨b5, 0, none⟩, 1⟩ [((Ans.mk s.i.cmd.tag (s.i.cmd.place + ((min (s.got.length - s.i.cmd.place.toNat) 128) : Nat)) ((s.got.drop s.i.cmd.place.toNat).take (min (s.got.length - s.i.cmd.place.toNat) 128))), ⟨some ⟨b7, 0, none⟩, cap2⟩)], []⟩, Ent.shareAll.trans (Ent.imp fun w hw => ?_), { h with i := ⟨.nil, ⟨some ⟨b7, 0, none⟩, cap2⟩⟩ }, ⟨some ⟨b5, 0, none⟩, 1⟩, [((Ans.mk s.i.cmd.tag (s.i.cmd.place + ((min (s.got.length - s.i.cmd.place.toNat) 128) : Nat)) ((s.got.drop s.i.cmd.place.toNat).take (min (s.got.length - s.i.cmd.place.toNat) 128))), ⟨some ⟨b7, 0, none⟩, cap2⟩)], rfl, ⟨hh.inp, hh.got, hh.out, hh.o, ⟨Hd.nil_ok, hO2.hd⟩⟩, ⟨fun h => (by cases h), Nat.le_refl _⟩, rfl, ansOk_one hO2.hd, rfl⟩
        obtain ⟨hw, rr, r1, _⟩ := hw
        exact ⟨⟨hw.inp, hw.got, hw.out, hw.o, ⟨By.nil w, by simpa [By] using hO2.row rr⟩⟩, ⟨ans_row r1, ansBy_one (by simpa [By] using hO2.row rr)⟩⟩
    -- arms end

end Go.Proofs.Ytcmgioaggmaclaa
