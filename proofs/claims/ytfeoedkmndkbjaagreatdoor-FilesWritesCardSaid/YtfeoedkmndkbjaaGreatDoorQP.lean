/- Parts of the proof: FcE, FcF, FdE, FdF, FdG, FdD, FcG, FcH, FdH. -/
import Derived.Test.YtfeoedkmndkbjaaGreatDoorQO
import Derived.Test.YtfeoedkmndkbjaaGreatDoorQN
import Derived.Test.YtfeoedkmndkbjaaGreatDoorQK
set_option linter.unusedVariables false
set_option linter.unusedSimpArgs false
namespace Go.Proofs.YtfeoedkmndkbjaaGreatDoor
open Go Go.Sx
set_option maxRecDepth 100000
set_option maxHeartbeats 4000000
set_option linter.unusedVariables false
set_option linter.unusedSimpArgs false

def reqC (op node at0 n : Int) (k : Hd) (len : Nat) : List Value := [.int .i64 op, .int .i64 node, .int .i64 at0, .int .i64 n, k.v len]

theorem between_spec (x a b : Int) : PureSpec Tryz.prog 31 [.int .i64 x, .int .i64 a, .int .i64 b] (fun _ => True) (fun v F => v = .bool (decide (a ≤ x ∧ x ≤ b))) := by
  refine PureSpec.of_xc tabOk Tryz.func31 rfl (by decide) (n := Tryz.f31.ntmps - 3) rfl rfl fun w0 av => ?_
  conv => whnf
  repeat (refine XSame.of ?_; conv => whnf)
  generalize h1 : iGe x a = c1
  cases c1
  · conv => whnf
    repeat (refine XSame.of ?_; conv => whnf)
    refine ⟨_, Ent.refl _, ?_⟩
    have : ¬ (a ≤ x ∧ x ≤ b) := fun h => by
      rw [iGe_eq, decide_eq_false_iff_not] at h1
      omega
    simp [this]
  · conv => whnf
    repeat (refine XSame.of ?_; conv => whnf)
    refine ⟨_, Ent.refl _, ?_⟩
    rw [iGe_eq, decide_eq_true_eq] at h1
    have h2 : (a ≤ x ∧ x ≤ b) ↔ x ≤ b := ⟨fun h => h.2, fun h => ⟨by omega, h⟩⟩
    simp [iLe_eq, h2]

theorem formed1_spec (op node at0 n : Int) (k : Hd) (len : Nat) (h1 : op = 1) (h2 : node = 0) (h3 : at0 = 0) (h4 : n = 0) (h5 : len ≤ 128) : PureSpec Tryz.prog 13 [.agg ⟨reqC op node at0 n k len⟩] (fun _ => True) (fun v F => v = .bool true) := by
  refine PureSpec.of_xc tabOk Tryz.func13 rfl (by decide) (n := Tryz.f13.ntmps - 1) rfl rfl fun w0 av => ?_
  conv => whnf
  repeat (refine XSame.of ?_; conv => whnf)
  intro b1
  conv => whnf
  repeat (refine XSame.of ?_; conv => whnf)
  refine XIf.yes (by rw [h1]; simp [iEq_eq]) ?_
  conv => whnf
  repeat (refine XSame.of ?_; conv => whnf)
  generalize hq1 : iEq node 0 = q1
  have e1 : q1 = true := by rw [← hq1, h2]; simp [iEq_eq]
  clear hq1
  subst e1
  conv => whnf
  repeat (refine XSame.of ?_; conv => whnf)
  generalize hq2 : iEq n 0 = q2
  have e2 : q2 = true := by rw [← hq2, h4]; simp [iEq_eq]
  clear hq2
  subst e2
  conv => whnf
  repeat (refine XSame.of ?_; conv => whnf)
  refine XCall.val (between_spec at0 0 7) (fun w hw => trivial) (fun v D hv => ?_)
  have e3 : decide (0 ≤ at0 ∧ at0 ≤ 7) = true := by rw [h3]; decide
  rw [e3] at hv
  subst hv
  conv => whnf
  repeat (refine XSame.of ?_; conv => whnf)
  refine ⟨_, Ent.refl _, ?_⟩
  have h6 : ((len : Nat) : Int) ≤ 128 := by omega
  simp [iLe_eq, h6]

theorem formed2_spec (op node at0 n : Int) (k : Hd) (len : Nat) (h1 : op = 2) (h2 : 0 ≤ node ∧ node ≤ 31) (h3 : 0 ≤ at0) (h4 : 0 ≤ n ∧ n ≤ 1536) (h5 : len = 0) : PureSpec Tryz.prog 13 [.agg ⟨reqC op node at0 n k len⟩] (fun _ => True) (fun v F => v = .bool true) := by
  refine PureSpec.of_xc tabOk Tryz.func13 rfl (by decide) (n := Tryz.f13.ntmps - 1) rfl rfl fun w0 av => ?_
  conv => whnf
  repeat (refine XSame.of ?_; conv => whnf)
  intro b1
  conv => whnf
  repeat (refine XSame.of ?_; conv => whnf)
  refine XIf.no (by rw [h1]; simp [iEq_eq]) ?_
  conv => whnf
  repeat (refine XSame.of ?_; conv => whnf)
  refine XIf.yes (by rw [h1]; simp [iEq_eq]) ?_
  conv => whnf
  repeat (refine XSame.of ?_; conv => whnf)
  refine XCall.val (between_spec node 0 31) (fun w hw => trivial) (fun v D hv => ?_)
  have e3 : decide (0 ≤ node ∧ node ≤ 31) = true := decide_eq_true h2
  rw [e3] at hv
  subst hv
  conv => whnf
  repeat (refine XSame.of ?_; conv => whnf)
  generalize hq1 : iGe at0 0 = q1
  have e1 : q1 = true := by rw [← hq1, iGe_eq, decide_eq_true_eq]; exact h3
  clear hq1
  subst e1
  conv => whnf
  repeat (refine XSame.of ?_; conv => whnf)
  refine XCall.val (between_spec n 0 1536) (fun w hw => trivial) (fun v D hv => ?_)
  have e4 : decide (0 ≤ n ∧ n ≤ 1536) = true := decide_eq_true h4
  rw [e4] at hv
  subst hv
  conv => whnf
  repeat (refine XSame.of ?_; conv => whnf)
  refine ⟨_, Ent.refl _, ?_⟩
  simp [h5, iEq_eq]

/-- A file is opened, with no flags. -/
theorem popen_spec (d : List UInt8) (h : Hd) (hh : h.Ok d.length) (hl : d.length ≤ 1000000) (op node at0 n : Int) (k : Hd) (p : List UInt8) (hk : k.Ok p.length) (hp : p.length ≤ 100) (ha : at0 = 0) (m : Nat) (hw : walkR d p = (m, 0)) (hg : gete d m = 0) (hkd : rk d m = 1) :
    PureSpec Tryz.prog 22 [h.v d.length, .agg ⟨reqC op node at0 n k p.length⟩] (fun w => By w h d ∧ By w k p) (fun v F => v = .tuple #[h.v d.length, .agg ⟨[.int .i64 (m : Int), .int .i64 1, .slice none 0 0]⟩, .int .i64 0] ∧ F = ⟨fun w => By w h d, []⟩) := by
  have hws := dwalk_spec d h hh hl p (by omega)
  rw [hw] at hws
  have hgs := pGet_spec d h hh hl (m : Int)
  obtain ⟨k1, s1, b1, hL, hE⟩ := getL_ino d (m : Int)
  rw [hL, hg] at hgs
  have hk1 : k1 = 1 := by
    have := (hE hg).1
    rw [Int.toNat_natCast, hkd] at this
    exact this
  clear hE hL hw hg hkd
  dsimp only at hws
  obtain ⟨z1, hz1⟩ : ∃ z : Nat, z = 0 := ⟨_, rfl⟩
  obtain ⟨z2, hz2⟩ : ∃ z : Nat, z = 0 := ⟨_, rfl⟩
  rw [← hz1] at hws
  rw [← hz2] at hgs
  refine PureSpec.of_xc tabOk Tryz.func22 rfl (by decide) (n := Tryz.f22.ntmps - 2) rfl rfl fun w0 av => ?_
  conv => whnf
  repeat (refine XSame.of ?_; conv => whnf)
  intro b3
  conv => whnf
  repeat (refine XSame.of ?_; conv => whnf)
  intro b5
  conv => whnf
  repeat (refine XSame.of ?_; conv => whnf)
  refine XVal.of_read (XRead.bytes tabOk (t := 23) (u := 9) rfl rfl rfl rfl rfl rfl (l := p) (.fact fun w hw => hw.2) rfl ?_)
  conv => whnf
  repeat (refine XSame.of ?_; conv => whnf)
  refine XCall.val hws (fun w hw => hw.1) (fun v D hv => ?_)
  unfold RelII at hv
  subst hv
  conv => whnf
  repeat (refine XSame.of ?_; conv => whnf)
  generalize hq1 : iEq (z1 : Int) 8 = q1
  have e1 : q1 = false := by rw [← hq1, hz1]; simp [iEq_eq]
  clear hq1
  subst e1
  conv => whnf
  repeat (refine XSame.of ?_; conv => whnf)
  repeat' (first
    | (refine XIf.no rfl ?_; conv => whnf))
  refine XIf.no (by rw [hz1]; simp [iNe_eq]) ?_
  conv => whnf
  repeat (refine XSame.of ?_; conv => whnf)
  refine XCall.val hgs (fun w hw => hw.1) (fun v D hv => ?_)
  subst hv
  conv => whnf
  repeat (refine XSame.of ?_; conv => whnf)
  intro b13
  conv => whnf
  repeat (refine XSame.of ?_; conv => whnf)
  generalize hq2 : iEq (k1 : Int) 2 = q2
  have e2 : q2 = false := by rw [← hq2, hk1]; simp [iEq_eq]
  clear hq2
  subst e2
  conv => whnf
  repeat (refine XSame.of ?_; conv => whnf)
  repeat' (first
    | (refine XIf.no rfl ?_; conv => whnf))
  have hb0 : Sx.bits .and .i64 0 2 = 0 := by decide
  refine XIf.no (by rw [ha, hb0]; simp [iNe_eq]) ?_
  conv => whnf
  repeat (refine XSame.of ?_; conv => whnf)
  refine XStop.draw tabOk mixed rfl rfl ?_
  conv => whnf
  repeat' (first
    | (refine And.intro ?_ ?_ <;> conv => whnf)
    | (refine XHeld.same rfl ?_; conv => whnf)
    | (refine XHeld.row rfl ?_; conv => whnf)
    | (refine XHeld.call rfl ?_; conv => whnf)
    | (refine XKeep.of ?_; conv => whnf)
    | (refine XSame.of ?_; conv => whnf)
    | (refine XHeld.mk ?_ ?_; (focus (first | exact Ent.refl _ | exact Ent.left _ _ | exact Ent.of_le ⟨List.sublist_append_left _ _, fun w h => h⟩ | exact Ent.of_le ⟨List.Sublist.refl _, fun w h => h.1⟩)); conv => whnf))
  all_goals
    subst hk1 hz1
    exact ⟨⟨fun w => By w h d, []⟩, Ent.of_le ⟨List.Sublist.refl _, fun w hw => hw.1⟩, rfl, rfl⟩

theorem pfile_spec (d : List UInt8) (h : Hd) (hh : h.Ok d.length) (hl : d.length ≤ 1000000) (m : Nat) (hg : gete d m = 0) (hkd : rk d m = 1) :
    PureSpec Tryz.prog 48 [h.v d.length, .int .i64 (m : Int)] (fun w => By w h d) (fun v F => v = .tuple #[.agg ⟨getL d m⟩, .int .i64 0]) := by
  have hgs := pGet_spec d h hh hl (m : Int)
  obtain ⟨k1, s1, b1, hL, hE⟩ := getL_ino d (m : Int)
  rw [hL, hg] at hgs
  have hk1 : k1 = 1 := by
    have := (hE hg).1
    rw [Int.toNat_natCast, hkd] at this
    exact this
  rw [hL]
  clear hE hL hg hkd
  obtain ⟨z2, hz2⟩ : ∃ z : Nat, z = 0 := ⟨_, rfl⟩
  rw [← hz2] at hgs
  refine PureSpec.of_xc tabOk Tryz.func48 rfl (by decide) (n := Tryz.f48.ntmps - 2) rfl rfl fun w0 av => ?_
  conv => whnf
  repeat (refine XSame.of ?_; conv => whnf)
  intro b4
  conv => whnf
  repeat (refine XSame.of ?_; conv => whnf)
  refine XCall.val hgs (fun w hw => hw) (fun v D hv => ?_)
  subst hv
  conv => whnf
  repeat (refine XSame.of ?_; conv => whnf)
  intro b6
  conv => whnf
  repeat (refine XSame.of ?_; conv => whnf)
  generalize hq1 : iEq (z2 : Int) 0 = q1
  have e1 : q1 = true := by rw [← hq1, hz2]; simp [iEq_eq]
  clear hq1
  subst e1
  conv => whnf
  repeat (refine XSame.of ?_; conv => whnf)
  refine XIf.no (by rw [hk1]; simp [iEq_eq]) ?_
  conv => whnf
  repeat (refine XSame.of ?_; conv => whnf)
  subst hz2
  exact ⟨_, Ent.refl _, rfl⟩

/-- A part of a file is read. -/
theorem preadF_spec (d : List UInt8) (h : Hd) (hh : h.Ok d.length) (hl : d.length ≤ 1000000) (op : Int) (m offN cntN : Nat) (k : Hd) (len : Nat) (hof : offN ≤ 9223372036854775807) (hcn : cntN ≤ 1000000000) (hg : gete d m = 0) (hkd : rk d m = 1) :
    PureSpec Tryz.prog 23 [h.v d.length, .agg ⟨reqC op (m : Int) (offN : Int) (cntN : Int) k len⟩] (fun w => By w h d) (fun v F => ∃ kb : Hd, v = .tuple #[h.v d.length, .agg ⟨[.int .i64 ((((contentR d m).drop offN).take cntN).length : Int), .int .i64 0, kb.v (((contentR d m).drop offN).take cntN).length]⟩, .int .i64 0] ∧
      kb.Ok (((contentR d m).drop offN).take cntN).length ∧ F = ⟨fun w => By w h d ∧ By w kb (((contentR d m).drop offN).take cntN), []⟩) := by
  have hfs := pfile_spec d h hh hl m hg hkd
  have hrs := preadG_spec d h hh hl m offN cntN hof hcn (offN : Int) (cntN : Int) rfl rfl
  rw [hg] at hrs
  generalize ((contentR d m).drop offN).take cntN = c at *
  obtain ⟨k1, s1, b1, hL, hE⟩ := getL_ino d (m : Int)
  rw [hL] at hfs
  clear hg hkd hL hE
  obtain ⟨z1, hz1⟩ : ∃ z : Int, z = 0 := ⟨_, rfl⟩
  rw [show (fun (v : Value) (F : Fx) => v = .tuple #[.agg ⟨inoL k1 s1 b1⟩, .int .i64 0]) = fun v F => v = .tuple #[.agg ⟨inoL k1 s1 b1⟩, .int .i64 z1] by rw [hz1]] at hfs
  obtain ⟨z2, hz2⟩ : ∃ z : Nat, z = 0 := ⟨_, rfl⟩
  rw [← hz2] at hrs
  refine PureSpec.of_xc tabOk Tryz.func23 rfl (by decide) (n := Tryz.f23.ntmps - 2) rfl rfl fun w0 av => ?_
  conv => whnf
  repeat (refine XSame.of ?_; conv => whnf)
  intro b3
  conv => whnf
  repeat (refine XSame.of ?_; conv => whnf)
  intro b5
  conv => whnf
  repeat (refine XSame.of ?_; conv => whnf)
  refine XCall.val hfs (fun w hw => hw) (fun v D hv => ?_)
  subst hv
  conv => whnf
  repeat (refine XSame.of ?_; conv => whnf)
  intro b7
  conv => whnf
  repeat (refine XSame.of ?_; conv => whnf)
  refine XIf.no (by rw [hz1]; simp [iNe_eq]) ?_
  conv => whnf
  repeat (refine XSame.of ?_; conv => whnf)
  refine XCall.pure hrs (fun w hw => hw) (fun v D hv => ?_)
  obtain ⟨kb, rfl, hkb, rfl⟩ := hv
  conv => whnf
  repeat (refine XSame.of ?_; conv => whnf)
  subst hz2
  exact ⟨⟨fun w => By w h d ∧ By w kb c, []⟩, Ent.of_le ⟨by simp [Fx.and], fun w hw => hw⟩, kb, rfl, hkb, rfl⟩

end Go.Proofs.YtfeoedkmndkbjaaGreatDoor
namespace Go.Proofs.YtfeoedkmndkbjaaGreatDoor
open Go Go.Sx
set_option maxRecDepth 100000
set_option maxHeartbeats 4000000
set_option linter.unusedVariables false
set_option linter.unusedSimpArgs false

theorem do1_spec (d : List UInt8) (h : Hd) (hh : h.Ok d.length) (hd : d.length = 12288) (on : Nat) (node at0 n : Int) (k : Hd) (p : List UInt8) (hk : k.Ok p.length) (hp : p.length ≤ 100) (h1 : on = 1) (h2 : node = 0) (ha : at0 = 0) (h4 : n = 0) (h38 : chk38 d = 0) (m : Nat) (hw : walkR d p = (m, 0)) (hg : gete d m = 0) (hkd : rk d m = 1) :
    PureSpec Tryz.prog 10 [h.v d.length, .agg ⟨reqC (on : Int) node at0 n k p.length⟩] (fun w => By w h d ∧ By w k p) (fun v F => ∃ h2 : Hd, v = .tuple #[h2.v d.length, .agg ⟨[.int .i64 (m : Int), .int .i64 1, .slice none 0 0]⟩, .int .i64 0]) := by
  have hl : d.length ≤ 1000000 := by omega
  have hfm := formed1_spec (on : Int) node at0 n k p.length (by omega) h2 ha h4 (by omega)
  have hck := pcheck38_spec d h hh hl
  rw [h38] at hck
  have hop := popen_spec d h hh hl (on : Int) node at0 n k p hk hp ha m hw hg hkd
  have hcl := clone_spec d h hh (by omega) hl
  clear hw hg hkd h38 hp
  have hon : on < 7 := by omega
  obtain ⟨tr, htr⟩ : ∃ tr, tr = true := ⟨_, rfl⟩
  rw [← htr] at hfm
  obtain ⟨z1, hz1⟩ : ∃ z : Nat, z = 0 := ⟨_, rfl⟩
  rw [← hz1] at hck
  obtain ⟨z2, hz2⟩ : ∃ z : Int, z = 0 := ⟨_, rfl⟩
  obtain ⟨RO, hRO⟩ : ∃ R : Value → Fx → Prop, R = fun v F => v = .tuple #[h.v d.length, .agg ⟨[.int .i64 (m : Int), .int .i64 1, .slice none 0 0]⟩, .int .i64 z2] ∧ F = ⟨fun w => By w h d, []⟩ := ⟨_, rfl⟩
  have hRO' := hRO
  rw [hz2] at hRO
  rw [← hRO] at hop
  clear hRO
  refine PureSpec.of_xc tabOk Tryz.func10 rfl (by decide) (n := Tryz.f10.ntmps - 2) rfl rfl fun w0 av => ?_
  conv => whnf
  repeat (refine XSame.of ?_; conv => whnf)
  intro b3
  conv => whnf
  repeat (refine XSame.of ?_; conv => whnf)
  intro b5
  conv => whnf
  repeat (refine XSame.of ?_; conv => whnf)
  refine XCall.val hfm (fun w hw => trivial) (fun v D hv => ?_)
  subst hv
  conv => whnf
  repeat (refine XSame.of ?_; conv => whnf)
  refine XIf.no (by rw [htr]; rfl) ?_
  conv => whnf
  repeat (refine XSame.of ?_; conv => whnf)
  refine XCall.val hck (fun w hw => hw.1) (fun v D hv => ?_)
  subst hv
  conv => whnf
  repeat (refine XSame.of ?_; conv => whnf)
  refine XIf.no (by rw [hz1]; simp [iNe_eq]) ?_
  conv => whnf
  repeat (refine XSame.of ?_; conv => whnf)
  intro b8
  conv => whnf
  repeat (refine XSame.of ?_; conv => whnf)
  refine XStop.draw tabOk mixed rfl rfl ?_
  conv => whnf
  repeat' (first
    | (refine And.intro ?_ ?_ <;> conv => whnf)
    | (refine XHeld.same rfl ?_; conv => whnf)
    | (refine XHeld.row rfl ?_; conv => whnf)
    | (refine XHeld.call rfl ?_; conv => whnf)
    | (refine XKeep.of ?_; conv => whnf)
    | (refine XSame.of ?_; conv => whnf)
    | (rw [blt_yes hon]; conv => whnf)
    | (refine nthK_mk (x := .func (.func 22) #[] #[]) (by subst h1; rfl) ?_; conv => whnf)
    | (refine XCall.pure hop (fun w hw => hw) (fun v D hv => ?_); rw [hRO'] at hv; obtain ⟨rfl, rfl⟩ := hv; conv => whnf)
    | (refine XHeld.mk ?_ ?_; (focus (first | exact Ent.refl _ | exact Ent.left _ _ | exact Ent.of_le ⟨List.sublist_append_left _ _, fun w h => h⟩ | exact Ent.of_le ⟨List.Sublist.refl _, fun w h => h.1⟩)); conv => whnf))
  refine XIf.no (by rw [hz2]; simp [iNe_eq]) ?_
  conv => whnf
  repeat (refine XSame.of ?_; conv => whnf)
  refine XStop.draw tabOk mixed rfl rfl ?_
  conv => whnf
  repeat' (first
    | (refine And.intro ?_ ?_ <;> conv => whnf)
    | (refine XHeld.same rfl ?_; conv => whnf)
    | (refine XHeld.row rfl ?_; conv => whnf)
    | (refine XHeld.call rfl ?_; conv => whnf)
    | (refine XKeep.of ?_; conv => whnf)
    | (refine XSame.of ?_; conv => whnf)
    | (refine XCall.pure hcl (fun w hw => hw.2) (fun v D hv => ?_); obtain ⟨b9, c9, Z9, rfl, hc9, rfl⟩ := hv; conv => whnf)
    | (refine XHeld.mk ?_ ?_; (focus (first | exact Ent.refl _ | exact Ent.left _ _ | exact Ent.of_le ⟨List.sublist_append_left _ _, fun w h => h⟩ | exact Ent.of_le ⟨List.Sublist.refl _, fun w h => h.1⟩)); conv => whnf))
  all_goals exact ⟨_, Ent.refl _, ⟨some ⟨b9, 0, none⟩, c9⟩, rfl⟩

theorem do2_spec (d : List UInt8) (h : Hd) (hh : h.Ok d.length) (hd : d.length = 12288) (on m offN cntN : Nat) (node at0 n : Int) (hnode : node = (m : Int)) (hat : at0 = (offN : Int)) (hn : n = (cntN : Int)) (k : Hd) (h1 : on = 2) (h2 : m ≤ 31) (hof : offN ≤ 9223372036854775807) (h4 : cntN ≤ 1536) (h38 : chk38 d = 0) (hg : gete d m = 0) (hkd : rk d m = 1) :
    PureSpec Tryz.prog 10 [h.v d.length, .agg ⟨reqC (on : Int) node at0 n k 0⟩] (fun w => By w h d) (fun v F => ∃ h2 kb : Hd, v = .tuple #[h2.v d.length, .agg ⟨[.int .i64 ((((contentR d m).drop offN).take cntN).length : Int), .int .i64 0, kb.v (((contentR d m).drop offN).take cntN).length]⟩, .int .i64 0] ∧
      kb.Ok (((contentR d m).drop offN).take cntN).length ∧ ∃ rs, F = ⟨fun w => By w h d ∧ By w kb (((contentR d m).drop offN).take cntN), rs⟩) := by
  have hl : d.length ≤ 1000000 := by omega
  have hfm := formed2_spec (on : Int) node at0 n k 0 (by omega) (by omega) (by omega) (by omega) rfl
  have hck := pcheck38_spec d h hh hl
  rw [h38] at hck
  have hop := preadF_spec d h hh hl (on : Int) m offN cntN k 0 hof (by omega) hg hkd
  rw [← hnode, ← hat, ← hn] at hop
  have hcl := clone_spec d h hh (by omega) hl
  clear hg hkd h38 hnode hat hn
  generalize ((contentR d m).drop offN).take cntN = c at *
  have hon : on < 7 := by omega
  obtain ⟨tr, htr⟩ : ∃ tr, tr = true := ⟨_, rfl⟩
  rw [← htr] at hfm
  obtain ⟨z1, hz1⟩ : ∃ z : Nat, z = 0 := ⟨_, rfl⟩
  rw [← hz1] at hck
  obtain ⟨z2, hz2⟩ : ∃ z : Int, z = 0 := ⟨_, rfl⟩
  obtain ⟨RO, hRO⟩ : ∃ R : Value → Fx → Prop, R = fun v F => ∃ kb : Hd, v = .tuple #[h.v d.length, .agg ⟨[.int .i64 (c.length : Int), .int .i64 0, kb.v c.length]⟩, .int .i64 z2] ∧ kb.Ok c.length ∧ F = ⟨fun w => By w h d ∧ By w kb c, []⟩ := ⟨_, rfl⟩
  have hRO' := hRO
  rw [hz2] at hRO
  rw [← hRO] at hop
  clear hRO
  refine PureSpec.of_xc tabOk Tryz.func10 rfl (by decide) (n := Tryz.f10.ntmps - 2) rfl rfl fun w0 av => ?_
  conv => whnf
  repeat (refine XSame.of ?_; conv => whnf)
  intro b3
  conv => whnf
  repeat (refine XSame.of ?_; conv => whnf)
  intro b5
  conv => whnf
  repeat (refine XSame.of ?_; conv => whnf)
  refine XCall.val hfm (fun w hw => trivial) (fun v D hv => ?_)
  subst hv
  conv => whnf
  repeat (refine XSame.of ?_; conv => whnf)
  refine XIf.no (by rw [htr]; rfl) ?_
  conv => whnf
  repeat (refine XSame.of ?_; conv => whnf)
  refine XCall.val hck (fun w hw => hw) (fun v D hv => ?_)
  subst hv
  conv => whnf
  repeat (refine XSame.of ?_; conv => whnf)
  refine XIf.no (by rw [hz1]; simp [iNe_eq]) ?_
  conv => whnf
  repeat (refine XSame.of ?_; conv => whnf)
  intro b8
  conv => whnf
  repeat (refine XSame.of ?_; conv => whnf)
  refine XStop.draw tabOk mixed rfl rfl ?_
  conv => whnf
  repeat' (first
    | (refine And.intro ?_ ?_ <;> conv => whnf)
    | (refine XHeld.same rfl ?_; conv => whnf)
    | (refine XHeld.row rfl ?_; conv => whnf)
    | (refine XHeld.call rfl ?_; conv => whnf)
    | (refine XKeep.of ?_; conv => whnf)
    | (refine XSame.of ?_; conv => whnf)
    | (rw [blt_yes hon]; conv => whnf)
    | (refine nthK_mk (x := .func (.func 23) #[] #[]) (by subst h1; rfl) ?_; conv => whnf)
    | (refine XCall.pure hop (fun w hw => hw) (fun v D hv => ?_); rw [hRO'] at hv; obtain ⟨kb, rfl, hkb, rfl⟩ := hv; conv => whnf)
    | (refine XHeld.mk ?_ ?_; (focus (first | exact Ent.refl _ | exact Ent.left _ _ | exact Ent.of_le ⟨List.sublist_append_left _ _, fun w h => h⟩ | exact Ent.of_le ⟨List.Sublist.refl _, fun w h => h.1⟩)); conv => whnf))
  refine XIf.no (by rw [hz2]; simp [iNe_eq]) ?_
  conv => whnf
  repeat (refine XSame.of ?_; conv => whnf)
  refine XStop.draw tabOk mixed rfl rfl ?_
  conv => whnf
  repeat' (first
    | (refine And.intro ?_ ?_ <;> conv => whnf)
    | (refine XHeld.same rfl ?_; conv => whnf)
    | (refine XHeld.row rfl ?_; conv => whnf)
    | (refine XHeld.call rfl ?_; conv => whnf)
    | (refine XKeep.of ?_; conv => whnf)
    | (refine XSame.of ?_; conv => whnf)
    | (refine XCall.pure hcl (fun w hw => hw.1) (fun v D hv => ?_); obtain ⟨b9, c9, Z9, rfl, hc9, rfl⟩ := hv; conv => whnf)
    | (refine XHeld.mk ?_ ?_; (focus (first | exact Ent.refl _ | exact Ent.left _ _ | exact Ent.of_le ⟨List.sublist_append_left _ _, fun w h => h⟩ | exact Ent.of_le ⟨List.Sublist.refl _, fun w h => h.1⟩)); conv => whnf))
  all_goals exact ⟨⟨fun w => By w h d ∧ By w kb c, [(b9, Row.c (d.map byteV ++ Z9))]⟩, Ent.of_le ⟨by simp [Fx.and], fun w hw => ⟨hw.1.1, hw.1.2.2⟩⟩, ⟨some ⟨b9, 0, none⟩, c9⟩, kb, rfl, hkb, _, rfl⟩

end Go.Proofs.YtfeoedkmndkbjaaGreatDoor
namespace Go.Sx
open Go
set_option linter.unusedVariables false
section
variable {P : Program} {tab : Tab} {w0 : World} {R : Nat → Nat → Prop} {av : Nat → Prop} {bs : List (Nat × Nat)} {cs : List (List Value)} {F : Fx}
theorem XRead.maxI {ts : Array TypeId} {ty : TypeId} {k : IntKind} {a b : Int} {K : Value → Prop} (h : K (.int k (if a < b then b else a))) :
    XRead P w0 R av (Builtin.max_ ts ty #[.int k a, .int k b]) bs cs F K := (XRead_iff _ _ _ _).2 ⟨_, fun w _ => rfl, h⟩
end
end Go.Sx

namespace Go.Proofs.YtfeoedkmndkbjaaGreatDoor
open Go Go.Sx
set_option maxRecDepth 100000
set_option maxHeartbeats 4000000
set_option linter.unusedVariables false
set_option linter.unusedSimpArgs false

/-- What file says. -/
noncomputable def pfe (d : List UInt8) (m : Nat) : Nat := if gete d m = 0 ∧ rk d m = 2 then 14 else gete d m

theorem pfe_zero {d : List UInt8} (h : chk38 d = 0) {m : Nat} (hm : pfe d m = 0) : m < 32 ∧ gete d m = 0 ∧ rk d m = 1 := by
  obtain ⟨h0, -, -⟩ := tree_facts h
  obtain ⟨hd, hok⟩ := chk_zero h0
  unfold pfe at hm
  by_cases hc : gete d m = 0 ∧ rk d m = 2
  · rw [if_pos hc] at hm
    cases hm
  rw [if_neg hc] at hm
  obtain ⟨h1, h2⟩ := (gete_iff h0).1 hm
  refine ⟨h1, hm, ?_⟩
  have hf := hok.form m h1
  unfold formB at hf
  rw [Bool.and_eq_true] at hf
  have hf2 := hf.2
  have hnz2 : ¬ inoZ (rk d m) (rs d m) (rb d m) = true := fun h => h2 (inoZ_iff.1 h).1
  rw [if_neg hnz2, decide_eq_true_eq] at hf2
  have : rk d m ≠ 2 := fun h => hc ⟨hm, h⟩
  rcases hf2.1 with h5 | h5
  · exact h5
  · exact absurd h5 this

theorem formed3_spec (op node at0 n : Int) (k : Hd) (len : Nat) (h1 : op = 3) (h4 : n = 0) : PureSpec Tryz.prog 13 [.agg ⟨reqC op node at0 n k len⟩] (fun _ => True) (fun v F => v = .bool (decide (0 ≤ node ∧ node ≤ 31 ∧ -1 ≤ at0 ∧ len ≤ 128))) := by
  refine PureSpec.of_xc tabOk Tryz.func13 rfl (by decide) (n := Tryz.f13.ntmps - 1) rfl rfl fun w0 av => ?_
  conv => whnf
  repeat (refine XSame.of ?_; conv => whnf)
  intro b1
  conv => whnf
  repeat (refine XSame.of ?_; conv => whnf)
  refine XIf.no (by rw [h1]; simp [iEq_eq]) ?_
  conv => whnf
  repeat (refine XSame.of ?_; conv => whnf)
  refine XIf.no (by rw [h1]; simp [iEq_eq]) ?_
  conv => whnf
  repeat (refine XSame.of ?_; conv => whnf)
  refine XIf.yes (by rw [h1]; simp [iEq_eq]) ?_
  conv => whnf
  repeat (refine XSame.of ?_; conv => whnf)
  refine XCall.val (between_spec node 0 31) (fun w hw => trivial) (fun v D hv => ?_)
  by_cases c1 : 0 ≤ node ∧ node ≤ 31
  rotate_left
  · rw [decide_eq_false c1] at hv
    subst hv
    conv => whnf
    repeat (refine XSame.of ?_; conv => whnf)
    exact ⟨_, Ent.refl _, by rw [decide_eq_false fun h => c1 ⟨h.1, h.2.1⟩]; simp⟩
  rw [decide_eq_true c1] at hv
  subst hv
  conv => whnf
  repeat (refine XSame.of ?_; conv => whnf)
  generalize hq1 : iGe at0 (-1) = q1
  generalize hq2 : iEq n 0 = q2
  have e2 : q2 = true := by rw [← hq2, h4]; simp [iEq_eq]
  clear hq2
  subst e2
  cases q1
  · conv => whnf
    repeat (refine XSame.of ?_; conv => whnf)
    refine ⟨_, Ent.refl _, ?_⟩
    have : ¬ -1 ≤ at0 := by
      rw [iGe_eq, decide_eq_false_iff_not] at hq1
      omega
    rw [decide_eq_false fun h => this h.2.2.1]
    simp
  · conv => whnf
    repeat (refine XSame.of ?_; conv => whnf)
    refine ⟨_, Ent.refl _, ?_⟩
    rw [iGe_eq, decide_eq_true_eq] at hq1
    have h6 : (0 ≤ node ∧ node ≤ 31 ∧ -1 ≤ at0 ∧ len ≤ 128) ↔ ((len : Nat) : Int) ≤ 128 := ⟨fun h => by omega, fun h => ⟨c1.1, c1.2, by omega, by omega⟩⟩
    simp [iLe_eq, h6]

theorem pfileG_spec (d : List UInt8) (h : Hd) (hh : h.Ok d.length) (hl : d.length ≤ 1000000) (m : Nat) :
    PureSpec Tryz.prog 48 [h.v d.length, .int .i64 (m : Int)] (fun w => By w h d) (fun v F => v = .tuple #[.agg ⟨getL d m⟩, .int .i64 (pfe d m : Int)]) := by
  have hgs := pGet_spec d h hh hl (m : Int)
  have hpf : pfe d m = if gete d m = 0 ∧ rk d m = 2 then 14 else gete d m := rfl
  generalize pfe d m = e at *
  obtain ⟨k1, s1, b1, hL, hE⟩ := getL_ino d (m : Int)
  rw [hL] at hgs ⊢
  have hk1 : gete d m = 0 → k1 = rk d m := fun hg => by
    have := (hE hg).1
    rwa [Int.toNat_natCast] at this
  clear hE hL
  generalize gete d m = g at *
  generalize rk d m = r at *
  refine PureSpec.of_xc tabOk Tryz.func48 rfl (by decide) (n := Tryz.f48.ntmps - 2) rfl rfl fun w0 av => ?_
  conv => whnf
  repeat (refine XSame.of ?_; conv => whnf)
  intro b4
  conv => whnf
  repeat (refine XSame.of ?_; conv => whnf)
  refine XCall.val hgs (fun w hw => hw) (fun v D hv => ?_)
  subst hv
  conv => whnf
  repeat (refine XSame.of ?_; conv => whnf)
  intro b6
  conv => whnf
  repeat (refine XSame.of ?_; conv => whnf)
  generalize hq1 : iEq (g : Int) 0 = q1
  cases q1
  · have hg : g ≠ 0 := by
      simp [iEq_eq] at hq1
      omega
    rw [if_neg fun h => hg h.1] at hpf
    subst hpf
    conv => whnf
    repeat (refine XSame.of ?_; conv => whnf)
    exact ⟨_, Ent.refl _, rfl⟩
  have hg : g = 0 := by
    simp [iEq_eq] at hq1
    omega
  have hk := hk1 hg
  conv => whnf
  repeat (refine XSame.of ?_; conv => whnf)
  refine XIf.split (fun hc => ?_) (fun hc => ?_)
  · have hr : r = 2 := by
      simp [iEq_eq] at hc
      omega
    rw [if_pos ⟨hg, hr⟩] at hpf
    subst hpf
    conv => whnf
    repeat (refine XSame.of ?_; conv => whnf)
    exact ⟨_, Ent.refl _, rfl⟩
  · have hr : r ≠ 2 := by
      simp [iEq_eq] at hc
      omega
    rw [if_neg fun h => hr h.2] at hpf
    subst hpf
    conv => whnf
    repeat (refine XSame.of ?_; conv => whnf)
    exact ⟨_, Ent.refl _, rfl⟩

def zRes : Value := .agg ⟨[.int .i64 0, .int .i64 0, .slice none 0 0]⟩

/-- A part of what is no file. -/
theorem preadE_spec (d : List UInt8) (h : Hd) (hh : h.Ok d.length) (hl : d.length ≤ 1000000) (op : Int) (m : Nat) (at0 n : Int) (k : Hd) (len : Nat) (he : pfe d m ≠ 0) :
    PureSpec Tryz.prog 23 [h.v d.length, .agg ⟨reqC op (m : Int) at0 n k len⟩] (fun w => By w h d) (fun v F => v = .tuple #[.slice none 0 0, zRes, .int .i64 (pfe d m : Int)]) := by
  have hfs := pfileG_spec d h hh hl m
  obtain ⟨k1, s1, b1, hL, hE⟩ := getL_ino d (m : Int)
  rw [hL] at hfs
  clear hE hL
  generalize pfe d m = e at *
  refine PureSpec.of_xc tabOk Tryz.func23 rfl (by decide) (n := Tryz.f23.ntmps - 2) rfl rfl fun w0 av => ?_
  conv => whnf
  repeat (refine XSame.of ?_; conv => whnf)
  intro b3
  conv => whnf
  repeat (refine XSame.of ?_; conv => whnf)
  intro b5
  conv => whnf
  repeat (refine XSame.of ?_; conv => whnf)
  refine XCall.val hfs (fun w hw => hw) (fun v D hv => ?_)
  subst hv
  conv => whnf
  repeat (refine XSame.of ?_; conv => whnf)
  intro b7
  conv => whnf
  repeat (refine XSame.of ?_; conv => whnf)
  refine XIf.yes (by simp [iNe_eq]; omega) ?_
  conv => whnf
  repeat (refine XSame.of ?_; conv => whnf)
  exact ⟨_, Ent.refl _, rfl⟩

theorem pwriteE_spec (d : List UInt8) (h : Hd) (hh : h.Ok d.length) (hl : d.length ≤ 1000000) (op : Int) (m : Nat) (at0 n : Int) (k : Hd) (len : Nat) (he : pfe d m ≠ 0) :
    PureSpec Tryz.prog 24 [h.v d.length, .agg ⟨reqC op (m : Int) at0 n k len⟩] (fun w => By w h d) (fun v F => v = .tuple #[.slice none 0 0, zRes, .int .i64 (pfe d m : Int)]) := by
  have hfs := pfileG_spec d h hh hl m
  obtain ⟨k1, s1, b1, hL, hE⟩ := getL_ino d (m : Int)
  rw [hL] at hfs
  clear hE hL
  generalize pfe d m = e at *
  refine PureSpec.of_xc tabOk Tryz.func24 rfl (by decide) (n := Tryz.f24.ntmps - 2) rfl rfl fun w0 av => ?_
  conv => whnf
  repeat (refine XSame.of ?_; conv => whnf)
  intro b3
  conv => whnf
  repeat (refine XSame.of ?_; conv => whnf)
  intro b5
  conv => whnf
  repeat (refine XSame.of ?_; conv => whnf)
  refine XCall.val hfs (fun w hw => hw) (fun v D hv => ?_)
  subst hv
  conv => whnf
  repeat (refine XSame.of ?_; conv => whnf)
  intro b7
  conv => whnf
  repeat (refine XSame.of ?_; conv => whnf)
  refine XIf.yes (by simp [iNe_eq]; omega) ?_
  conv => whnf
  repeat (refine XSame.of ?_; conv => whnf)
  exact ⟨_, Ent.refl _, rfl⟩

noncomputable def offW (d : List UInt8) (m : Nat) (at0 : Int) : Nat := if at0 = -1 then rs d m else at0.toNat

/-- Bytes are written into a file. -/
theorem pwriteF_spec (d : List UInt8) (h : Hd) (hh : h.Ok d.length) (hl : d.length ≤ 1000000) (h38 : chk38 d = 0) (op : Int) (m : Nat) (at0 n : Int) (k : Hd) (data : List UInt8) (hk : k.Ok data.length) (hdl : data.length ≤ 1000) (he : pfe d m = 0) (ha : -1 ≤ at0 ∧ at0 ≤ 9223372036854775807) :
    PureSpec Tryz.prog 24 [h.v d.length, .agg ⟨reqC op (m : Int) at0 n k data.length⟩] (fun w => By w h d ∧ By w k data) (fun v F => ∃ h2 : Hd, v = .tuple #[h2.v (pwriteR d m (offW d m at0) data).1.length, .agg ⟨[.int .i64 (IntKind.i64.wrap ((offW d m at0 : Int) + (data.length : Int))), .int .i64 0, .slice none 0 0]⟩, .int .i64 ((pwriteR d m (offW d m at0) data).2 : Int)] ∧
      h2.Ok (pwriteR d m (offW d m at0) data).1.length ∧ F = ⟨fun w => By w h2 (pwriteR d m (offW d m at0) data).1, []⟩) := by
  have hfs := pfileG_spec d h hh hl m
  obtain ⟨hm, hg, hr⟩ := pfe_zero h38 he
  rw [he] at hfs
  obtain ⟨k1, s1, b1, hL, hE⟩ := getL_ino d (m : Int)
  rw [hL] at hfs
  have hs1 := (hE hg).2.1
  rw [Int.toNat_natCast] at hs1
  have hsz := rs_lt d m
  clear hE hL
  obtain ⟨off, ho⟩ : ∃ off, off = offW d m at0 := ⟨_, rfl⟩
  obtain ⟨offI, hoI⟩ : ∃ x : Int, x = (off : Int) := ⟨_, rfl⟩
  have ho2 : at0 = -1 ∧ offI = (s1 : Int) ∨ at0 ≠ -1 ∧ at0 = offI := by
    rw [hoI, ho]
    unfold offW
    by_cases h : at0 = -1
    · rw [if_pos h]
      exact .inl ⟨h, by rw [hs1]⟩
    · rw [if_neg h]
      exact .inr ⟨h, by omega⟩
  have hws := pwriteG_spec d h hh hl m off (by omega) offI hoI data k hk (by omega)
  rw [← ho, ← hoI]
  obtain ⟨vv, hvv⟩ : ∃ vv, vv = IntKind.i64.wrap (offI + (data.length : Int)) := ⟨_, rfl⟩
  rw [← hvv]
  clear ho hg hr hs1 he h38
  generalize (pwriteR d m off data).1 = d2 at *
  generalize (pwriteR d m off data).2 = e2 at *
  obtain ⟨z1, hz1⟩ : ∃ z : Nat, z = 0 := ⟨_, rfl⟩
  rw [← hz1] at hfs
  obtain ⟨q, hq⟩ : ∃ q : Bool, q = iEq at0 (-1) := ⟨_, rfl⟩
  refine PureSpec.of_xc tabOk Tryz.func24 rfl (by decide) (n := Tryz.f24.ntmps - 2) rfl rfl fun w0 av => ?_
  conv => whnf
  repeat (refine XSame.of ?_; conv => whnf)
  intro b3
  conv => whnf
  repeat (refine XSame.of ?_; conv => whnf)
  intro b5
  conv => whnf
  repeat (refine XSame.of ?_; conv => whnf)
  refine XCall.val hfs (fun w hw => hw.1) (fun v D hv => ?_)
  subst hv
  conv => whnf
  repeat (refine XSame.of ?_; conv => whnf)
  intro b7
  conv => whnf
  repeat (refine XSame.of ?_; conv => whnf)
  refine XIf.no (by rw [hz1]; simp [iNe_eq]) ?_
  conv => whnf
  repeat (refine XSame.of ?_; conv => whnf)
  rcases ho2 with ⟨ha1, ho3⟩ | ⟨ha1, ho3⟩
  · refine XIf.yes (by rw [ha1]; simp [iEq_eq]) ?_
    subst ho3
    conv => whnf
    repeat (refine XSame.of ?_; conv => whnf)
    refine XCall.pure hws (fun w hw => hw) (fun v D hv => ?_)
    obtain ⟨h2, rfl, hh2, rfl⟩ := hv
    conv => whnf
    repeat (refine XSame.of ?_; conv => whnf)
    refine XStop.draw tabOk mixed rfl rfl ?_
    conv => whnf
    repeat' (first
      | (refine And.intro ?_ ?_ <;> conv => whnf)
      | (refine XHeld.same rfl ?_; conv => whnf)
      | (refine XHeld.row rfl ?_; conv => whnf)
      | (refine XHeld.call rfl ?_; conv => whnf)
      | (refine XKeep.of ?_; conv => whnf)
      | (refine XSame.of ?_; conv => whnf)
      | (refine XHeld.mk ?_ ?_; (focus (first | exact Ent.refl _ | exact Ent.left _ _ | exact Ent.of_le ⟨List.sublist_append_left _ _, fun w h => h⟩ | exact Ent.of_le ⟨List.Sublist.refl _, fun w h => h.1⟩)); conv => whnf))
    all_goals exact ⟨⟨fun w => By w h2 d2, []⟩, Ent.of_le ⟨by simp [Fx.and], fun w hw => hw.2⟩, h2, by rw [hvv], hh2, rfl⟩
  · refine XIf.no (by rw [iEq_eq]; exact decide_eq_false ha1) ?_
    subst ho3
    conv => whnf
    repeat (refine XSame.of ?_; conv => whnf)
    refine XCall.pure hws (fun w hw => hw) (fun v D hv => ?_)
    obtain ⟨h2, rfl, hh2, rfl⟩ := hv
    conv => whnf
    repeat (refine XSame.of ?_; conv => whnf)
    refine XStop.draw tabOk mixed rfl rfl ?_
    conv => whnf
    repeat' (first
      | (refine And.intro ?_ ?_ <;> conv => whnf)
      | (refine XHeld.same rfl ?_; conv => whnf)
      | (refine XHeld.row rfl ?_; conv => whnf)
      | (refine XHeld.call rfl ?_; conv => whnf)
      | (refine XKeep.of ?_; conv => whnf)
      | (refine XSame.of ?_; conv => whnf)
      | (refine XHeld.mk ?_ ?_; (focus (first | exact Ent.refl _ | exact Ent.left _ _ | exact Ent.of_le ⟨List.sublist_append_left _ _, fun w h => h⟩ | exact Ent.of_le ⟨List.Sublist.refl _, fun w h => h.1⟩)); conv => whnf))
    all_goals exact ⟨⟨fun w => By w h2 d2, []⟩, Ent.of_le ⟨by simp [Fx.and], fun w hw => hw.2⟩, h2, by rw [hvv], hh2, rfl⟩

end Go.Proofs.YtfeoedkmndkbjaaGreatDoor
namespace Go.Proofs.YtfeoedkmndkbjaaGreatDoor
open Go Go.Sx
set_option maxRecDepth 100000
set_option linter.unusedVariables false
set_option linter.unusedSimpArgs false

theorem pwrite_bound {d : List UInt8} {n off : Nat} {data : List UInt8} (he : (pwriteR d n off data).2 = 0) : data.length = 0 ∨ off + data.length ≤ 1536 := by
  unfold pwriteR at he
  by_cases h1 : gete d n ≠ 0
  · rw [if_pos h1] at he
    exact absurd he h1
  rw [if_neg h1] at he
  by_cases h2 : data.length = 0
  · exact .inl h2
  rw [if_neg h2] at he
  right
  by_cases h3 : (if rk d n = 2 then 128 else 1536) < off + data.length
  · rw [if_pos h3] at he
    cases he
  · revert h3
    split <;> omega

theorem pfe_same {d e : List UInt8} (hd : chk38 d = 0) (he : chk38 e = 0) (hk : ∀ m, m < 32 → rk e m = rk d m) {m : Nat} (hm : m < 32) : pfe e m = pfe d m := by
  have h1 := (tree_facts hd).1
  have h2 := (tree_facts he).1
  have hg : gete e m = gete d m := by
    unfold gete
    rw [h1, h2, Int.toNat_natCast, hk m hm]
  unfold pfe
  rw [hg, hk m hm]

theorem V_same {S T : Tree} (h : S.es = T.es) : ∀ f n p, S.V f n p = T.V f n p
  | 0, _, _ => rfl
  | f + 1, n, p => by
    unfold Tree.V
    rw [h]
    congr 1
    refine congrArg (fun g => (T.es n).flatMap g) (funext fun x => ?_)
    rw [V_same h f]

theorem belV_same {d e : List UInt8} (h : (T0 e).es = (T0 d).es) (f n : Nat) (p : List UInt8) : belV e f n p = belV d f n p := by
  have h1 := V_same h (f + 1) n p
  rw [V_succ, V_succ] at h1
  exact (List.cons.inj h1).2

theorem pathsR_same {d e : List UInt8} (hd : chk38 d = 0) (he : chk38 e = 0) (h : (T0 e).es = (T0 d).es) : pathsR e = pathsR d := by
  unfold pathsR
  rw [he, hd, belV_same h]

end Go.Proofs.YtfeoedkmndkbjaaGreatDoor
namespace Go.Proofs.YtfeoedkmndkbjaaGreatDoor
open Go Go.Sx
set_option maxRecDepth 100000
set_option maxHeartbeats 4000000
set_option linter.unusedVariables false
set_option linter.unusedSimpArgs false

theorem do2E_spec (d : List UInt8) (h : Hd) (hh : h.Ok d.length) (hd : d.length = 12288) (on m offN cntN : Nat) (node at0 n : Int) (hnode : node = (m : Int)) (hat : at0 = (offN : Int)) (hn : n = (cntN : Int)) (k : Hd) (h1 : on = 2) (h2 : m ≤ 31) (hof : offN ≤ 9223372036854775807) (h4 : cntN ≤ 1536) (h38 : chk38 d = 0) (he : pfe d m ≠ 0) :
    PureSpec Tryz.prog 10 [h.v d.length, .agg ⟨reqC (on : Int) node at0 n k 0⟩] (fun w => By w h d) (fun v F => v = .tuple #[.slice none 0 0, zRes, .int .i64 (pfe d m : Int)]) := by
  have hl : d.length ≤ 1000000 := by omega
  have hfm := formed2_spec (on : Int) node at0 n k 0 (by omega) (by omega) (by omega) (by omega) rfl
  have hck := pcheck38_spec d h hh hl
  rw [h38] at hck
  have hop := preadE_spec d h hh hl (on : Int) m at0 n k 0 he
  rw [← hnode] at hop
  generalize pfe d m = e at *
  clear h38 hnode hat hn
  have hon : on < 7 := by omega
  obtain ⟨tr, htr⟩ : ∃ tr, tr = true := ⟨_, rfl⟩
  rw [← htr] at hfm
  obtain ⟨z1, hz1⟩ : ∃ z : Nat, z = 0 := ⟨_, rfl⟩
  rw [← hz1] at hck
  refine PureSpec.of_xc tabOk Tryz.func10 rfl (by decide) (n := Tryz.f10.ntmps - 2) rfl rfl fun w0 av => ?_
  conv => whnf
  repeat (refine XSame.of ?_; conv => whnf)
  intro b3
  conv => whnf
  repeat (refine XSame.of ?_; conv => whnf)
  intro b5
  conv => whnf
  repeat (refine XSame.of ?_; conv => whnf)
  refine XCall.val hfm (fun w hw => trivial) (fun v D hv => ?_)
  subst hv
  conv => whnf
  repeat (refine XSame.of ?_; conv => whnf)
  refine XIf.no (by rw [htr]; rfl) ?_
  conv => whnf
  repeat (refine XSame.of ?_; conv => whnf)
  refine XCall.val hck (fun w hw => hw) (fun v D hv => ?_)
  subst hv
  conv => whnf
  repeat (refine XSame.of ?_; conv => whnf)
  refine XIf.no (by rw [hz1]; simp [iNe_eq]) ?_
  conv => whnf
  repeat (refine XSame.of ?_; conv => whnf)
  intro b8
  conv => whnf
  repeat (refine XSame.of ?_; conv => whnf)
  refine XStop.draw tabOk mixed rfl rfl ?_
  conv => whnf
  repeat' (first
    | (refine And.intro ?_ ?_ <;> conv => whnf)
    | (refine XHeld.same rfl ?_; conv => whnf)
    | (refine XHeld.row rfl ?_; conv => whnf)
    | (refine XHeld.call rfl ?_; conv => whnf)
    | (refine XKeep.of ?_; conv => whnf)
    | (refine XSame.of ?_; conv => whnf)
    | (rw [blt_yes hon]; conv => whnf)
    | (refine nthK_mk (x := .func (.func 23) #[] #[]) (by subst h1; rfl) ?_; conv => whnf)
    | (refine XCall.val hop (fun w hw => hw) (fun v D hv => ?_); subst hv; conv => whnf)
    | (refine XHeld.mk ?_ ?_; (focus (first | exact Ent.refl _ | exact Ent.left _ _ | exact Ent.of_le ⟨List.sublist_append_left _ _, fun w h => h⟩ | exact Ent.of_le ⟨List.Sublist.refl _, fun w h => h.1⟩)); conv => whnf))
  refine XIf.yes (by simp [iNe_eq]; omega) ?_
  conv => whnf
  repeat (refine XSame.of ?_; conv => whnf)
  exact ⟨_, Ent.refl _, rfl⟩

/-- What Do says to a write. -/
def RelWr (d : List UInt8) (node at0 : Int) (data : List UInt8) (v : Value) (F : Fx) : Prop :=
  (∃ e : Nat, e ≠ 0 ∧ v = .tuple #[.slice none 0 0, zRes, .int .i64 (e : Int)]) ∨
  ∃ (m off : Nat) (h2 : Hd), node = (m : Int) ∧ m ≤ 31 ∧ pfe d m = 0 ∧ (at0 = -1 ∨ at0 = (off : Int)) ∧ off ≤ 9223372036854775807 ∧ (pwriteR d m off data).2 = 0 ∧
    v = .tuple #[h2.v (pwriteR d m off data).1.length, .agg ⟨[.int .i64 (IntKind.i64.wrap ((off : Int) + (data.length : Int))), .int .i64 0, .slice none 0 0]⟩, .int .i64 0] ∧ h2.Ok (pwriteR d m off data).1.length ∧ F = ⟨fun w => By w h2 (pwriteR d m off data).1, []⟩

theorem do3_spec (d : List UInt8) (h : Hd) (hh : h.Ok d.length) (hd : d.length = 12288) (on : Nat) (node at0 n : Int) (k : Hd) (data : List UInt8) (hk : k.Ok data.length) (hdl : data.length ≤ 1000) (h1 : on = 3) (h4 : n = 0) (h38 : chk38 d = 0) (hat : at0 ≤ 9223372036854775807) :
    PureSpec Tryz.prog 10 [h.v d.length, .agg ⟨reqC (on : Int) node at0 n k data.length⟩] (fun w => By w h d ∧ By w k data) (RelWr d node at0 data) := by
  have hl : d.length ≤ 1000000 := by omega
  have hfm := formed3_spec (on : Int) node at0 n k data.length (by omega) h4
  have hck := pcheck38_spec d h hh hl
  rw [h38] at hck
  have hon : on < 7 := by omega
  obtain ⟨z1, hz1⟩ : ∃ z : Nat, z = 0 := ⟨_, rfl⟩
  rw [← hz1] at hck
  by_cases hF : 0 ≤ node ∧ node ≤ 31 ∧ -1 ≤ at0 ∧ data.length ≤ 128
  rotate_left
  · rw [decide_eq_false hF] at hfm
    refine PureSpec.of_xc tabOk Tryz.func10 rfl (by decide) (n := Tryz.f10.ntmps - 2) rfl rfl fun w0 av => ?_
    conv => whnf
    repeat (refine XSame.of ?_; conv => whnf)
    intro b3
    conv => whnf
    repeat (refine XSame.of ?_; conv => whnf)
    intro b5
    conv => whnf
    repeat (refine XSame.of ?_; conv => whnf)
    refine XCall.val hfm (fun w hw => trivial) (fun v D hv => ?_)
    subst hv
    conv => whnf
    repeat (refine XSame.of ?_; conv => whnf)
    exact ⟨_, Ent.refl _, .inl ⟨1, by decide, rfl⟩⟩
  obtain ⟨hn0, hn1, ha, hd1⟩ := hF
  rw [decide_eq_true ⟨hn0, hn1, ha, hd1⟩] at hfm
  obtain ⟨tr, htr⟩ : ∃ tr, tr = true := ⟨_, rfl⟩
  rw [← htr] at hfm
  obtain ⟨m, rfl⟩ : ∃ m : Nat, node = (m : Int) := ⟨node.toNat, by omega⟩
  by_cases he : pfe d m = 0
  rotate_left
  · have hop := pwriteE_spec d h hh hl (on : Int) m at0 n k data.length he
    have hR : ∀ F, RelWr d (m : Int) at0 data (.tuple #[.slice none 0 0, zRes, .int .i64 (pfe d m : Int)]) F := fun F => .inl ⟨_, he, rfl⟩
    generalize pfe d m = e at *
    refine PureSpec.of_xc tabOk Tryz.func10 rfl (by decide) (n := Tryz.f10.ntmps - 2) rfl rfl fun w0 av => ?_
    conv => whnf
    repeat (refine XSame.of ?_; conv => whnf)
    intro b3
    conv => whnf
    repeat (refine XSame.of ?_; conv => whnf)
    intro b5
    conv => whnf
    repeat (refine XSame.of ?_; conv => whnf)
    refine XCall.val hfm (fun w hw => trivial) (fun v D hv => ?_)
    subst hv
    conv => whnf
    repeat (refine XSame.of ?_; conv => whnf)
    refine XIf.no (by rw [htr]; rfl) ?_
    conv => whnf
    repeat (refine XSame.of ?_; conv => whnf)
    refine XCall.val hck (fun w hw => hw.1) (fun v D hv => ?_)
    subst hv
    conv => whnf
    repeat (refine XSame.of ?_; conv => whnf)
    refine XIf.no (by rw [hz1]; simp [iNe_eq]) ?_
    conv => whnf
    repeat (refine XSame.of ?_; conv => whnf)
    intro b8
    conv => whnf
    repeat (refine XSame.of ?_; conv => whnf)
    refine XStop.draw tabOk mixed rfl rfl ?_
    conv => whnf
    repeat' (first
      | (refine And.intro ?_ ?_ <;> conv => whnf)
      | (refine XHeld.same rfl ?_; conv => whnf)
      | (refine XHeld.row rfl ?_; conv => whnf)
      | (refine XHeld.call rfl ?_; conv => whnf)
      | (refine XKeep.of ?_; conv => whnf)
      | (refine XSame.of ?_; conv => whnf)
      | (rw [blt_yes hon]; conv => whnf)
      | (refine nthK_mk (x := .func (.func 24) #[] #[]) (by subst h1; rfl) ?_; conv => whnf)
      | (refine XCall.val hop (fun w hw => hw.1) (fun v D hv => ?_); subst hv; conv => whnf)
      | (refine XHeld.mk ?_ ?_; (focus (first | exact Ent.refl _ | exact Ent.left _ _ | exact Ent.of_le ⟨List.sublist_append_left _ _, fun w h => h⟩ | exact Ent.of_le ⟨List.Sublist.refl _, fun w h => h.1⟩)); conv => whnf))
    refine XIf.yes (by simp [iNe_eq]; omega) ?_
    conv => whnf
    repeat (refine XSame.of ?_; conv => whnf)
    exact ⟨_, Ent.refl _, hR _⟩
  have hop := pwriteF_spec d h hh hl h38 (on : Int) m at0 n k data hk hdl he ⟨ha, hat⟩
  have hlen : (pwriteR d m (offW d m at0) data).2 = 0 → (pwriteR d m (offW d m at0) data).1.length = 12288 := fun h5 => by
    obtain ⟨-, hg, hr⟩ := pfe_zero h38 he
    exact (chk_zero (tree_facts (pwrite_file h38 hg hr h5).1).1).1
  have hoff : (at0 = -1 ∨ at0 = (offW d m at0 : Int)) ∧ offW d m at0 ≤ 9223372036854775807 := by
    unfold offW
    have := rs_lt d m
    by_cases h : at0 = -1
    · rw [if_pos h]
      exact ⟨.inl h, by omega⟩
    · rw [if_neg h]
      exact ⟨.inr (by omega), by omega⟩
  have hR : ∀ (F : Fx) (e : Nat), e ≠ 0 → RelWr d (m : Int) at0 data (.tuple #[.slice none 0 0, zRes, .int .i64 (e : Int)]) F := fun F e h => .inl ⟨e, h, rfl⟩
  have hR2 : ∀ (h2 : Hd), (pwriteR d m (offW d m at0) data).2 = 0 → h2.Ok (pwriteR d m (offW d m at0) data).1.length → RelWr d (m : Int) at0 data (.tuple #[h2.v (pwriteR d m (offW d m at0) data).1.length, .agg ⟨[.int .i64 (IntKind.i64.wrap ((offW d m at0 : Int) + (data.length : Int))), .int .i64 0, .slice none 0 0]⟩, .int .i64 0])
      ⟨fun w => By w h2 (pwriteR d m (offW d m at0) data).1, []⟩ := fun h2 h5 h6 => .inr ⟨m, offW d m at0, h2, rfl, by omega, he, hoff.1, hoff.2, h5, rfl, h6, rfl⟩
  clear hoff h38 he
  generalize (pwriteR d m (offW d m at0) data).1 = d2 at *
  generalize (pwriteR d m (offW d m at0) data).2 = e2 at *
  generalize IntKind.i64.wrap ((offW d m at0 : Int) + (data.length : Int)) = vv at *
  obtain ⟨RO, hRO⟩ : ∃ R : Value → Fx → Prop, R = fun v F => ∃ h2 : Hd, v = .tuple #[h2.v d2.length, .agg ⟨[.int .i64 vv, .int .i64 0, .slice none 0 0]⟩, .int .i64 (e2 : Int)] ∧ h2.Ok d2.length ∧ F = ⟨fun w => By w h2 d2, []⟩ := ⟨_, rfl⟩
  have hRO' := hRO
  rw [← hRO] at hop
  clear hRO
  refine PureSpec.of_xc tabOk Tryz.func10 rfl (by decide) (n := Tryz.f10.ntmps - 2) rfl rfl fun w0 av => ?_
  conv => whnf
  repeat (refine XSame.of ?_; conv => whnf)
  intro b3
  conv => whnf
  repeat (refine XSame.of ?_; conv => whnf)
  intro b5
  conv => whnf
  repeat (refine XSame.of ?_; conv => whnf)
  refine XCall.val hfm (fun w hw => trivial) (fun v D hv => ?_)
  subst hv
  conv => whnf
  repeat (refine XSame.of ?_; conv => whnf)
  refine XIf.no (by rw [htr]; rfl) ?_
  conv => whnf
  repeat (refine XSame.of ?_; conv => whnf)
  refine XCall.val hck (fun w hw => hw.1) (fun v D hv => ?_)
  subst hv
  conv => whnf
  repeat (refine XSame.of ?_; conv => whnf)
  refine XIf.no (by rw [hz1]; simp [iNe_eq]) ?_
  conv => whnf
  repeat (refine XSame.of ?_; conv => whnf)
  intro b8
  conv => whnf
  repeat (refine XSame.of ?_; conv => whnf)
  refine XStop.draw tabOk mixed rfl rfl ?_
  conv => whnf
  repeat' (first
    | (refine And.intro ?_ ?_ <;> conv => whnf)
    | (refine XHeld.same rfl ?_; conv => whnf)
    | (refine XHeld.row rfl ?_; conv => whnf)
    | (refine XHeld.call rfl ?_; conv => whnf)
    | (refine XKeep.of ?_; conv => whnf)
    | (refine XSame.of ?_; conv => whnf)
    | (rw [blt_yes hon]; conv => whnf)
    | (refine nthK_mk (x := .func (.func 24) #[] #[]) (by subst h1; rfl) ?_; conv => whnf)
    | (refine XCall.pure hop (fun w hw => hw) (fun v D hv => ?_); rw [hRO'] at hv; obtain ⟨h2, rfl, hh2, rfl⟩ := hv; conv => whnf)
    | (refine XHeld.mk ?_ ?_; (focus (first | exact Ent.refl _ | exact Ent.left _ _ | exact Ent.of_le ⟨List.sublist_append_left _ _, fun w h => h⟩ | exact Ent.of_le ⟨List.Sublist.refl _, fun w h => h.1⟩)); conv => whnf))
  by_cases he2 : e2 = 0
  rotate_left
  · refine XIf.yes (by simp [iNe_eq]; omega) ?_
    conv => whnf
    repeat (refine XSame.of ?_; conv => whnf)
    exact ⟨_, Ent.refl _, hR _ e2 he2⟩
  refine XIf.no (by rw [he2]; simp [iNe_eq]) ?_
  have hl2 := hlen he2
  have hcl := clone_spec d2 h2 hh2 (by omega) (by omega)
  have hR3 := fun h2 => hR2 h2 he2
  clear hR2
  conv => whnf
  repeat (refine XSame.of ?_; conv => whnf)
  refine XStop.draw tabOk mixed rfl rfl ?_
  conv => whnf
  repeat' (first
    | (refine And.intro ?_ ?_ <;> conv => whnf)
    | (refine XHeld.same rfl ?_; conv => whnf)
    | (refine XHeld.row rfl ?_; conv => whnf)
    | (refine XHeld.call rfl ?_; conv => whnf)
    | (refine XKeep.of ?_; conv => whnf)
    | (refine XSame.of ?_; conv => whnf)
    | (refine XCall.pure hcl (fun w hw => hw.2) (fun v D hv => ?_); obtain ⟨b9, c9, Z9, rfl, hc9, rfl⟩ := hv; conv => whnf)
    | (refine XHeld.mk ?_ ?_; (focus (first | exact Ent.refl _ | exact Ent.left _ _ | exact Ent.of_le ⟨List.sublist_append_left _ _, fun w h => h⟩ | exact Ent.of_le ⟨List.Sublist.refl _, fun w h => h.1⟩)); conv => whnf))
  all_goals exact ⟨_, (Ent.of_le ⟨by simp [Fx.and], fun w hw => hw⟩).trans (Ent.giveB (r1 := []) (r2 := [])), hR3 ⟨some ⟨b9, 0, none⟩, c9⟩ ⟨fun h => (by cases h), hc9⟩⟩

end Go.Proofs.YtfeoedkmndkbjaaGreatDoor
namespace Go.Proofs.YtfeoedkmndkbjaaGreatDoor
open Go Go.Sx
set_option maxRecDepth 100000
set_option maxHeartbeats 4000000
set_option linter.unusedVariables false
set_option linter.unusedSimpArgs false

theorem mkF_ok {d : List UInt8} {x : Fl} (h : (mkF d x).2 = 0) : chk38 (mkF d x).1 = 0 := by
  unfold mkF at h ⊢
  by_cases he : (makeR d x.path (if x.dir = true then 2 else 1)).2.2 ≠ 0
  · rw [if_pos he] at h
    exact absurd h he
  rw [if_neg he] at h ⊢
  obtain ⟨-, -, names, at0, k, -, -, -, -, -, M⟩ := make_made (show (makeR d x.path (if x.dir = true then 2 else 1)).2.2 = 0 by omega)
  by_cases hd : x.dir = true
  · rw [if_pos hd] at h ⊢
    exact M.ok
  rw [if_neg hd] at h ⊢
  rw [if_neg hd] at M h ⊢
  by_cases hw : (writeR (makeR d x.path 1).2.1 (makeR d x.path 1).1 x.data).2 ≠ 0
  · rw [if_pos hw] at h
    exact absurd h hw
  rw [if_neg hw] at h ⊢
  have hk := M.kd
  have hk : rk (makeR d x.path 1).2.1 (makeR d x.path 1).1 = 1 := hk
  have hg : gete (makeR d x.path 1).2.1 (makeR d x.path 1).1 = 0 := (gete_iff (tree_facts M.ok).1).2 ⟨M.n32, by rw [hk]; decide⟩
  exact write_ok M.ok hg hk (by omega)

theorem filesR_ok : ∀ {l : List Fl} {d : List UInt8}, chk38 d = 0 → (filesR d l).2 = 0 → chk38 (filesR d l).1 = 0
  | [], d, h, _ => h
  | x :: l, d, h, he => by
    unfold filesR at he ⊢
    by_cases hx : (mkF d x).2 ≠ 0
    · rw [if_pos hx] at he
      exact absurd he hx
    rw [if_neg hx] at he ⊢
    exact filesR_ok (mkF_ok (by omega)) he

/-- A disk that is in order. -/
def RelDk (v : Value) (F : Fx) : Prop := ∃ (d : List UInt8) (h : Hd), chk38 d = 0 ∧ d.length = 12288 ∧ v = h.v d.length ∧ h.Ok d.length ∧ F = ⟨fun w => By w h d, []⟩

theorem len38 {d : List UInt8} (h : chk38 d = 0) : d.length = 12288 := (chk_zero (tree_facts h).1).1

theorem disk39_spec (l : List Fl) (k : Hd) (hk : k.Ok l.length) (hl : l.length ≤ 8) (hx : ∀ x ∈ l, x.path.length ≤ 200 ∧ x.data.length ≤ 1000000 ∧ x.h.Ok x.data.length) :
    PureSpec Tryz.prog 9 [k.v l.length] (fun w => FlsAt w k.a l) RelDk := by
  refine PureSpec.of_xc tabOk Tryz.func9 rfl (by decide) (n := Tryz.f9.ntmps - 1) rfl rfl fun w0 av => ?_
  conv => whnf
  repeat (refine XSame.of ?_; conv => whnf)
  have hf0 : chk38 fmtX = 0 := (fresh_of fmtX_ok).1
  have hfm := fun (L : List Fl) => filesR_ok (l := L) hf0
  have hms := fun (L : List Fl) => refMake_spec L
  have hfs := formatB_spec
  refine XCall.pure hfs (fun w hw => trivial) (fun v D hv => ?_)
  obtain ⟨h0, rfl, hh0, rfl⟩ := hv
  generalize fmtX = fd at *
  conv => whnf
  repeat (refine XSame.of ?_; conv => whnf)
  refine XStop.loop tabOk (ι := Nat × List UInt8 × Hd × Hd × List Fl) ([3, 4, 5, 6, 7, 8] ++ List.range' 10 28) (fun x => x.1 ≤ l.length ∧ chk38 x.2.1 = 0 ∧ x.2.2.1.Ok x.2.1.length ∧ x.2.2.2.1.Ok x.2.2.2.2.length ∧ x.2.2.2.2.length ≤ x.1 ∧ ∀ y ∈ x.2.2.2.2, y ∈ l)
    (fun x => [(3, .v (x.2.2.1.v x.2.1.length)), (4, .v (x.2.2.2.1.v x.2.2.2.2.length)), (5, .v (.int .i64 (x.1 : Int)))]) (fun _ => []) (fun x => ⟨fun w => FlsAt w k.a l ∧ By w x.2.2.1 x.2.1 ∧ RowAt w x.2.2.2.1.a (flCs x.2.2.2.2), []⟩)
    (fun x => l.length - x.1) (0, fd, h0, Hd.nil, []) ⟨Nat.zero_le _, hf0, hh0, Hd.nil_ok, Nat.le_refl _, by simp⟩ ?_ rfl (Ent.of_le ⟨by simp [Fx.and], fun w hw => ⟨hw.1, hw.2, RowAt.nilA⟩⟩) fun x hx' => ?_
  · conv => whnf
    repeat (first | exact FLe.nil | refine FLe.any ?_ | refine FLe.cons ?_)
  obtain ⟨i, d, h, k4, L⟩ := x
  obtain ⟨hi, hd0, hh, hk4, hLi, hLl⟩ := hx'
  dsimp only at hi hd0 hh hk4 hLi hLl ⊢
  conv => whnf
  repeat (refine XSame.of ?_; conv => whnf)
  refine XIf.split (fun hlt => ?_) (fun hlt => ?_)
  · have hlt' : i < l.length := by
      simp [iLt_eq] at hlt
      omega
    have hcg := flCs_get hlt'
    have hone := flC_one l[i]
    have hcl : (flC l[i]).length = 3 := rfl
    have hm : l[i] ∈ l := List.getElem_mem hlt'
    have hfl : ∀ x, flCs (L ++ [x]) = flCs L ++ flC x := fun x => by
      unfold flCs
      rw [List.flatMap_append, List.flatMap_singleton]
    have hoL : ∀ v ∈ flCs L, oneCell v = true := fun v hv => by
      obtain ⟨x, _, hx⟩ := List.mem_flatMap.1 hv
      exact flC_one x v hx
    have hLn := flCs_len L
    have hfm' := hfm (L ++ [l[i]])
    have hms' := hms (L ++ [l[i]])
    have hx' : ∀ x ∈ L ++ [l[i]], x ∈ l := fun x hx => by
      rcases List.mem_append.1 hx with h | h
      · exact hLl x h
      · rw [List.mem_singleton.1 h]
        exact hm
    have hfl := hfl l[i]
    have hL1 : (L ++ [l[i]]).length = L.length + 1 := by simp
    generalize hy : flC l[i] = y at *
    generalize L ++ [l[i]] = L' at *
    conv => whnf
    repeat (refine XSame.of ?_; conv => whnf)
    rcases Nat.eq_zero_or_pos L.length with hL0 | hL0
    · have hCL : flCs L = [] := by rw [List.eq_nil_of_length_eq_zero hL0]; rfl
      refine XStop.draw tabOk mixed rfl rfl ?_
      conv => whnf
      repeat' (first
        | (refine And.intro ?_ ?_ <;> conv => whnf)
        | (refine XHeld.same rfl ?_; conv => whnf)
        | (refine XHeld.row rfl ?_; conv => whnf)
        | (refine XHeld.call rfl ?_; conv => whnf)
        | (refine XKeep.of ?_; conv => whnf)
        | (refine XSame.of ?_; conv => whnf)
        | (refine XRead.index tabOk (t := 22) rfl rfl rfl (by omega) (by omega) hk.nil fun ad had => ?_; conv => whnf)
        | (refine XRead.loads tabOk (t := 58) rfl rfl (ad := ad) (k := i * 3) (L := flCs l) (m := y) (.fact fun w hw => by rw [← had]; exact hw.1.1) (by simp) hcg hcl ?_; conv => whnf)
        | (refine XVal.build tabOk (t := 22) rfl rfl rfl [] rfl rfl (by simp) (by decide) fun b0 => ?_; conv => whnf)
        | (refine XVal.build tabOk (t := 22) rfl rfl rfl [.agg ⟨y⟩] rfl rfl (by simp [Value.cells, hcl]) (by decide) fun b1 => ?_; conv => whnf)
        | (refine XVal.append0 tabOk (t := 22) (xt := 22) rfl rfl rfl rfl rfl (Nat.le_refl _) hL0 (.fact fun w hw => by have := hw.2.2; rw [hCL] at this; exact this) ?_; conv => whnf)
        | (refine XVal.ent (F' := ⟨fun w => FlsAt w k.a l ∧ By w h d ∧ RowAt w k4.a (flCs L), [] ++ orow (some ⟨b0, 0, none⟩) [] ++ [(b1, Row.c y)]⟩) (Ent.of_le ⟨?_, fun w hw => hw⟩) ?_; (focus (simp [orow, Value.cells]; done)); refine XVal.append tabOk (t := 22) (xt := 22) rfl rfl rfl rfl rfl rfl (r1 := []) (r2 := [(b1, Row.c y)]) (M := y) (Go.Sx.Own.full (n := 0) rfl) (Sees.row (by simp)) hcl hone (by omega) (by simp <;> omega) fun a2 c2 C2 hO2 => ?_; conv => whnf)
        | (refine XVal.ent (F' := ⟨fun w => FlsAt w k.a l ∧ By w h d ∧ RowAt w k4.a (flCs L), [(b1, Row.c y)] ++ orow (some ⟨b0, 0, none⟩) [] ++ []⟩) (Ent.of_le ⟨?_, fun w hw => hw⟩) ?_; (focus (simp [orow, Value.cells]; done)); refine XVal.append tabOk (t := 22) (xt := 22) rfl rfl rfl rfl rfl rfl (r1 := [(b1, Row.c y)]) (r2 := []) (M := y) (Go.Sx.Own.full (n := 0) rfl) (Sees.row (by simp)) hcl hone (by omega) (by simp <;> omega) fun a2 c2 C2 hO2 => ?_; conv => whnf)
        | (refine XHeld.mk ?_ ?_; (focus (first | exact Ent.refl _ | exact Ent.left _ _ | exact Ent.of_le ⟨List.sublist_append_left _ _, fun w h => h⟩ | exact Ent.of_le ⟨List.Sublist.refl _, fun w h => h.1⟩)); conv => whnf))
      all_goals (
        have hO : Go.Sx.Own 3 L'.length a2 c2 C2 (flCs L') := by
          have h5 := hO2
          rw [List.nil_append] at h5
          rw [hfl, show L'.length = 0 + 1 by omega]
          rw [hCL, List.nil_append]
          exact h5
        have hk' : (⟨a2, c2⟩ : Hd).Ok L'.length := ⟨fun ha => hO.none_nil ha, hO.fit⟩
        have hm2 := hms' ⟨a2, c2⟩ hk' (by omega) (fun x hxm => hx x (hx' x hxm))
        rw [show (⟨a2, c2⟩ : Hd).v L'.length = .slice a2 (0 + 1) c2 by rw [show L'.length = 0 + 1 by omega]] at hm2
        refine XCall.ent (F' := ⟨fun w => (FlsAt w k.a l ∧ By w h d ∧ RowAt w k4.a (flCs L)) ∧ RowAt w a2 (flCs L'), []⟩) (by
          first
          | exact (Go.Sx.Own.share hO (r1 := []) (r2 := [(b1, Row.c y)])).trans (Ent.bare fun w hw => hw)
          | exact (Go.Sx.Own.share hO (r1 := [(b1, Row.c y)]) (r2 := [])).trans (Ent.bare fun w hw => hw)) ?_
        generalize (filesR fd L').1 = d' at *
        generalize (filesR fd L').2 = e' at *
        refine XCall.pure hm2 (fun w hw => ⟨hw.2, fun x hxm => hw.1.1.2 x (hx' x hxm)⟩) (fun v D hv => ?_)
        obtain ⟨k5, rfl, hk5, rfl⟩ := hv
        conv => whnf
        repeat (refine XSame.of ?_; conv => whnf)
        refine XIf.split (fun he => ?_) (fun he => ?_)
        · have he0 : e' = 0 := by
            simp [iEq_eq] at he
            omega
          conv => whnf
          repeat (refine XSame.of ?_; conv => whnf)
          refine ⟨(i + 1, d', k5, ⟨a2, c2⟩, L'), ⟨⟨hlt', hfm' he0, hk5, hk', by dsimp only; omega, hx'⟩, by dsimp only; omega⟩, ?_, ?_, ?_⟩
          · conv => whnf
            refine ⟨?_, rfl⟩
            repeat (first | exact FLe.nil | refine FLe.any ?_ | refine FLe.cons ?_ | refine FLe.eq (by rw [wrap_i64 (by omega)]; rfl) ?_ | refine FLe.eq ((by rw [show L'.length = 0 + 1 by omega])) ?_)
          · conv => whnf
            exact trivial
          · exact Ent.of_le ⟨by simp [Fx.and], fun w hw => ⟨hw.1.1.1, hw.2, hw.1.2⟩⟩
        · conv => whnf
          repeat (refine XSame.of ?_; conv => whnf)
          refine ⟨(i + 1, d, h, k4, L), ⟨⟨hlt', hd0, hh, hk4, by dsimp only; omega, hLl⟩, by dsimp only; omega⟩, ?_, ?_, ?_⟩
          · conv => whnf
            refine ⟨?_, rfl⟩
            repeat (first | exact FLe.nil | refine FLe.any ?_ | refine FLe.cons ?_ | refine FLe.eq (by rw [wrap_i64 (by omega)]; rfl) ?_)
          · conv => whnf
            exact trivial
          · exact Ent.of_le ⟨by simp [Fx.and], fun w hw => hw.1.1⟩)
    · refine XStop.draw tabOk mixed rfl rfl ?_
      conv => whnf
      repeat' (first
        | (refine And.intro ?_ ?_ <;> conv => whnf)
        | (refine XHeld.same rfl ?_; conv => whnf)
        | (refine XHeld.row rfl ?_; conv => whnf)
        | (refine XHeld.call rfl ?_; conv => whnf)
        | (refine XKeep.of ?_; conv => whnf)
        | (refine XSame.of ?_; conv => whnf)
        | (refine XRead.index tabOk (t := 22) rfl rfl rfl (by omega) (by omega) hk.nil fun ad had => ?_; conv => whnf)
        | (refine XRead.loads tabOk (t := 58) rfl rfl (ad := ad) (k := i * 3) (L := flCs l) (m := y) (.fact fun w hw => by rw [← had]; exact hw.1.1) (by simp) hcg hcl ?_; conv => whnf)
        | (refine XVal.build tabOk (t := 22) rfl rfl rfl [] rfl rfl (by simp) (by decide) fun b0 => ?_; conv => whnf)
        | (refine XVal.build tabOk (t := 22) rfl rfl rfl [.agg ⟨y⟩] rfl rfl (by simp [Value.cells, hcl]) (by decide) fun b1 => ?_; conv => whnf)
        | (refine XVal.ent (F' := ⟨fun w => FlsAt w k.a l ∧ By w h d ∧ RowAt w k4.a (flCs L), [] ++ orow (some ⟨b2, 0, none⟩) C1 ++ [(b1, Row.c y)]⟩) (Ent.of_le ⟨?_, fun w hw => hw⟩) ?_; (focus (simp [orow, Value.cells]; done)); refine XVal.append tabOk (t := 22) (xt := 22) rfl rfl rfl rfl rfl rfl (r1 := []) (r2 := [(b1, Row.c y)]) (M := y) hO1 (Sees.row (by simp)) hcl hone (by omega) (by simp <;> omega) fun a2 c2 C2 hO2 => ?_; conv => whnf)
        | (refine XVal.ent (F' := ⟨fun w => FlsAt w k.a l ∧ By w h d ∧ RowAt w k4.a (flCs L), [(b1, Row.c y)] ++ orow (some ⟨b2, 0, none⟩) C1 ++ []⟩) (Ent.of_le ⟨?_, fun w hw => hw⟩) ?_; (focus (simp [orow, Value.cells]; done)); refine XVal.append tabOk (t := 22) (xt := 22) rfl rfl rfl rfl rfl rfl (r1 := [(b1, Row.c y)]) (r2 := []) (M := y) hO1 (Sees.row (by simp)) hcl hone (by omega) (by simp <;> omega) fun a2 c2 C2 hO2 => ?_; conv => whnf)
        | (refine XVal.appendNew tabOk (t := 22) (xt := 22) rfl rfl rfl rfl rfl rfl (L := []) (M := flCs L) (n := 0) (Sees.row (by simp)) rfl (.fact fun w hw => hw.2.2) hLn (by omega) (by omega) (by simp; omega) fun b2 c1 C1 hO1 => ?_; conv => whnf)
        | (refine XHeld.mk ?_ ?_; (focus (first | exact Ent.refl _ | exact Ent.left _ _ | exact Ent.of_le ⟨List.sublist_append_left _ _, fun w h => h⟩ | exact Ent.of_le ⟨List.Sublist.refl _, fun w h => h.1⟩)); conv => whnf))
      all_goals (
        have hO : Go.Sx.Own 3 L'.length a2 c2 C2 (flCs L') := by
          have h5 := hO2
          rw [List.nil_append] at h5
          rw [hfl, show L'.length = 0 + L.length + 1 by omega]
          exact h5
        have hk' : (⟨a2, c2⟩ : Hd).Ok L'.length := ⟨fun ha => hO.none_nil ha, hO.fit⟩
        have hm2 := hms' ⟨a2, c2⟩ hk' (by omega) (fun x hxm => hx x (hx' x hxm))
        rw [show (⟨a2, c2⟩ : Hd).v L'.length = .slice a2 (0 + L.length + 1) c2 by rw [show L'.length = 0 + L.length + 1 by omega]] at hm2
        refine XCall.ent (F' := ⟨fun w => (FlsAt w k.a l ∧ By w h d ∧ RowAt w k4.a (flCs L)) ∧ RowAt w a2 (flCs L'), []⟩) (by
          first
          | exact (Go.Sx.Own.share hO (r1 := []) (r2 := [(b1, Row.c y)])).trans (Ent.bare fun w hw => hw)
          | exact (Go.Sx.Own.share hO (r1 := [(b1, Row.c y)]) (r2 := [])).trans (Ent.bare fun w hw => hw)) ?_
        generalize (filesR fd L').1 = d' at *
        generalize (filesR fd L').2 = e' at *
        refine XCall.pure hm2 (fun w hw => ⟨hw.2, fun x hxm => hw.1.1.2 x (hx' x hxm)⟩) (fun v D hv => ?_)
        obtain ⟨k5, rfl, hk5, rfl⟩ := hv
        conv => whnf
        repeat (refine XSame.of ?_; conv => whnf)
        refine XIf.split (fun he => ?_) (fun he => ?_)
        · have he0 : e' = 0 := by
            simp [iEq_eq] at he
            omega
          conv => whnf
          repeat (refine XSame.of ?_; conv => whnf)
          refine ⟨(i + 1, d', k5, ⟨a2, c2⟩, L'), ⟨⟨hlt', hfm' he0, hk5, hk', by dsimp only; omega, hx'⟩, by dsimp only; omega⟩, ?_, ?_, ?_⟩
          · conv => whnf
            refine ⟨?_, rfl⟩
            repeat (first | exact FLe.nil | refine FLe.any ?_ | refine FLe.cons ?_ | refine FLe.eq (by rw [wrap_i64 (by omega)]; rfl) ?_ | refine FLe.eq ((by rw [show L'.length = 0 + L.length + 1 by omega])) ?_)
          · conv => whnf
            exact trivial
          · exact Ent.of_le ⟨by simp [Fx.and], fun w hw => ⟨hw.1.1.1, hw.2, hw.1.2⟩⟩
        · conv => whnf
          repeat (refine XSame.of ?_; conv => whnf)
          refine ⟨(i + 1, d, h, k4, L), ⟨⟨hlt', hd0, hh, hk4, by dsimp only; omega, hLl⟩, by dsimp only; omega⟩, ?_, ?_, ?_⟩
          · conv => whnf
            refine ⟨?_, rfl⟩
            repeat (first | exact FLe.nil | refine FLe.any ?_ | refine FLe.cons ?_ | refine FLe.eq (by rw [wrap_i64 (by omega)]; rfl) ?_)
          · conv => whnf
            exact trivial
          · exact Ent.of_le ⟨by simp [Fx.and], fun w hw => hw.1.1⟩)
  · have hie : True := trivial
    conv => whnf
    repeat (refine XSame.of ?_; conv => whnf)
    exact ⟨⟨fun w => By w h d, []⟩, Ent.of_le ⟨by simp, fun w hw => hw.2.1⟩, d, h, hd0, len38 hd0, rfl, hh, rfl⟩

end Go.Proofs.YtfeoedkmndkbjaaGreatDoor
namespace Go.Proofs.YtfeoedkmndkbjaaGreatDoor
open Go Go.Sx
set_option maxRecDepth 100000
set_option maxHeartbeats 4000000
set_option linter.unusedVariables false
set_option linter.unusedSimpArgs false

def hello : List UInt8 := [104, 101, 108, 108, 111]

theorem filesR_awake (h0 : Hd) : ∃ d2, filesR fmtX [⟨[47, 97], false, h0, hello⟩] = (d2, 0) ∧ d2.length = 12288 ∧ chk38 d2 = 0 ∧ walkR d2 [47, 97] = (1, 0) ∧ gete d2 1 = 0 ∧ rk d2 1 = 1 ∧ contentR d2 1 = hello := by
  obtain ⟨d1, d2, hm, hwr, hl1, hl2, hc, hwk, hg, hk, hcon⟩ := awake39 (fresh_of fmtX_ok)
  have e : mkF fmtX ⟨[47, 97], false, h0, hello⟩ = (d2, 0) := by
    unfold mkF
    dsimp only
    rw [if_neg (show ¬ false = true by decide), hm]
    dsimp only
    rw [if_neg (by decide), if_neg (by decide), show hello = [104, 101, 108, 108, 111] from rfl, hwr]
    dsimp only
    rw [if_neg (by decide)]
  refine ⟨d2, ?_, hl2, hc, hwk, hg, hk, hcon⟩
  unfold filesR
  rw [e]
  dsimp only
  rw [if_neg (by decide)]
  rfl

theorem awake_spec : PureSpec Tryz.prog 6 [] (fun _ => True) (fun v F => v = .bool true) := by
  refine PureSpec.of_xc tabOk Tryz.func6 rfl (by decide) (n := Tryz.f6.ntmps - 0) rfl rfl fun w0 av => ?_
  conv => whnf
  repeat (refine XSame.of ?_; conv => whnf)
  refine XVal.build tabOk (t := 23) rfl rfl rfl (hello.map byteV) rfl rfl (by simp [hello, Value.cells, byteV]) (by decide) fun b1 => ?_
  conv => whnf
  repeat (refine XSame.of ?_; conv => whnf)
  refine XVal.lit tabOk (t := 23) rfl rfl rfl rfl (r1 := []) (r2 := []) (C := hello.map byteV) ?_
  conv => whnf
  repeat (refine XSame.of ?_; conv => whnf)
  obtain ⟨d2, hfm, hl2, hc, hwk, hg, hk, hcon⟩ := filesR_awake ⟨some ⟨b1, 0, none⟩, 5⟩
  refine XVal.build tabOk (t := 46) rfl rfl rfl [.agg ⟨flC ⟨[47, 97], false, ⟨some ⟨b1, 0, none⟩, 5⟩, hello⟩⟩] rfl rfl (by simp [flC, Value.cells]) (by decide) fun b2 => ?_
  conv => whnf
  repeat (refine XSame.of ?_; conv => whnf)
  have hms := filesMake_spec [⟨[47, 97], false, ⟨some ⟨b1, 0, none⟩, 5⟩, hello⟩] ⟨some ⟨b2, 0, none⟩, 1⟩ ⟨by simp, by simp⟩ (by simp) (by
    intro x hx
    simp only [List.mem_singleton] at hx
    subst hx
    exact ⟨by simp, by simp [hello], by simp, by simp [hello]⟩)
  rw [hfm] at hms
  clear hfm
  obtain ⟨z0, hz0⟩ : ∃ z : Nat, z = 0 := ⟨_, rfl⟩
  rw [show ((d2, 0) : List UInt8 × Nat).2 = z0 from hz0.symm] at hms
  refine XCall.ent (Ent.share1 (rs := [])) ?_
  refine XCall.pure hms (fun w hw => ?_) (fun v D hv => ?_)
  · refine ⟨hw.2, fun x hx => ?_⟩
    simp only [List.mem_singleton] at hx
    subst hx
    exact hw.1.2
  obtain ⟨h2, rfl, hh2, rfl⟩ := hv
  dsimp only
  conv => whnf
  repeat (refine XSame.of ?_; conv => whnf)
  refine XVal.build tabOk (t := 23) rfl rfl rfl (([47, 97] : List UInt8).map byteV) rfl rfl (by simp [Value.cells, byteV]) (by decide) fun b3 => ?_
  conv => whnf
  repeat (refine XSame.of ?_; conv => whnf)
  refine XVal.lit tabOk (t := 23) rfl rfl rfl rfl (r1 := []) (r2 := []) (C := ([47, 97] : List UInt8).map byteV) ?_
  conv => whnf
  repeat (refine XSame.of ?_; conv => whnf)
  obtain ⟨m1, hm1⟩ : ∃ z : Nat, z = 1 := ⟨_, rfl⟩
  obtain ⟨k1, hk1⟩ : ∃ z : Int, z = 1 := ⟨_, rfl⟩
  obtain ⟨z1, hz1⟩ : ∃ z : Int, z = 0 := ⟨_, rfl⟩
  obtain ⟨z2, hz2⟩ : ∃ z : Int, z = 0 := ⟨_, rfl⟩
  have hd1 : PureSpec Tryz.prog 10 [h2.v d2.length, .agg ⟨reqC ((1 : Nat) : Int) 0 0 0 ⟨some ⟨b3, 0, none⟩, 2⟩ 2⟩] (fun w => By w h2 d2 ∧ By w ⟨some ⟨b3, 0, none⟩, 2⟩ [47, 97]) (fun v F => ∃ h2 : Hd, v = .tuple #[h2.v d2.length, .agg ⟨[.int .i64 (m1 : Int), .int .i64 k1, .slice none 0 0]⟩, .int .i64 z1]) := by
    subst hm1 hk1 hz1
    exact do1_spec d2 h2 hh2 hl2 1 0 0 0 ⟨some ⟨b3, 0, none⟩, 2⟩ [47, 97] ⟨by simp, by simp⟩ (by simp) rfl rfl rfl rfl hc 1 hwk hg hk
  have hd2 : PureSpec Tryz.prog 10 [h2.v d2.length, .agg ⟨reqC ((2 : Nat) : Int) 1 1 3 Hd.nil 0⟩] (fun w => By w h2 d2) (fun v F => ∃ h5 kb : Hd, v = .tuple #[h5.v d2.length, .agg ⟨[.int .i64 3, .int .i64 0, kb.v [101, 108, 108].length]⟩, .int .i64 z2] ∧
      kb.Ok 3 ∧ ∃ rs, F = ⟨fun w => By w h2 d2 ∧ By w kb [101, 108, 108], rs⟩) := by
    subst hz2
    have := do2_spec d2 h2 hh2 hl2 2 1 1 3 1 1 3 rfl rfl rfl Hd.nil rfl (by decide) (by decide) (by decide) hc hg hk
    rw [hcon] at this
    refine this.weaken ?_
    rintro v F ⟨h3, kb, hv, hkb, rs, hF⟩
    exact ⟨F, Ent.refl _, h3, kb, hv, hkb, rs, hF⟩
  clear hwk hg hk hcon hc hms
  refine XCall.pure hd1 (fun w hw => ⟨hw.1.2, hw.2⟩) (fun v D hv => ?_)
  obtain ⟨h3, rfl⟩ := hv
  conv => whnf
  repeat (refine XSame.of ?_; conv => whnf)
  intro b4
  conv => whnf
  repeat (refine XSame.of ?_; conv => whnf)
  refine XCall.pure hd2 (fun w hw => hw.1.1.2) (fun v D2 hv => ?_)
  obtain ⟨h4, kb, rfl, hkb, rs, rfl⟩ := hv
  conv => whnf
  repeat (refine XSame.of ?_; conv => whnf)
  intro b5
  conv => whnf
  repeat (refine XSame.of ?_; conv => whnf)
  generalize hq : (iEq (z0 : Int) 0 && iEq z1 0 && iEq z2 0 && iEq (m1 : Int) 1 && iEq k1 1) = q
  have eq : q = true := by rw [← hq, hz0, hz1, hz2, hm1, hk1]; simp [iEq_eq]
  clear hq
  subst eq
  conv => whnf
  repeat (refine XSame.of ?_; conv => whnf)
  refine XVal.of_read (XRead.bytes tabOk (t := 23) (u := 9) rfl rfl rfl rfl rfl rfl (l := [101, 108, 108]) (.fact fun w hw => hw.2.2) rfl ?_)
  conv => whnf
  repeat (refine XSame.of ?_; conv => whnf)
  refine XVal.of_read (XRead.strEq (l := [101, 108, 108]) (m := [101, 108, 108]) ?_)
  conv => whnf
  repeat (refine XSame.of ?_; conv => whnf)
  exact ⟨_, Ent.refl _, rfl⟩

end Go.Proofs.YtfeoedkmndkbjaaGreatDoor
namespace Go.Proofs.YtfeoedkmndkbjaaGreatDoor
open Go Go.Sx
set_option maxRecDepth 100000
set_option maxHeartbeats 4000000
set_option linter.unusedVariables false
set_option linter.unusedSimpArgs false

theorem fewF_le {l : List Fl} (h : fewF l = true) : l.length ≤ 8 ∧ ∀ x ∈ l, x.path.length ≤ 100 ∧ x.data.length ≤ 400 := by
  unfold fewF at h
  rw [Bool.and_eq_true, List.all_eq_true, decide_eq_true_eq] at h
  exact ⟨h.2, fun x hx => by simpa using h.1 x hx⟩

end Go.Proofs.YtfeoedkmndkbjaaGreatDoor
namespace Go.Proofs.YtfeoedkmndkbjaaGreatDoor
open Go Go.Sx
set_option maxRecDepth 100000
set_option maxHeartbeats 4000000
set_option linter.unusedVariables false
set_option linter.unusedSimpArgs false

/-- What Do reads. -/
noncomputable def rdR (d : List UInt8) (m off cnt : Nat) : List UInt8 := if pfe d m = 0 then ((contentR d m).drop off).take cnt else []

theorem do2A_spec (d : List UInt8) (h : Hd) (hh : h.Ok d.length) (hd : d.length = 12288) (on m offN cntN : Nat) (node at0 n : Int) (hnode : node = (m : Int)) (hat : at0 = (offN : Int)) (hn : n = (cntN : Int)) (k : Hd) (h1 : on = 2) (h2 : m ≤ 31) (hof : offN ≤ 9223372036854775807) (h4 : cntN ≤ 1536) (h38 : chk38 d = 0) :
    PureSpec Tryz.prog 10 [h.v d.length, .agg ⟨reqC (on : Int) node at0 n k 0⟩] (fun w => By w h d) (fun v F => ∃ (h2 kb : Hd) (n2 : Nat) (val : Int), v = .tuple #[h2.v n2, .agg ⟨[.int .i64 val, .int .i64 0, kb.v (rdR d m offN cntN).length]⟩, .int .i64 (pfe d m : Int)] ∧
      kb.Ok (rdR d m offN cntN).length ∧ F = ⟨fun w => By w kb (rdR d m offN cntN), []⟩) := by
  by_cases he : pfe d m = 0
  · obtain ⟨-, hg, hr⟩ := pfe_zero h38 he
    have := do2_spec d h hh hd on m offN cntN node at0 n hnode hat hn k h1 h2 hof h4 h38 hg hr
    unfold rdR
    rw [if_pos he, he]
    refine this.weaken ?_
    rintro v F ⟨h2, kb, hv, hkb, rs, rfl⟩
    exact ⟨⟨fun w => By w kb _, []⟩, Ent.of_le ⟨List.nil_sublist _, fun w h => h.2⟩, h2, kb, _, _, hv, hkb, rfl⟩
  · have := do2E_spec d h hh hd on m offN cntN node at0 n hnode hat hn k h1 h2 hof h4 h38 he
    unfold rdR
    rw [if_neg he]
    refine this.weaken ?_
    rintro v F rfl
    exact ⟨⟨fun w => By w Hd.nil [], []⟩, Ent.of_le ⟨List.nil_sublist _, fun w h => RowAt.nilA (w := w)⟩, Hd.nil, Hd.nil, 0, 0, rfl, ⟨fun _ => rfl, Nat.le_refl _⟩, rfl⟩

theorem pathsS_spec (d : List UInt8) (h : Hd) (hh : h.Ok d.length) (hl : d.length ≤ 1000000) (h38 : chk38 d = 0) : PureSpec Tryz.prog 18 [h.v d.length] (fun w => By w h d)
    (fun v F => ∃ h2 : Hd, v = .tuple #[h2.v (pathsR d).length, .int .i64 0] ∧ h2.Ok (pathsR d).length ∧ F = ⟨fun w => StrAt w h2 (pathsR d), []⟩) := by
  refine (paths38_spec d h hh hl).weaken ?_
  intro v F hv
  unfold RelPaths at hv
  rw [if_pos h38] at hv
  obtain ⟨b, cap, C, hO, rfl, rfl⟩ := hv
  exact ⟨⟨fun w => StrAt w ⟨some ⟨b, 0, none⟩, cap⟩ (pathsR d), []⟩, Ent.share1.trans (Ent.imp fun w h => hO.row h.2), ⟨some ⟨b, 0, none⟩, cap⟩, rfl, ⟨fun h => (by cases h), hO.fit⟩, rfl⟩

theorem rdR_len (d : List UInt8) (m off cnt : Nat) : (rdR d m off cnt).length ≤ cnt := by
  unfold rdR
  split
  · rw [List.length_take]
    omega
  · simp

theorem pathsR_len {d : List UInt8} (h38 : chk38 d = 0) : (pathsR d).length ≤ 1000000 := by
  obtain ⟨-, hG, -⟩ := tree_facts h38
  have hVl := V_len hG
  rw [show (33 : Nat) = 32 + 1 from rfl, V_succ, List.length_cons] at hVl
  have h1 := foldQ_len (belV d 32 0 []) [[47]]
  unfold pathsR
  rw [if_neg (by rw [h38]; simp)]
  simp only [List.length_cons, List.length_nil] at h1
  omega

theorem filesWrites_law (l : List Fl) (k : Hd) (hk : k.Ok l.length) (hl : l.length ≤ 3000000000000000000) (hx : ∀ x ∈ l, x.h.Ok x.data.length) (node at0 : Int) (kd : Hd) (data : List UInt8) (hkd : kd.Ok data.length) (hat : at0 ≤ 9223372036854775807) :
    PureSpec Tryz.prog 5 [k.v l.length, .agg ⟨[.int .i64 node, .int .i64 at0, kd.v data.length]⟩] (fun w => FlsAt w k.a l ∧ By w kd data) (fun v F => v = .bool true) := by
  have haw := awake_spec
  obtain ⟨tr, htr⟩ : ∃ tr, tr = true := ⟨_, rfl⟩
  rw [← htr] at haw
  have hfw := fewF_spec l k hk hl
  have hfl := @fewF_le l
  generalize fewF l = fw at *
  refine PureSpec.of_xc tabOk Tryz.func5 rfl (by decide) (n := Tryz.f5.ntmps - 2) rfl rfl fun w0 av => ?_
  conv => whnf
  repeat (refine XSame.of ?_; conv => whnf)
  intro b3
  conv => whnf
  repeat (refine XSame.of ?_; conv => whnf)
  refine XCall.val haw (fun w hw => trivial) (fun v D hv => ?_)
  subst hv
  conv => whnf
  repeat (refine XSame.of ?_; conv => whnf)
  refine XIf.no (by rw [htr]; rfl) ?_
  conv => whnf
  repeat (refine XSame.of ?_; conv => whnf)
  refine XCall.val hfw (fun w hw => hw.1) (fun v D hv => ?_)
  subst hv
  conv => whnf
  repeat (refine XSame.of ?_; conv => whnf)
  cases fw
  · conv => whnf
    repeat (refine XSame.of ?_; conv => whnf)
    subst htr
    exact ⟨_, Ent.refl _, rfl⟩
  obtain ⟨hl8, hfx⟩ := hfl rfl
  clear hfl
  have hds := disk39_spec l k hk hl8 fun x hm => ⟨by have := (hfx x hm).1; omega, by have := (hfx x hm).2; omega, hx x hm⟩
  conv => whnf
  repeat (refine XSame.of ?_; conv => whnf)
  refine XIf.split (fun hgt => ?_) (fun hgt => ?_)
  · conv => whnf
    repeat (refine XSame.of ?_; conv => whnf)
    subst htr
    exact ⟨_, Ent.refl _, rfl⟩
  have hd200 : data.length ≤ 200 := by
    simp [iGt_eq] at hgt
    omega
  conv => whnf
  repeat (refine XSame.of ?_; conv => whnf)
  refine XCall.pure hds (fun w hw => hw.1) (fun v D hv => ?_)
  obtain ⟨d, h, h38, hd, rfl, hh, rfl⟩ := hv
  conv => whnf
  repeat (refine XSame.of ?_; conv => whnf)
  obtain ⟨z1, hz1⟩ : ∃ z : Int, z = 0 := ⟨_, rfl⟩
  obtain ⟨z2, hz1'⟩ : ∃ z : Nat, z = 0 := ⟨_, rfl⟩
  have h3s := do3_spec d h hh hd 3 node at0 0 kd data hkd (by omega) rfl rfl h38 hat
  refine XCall.pure h3s (fun w hw => ⟨hw.2, hw.1.2⟩) (fun v D hv => ?_)
  rcases hv with ⟨e, he, rfl⟩ | ⟨m, off, h2, rfl, hm, hpf, hao, hoff, hpe, hv, hh2, rfl⟩
  · unfold zRes
    conv => whnf
    repeat (refine XSame.of ?_; conv => whnf)
    intro b7
    conv => whnf
    repeat (refine XSame.of ?_; conv => whnf)
    refine XIf.yes (by simp [iNe_eq]; omega) ?_
    conv => whnf
    repeat (refine XSame.of ?_; conv => whnf)
    subst htr
    exact ⟨_, Ent.refl _, by simp [iEq_eq]⟩
  clear h3s
  have hvv : IntKind.i64.wrap (IntKind.i64.wrap ((off : Int) + (data.length : Int)) - (data.length : Int)) = (off : Int) := by
    rcases pwrite_bound hpe with h | h
    · have w1 : IntKind.i64.wrap (off : Int) = (off : Int) := wrap_i64 (by omega)
      rw [h, Int.natCast_zero, Int.add_zero, w1, Int.sub_zero, w1]
    · have w1 : IntKind.i64.wrap ((off : Int) + (data.length : Int)) = (off : Int) + (data.length : Int) := wrap_i64 (by omega)
      rw [w1, Int.add_sub_cancel]
      exact wrap_i64 (by omega)
  obtain ⟨-, hg, hr⟩ := pfe_zero h38 hpf
  obtain ⟨q38, qk, qc, qr, qe⟩ := pwrite_file h38 hg hr hpe
  have q0 := (chk_zero (tree_facts q38).1).1
  have hpt := pathsR_same h38 q38 qe
  have hpfe : ∀ n, n < 32 → pfe (pwriteR d m off data).1 n = pfe d n := fun n hn => pfe_same h38 q38 qk hn
  have hrd : rdR (pwriteR d m off data).1 m off data.length = data := by
    unfold rdR
    rw [hpfe m (by omega), if_pos hpf, qr]
  have hrn : ∀ n, n < 32 → n ≠ m → rdR (pwriteR d m off data).1 n 0 1536 = rdR d n 0 1536 := fun n hn hnm => by
    unfold rdR
    rw [hpfe n hn]
    by_cases h : pfe d n = 0
    · rw [if_pos h, if_pos h, qc n hn hnm (by rw [(pfe_zero h38 h).2.2]; decide)]
    · rw [if_neg h, if_neg h]
  clear qk qc qr qe hg hr hpe
  generalize (pwriteR d m off data).1 = d2 at *
  generalize IntKind.i64.wrap ((off : Int) + (data.length : Int)) = vv at *
  have hd2 : data.length ≤ 1000000 := by omega
  obtain ⟨fr, hfr⟩ : ∃ fr : Int, fr = (off : Int) := ⟨_, rfl⟩
  rw [← hfr] at hvv
  have hrs := do2A_spec d2 h2 hh2 q0 2 m off data.length m fr data.length rfl hfr rfl Hd.nil rfl hm hoff (by omega) q38
  have he2 : pfe d2 m = z2 := by rw [hpfe m (by omega), hpf, hz1']
  rw [hrd, he2] at hrs
  rw [← hz1] at hv
  subst hv
  conv => whnf
  repeat (refine XSame.of ?_; conv => whnf)
  intro b7
  conv => whnf
  repeat (refine XSame.of ?_; conv => whnf)
  refine XIf.no (by rw [hz1]; simp [iNe_eq]) ?_
  conv => whnf
  repeat (refine XSame.of ?_; conv => whnf)
  rw [hvv]
  conv => whnf
  repeat (refine XSame.of ?_; conv => whnf)
  refine XVal.of_read (XRead.maxI ?_)
  rw [if_neg (by omega)]
  conv => whnf
  repeat (refine XSame.of ?_; conv => whnf)
  refine XCall.pure hrs (fun w hw => hw.2) (fun v D hv => ?_)
  obtain ⟨h3, kb, n3, val3, rfl, hkb, rfl⟩ := hv
  conv => whnf
  repeat (refine XSame.of ?_; conv => whnf)
  intro b9
  conv => whnf
  repeat (refine XSame.of ?_; conv => whnf)
  have g1 : (iNe (z2 : Int) 0 || iLt fr 0) = false := by
    rw [hz1', hfr, iNe_eq, iLt_eq]
    simp
  rw [g1]
  conv => whnf
  repeat (refine XSame.of ?_; conv => whnf)
  have g2 : (iGe at0 0) = true → iNe fr at0 = false := fun h => by
    rw [iGe_eq, decide_eq_true_eq] at h
    simp [iNe_eq]
    omega
  generalize iGe at0 0 = q2 at *
  cases q2
  case' true =>
    conv => whnf
    repeat (refine XSame.of ?_; conv => whnf)
    rw [g2 rfl]
  all_goals
    conv => whnf
    repeat (refine XSame.of ?_; conv => whnf)
    refine XVal.of_read (XRead.bytes tabOk (t := 23) (u := 9) rfl rfl rfl rfl rfl rfl (l := data) (.fact fun w hw => hw.2) rfl ?_)
    conv => whnf
    repeat (refine XSame.of ?_; conv => whnf)
    refine XVal.of_read (XRead.bytes tabOk (t := 23) (u := 9) rfl rfl rfl rfl rfl rfl (l := data) (.fact fun w hw => hw.1.1.1.2) rfl ?_)
    conv => whnf
    repeat (refine XSame.of ?_; conv => whnf)
    refine XVal.of_read (XRead.strNe (l := data) (m := data) ?_)
    rw [beq_self_eq_true]
    conv => whnf
    repeat (refine XSame.of ?_; conv => whnf)
    refine XStop.loop tabOk (ι := Nat) ([13] ++ List.range' 14 6 ++ List.range' 112 38) (fun x => x ≤ 32) (fun x => [(13, .v (.int .i64 (x : Int)))])
      (fun _ => [[.int .i64 (m : Int), .int .i64 at0, kd.v data.length], [.int .i64 vv, .int .i64 z1, .slice none 0 0], [.int .i64 val3, .int .i64 0, kb.v data.length]])
      (fun _ => ⟨fun w => By w h d ∧ By w h2 d2, []⟩) (fun x => 32 - x) 0 (by decide) ?_ rfl (Ent.of_le ⟨by simp [Fx.and], fun w hw => ⟨hw.1.1.2, hw.1.2⟩⟩) fun i hi => ?_
    · conv => whnf
      repeat (first | exact FLe.nil | refine FLe.any ?_ | refine FLe.cons ?_)
    conv => whnf
    repeat (refine XSame.of ?_; conv => whnf)
    refine XIf.split (fun hlt => ?_) (fun hlt => ?_)
    · have hlt' : i < 32 := by
        simp [iLt_eq] at hlt
        omega
      have hra := do2A_spec d h hh hd 2 i 0 1536 i 0 1536 rfl rfl rfl Hd.nil rfl (by omega) (by omega) (by omega) h38
      have hrb := do2A_spec d2 h2 hh2 q0 2 i 0 1536 i 0 1536 rfl rfl rfl Hd.nil rfl (by omega) (by omega) (by omega) q38
      have e1 := hpfe i hlt'
      have e2 := hrn i hlt'
      have l1 := rdR_len d i 0 1536
      have l2 := rdR_len d2 i 0 1536
      rw [e1] at hrb
      clear e1 hpfe hrn hpt
      generalize pfe d i = ea at *
      generalize rdR d i 0 1536 = ra at *
      generalize rdR d2 i 0 1536 = rb at *
      conv => whnf
      repeat (refine XSame.of ?_; conv => whnf)
      refine XCall.pure hra (fun w hw => hw.1) (fun v D hv => ?_)
      obtain ⟨ha, ka, na, va, rfl, hka, rfl⟩ := hv
      conv => whnf
      repeat (refine XSame.of ?_; conv => whnf)
      intro b11
      conv => whnf
      repeat (refine XSame.of ?_; conv => whnf)
      refine XCall.pure hrb (fun w hw => hw.1.2) (fun v D hv => ?_)
      obtain ⟨hb, kc, nb, vb, rfl, hkc, rfl⟩ := hv
      conv => whnf
      repeat (refine XSame.of ?_; conv => whnf)
      intro b12
      conv => whnf
      repeat (refine XSame.of ?_; conv => whnf)
      have g4 : iNe (ea : Int) (ea : Int) = false := by simp [iNe_eq]
      rw [g4]
      conv => whnf
      repeat (refine XSame.of ?_; conv => whnf)
      have g5 : iNe (i : Int) (m : Int) = true → rb = ra := fun h => e2 (by
        simp [iNe_eq] at h
        omega)
      generalize iNe (i : Int) (m : Int) = q4 at *
      cases q4
      rotate_left
      · obtain rfl := g5 rfl
        conv => whnf
        repeat (refine XSame.of ?_; conv => whnf)
        refine XVal.of_read (XRead.bytes tabOk (t := 23) (u := 9) rfl rfl rfl rfl rfl rfl (l := rb) (.fact fun w hw => hw.1.2) rfl ?_)
        conv => whnf
        repeat (refine XSame.of ?_; conv => whnf)
        refine XVal.of_read (XRead.bytes tabOk (t := 23) (u := 9) rfl rfl rfl rfl rfl rfl (l := rb) (.fact fun w hw => hw.2) rfl ?_)
        conv => whnf
        repeat (refine XSame.of ?_; conv => whnf)
        refine XVal.of_read (XRead.strNe (l := rb) (m := rb) ?_)
        rw [beq_self_eq_true]
        conv => whnf
        repeat (refine XSame.of ?_; conv => whnf)
        refine ⟨i + 1, ⟨hlt', by dsimp only; omega⟩, ?_, ?_, Ent.of_le ⟨by simp [Fx.and], fun w hw => hw.1.1⟩⟩
        · conv => whnf
          refine ⟨?_, rfl⟩
          repeat (first | exact FLe.nil | refine FLe.any ?_ | refine FLe.cons ?_ | refine FLe.eq (by rw [wrap_i64 (by omega)]; rfl) ?_)
        · conv => whnf
          exact ⟨⟨rfl, rfl⟩, ⟨rfl, rfl⟩, ⟨rfl, rfl⟩, trivial⟩
      conv => whnf
      repeat (refine XSame.of ?_; conv => whnf)
      refine ⟨i + 1, ⟨hlt', by dsimp only; omega⟩, ?_, ?_, Ent.of_le ⟨by simp [Fx.and], fun w hw => hw.1.1⟩⟩
      · conv => whnf
        refine ⟨?_, rfl⟩
        repeat (first | exact FLe.nil | refine FLe.any ?_ | refine FLe.cons ?_ | refine FLe.eq (by rw [wrap_i64 (by omega)]; rfl) ?_)
      · conv => whnf
        exact ⟨⟨rfl, rfl⟩, ⟨rfl, rfl⟩, ⟨rfl, rfl⟩, trivial⟩
    · have hpa := pathsS_spec d h hh (by omega) h38
      have hpb := pathsS_spec d2 h2 hh2 (by omega) q38
      have hpl := pathsR_len h38
      rw [hpt] at hpb
      clear hpfe hrn hpt
      generalize pathsR d = ps at *
      conv => whnf
      repeat (refine XSame.of ?_; conv => whnf)
      refine XCall.pure hpa (fun w hw => hw.1) (fun v D hv => ?_)
      obtain ⟨ka, rfl, hka, rfl⟩ := hv
      conv => whnf
      repeat (refine XSame.of ?_; conv => whnf)
      refine XCall.pure hpb (fun w hw => hw.1.2) (fun v D hv => ?_)
      obtain ⟨kc, rfl, hkc, rfl⟩ := hv
      conv => whnf
      repeat (refine XSame.of ?_; conv => whnf)
      rw [show iEq 0 0 = true by simp [iEq_eq]]
      conv => whnf
      repeat (refine XSame.of ?_; conv => whnf)
      refine XCall.val (same_spec ka kc ps hka hkc hpl) (fun w hw => ⟨hw.1.2, hw.2⟩) (fun v D hv => ?_)
      subst hv
      conv => whnf
      repeat (refine XSame.of ?_; conv => whnf)
      exact ⟨_, Ent.refl _, rfl⟩

end Go.Proofs.YtfeoedkmndkbjaaGreatDoor
