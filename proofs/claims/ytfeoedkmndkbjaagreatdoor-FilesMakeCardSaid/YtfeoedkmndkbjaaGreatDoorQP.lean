/- Parts of the proof: FcE, FcF, FcG, FcH. -/
import Derived.Test.YtfeoedkmndkbjaaGreatDoorQO
namespace Go.Proofs.YtfeoedkmndkbjaaGreatDoor
open Go Go.Sx
set_option maxRecDepth 100000
set_option maxHeartbeats 4000000
set_option linter.unusedVariables false
set_option linter.unusedSimpArgs false

def reqC (op node at0 n : Int) (k : Hd) (len : Nat) : List Value := [.int .i64 op, .int .i64 node, .int .i64 at0, .int .i64 n, k.v len]

theorem between_spec (x a b : Int) : PureSpec Tryz.prog 31 [.int .i64 x, .int .i64 a, .int .i64 b] (fun _ => True) (fun v F => v = .bool (decide (a ≤ x ∧ x ≤ b))) := by
  refine PureSpec.of_xc tabOk Tryz.func31 rfl (by decide) (n := Tryz.f31.ntmps - 3) rfl rfl fun w0 av => ?_
  conv => whnf
  repeat (refine XSame.of ?_; conv => whnf)
  generalize h1 : iGe x a = c1
  cases c1
  · conv => whnf
    repeat (refine XSame.of ?_; conv => whnf)
    refine ⟨_, Ent.refl _, ?_⟩
    have : ¬ (a ≤ x ∧ x ≤ b) := fun h => by
      rw [iGe_eq, decide_eq_false_iff_not] at h1
      omega
    simp [this]
  · conv => whnf
    repeat (refine XSame.of ?_; conv => whnf)
    refine ⟨_, Ent.refl _, ?_⟩
    rw [iGe_eq, decide_eq_true_eq] at h1
    have h2 : (a ≤ x ∧ x ≤ b) ↔ x ≤ b := ⟨fun h => h.2, fun h => ⟨by omega, h⟩⟩
    simp [iLe_eq, h2]

theorem formed1_spec (op node at0 n : Int) (k : Hd) (len : Nat) (h1 : op = 1) (h2 : node = 0) (h3 : at0 = 0) (h4 : n = 0) (h5 : len ≤ 128) : PureSpec Tryz.prog 13 [.agg ⟨reqC op node at0 n k len⟩] (fun _ => True) (fun v F => v = .bool true) := by
  refine PureSpec.of_xc tabOk Tryz.func13 rfl (by decide) (n := Tryz.f13.ntmps - 1) rfl rfl fun w0 av => ?_
  conv => whnf
  repeat (refine XSame.of ?_; conv => whnf)
  intro b1
  conv => whnf
  repeat (refine XSame.of ?_; conv => whnf)
  refine XIf.yes (by rw [h1]; simp [iEq_eq]) ?_
  conv => whnf
  repeat (refine XSame.of ?_; conv => whnf)
  generalize hq1 : iEq node 0 = q1
  have e1 : q1 = true := by rw [← hq1, h2]; simp [iEq_eq]
  clear hq1
  subst e1
  conv => whnf
  repeat (refine XSame.of ?_; conv => whnf)
  generalize hq2 : iEq n 0 = q2
  have e2 : q2 = true := by rw [← hq2, h4]; simp [iEq_eq]
  clear hq2
  subst e2
  conv => whnf
  repeat (refine XSame.of ?_; conv => whnf)
  refine XCall.val (between_spec at0 0 7) (fun w hw => trivial) (fun v D hv => ?_)
  have e3 : decide (0 ≤ at0 ∧ at0 ≤ 7) = true := by rw [h3]; decide
  rw [e3] at hv
  subst hv
  conv => whnf
  repeat (refine XSame.of ?_; conv => whnf)
  refine ⟨_, Ent.refl _, ?_⟩
  have h6 : ((len : Nat) : Int) ≤ 128 := by omega
  simp [iLe_eq, h6]

theorem formed2_spec (op node at0 n : Int) (k : Hd) (len : Nat) (h1 : op = 2) (h2 : 0 ≤ node ∧ node ≤ 31) (h3 : 0 ≤ at0) (h4 : 0 ≤ n ∧ n ≤ 1536) (h5 : len = 0) : PureSpec Tryz.prog 13 [.agg ⟨reqC op node at0 n k len⟩] (fun _ => True) (fun v F => v = .bool true) := by
  refine PureSpec.of_xc tabOk Tryz.func13 rfl (by decide) (n := Tryz.f13.ntmps - 1) rfl rfl fun w0 av => ?_
  conv => whnf
  repeat (refine XSame.of ?_; conv => whnf)
  intro b1
  conv => whnf
  repeat (refine XSame.of ?_; conv => whnf)
  refine XIf.no (by rw [h1]; simp [iEq_eq]) ?_
  conv => whnf
  repeat (refine XSame.of ?_; conv => whnf)
  refine XIf.yes (by rw [h1]; simp [iEq_eq]) ?_
  conv => whnf
  repeat (refine XSame.of ?_; conv => whnf)
  refine XCall.val (between_spec node 0 31) (fun w hw => trivial) (fun v D hv => ?_)
  have e3 : decide (0 ≤ node ∧ node ≤ 31) = true := decide_eq_true h2
  rw [e3] at hv
  subst hv
  conv => whnf
  repeat (refine XSame.of ?_; conv => whnf)
  generalize hq1 : iGe at0 0 = q1
  have e1 : q1 = true := by rw [← hq1, iGe_eq, decide_eq_true_eq]; exact h3
  clear hq1
  subst e1
  conv => whnf
  repeat (refine XSame.of ?_; conv => whnf)
  refine XCall.val (between_spec n 0 1536) (fun w hw => trivial) (fun v D hv => ?_)
  have e4 : decide (0 ≤ n ∧ n ≤ 1536) = true := decide_eq_true h4
  rw [e4] at hv
  subst hv
  conv => whnf
  repeat (refine XSame.of ?_; conv => whnf)
  refine ⟨_, Ent.refl _, ?_⟩
  simp [h5, iEq_eq]

/-- A file is opened, with no flags. -/
theorem popen_spec (d : List UInt8) (h : Hd) (hh : h.Ok d.length) (hl : d.length ≤ 1000000) (op node at0 n : Int) (k : Hd) (p : List UInt8) (hk : k.Ok p.length) (hp : p.length ≤ 100) (ha : at0 = 0) (m : Nat) (hw : walkR d p = (m, 0)) (hg : gete d m = 0) (hkd : rk d m = 1) :
    PureSpec Tryz.prog 22 [h.v d.length, .agg ⟨reqC op node at0 n k p.length⟩] (fun w => By w h d ∧ By w k p) (fun v F => v = .tuple #[h.v d.length, .agg ⟨[.int .i64 (m : Int), .int .i64 1, .slice none 0 0]⟩, .int .i64 0] ∧ F = ⟨fun w => By w h d, []⟩) := by
  have hws := dwalk_spec d h hh hl p (by omega)
  rw [hw] at hws
  have hgs := pGet_spec d h hh hl (m : Int)
  obtain ⟨k1, s1, b1, hL, hE⟩ := getL_ino d (m : Int)
  rw [hL, hg] at hgs
  have hk1 : k1 = 1 := by
    have := (hE hg).1
    rw [Int.toNat_natCast, hkd] at this
    exact this
  clear hE hL hw hg hkd
  dsimp only at hws
  obtain ⟨z1, hz1⟩ : ∃ z : Nat, z = 0 := ⟨_, rfl⟩
  obtain ⟨z2, hz2⟩ : ∃ z : Nat, z = 0 := ⟨_, rfl⟩
  rw [← hz1] at hws
  rw [← hz2] at hgs
  refine PureSpec.of_xc tabOk Tryz.func22 rfl (by decide) (n := Tryz.f22.ntmps - 2) rfl rfl fun w0 av => ?_
  conv => whnf
  repeat (refine XSame.of ?_; conv => whnf)
  intro b3
  conv => whnf
  repeat (refine XSame.of ?_; conv => whnf)
  intro b5
  conv => whnf
  repeat (refine XSame.of ?_; conv => whnf)
  refine XVal.of_read (XRead.bytes tabOk (t := 23) (u := 9) rfl rfl rfl rfl rfl rfl (l := p) (.fact fun w hw => hw.2) rfl ?_)
  conv => whnf
  repeat (refine XSame.of ?_; conv => whnf)
  refine XCall.val hws (fun w hw => hw.1) (fun v D hv => ?_)
  unfold RelII at hv
  subst hv
  conv => whnf
  repeat (refine XSame.of ?_; conv => whnf)
  generalize hq1 : iEq (z1 : Int) 8 = q1
  have e1 : q1 = false := by rw [← hq1, hz1]; simp [iEq_eq]
  clear hq1
  subst e1
  conv => whnf
  repeat (refine XSame.of ?_; conv => whnf)
  repeat' (first
    | (refine XIf.no rfl ?_; conv => whnf))
  refine XIf.no (by rw [hz1]; simp [iNe_eq]) ?_
  conv => whnf
  repeat (refine XSame.of ?_; conv => whnf)
  refine XCall.val hgs (fun w hw => hw.1) (fun v D hv => ?_)
  subst hv
  conv => whnf
  repeat (refine XSame.of ?_; conv => whnf)
  intro b13
  conv => whnf
  repeat (refine XSame.of ?_; conv => whnf)
  generalize hq2 : iEq (k1 : Int) 2 = q2
  have e2 : q2 = false := by rw [← hq2, hk1]; simp [iEq_eq]
  clear hq2
  subst e2
  conv => whnf
  repeat (refine XSame.of ?_; conv => whnf)
  repeat' (first
    | (refine XIf.no rfl ?_; conv => whnf))
  have hb0 : Sx.bits .and .i64 0 2 = 0 := by decide
  refine XIf.no (by rw [ha, hb0]; simp [iNe_eq]) ?_
  conv => whnf
  repeat (refine XSame.of ?_; conv => whnf)
  refine XStop.draw tabOk mixed rfl rfl ?_
  conv => whnf
  repeat' (first
    | (refine And.intro ?_ ?_ <;> conv => whnf)
    | (refine XHeld.same rfl ?_; conv => whnf)
    | (refine XHeld.row rfl ?_; conv => whnf)
    | (refine XHeld.call rfl ?_; conv => whnf)
    | (refine XKeep.of ?_; conv => whnf)
    | (refine XSame.of ?_; conv => whnf)
    | (refine XHeld.mk ?_ ?_; (focus (first | exact Ent.refl _ | exact Ent.left _ _ | exact Ent.of_le ⟨List.sublist_append_left _ _, fun w h => h⟩ | exact Ent.of_le ⟨List.Sublist.refl _, fun w h => h.1⟩)); conv => whnf))
  all_goals
    subst hk1 hz1
    exact ⟨⟨fun w => By w h d, []⟩, Ent.of_le ⟨List.Sublist.refl _, fun w hw => hw.1⟩, rfl, rfl⟩

theorem pfile_spec (d : List UInt8) (h : Hd) (hh : h.Ok d.length) (hl : d.length ≤ 1000000) (m : Nat) (hg : gete d m = 0) (hkd : rk d m = 1) :
    PureSpec Tryz.prog 48 [h.v d.length, .int .i64 (m : Int)] (fun w => By w h d) (fun v F => v = .tuple #[.agg ⟨getL d m⟩, .int .i64 0]) := by
  have hgs := pGet_spec d h hh hl (m : Int)
  obtain ⟨k1, s1, b1, hL, hE⟩ := getL_ino d (m : Int)
  rw [hL, hg] at hgs
  have hk1 : k1 = 1 := by
    have := (hE hg).1
    rw [Int.toNat_natCast, hkd] at this
    exact this
  rw [hL]
  clear hE hL hg hkd
  obtain ⟨z2, hz2⟩ : ∃ z : Nat, z = 0 := ⟨_, rfl⟩
  rw [← hz2] at hgs
  refine PureSpec.of_xc tabOk Tryz.func48 rfl (by decide) (n := Tryz.f48.ntmps - 2) rfl rfl fun w0 av => ?_
  conv => whnf
  repeat (refine XSame.of ?_; conv => whnf)
  intro b4
  conv => whnf
  repeat (refine XSame.of ?_; conv => whnf)
  refine XCall.val hgs (fun w hw => hw) (fun v D hv => ?_)
  subst hv
  conv => whnf
  repeat (refine XSame.of ?_; conv => whnf)
  intro b6
  conv => whnf
  repeat (refine XSame.of ?_; conv => whnf)
  generalize hq1 : iEq (z2 : Int) 0 = q1
  have e1 : q1 = true := by rw [← hq1, hz2]; simp [iEq_eq]
  clear hq1
  subst e1
  conv => whnf
  repeat (refine XSame.of ?_; conv => whnf)
  refine XIf.no (by rw [hk1]; simp [iEq_eq]) ?_
  conv => whnf
  repeat (refine XSame.of ?_; conv => whnf)
  subst hz2
  exact ⟨_, Ent.refl _, rfl⟩

/-- A part of a file is read. -/
theorem preadF_spec (d : List UInt8) (h : Hd) (hh : h.Ok d.length) (hl : d.length ≤ 1000000) (op : Int) (m offN cntN : Nat) (k : Hd) (len : Nat) (hof : offN ≤ 9223372036854775807) (hcn : cntN ≤ 1000000000) (hg : gete d m = 0) (hkd : rk d m = 1) :
    PureSpec Tryz.prog 23 [h.v d.length, .agg ⟨reqC op (m : Int) (offN : Int) (cntN : Int) k len⟩] (fun w => By w h d) (fun v F => ∃ kb : Hd, v = .tuple #[h.v d.length, .agg ⟨[.int .i64 ((((contentR d m).drop offN).take cntN).length : Int), .int .i64 0, kb.v (((contentR d m).drop offN).take cntN).length]⟩, .int .i64 0] ∧
      kb.Ok (((contentR d m).drop offN).take cntN).length ∧ F = ⟨fun w => By w h d ∧ By w kb (((contentR d m).drop offN).take cntN), []⟩) := by
  have hfs := pfile_spec d h hh hl m hg hkd
  have hrs := preadG_spec d h hh hl m offN cntN hof hcn (offN : Int) (cntN : Int) rfl rfl
  rw [hg] at hrs
  generalize ((contentR d m).drop offN).take cntN = c at *
  obtain ⟨k1, s1, b1, hL, hE⟩ := getL_ino d (m : Int)
  rw [hL] at hfs
  clear hg hkd hL hE
  obtain ⟨z1, hz1⟩ : ∃ z : Int, z = 0 := ⟨_, rfl⟩
  rw [show (fun (v : Value) (F : Fx) => v = .tuple #[.agg ⟨inoL k1 s1 b1⟩, .int .i64 0]) = fun v F => v = .tuple #[.agg ⟨inoL k1 s1 b1⟩, .int .i64 z1] by rw [hz1]] at hfs
  obtain ⟨z2, hz2⟩ : ∃ z : Nat, z = 0 := ⟨_, rfl⟩
  rw [← hz2] at hrs
  refine PureSpec.of_xc tabOk Tryz.func23 rfl (by decide) (n := Tryz.f23.ntmps - 2) rfl rfl fun w0 av => ?_
  conv => whnf
  repeat (refine XSame.of ?_; conv => whnf)
  intro b3
  conv => whnf
  repeat (refine XSame.of ?_; conv => whnf)
  intro b5
  conv => whnf
  repeat (refine XSame.of ?_; conv => whnf)
  refine XCall.val hfs (fun w hw => hw) (fun v D hv => ?_)
  subst hv
  conv => whnf
  repeat (refine XSame.of ?_; conv => whnf)
  intro b7
  conv => whnf
  repeat (refine XSame.of ?_; conv => whnf)
  refine XIf.no (by rw [hz1]; simp [iNe_eq]) ?_
  conv => whnf
  repeat (refine XSame.of ?_; conv => whnf)
  refine XCall.pure hrs (fun w hw => hw) (fun v D hv => ?_)
  obtain ⟨kb, rfl, hkb, rfl⟩ := hv
  conv => whnf
  repeat (refine XSame.of ?_; conv => whnf)
  subst hz2
  exact ⟨⟨fun w => By w h d ∧ By w kb c, []⟩, Ent.of_le ⟨by simp [Fx.and], fun w hw => hw⟩, kb, rfl, hkb, rfl⟩

end Go.Proofs.YtfeoedkmndkbjaaGreatDoor
namespace Go.Proofs.YtfeoedkmndkbjaaGreatDoor
open Go Go.Sx
set_option maxRecDepth 100000
set_option maxHeartbeats 4000000
set_option linter.unusedVariables false
set_option linter.unusedSimpArgs false

theorem do1_spec (d : List UInt8) (h : Hd) (hh : h.Ok d.length) (hd : d.length = 12288) (on : Nat) (node at0 n : Int) (k : Hd) (p : List UInt8) (hk : k.Ok p.length) (hp : p.length ≤ 100) (h1 : on = 1) (h2 : node = 0) (ha : at0 = 0) (h4 : n = 0) (h38 : chk38 d = 0) (m : Nat) (hw : walkR d p = (m, 0)) (hg : gete d m = 0) (hkd : rk d m = 1) :
    PureSpec Tryz.prog 10 [h.v d.length, .agg ⟨reqC (on : Int) node at0 n k p.length⟩] (fun w => By w h d ∧ By w k p) (fun v F => ∃ h2 : Hd, v = .tuple #[h2.v d.length, .agg ⟨[.int .i64 (m : Int), .int .i64 1, .slice none 0 0]⟩, .int .i64 0]) := by
  have hl : d.length ≤ 1000000 := by omega
  have hfm := formed1_spec (on : Int) node at0 n k p.length (by omega) h2 ha h4 (by omega)
  have hck := pcheck38_spec d h hh hl
  rw [h38] at hck
  have hop := popen_spec d h hh hl (on : Int) node at0 n k p hk hp ha m hw hg hkd
  have hcl := clone_spec d h hh (by omega) hl
  clear hw hg hkd h38 hp
  have hon : on < 7 := by omega
  obtain ⟨tr, htr⟩ : ∃ tr, tr = true := ⟨_, rfl⟩
  rw [← htr] at hfm
  obtain ⟨z1, hz1⟩ : ∃ z : Nat, z = 0 := ⟨_, rfl⟩
  rw [← hz1] at hck
  obtain ⟨z2, hz2⟩ : ∃ z : Int, z = 0 := ⟨_, rfl⟩
  obtain ⟨RO, hRO⟩ : ∃ R : Value → Fx → Prop, R = fun v F => v = .tuple #[h.v d.length, .agg ⟨[.int .i64 (m : Int), .int .i64 1, .slice none 0 0]⟩, .int .i64 z2] ∧ F = ⟨fun w => By w h d, []⟩ := ⟨_, rfl⟩
  have hRO' := hRO
  rw [hz2] at hRO
  rw [← hRO] at hop
  clear hRO
  refine PureSpec.of_xc tabOk Tryz.func10 rfl (by decide) (n := Tryz.f10.ntmps - 2) rfl rfl fun w0 av => ?_
  conv => whnf
  repeat (refine XSame.of ?_; conv => whnf)
  intro b3
  conv => whnf
  repeat (refine XSame.of ?_; conv => whnf)
  intro b5
  conv => whnf
  repeat (refine XSame.of ?_; conv => whnf)
  refine XCall.val hfm (fun w hw => trivial) (fun v D hv => ?_)
  subst hv
  conv => whnf
  repeat (refine XSame.of ?_; conv => whnf)
  refine XIf.no (by rw [htr]; rfl) ?_
  conv => whnf
  repeat (refine XSame.of ?_; conv => whnf)
  refine XCall.val hck (fun w hw => hw.1) (fun v D hv => ?_)
  subst hv
  conv => whnf
  repeat (refine XSame.of ?_; conv => whnf)
  refine XIf.no (by rw [hz1]; simp [iNe_eq]) ?_
  conv => whnf
  repeat (refine XSame.of ?_; conv => whnf)
  intro b8
  conv => whnf
  repeat (refine XSame.of ?_; conv => whnf)
  refine XStop.draw tabOk mixed rfl rfl ?_
  conv => whnf
  repeat' (first
    | (refine And.intro ?_ ?_ <;> conv => whnf)
    | (refine XHeld.same rfl ?_; conv => whnf)
    | (refine XHeld.row rfl ?_; conv => whnf)
    | (refine XHeld.call rfl ?_; conv => whnf)
    | (refine XKeep.of ?_; conv => whnf)
    | (refine XSame.of ?_; conv => whnf)
    | (rw [blt_yes hon]; conv => whnf)
    | (refine nthK_mk (x := .func (.func 22) #[] #[]) (by subst h1; rfl) ?_; conv => whnf)
    | (refine XCall.pure hop (fun w hw => hw) (fun v D hv => ?_); rw [hRO'] at hv; obtain ⟨rfl, rfl⟩ := hv; conv => whnf)
    | (refine XHeld.mk ?_ ?_; (focus (first | exact Ent.refl _ | exact Ent.left _ _ | exact Ent.of_le ⟨List.sublist_append_left _ _, fun w h => h⟩ | exact Ent.of_le ⟨List.Sublist.refl _, fun w h => h.1⟩)); conv => whnf))
  refine XIf.no (by rw [hz2]; simp [iNe_eq]) ?_
  conv => whnf
  repeat (refine XSame.of ?_; conv => whnf)
  refine XStop.draw tabOk mixed rfl rfl ?_
  conv => whnf
  repeat' (first
    | (refine And.intro ?_ ?_ <;> conv => whnf)
    | (refine XHeld.same rfl ?_; conv => whnf)
    | (refine XHeld.row rfl ?_; conv => whnf)
    | (refine XHeld.call rfl ?_; conv => whnf)
    | (refine XKeep.of ?_; conv => whnf)
    | (refine XSame.of ?_; conv => whnf)
    | (refine XCall.pure hcl (fun w hw => hw.2) (fun v D hv => ?_); obtain ⟨b9, c9, Z9, rfl, hc9, rfl⟩ := hv; conv => whnf)
    | (refine XHeld.mk ?_ ?_; (focus (first | exact Ent.refl _ | exact Ent.left _ _ | exact Ent.of_le ⟨List.sublist_append_left _ _, fun w h => h⟩ | exact Ent.of_le ⟨List.Sublist.refl _, fun w h => h.1⟩)); conv => whnf))
  all_goals exact ⟨_, Ent.refl _, ⟨some ⟨b9, 0, none⟩, c9⟩, rfl⟩

theorem do2_spec (d : List UInt8) (h : Hd) (hh : h.Ok d.length) (hd : d.length = 12288) (on m offN cntN : Nat) (node at0 n : Int) (hnode : node = (m : Int)) (hat : at0 = (offN : Int)) (hn : n = (cntN : Int)) (k : Hd) (h1 : on = 2) (h2 : m ≤ 31) (hof : offN ≤ 9223372036854775807) (h4 : cntN ≤ 1536) (h38 : chk38 d = 0) (hg : gete d m = 0) (hkd : rk d m = 1) :
    PureSpec Tryz.prog 10 [h.v d.length, .agg ⟨reqC (on : Int) node at0 n k 0⟩] (fun w => By w h d) (fun v F => ∃ h2 kb : Hd, v = .tuple #[h2.v d.length, .agg ⟨[.int .i64 ((((contentR d m).drop offN).take cntN).length : Int), .int .i64 0, kb.v (((contentR d m).drop offN).take cntN).length]⟩, .int .i64 0] ∧
      kb.Ok (((contentR d m).drop offN).take cntN).length ∧ ∃ rs, F = ⟨fun w => By w h d ∧ By w kb (((contentR d m).drop offN).take cntN), rs⟩) := by
  have hl : d.length ≤ 1000000 := by omega
  have hfm := formed2_spec (on : Int) node at0 n k 0 (by omega) (by omega) (by omega) (by omega) rfl
  have hck := pcheck38_spec d h hh hl
  rw [h38] at hck
  have hop := preadF_spec d h hh hl (on : Int) m offN cntN k 0 hof (by omega) hg hkd
  rw [← hnode, ← hat, ← hn] at hop
  have hcl := clone_spec d h hh (by omega) hl
  clear hg hkd h38 hnode hat hn
  generalize ((contentR d m).drop offN).take cntN = c at *
  have hon : on < 7 := by omega
  obtain ⟨tr, htr⟩ : ∃ tr, tr = true := ⟨_, rfl⟩
  rw [← htr] at hfm
  obtain ⟨z1, hz1⟩ : ∃ z : Nat, z = 0 := ⟨_, rfl⟩
  rw [← hz1] at hck
  obtain ⟨z2, hz2⟩ : ∃ z : Int, z = 0 := ⟨_, rfl⟩
  obtain ⟨RO, hRO⟩ : ∃ R : Value → Fx → Prop, R = fun v F => ∃ kb : Hd, v = .tuple #[h.v d.length, .agg ⟨[.int .i64 (c.length : Int), .int .i64 0, kb.v c.length]⟩, .int .i64 z2] ∧ kb.Ok c.length ∧ F = ⟨fun w => By w h d ∧ By w kb c, []⟩ := ⟨_, rfl⟩
  have hRO' := hRO
  rw [hz2] at hRO
  rw [← hRO] at hop
  clear hRO
  refine PureSpec.of_xc tabOk Tryz.func10 rfl (by decide) (n := Tryz.f10.ntmps - 2) rfl rfl fun w0 av => ?_
  conv => whnf
  repeat (refine XSame.of ?_; conv => whnf)
  intro b3
  conv => whnf
  repeat (refine XSame.of ?_; conv => whnf)
  intro b5
  conv => whnf
  repeat (refine XSame.of ?_; conv => whnf)
  refine XCall.val hfm (fun w hw => trivial) (fun v D hv => ?_)
  subst hv
  conv => whnf
  repeat (refine XSame.of ?_; conv => whnf)
  refine XIf.no (by rw [htr]; rfl) ?_
  conv => whnf
  repeat (refine XSame.of ?_; conv => whnf)
  refine XCall.val hck (fun w hw => hw) (fun v D hv => ?_)
  subst hv
  conv => whnf
  repeat (refine XSame.of ?_; conv => whnf)
  refine XIf.no (by rw [hz1]; simp [iNe_eq]) ?_
  conv => whnf
  repeat (refine XSame.of ?_; conv => whnf)
  intro b8
  conv => whnf
  repeat (refine XSame.of ?_; conv => whnf)
  refine XStop.draw tabOk mixed rfl rfl ?_
  conv => whnf
  repeat' (first
    | (refine And.intro ?_ ?_ <;> conv => whnf)
    | (refine XHeld.same rfl ?_; conv => whnf)
    | (refine XHeld.row rfl ?_; conv => whnf)
    | (refine XHeld.call rfl ?_; conv => whnf)
    | (refine XKeep.of ?_; conv => whnf)
    | (refine XSame.of ?_; conv => whnf)
    | (rw [blt_yes hon]; conv => whnf)
    | (refine nthK_mk (x := .func (.func 23) #[] #[]) (by subst h1; rfl) ?_; conv => whnf)
    | (refine XCall.pure hop (fun w hw => hw) (fun v D hv => ?_); rw [hRO'] at hv; obtain ⟨kb, rfl, hkb, rfl⟩ := hv; conv => whnf)
    | (refine XHeld.mk ?_ ?_; (focus (first | exact Ent.refl _ | exact Ent.left _ _ | exact Ent.of_le ⟨List.sublist_append_left _ _, fun w h => h⟩ | exact Ent.of_le ⟨List.Sublist.refl _, fun w h => h.1⟩)); conv => whnf))
  refine XIf.no (by rw [hz2]; simp [iNe_eq]) ?_
  conv => whnf
  repeat (refine XSame.of ?_; conv => whnf)
  refine XStop.draw tabOk mixed rfl rfl ?_
  conv => whnf
  repeat' (first
    | (refine And.intro ?_ ?_ <;> conv => whnf)
    | (refine XHeld.same rfl ?_; conv => whnf)
    | (refine XHeld.row rfl ?_; conv => whnf)
    | (refine XHeld.call rfl ?_; conv => whnf)
    | (refine XKeep.of ?_; conv => whnf)
    | (refine XSame.of ?_; conv => whnf)
    | (refine XCall.pure hcl (fun w hw => hw.1) (fun v D hv => ?_); obtain ⟨b9, c9, Z9, rfl, hc9, rfl⟩ := hv; conv => whnf)
    | (refine XHeld.mk ?_ ?_; (focus (first | exact Ent.refl _ | exact Ent.left _ _ | exact Ent.of_le ⟨List.sublist_append_left _ _, fun w h => h⟩ | exact Ent.of_le ⟨List.Sublist.refl _, fun w h => h.1⟩)); conv => whnf))
  all_goals exact ⟨⟨fun w => By w h d ∧ By w kb c, [(b9, Row.c (d.map byteV ++ Z9))]⟩, Ent.of_le ⟨by simp [Fx.and], fun w hw => ⟨hw.1.1, hw.1.2.2⟩⟩, ⟨some ⟨b9, 0, none⟩, c9⟩, kb, rfl, hkb, _, rfl⟩

end Go.Proofs.YtfeoedkmndkbjaaGreatDoor
namespace Go.Proofs.YtfeoedkmndkbjaaGreatDoor
open Go Go.Sx
set_option maxRecDepth 100000
set_option maxHeartbeats 4000000
set_option linter.unusedVariables false
set_option linter.unusedSimpArgs false

def hello : List UInt8 := [104, 101, 108, 108, 111]

theorem filesR_awake (h0 : Hd) : ∃ d2, filesR fmtX [⟨[47, 97], false, h0, hello⟩] = (d2, 0) ∧ d2.length = 12288 ∧ chk38 d2 = 0 ∧ walkR d2 [47, 97] = (1, 0) ∧ gete d2 1 = 0 ∧ rk d2 1 = 1 ∧ contentR d2 1 = hello := by
  obtain ⟨d1, d2, hm, hwr, hl1, hl2, hc, hwk, hg, hk, hcon⟩ := awake39 (fresh_of fmtX_ok)
  have e : mkF fmtX ⟨[47, 97], false, h0, hello⟩ = (d2, 0) := by
    unfold mkF
    dsimp only
    rw [if_neg (show ¬ false = true by decide), hm]
    dsimp only
    rw [if_neg (by decide), if_neg (by decide), show hello = [104, 101, 108, 108, 111] from rfl, hwr]
    dsimp only
    rw [if_neg (by decide)]
  refine ⟨d2, ?_, hl2, hc, hwk, hg, hk, hcon⟩
  unfold filesR
  rw [e]
  dsimp only
  rw [if_neg (by decide)]
  rfl

theorem awake_spec : PureSpec Tryz.prog 6 [] (fun _ => True) (fun v F => v = .bool true) := by
  refine PureSpec.of_xc tabOk Tryz.func6 rfl (by decide) (n := Tryz.f6.ntmps - 0) rfl rfl fun w0 av => ?_
  conv => whnf
  repeat (refine XSame.of ?_; conv => whnf)
  refine XVal.build tabOk (t := 23) rfl rfl rfl (hello.map byteV) rfl rfl (by simp [hello, Value.cells, byteV]) (by decide) fun b1 => ?_
  conv => whnf
  repeat (refine XSame.of ?_; conv => whnf)
  refine XVal.lit tabOk (t := 23) rfl rfl rfl rfl (r1 := []) (r2 := []) (C := hello.map byteV) ?_
  conv => whnf
  repeat (refine XSame.of ?_; conv => whnf)
  obtain ⟨d2, hfm, hl2, hc, hwk, hg, hk, hcon⟩ := filesR_awake ⟨some ⟨b1, 0, none⟩, 5⟩
  refine XVal.build tabOk (t := 46) rfl rfl rfl [.agg ⟨flC ⟨[47, 97], false, ⟨some ⟨b1, 0, none⟩, 5⟩, hello⟩⟩] rfl rfl (by simp [flC, Value.cells]) (by decide) fun b2 => ?_
  conv => whnf
  repeat (refine XSame.of ?_; conv => whnf)
  have hms := filesMake_spec [⟨[47, 97], false, ⟨some ⟨b1, 0, none⟩, 5⟩, hello⟩] ⟨some ⟨b2, 0, none⟩, 1⟩ ⟨by simp, by simp⟩ (by simp) (by
    intro x hx
    simp only [List.mem_singleton] at hx
    subst hx
    exact ⟨by simp, by simp [hello], by simp, by simp [hello]⟩)
  rw [hfm] at hms
  clear hfm
  obtain ⟨z0, hz0⟩ : ∃ z : Nat, z = 0 := ⟨_, rfl⟩
  rw [show ((d2, 0) : List UInt8 × Nat).2 = z0 from hz0.symm] at hms
  refine XCall.ent (Ent.share1 (rs := [])) ?_
  refine XCall.pure hms (fun w hw => ?_) (fun v D hv => ?_)
  · refine ⟨hw.2, fun x hx => ?_⟩
    simp only [List.mem_singleton] at hx
    subst hx
    exact hw.1.2
  obtain ⟨h2, rfl, hh2, rfl⟩ := hv
  dsimp only
  conv => whnf
  repeat (refine XSame.of ?_; conv => whnf)
  refine XVal.build tabOk (t := 23) rfl rfl rfl (([47, 97] : List UInt8).map byteV) rfl rfl (by simp [Value.cells, byteV]) (by decide) fun b3 => ?_
  conv => whnf
  repeat (refine XSame.of ?_; conv => whnf)
  refine XVal.lit tabOk (t := 23) rfl rfl rfl rfl (r1 := []) (r2 := []) (C := ([47, 97] : List UInt8).map byteV) ?_
  conv => whnf
  repeat (refine XSame.of ?_; conv => whnf)
  obtain ⟨m1, hm1⟩ : ∃ z : Nat, z = 1 := ⟨_, rfl⟩
  obtain ⟨k1, hk1⟩ : ∃ z : Int, z = 1 := ⟨_, rfl⟩
  obtain ⟨z1, hz1⟩ : ∃ z : Int, z = 0 := ⟨_, rfl⟩
  obtain ⟨z2, hz2⟩ : ∃ z : Int, z = 0 := ⟨_, rfl⟩
  have hd1 : PureSpec Tryz.prog 10 [h2.v d2.length, .agg ⟨reqC ((1 : Nat) : Int) 0 0 0 ⟨some ⟨b3, 0, none⟩, 2⟩ 2⟩] (fun w => By w h2 d2 ∧ By w ⟨some ⟨b3, 0, none⟩, 2⟩ [47, 97]) (fun v F => ∃ h2 : Hd, v = .tuple #[h2.v d2.length, .agg ⟨[.int .i64 (m1 : Int), .int .i64 k1, .slice none 0 0]⟩, .int .i64 z1]) := by
    subst hm1 hk1 hz1
    exact do1_spec d2 h2 hh2 hl2 1 0 0 0 ⟨some ⟨b3, 0, none⟩, 2⟩ [47, 97] ⟨by simp, by simp⟩ (by simp) rfl rfl rfl rfl hc 1 hwk hg hk
  have hd2 : PureSpec Tryz.prog 10 [h2.v d2.length, .agg ⟨reqC ((2 : Nat) : Int) 1 1 3 Hd.nil 0⟩] (fun w => By w h2 d2) (fun v F => ∃ h5 kb : Hd, v = .tuple #[h5.v d2.length, .agg ⟨[.int .i64 3, .int .i64 0, kb.v [101, 108, 108].length]⟩, .int .i64 z2] ∧
      kb.Ok 3 ∧ ∃ rs, F = ⟨fun w => By w h2 d2 ∧ By w kb [101, 108, 108], rs⟩) := by
    subst hz2
    have := do2_spec d2 h2 hh2 hl2 2 1 1 3 1 1 3 rfl rfl rfl Hd.nil rfl (by decide) (by decide) (by decide) hc hg hk
    rw [hcon] at this
    refine this.weaken ?_
    rintro v F ⟨h3, kb, hv, hkb, rs, hF⟩
    exact ⟨F, Ent.refl _, h3, kb, hv, hkb, rs, hF⟩
  clear hwk hg hk hcon hc hms
  refine XCall.pure hd1 (fun w hw => ⟨hw.1.2, hw.2⟩) (fun v D hv => ?_)
  obtain ⟨h3, rfl⟩ := hv
  conv => whnf
  repeat (refine XSame.of ?_; conv => whnf)
  intro b4
  conv => whnf
  repeat (refine XSame.of ?_; conv => whnf)
  refine XCall.pure hd2 (fun w hw => hw.1.1.2) (fun v D2 hv => ?_)
  obtain ⟨h4, kb, rfl, hkb, rs, rfl⟩ := hv
  conv => whnf
  repeat (refine XSame.of ?_; conv => whnf)
  intro b5
  conv => whnf
  repeat (refine XSame.of ?_; conv => whnf)
  generalize hq : (iEq (z0 : Int) 0 && iEq z1 0 && iEq z2 0 && iEq (m1 : Int) 1 && iEq k1 1) = q
  have eq : q = true := by rw [← hq, hz0, hz1, hz2, hm1, hk1]; simp [iEq_eq]
  clear hq
  subst eq
  conv => whnf
  repeat (refine XSame.of ?_; conv => whnf)
  refine XVal.of_read (XRead.bytes tabOk (t := 23) (u := 9) rfl rfl rfl rfl rfl rfl (l := [101, 108, 108]) (.fact fun w hw => hw.2.2) rfl ?_)
  conv => whnf
  repeat (refine XSame.of ?_; conv => whnf)
  refine XVal.of_read (XRead.strEq (l := [101, 108, 108]) (m := [101, 108, 108]) ?_)
  conv => whnf
  repeat (refine XSame.of ?_; conv => whnf)
  exact ⟨_, Ent.refl _, rfl⟩

end Go.Proofs.YtfeoedkmndkbjaaGreatDoor
namespace Go.Proofs.YtfeoedkmndkbjaaGreatDoor
open Go Go.Sx
set_option maxRecDepth 100000
set_option maxHeartbeats 4000000
set_option linter.unusedVariables false
set_option linter.unusedSimpArgs false

theorem fewF_le {l : List Fl} (h : fewF l = true) : l.length ≤ 8 ∧ ∀ x ∈ l, x.path.length ≤ 100 ∧ x.data.length ≤ 400 := by
  unfold fewF at h
  rw [Bool.and_eq_true, List.all_eq_true, decide_eq_true_eq] at h
  exact ⟨h.2, fun x hx => by simpa using h.1 x hx⟩

theorem filesMake_law (l : List Fl) (k : Hd) (hk : k.Ok l.length) (hl : l.length ≤ 3000000000000000000) (hx : ∀ x ∈ l, x.h.Ok x.data.length) :
    PureSpec Tryz.prog 4 [k.v l.length] (fun w => FlsAt w k.a l) (fun v F => v = .bool true) := by
  have haw := awake_spec
  obtain ⟨tr, htr⟩ : ∃ tr, tr = true := ⟨_, rfl⟩
  rw [← htr] at haw
  have hfw := fewF_spec l k hk hl
  have hfl := @fewF_le l
  generalize fewF l = fw at *
  refine PureSpec.of_xc tabOk Tryz.func4 rfl (by decide) (n := Tryz.f4.ntmps - 1) rfl rfl fun w0 av => ?_
  conv => whnf
  repeat (refine XSame.of ?_; conv => whnf)
  refine XCall.val haw (fun w hw => trivial) (fun v D hv => ?_)
  subst hv
  conv => whnf
  repeat (refine XSame.of ?_; conv => whnf)
  refine XIf.no (by rw [htr]; rfl) ?_
  conv => whnf
  repeat (refine XSame.of ?_; conv => whnf)
  refine XCall.val hfw (fun w hw => hw) (fun v D hv => ?_)
  subst hv
  conv => whnf
  repeat (refine XSame.of ?_; conv => whnf)
  cases fw
  · conv => whnf
    repeat (refine XSame.of ?_; conv => whnf)
    subst htr
    exact ⟨_, Ent.refl _, rfl⟩
  obtain ⟨hl8, hfx⟩ := hfl rfl
  have hts := to_spec l k hk (by omega)
  have hrm := refMake_spec l k hk (by omega) fun x hm => ⟨by have := (hfx x hm).1; omega, by have := (hfx x hm).2; omega, hx x hm⟩
  have hfm : ∀ h : Hd, h.Ok l.length → _ := fun h hh => filesMake_spec l h hh (by omega) fun x hm => ⟨by have := (hfx x hm).1; omega, by have := (hfx x hm).2; omega, hx x hm⟩
  generalize (filesR fmtX l).1 = d at *
  generalize (filesR fmtX l).2 = e at *
  conv => whnf
  repeat (refine XSame.of ?_; conv => whnf)
  refine XCall.pure hts (fun w hw => hw) (fun v D hv => ?_)
  obtain ⟨h1, rfl, hh1, rfl⟩ := hv
  conv => whnf
  repeat (refine XSame.of ?_; conv => whnf)
  refine XCall.pure (hfm h1 hh1) (fun w hw => ⟨hw.2, hw.1.2⟩) (fun v D hv => ?_)
  obtain ⟨h2, rfl, hh2, rfl⟩ := hv
  conv => whnf
  repeat (refine XSame.of ?_; conv => whnf)
  refine XCall.pure hrm (fun w hw => hw.1.1) (fun v D hv => ?_)
  obtain ⟨h3, rfl, hh3, rfl⟩ := hv
  conv => whnf
  repeat (refine XSame.of ?_; conv => whnf)
  refine XVal.of_read (XRead.bytes tabOk (t := 23) (u := 9) rfl rfl rfl rfl rfl rfl (l := d) (.fact fun w hw => hw.1.2) rfl ?_)
  conv => whnf
  repeat (refine XSame.of ?_; conv => whnf)
  refine XVal.of_read (XRead.bytes tabOk (t := 23) (u := 9) rfl rfl rfl rfl rfl rfl (l := d) (.fact fun w hw => hw.2) rfl ?_)
  conv => whnf
  repeat (refine XSame.of ?_; conv => whnf)
  refine XVal.of_read (XRead.strEq (l := d) (m := d) ?_)
  rw [beq_self_eq_true]
  conv => whnf
  repeat (refine XSame.of ?_; conv => whnf)
  have : iEq (e : Int) (e : Int) = true := by simp [iEq_eq]
  rw [this]
  conv => whnf
  repeat (refine XSame.of ?_; conv => whnf)
  subst htr
  exact ⟨_, Ent.refl _, rfl⟩

end Go.Proofs.YtfeoedkmndkbjaaGreatDoor
