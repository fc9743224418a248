/- Serial, part K: conversions, and the reference's New, Finish, Take, Do. -/
import Derived.Test.YtcmgioaggmaclaaSerJ
namespace Go.Proofs.Ytcmgioaggmaclaa
open Go Go.Sx
set_option maxRecDepth 100000
set_option maxHeartbeats 2000000
set_option linter.unusedVariables false
set_option linter.unusedSimpArgs false

theorem channel_spec (c : Chan) (l : Int) (h : CH) : PureSpec Try.prog 36 [.agg ⟨c.rcells l h⟩] (fun _ => True) (fun v F => v = .agg ⟨c.cells h⟩) := by
  refine PureSpec.of_xc tabOk Try.func36 rfl (by decide) (n := Try.f36.ntmps - 1) rfl rfl fun w0 av => ?_
  conv => whnf
  intro b
  conv => whnf
  intro b
  conv => whnf
  repeat' (first
    | (refine XStop.draw tabOk mixed rfl rfl ?_; conv => whnf)
    | (refine XKeep.of ?_; conv => whnf))
  exact ⟨_, Ent.refl _, rfl⟩

theorem back_spec (c : Chan) (h : CH) : PureSpec Try.prog 41 [.agg ⟨c.cells h⟩] (fun _ => True) (fun v F => v = .agg ⟨c.rcells 0 h⟩) := by
  refine PureSpec.of_xc tabOk Try.func41 rfl (by decide) (n := Try.f41.ntmps - 1) rfl rfl fun w0 av => ?_
  conv => whnf
  intro b
  conv => whnf
  intro b
  conv => whnf
  repeat' (first
    | (refine XStop.draw tabOk mixed rfl rfl ?_; conv => whnf)
    | (refine XKeep.of ?_; conv => whnf))
  exact ⟨_, Ent.refl _, rfl⟩

theorem to_spec (s : S) (lo li : Int) (h : SH) : PureSpec Try.prog 14 [.agg ⟨s.rcells lo li h⟩] (fun _ => True) (fun v F => v = .agg ⟨s.cells h⟩) := by
  refine PureSpec.of_xc tabOk Try.func14 rfl (by decide) (n := Try.f14.ntmps - 1) rfl rfl fun w0 av => ?_
  conv => whnf
  intro b
  conv => whnf
  intro b
  conv => whnf
  repeat' (first
    | (refine XStop.draw tabOk mixed rfl rfl ?_; conv => whnf)
    | (refine XCall.val (channel_spec s.o lo h.o) (fun _ _ => trivial) (fun v D hv => ?_); subst hv; conv => whnf)
    | (refine XCall.val (channel_spec s.i li h.i) (fun _ _ => trivial) (fun v D hv => ?_); subst hv; conv => whnf)
    | (refine XKeep.of ?_; conv => whnf))
  exact ⟨_, Ent.refl _, rfl⟩

theorem from_spec (s : S) (h : SH) : PureSpec Try.prog 17 [.agg ⟨s.cells h⟩] (fun _ => True) (fun v F => v = .agg ⟨s.rcells 0 0 h⟩) := by
  refine PureSpec.of_xc tabOk Try.func17 rfl (by decide) (n := Try.f17.ntmps - 1) rfl rfl fun w0 av => ?_
  conv => whnf
  intro b
  conv => whnf
  intro b
  conv => whnf
  repeat' (first
    | (refine XStop.draw tabOk mixed rfl rfl ?_; conv => whnf)
    | (refine XCall.val (back_spec s.o h.o) (fun _ _ => trivial) (fun v D hv => ?_); subst hv; conv => whnf)
    | (refine XCall.val (back_spec s.i h.i) (fun _ _ => trivial) (fun v D hv => ?_); subst hv; conv => whnf)
    | (refine XKeep.of ?_; conv => whnf))
  exact ⟨_, Ent.refl _, rfl⟩

/-- A reference state and a number. -/
def RelRSE (r : S × Int) (v : Value) (F : Fx) : Prop := ∃ h : SH, v = .tuple #[.agg ⟨r.1.rcells 0 0 h⟩, .int .i64 r.2] ∧ h.Ok r.1 ∧ F = ⟨h.By r.1, []⟩

theorem rnew_spec (h : Hd) (l : List UInt8) (hh : h.Ok l.length) (hl : l.length ≤ 1000000) : PureSpec Try.prog 12 [h.v l.length] (fun w => By w h l) (RelRSE (S.new l)) := by
  refine PureSpec.of_xc tabOk Try.func12 rfl (by decide) (n := Try.f12.ntmps - 1) rfl rfl fun w0 av => ?_
  conv => whnf
  intro b
  conv => whnf
  refine XIf.split (fun hc => ?_) (fun hc => ?_)
  · conv => whnf
    have e : S.new l = (.zero, 6) := by simp only [S.new, hc, if_true]
    rw [e]
    exact ⟨⟨SH.nil.By S.zero, []⟩, Ent.imp fun w h => SH.nil_by w, SH.nil, rfl, SH.nil_ok, rfl⟩
  · conv => whnf
    refine XVal.build tabOk (t := 22) rfl rfl rfl [] rfl rfl (by simp) (by decide) fun b4 => ?_
    conv => whnf
    refine XVal.append tabOk (t := 22) (xt := 22) rfl rfl rfl rfl rfl rfl (r1 := []) (r2 := []) (C := []) (L := []) (M := l.map byteV) (Own.full (by simp)) (Sees.fact fun w h => h) (by simp) byte_one (by omega) (by simp; omega) fun a' cap' C' hO => ?_
    conv => whnf
    have e : S.new l = ({ S.zero with input := l }, 0) := by simp only [S.new, hc, Bool.false_eq_true, if_false]
    rw [e]
    simp only [List.nil_append, Nat.zero_add] at hO ⊢
    exact ⟨⟨SH.By ⟨⟨a', cap'⟩, .nil, .nil, .nil, .nil⟩ { S.zero with input := l }, []⟩, (Own.share (r1 := []) (r2 := []) hO).trans (Ent.imp fun w h => ⟨h.2, By.nil w, By.nil w, CH.nil_by w, CH.nil_by w⟩), ⟨⟨a', cap'⟩, .nil, .nil, .nil, .nil⟩, rfl, ⟨hO.hd, Hd.nil_ok, Hd.nil_ok, CH.nil_ok, CH.nil_ok⟩, rfl⟩

theorem rfinish_spec (a : Ans) (k : Hd) : PureSpec Try.prog 53 [.agg ⟨a.cells k⟩] (fun _ => True) (fun v F => v = .agg ⟨(Chan.mk false .zero a).rcells 0 ⟨.nil, k⟩⟩) := by
  refine PureSpec.of_xc tabOk Try.func53 rfl (by decide) (n := Try.f53.ntmps - 1) rfl rfl fun w0 av => ?_
  conv => whnf
  intro b
  conv => whnf
  intro b
  conv => whnf
  repeat' (first
    | (refine XStop.draw tabOk mixed rfl rfl ?_; conv => whnf)
    | (refine XKeep.of ?_; conv => whnf))
  exact ⟨_, Ent.refl _, rfl⟩

/-- ref11.Take with n to go: the state of left is n when a command is taken. -/
def Chan.rtake (c : Chan) (l : Int) (x : Cmd) (n : Int) : Chan × Int × Int :=
  let last := if c.isOpen then c.cmd.tag else c.last.tag
  if iLt x.tag last then (.zero, 0, 19)
  else if c.isOpen && iGt x.tag last then (.zero, 0, 12)
  else if c.isOpen then (c, l, 0)
  else if iEq x.tag last then (⟨true, ⟨x.tag, 0, 0, []⟩, c.last⟩, 1, 0)
  else (⟨true, x, c.last⟩, n, 0)

/-- A channel, its left, and a number. -/
def RelRC (r : Chan × Int × Int) (v : Value) (F : Fx) : Prop := ∃ h : CH, v = .tuple #[.agg ⟨r.1.rcells r.2.1 h⟩, .int .i64 r.2.2] ∧ h.Ok r.1 ∧ F = ⟨h.By r.1, []⟩

theorem rtake_spec (c : Chan) (l : Int) (h : CH) (hh : h.Ok c) (x : Cmd) (k : Hd) (hk : k.Ok x.data.length) (hl : x.data.length ≤ 1000000) (n : Int) :
    PureSpec Try.prog 56 [.agg ⟨c.rcells l h⟩, .agg ⟨x.cells k⟩, .int .i64 n] (fun w => h.By c w ∧ By w k x.data) (RelRC (c.rtake l x n)) := by
  obtain ⟨op, cmd, last⟩ := c
  refine PureSpec.of_xc tabOk Try.func56 rfl (by decide) (n := Try.f56.ntmps - 3) rfl rfl fun w0 av => ?_
  cases op
  all_goals
    conv => whnf
    intro b1
    conv => whnf
    intro b2
    conv => whnf
    intro b3
    conv => whnf
    repeat' (first
      | (refine XSame.of ?_; conv => whnf)
      | (refine XStop.draw tabOk mixed rfl rfl ?_; conv => whnf)
      | (refine XKeep.of ?_; conv => whnf)
      | (refine XIf.split (fun hc => ?_) (fun hc => ?_) <;> conv => whnf))
  · have h1 : iLt x.tag last.tag = true := hc
    have e : (Chan.mk false cmd last).rtake l x n = (.zero, 0, 19) := by simp [Chan.rtake, h1]
    rw [e]
    exact ⟨⟨CH.nil.By .zero, []⟩, Ent.imp fun w h => CH.nil_by w, CH.nil, rfl, CH.nil_ok, rfl⟩
  · rename_i h1
    replace h1 : iLt x.tag last.tag = false := h1
    have h2 : iEq x.tag last.tag = true := hc
    have e : (Chan.mk false cmd last).rtake l x n = (⟨true, ⟨x.tag, 0, 0, []⟩, last⟩, 1, 0) := by simp [Chan.rtake, h1, h2]
    rw [e]
    exact ⟨⟨CH.By ⟨.nil, h.l⟩ ⟨true, ⟨x.tag, 0, 0, []⟩, last⟩, []⟩, Ent.imp fun w h => ⟨By.nil w, h.1.l⟩, ⟨.nil, h.l⟩, rfl, ⟨Hd.nil_ok, hh.l⟩, rfl⟩
  · rename_i h1
    replace h1 : iLt x.tag last.tag = false := h1
    have h2 : iEq x.tag last.tag = false := hc
    refine XVal.build tabOk (t := 22) rfl rfl rfl [] rfl rfl (by simp) (by decide) fun b4 => ?_
    conv => whnf
    repeat' (first
      | (refine XKeep.of ?_; conv => whnf))
    refine XVal.append tabOk (t := 22) (xt := 22) rfl rfl rfl rfl rfl rfl (r1 := []) (r2 := []) (C := []) (L := []) (M := x.data.map byteV) (Own.full (by simp)) (Sees.fact fun w h => h.2) (by simp) byte_one (by omega) (by simp; omega) fun a' cap' C' hO => ?_
    conv => whnf
    repeat' (first
      | (refine XKeep.of ?_; conv => whnf))
    have e : (Chan.mk false cmd last).rtake l x n = (⟨true, x, last⟩, n, 0) := by simp [Chan.rtake, h1, h2]
    rw [e]
    simp only [List.nil_append, Nat.zero_add] at hO ⊢
    exact ⟨⟨CH.By ⟨⟨a', cap'⟩, h.l⟩ ⟨true, x, last⟩, []⟩, (Own.share (r1 := []) (r2 := []) hO).trans (Ent.imp fun w h => ⟨h.2, h.1.1.l⟩), ⟨⟨a', cap'⟩, h.l⟩, rfl, ⟨hO.hd, hh.l⟩, rfl⟩
  · have h1 : iLt x.tag cmd.tag = true := hc
    have e : (Chan.mk true cmd last).rtake l x n = (.zero, 0, 19) := by simp [Chan.rtake, h1]
    rw [e]
    exact ⟨⟨CH.nil.By .zero, []⟩, Ent.imp fun w h => CH.nil_by w, CH.nil, rfl, CH.nil_ok, rfl⟩
  · rename_i h1
    replace h1 : iLt x.tag cmd.tag = false := h1
    have h2 : iGt x.tag cmd.tag = true := hc
    have e : (Chan.mk true cmd last).rtake l x n = (.zero, 0, 12) := by simp [Chan.rtake, h1, h2]
    rw [e]
    exact ⟨⟨CH.nil.By .zero, []⟩, Ent.imp fun w h => CH.nil_by w, CH.nil, rfl, CH.nil_ok, rfl⟩
  · rename_i h1
    replace h1 : iLt x.tag cmd.tag = false := h1
    have h2 : iGt x.tag cmd.tag = false := hc
    have e : (Chan.mk true cmd last).rtake l x n = (⟨true, cmd, last⟩, l, 0) := by simp [Chan.rtake, h1, h2]
    rw [e]
    exact ⟨⟨h.By ⟨true, cmd, last⟩, []⟩, Ent.imp fun w h => h.1, h, rfl, hh, rfl⟩

/-- ref12.Take: left is always nought. -/
theorem rtake12_spec (c : Chan) (l : Int) (h : CH) (hh : h.Ok c) (x : Cmd) (k : Hd) (hk : k.Ok x.data.length) (hl : x.data.length ≤ 1000000) :
    PureSpec Try.prog 47 [.agg ⟨c.rcells l h⟩, .agg ⟨x.cells k⟩] (fun w => h.By c w ∧ By w k x.data) (RelRC ((c.rtake l x 1).1, 0, (c.rtake l x 1).2.2)) := by
  refine PureSpec.of_xc tabOk Try.func47 rfl (by decide) (n := Try.f47.ntmps - 2) rfl rfl fun w0 av => ?_
  conv => whnf
  intro b1
  conv => whnf
  intro b2
  conv => whnf
  intro b3
  conv => whnf
  refine XCall.pure (rtake_spec c l h hh x k hk hl 1) (fun w h => h) ?_
  rintro v F ⟨g, rfl, hg, rfl⟩
  conv => whnf
  intro b4
  conv => whnf
  exact ⟨⟨g.By (c.rtake l x 1).1, []⟩, Ent.imp fun w h => h.2, g, rfl, hg, rfl⟩

def S.rdo (s : S) (lo li : Int) (c : Cmd) : S × Int × Int × Int :=
  if !s.rvalid lo li then (.zero, 0, 0, 1)
  else if (iNe c.op 0 && iNe c.op 1) || !rproper c.tag c.op then (.zero, 0, 0, 2)
  else if iEq c.op 0 then
    let r := s.o.rtake lo c 1
    if iNe r.2.2 0 then (.zero, 0, 0, r.2.2) else ({ s with o := r.1 }, 0, li, 0)
  else
    let r := s.i.rtake li c 1
    if iNe r.2.2 0 then (.zero, 0, 0, r.2.2) else ({ s with i := r.1 }, lo, 0, 0)

/-- A reference state with its lefts, and a number. -/
def RelRDo (r : S × Int × Int × Int) (v : Value) (F : Fx) : Prop := ∃ h : SH, v = .tuple #[.agg ⟨r.1.rcells r.2.1 r.2.2.1 h⟩, .int .i64 r.2.2.2] ∧ h.Ok r.1 ∧ F = ⟨h.By r.1, []⟩

theorem rdo_spec (s : S) (lo li : Int) (h : SH) (hh : h.Ok s) (hf : s.Few) (c : Cmd) (k : Hd) (hk : k.Ok c.data.length) (hl : c.data.length ≤ 1000000) :
    PureSpec Try.prog 26 [.agg ⟨s.rcells lo li h⟩, .agg ⟨c.cells k⟩] (fun w => h.By s w ∧ By w k c.data) (RelRDo (s.rdo lo li c)) := by
  refine PureSpec.of_xc tabOk Try.func26 rfl (by decide) (n := Try.f26.ntmps - 2) rfl rfl fun w0 av => ?_
  conv => whnf
  intro b1
  conv => whnf
  intro b2
  conv => whnf
  intro b3
  conv => whnf
  refine XCall.val (rvalid_spec s lo li h hh hf) (fun _ h => h.1) (fun v D hv => ?_)
  subst hv
  conv => whnf
  refine XIf.split (fun h1 => ?_) (fun h1 => ?_)
  · conv => whnf
    have e : s.rdo lo li c = (.zero, 0, 0, 1) := by simp [S.rdo]; intro h; simp [h] at h1
    rw [e]
    exact ⟨⟨SH.nil.By S.zero, []⟩, Ent.imp fun w h => SH.nil_by w, SH.nil, rfl, SH.nil_ok, rfl⟩
  · conv => whnf
    have hv : s.rvalid lo li = true := by simpa using h1
    repeat' (first
      | (refine XSame.of ?_; conv => whnf)
      | (refine XStop.draw tabOk mixed rfl rfl ?_; conv => whnf)
      | (refine XCall.val (rproper_spec _ _) (fun _ _ => trivial) (fun v D hv => ?_); subst hv; conv => whnf)
      | (refine XIf.split (fun hc => ?_) (fun hc => ?_) <;> conv => whnf))
    · have e : s.rdo lo li c = (.zero, 0, 0, 2) := by simp only [S.rdo, hv, hc]; rfl
      rw [e]
      exact ⟨⟨SH.nil.By S.zero, []⟩, Ent.imp fun w h => SH.nil_by w, SH.nil, rfl, SH.nil_ok, rfl⟩
    · rename_i h2
      have e : s.rdo lo li c = (.zero, 0, 0, 2) := by simp only [S.rdo, hv, h2, hc]; rfl
      rw [e]
      exact ⟨⟨SH.nil.By S.zero, []⟩, Ent.imp fun w h => SH.nil_by w, SH.nil, rfl, SH.nil_ok, rfl⟩
    · rename_i h2 h3
      refine XCall.pure (rtake12_spec s.o lo h.o hh.o c k hk hl) (fun w h => ⟨h.1.o, h.2⟩) ?_
      rintro v F ⟨g, rfl, hg, rfl⟩
      conv => whnf
      refine XIf.split (fun h4 => ?_) (fun h4 => ?_)
      · conv => whnf
        have e : s.rdo lo li c = (.zero, 0, 0, (s.o.rtake lo c 1).2.2) := by simp only [S.rdo, hv, h2, h3, hc, h4]; rfl
        rw [e]
        exact ⟨⟨SH.nil.By S.zero, []⟩, Ent.imp fun w h => SH.nil_by w, SH.nil, rfl, SH.nil_ok, rfl⟩
      · conv => whnf
        have e : s.rdo lo li c = ({ s with o := (s.o.rtake lo c 1).1 }, 0, li, 0) := by simp only [S.rdo, hv, h2, h3, hc, h4]; rfl
        rw [e]
        exact ⟨⟨SH.By { h with o := g } { s with o := (s.o.rtake lo c 1).1 }, []⟩, Ent.imp fun w h => ⟨h.1.1.inp, h.1.1.got, h.1.1.out, h.2, h.1.1.i⟩, { h with o := g }, rfl, ⟨hh.inp, hh.got, hh.out, hg, hh.i⟩, rfl⟩
    · rename_i h2 h3
      refine XCall.pure (rtake12_spec s.i li h.i hh.i c k hk hl) (fun w h => ⟨h.1.i, h.2⟩) ?_
      rintro v F ⟨g, rfl, hg, rfl⟩
      conv => whnf
      refine XIf.split (fun h4 => ?_) (fun h4 => ?_)
      · conv => whnf
        have e : s.rdo lo li c = (.zero, 0, 0, (s.i.rtake li c 1).2.2) := by simp only [S.rdo, hv, h2, h3, hc, h4]; rfl
        rw [e]
        exact ⟨⟨SH.nil.By S.zero, []⟩, Ent.imp fun w h => SH.nil_by w, SH.nil, rfl, SH.nil_ok, rfl⟩
      · conv => whnf
        have e : s.rdo lo li c = ({ s with i := (s.i.rtake li c 1).1 }, lo, 0, 0) := by simp only [S.rdo, hv, h2, h3, hc, h4]; rfl
        rw [e]
        exact ⟨⟨SH.By { h with i := g } { s with i := (s.i.rtake li c 1).1 }, []⟩, Ent.imp fun w h => ⟨h.1.1.inp, h.1.1.got, h.1.1.out, h.1.1.o, h.2⟩, { h with i := g }, rfl, ⟨hh.inp, hh.got, hh.out, hh.o, hg⟩, rfl⟩

end Go.Proofs.Ytcmgioaggmaclaa
