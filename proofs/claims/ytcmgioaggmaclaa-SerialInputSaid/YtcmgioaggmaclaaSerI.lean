/- Serial, part I: equality. -/
import Derived.Test.YtcmgioaggmaclaaSerH
namespace Go.Proofs.Ytcmgioaggmaclaa
open Go Go.Sx
set_option maxRecDepth 100000
set_option maxHeartbeats 2000000
set_option linter.unusedVariables false
set_option linter.unusedSimpArgs false

def Chan.equal (c d : Chan) : Bool :=
  c.isOpen == d.isOpen && iEq c.cmd.tag d.cmd.tag && iEq c.cmd.op d.cmd.op && iEq c.cmd.place d.cmd.place && c.cmd.data == d.cmd.data && iEq c.last.tag d.last.tag && iEq c.last.ans d.last.ans && c.last.data == d.last.data

theorem cequal_spec (c d : Chan) (h k : CH) : PureSpec Try.prog 49 [.agg ⟨c.cells h⟩, .agg ⟨d.cells k⟩] (fun w => h.By c w ∧ k.By d w) (fun v F => v = .bool (c.equal d)) := by
  refine PureSpec.of_xc tabOk Try.func49 rfl (by decide) (n := Try.f49.ntmps - 2) rfl rfl fun w0 av => ?_
  conv => whnf
  intro b
  conv => whnf
  intro b2
  conv => whnf
  repeat' (first
    | (refine XSame.of ?_; conv => whnf)
    | (refine XStop.draw tabOk mixed rfl rfl ?_; conv => whnf)
    | (refine XCall.val (equal_spec h.d k.d c.cmd.data d.cmd.data) (fun w h => ⟨h.1.d, h.2.d⟩) (fun v D hv => ?_); subst hv; conv => whnf)
    | (refine XCall.val (equal_spec h.l k.l c.last.data d.last.data) (fun w h => ⟨h.1.l, h.2.l⟩) (fun v D hv => ?_); subst hv; conv => whnf)
    | (refine XIf.split (fun hc => ?_) (fun hc => ?_) <;> conv => whnf))
  all_goals
    refine ⟨_, Ent.refl _, ?_⟩
    simp_all [Chan.equal]

def S.equal (s t : S) : Bool :=
  s.input == t.input && iEq s.pos t.pos && iEq s.pause t.pause && s.got == t.got && s.output == t.output && s.o.equal t.o && s.i.equal t.i

theorem sequal_spec (s t : S) (h k : SH) : PureSpec Try.prog 27 [.agg ⟨s.cells h⟩, .agg ⟨t.cells k⟩] (fun w => h.By s w ∧ k.By t w) (fun v F => v = .bool (s.equal t)) := by
  refine PureSpec.of_xc tabOk Try.func27 rfl (by decide) (n := Try.f27.ntmps - 2) rfl rfl fun w0 av => ?_
  conv => whnf
  intro b
  conv => whnf
  intro b2
  conv => whnf
  repeat' (first
    | (refine XSame.of ?_; conv => whnf)
    | (refine XStop.draw tabOk mixed rfl rfl ?_; conv => whnf)
    | (refine XCall.val (equal_spec h.inp k.inp s.input t.input) (fun w h => ⟨h.1.inp, h.2.inp⟩) (fun v D hv => ?_); subst hv; conv => whnf)
    | (refine XCall.val (equal_spec h.got k.got s.got t.got) (fun w h => ⟨h.1.got, h.2.got⟩) (fun v D hv => ?_); subst hv; conv => whnf)
    | (refine XCall.val (equal_spec h.out k.out s.output t.output) (fun w h => ⟨h.1.out, h.2.out⟩) (fun v D hv => ?_); subst hv; conv => whnf)
    | (refine XCall.val (cequal_spec s.o t.o h.o k.o) (fun w h => ⟨h.1.o, h.2.o⟩) (fun v D hv => ?_); subst hv; conv => whnf)
    | (refine XCall.val (cequal_spec s.i t.i h.i k.i) (fun w h => ⟨h.1.i, h.2.i⟩) (fun v D hv => ?_); subst hv; conv => whnf)
    | (refine XIf.split (fun hc => ?_) (fun hc => ?_) <;> conv => whnf))
  all_goals
    refine ⟨_, Ent.refl _, ?_⟩
    simp_all [S.equal]

end Go.Proofs.Ytcmgioaggmaclaa
