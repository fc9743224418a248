/- Serial, part C: copies. -/
import Derived.Test.YtcmgioaggmaclaaSerB
namespace Go.Proofs.Ytcmgioaggmaclaa
open Go Go.Sx
set_option maxRecDepth 100000
set_option maxHeartbeats 2000000
set_option linter.unusedVariables false

structure Chan.Few (c : Chan) : Prop where
  d : c.cmd.data.length ≤ 1000000
  l : c.last.data.length ≤ 1000000

/-- A channel with new handles. -/
def RelC (c : Chan) (v : Value) (F : Fx) : Prop := ∃ h : CH, v = .agg ⟨c.cells h⟩ ∧ h.Ok c ∧ F = ⟨h.By c, []⟩

theorem ccopied_spec (c : Chan) (h : CH) (hh : h.Ok c) (hf : c.Few) : PureSpec Try.prog 52 [.agg ⟨c.cells h⟩] (h.By c) (RelC c) := by
  refine PureSpec.of_xc tabOk Try.func52 rfl (by decide) (n := Try.f52.ntmps - 1) rfl rfl fun w0 av => ?_
  conv => whnf
  intro b
  conv => whnf
  intro b2
  conv => whnf
  refine XStop.draw tabOk mixed rfl rfl ?_
  conv => whnf
  refine XCall.pure (clone_spec _ _ hh.d hf.d) (fun w h => h.d) ?_
  rintro v F ⟨h1, rfl, ho1, rfl⟩
  conv => whnf
  refine XKeep.of ?_
  conv => whnf
  refine XCall.pure (clone_spec _ _ hh.l hf.l) (fun w h => h.1.l) ?_
  rintro v F ⟨h2, rfl, ho2, rfl⟩
  conv => whnf
  exact ⟨⟨CH.By ⟨h1, h2⟩ c, []⟩, Ent.imp fun w h => ⟨h.1.2, h.2⟩, ⟨h1, h2⟩, rfl, ⟨ho1, ho2⟩, rfl⟩

structure S.Few (s : S) : Prop where
  inp : s.input.length ≤ 1000000
  got : s.got.length ≤ 1000000
  out : s.output.length ≤ 1000000
  o : s.o.Few
  i : s.i.Few

/-- A state with new handles; got and output have no room. -/
def RelS (s : S) (v : Value) (F : Fx) : Prop := ∃ h : SH, v = .agg ⟨s.cells h⟩ ∧ h.Ok s ∧ h.got.c = s.got.length ∧ h.out.c = s.output.length ∧ F = ⟨h.By s, []⟩

theorem copied_spec (s : S) (h : SH) (hh : h.Ok s) (hf : s.Few) : PureSpec Try.prog 31 [.agg ⟨s.cells h⟩] (h.By s) (RelS s) := by
  refine PureSpec.of_xc tabOk Try.func31 rfl (by decide) (n := Try.f31.ntmps - 1) rfl rfl fun w0 av => ?_
  conv => whnf
  intro b
  conv => whnf
  intro b2
  conv => whnf
  refine XStop.draw tabOk mixed rfl rfl ?_
  conv => whnf
  refine XCall.val (clip_spec _ _ hh.got) (fun _ _ => trivial) (fun v D hv => ?_)
  subst hv
  conv => whnf
  refine XKeep.of ?_
  conv => whnf
  refine XCall.val (clip_spec _ _ hh.out) (fun _ _ => trivial) (fun v D hv => ?_)
  subst hv
  conv => whnf
  refine XStop.draw tabOk mixed rfl rfl ?_
  conv => whnf
  refine XCall.pure (ccopied_spec s.o h.o hh.o hf.o) (fun w h => h.o) ?_
  rintro v F ⟨h1, rfl, ho1, rfl⟩
  conv => whnf
  refine XKeep.of ?_
  conv => whnf
  refine XCall.pure (ccopied_spec s.i h.i hh.i hf.i) (fun w h => h.1.i) ?_
  rintro v F ⟨h2, rfl, ho2, rfl⟩
  conv => whnf
  exact ⟨⟨SH.By ⟨h.inp, ⟨h.got.a, s.got.length⟩, ⟨h.out.a, s.output.length⟩, h1, h2⟩ s, []⟩, Ent.imp fun w h => ⟨h.1.1.inp, h.1.1.got, h.1.1.out, h.1.2, h.2⟩, ⟨h.inp, ⟨h.got.a, s.got.length⟩, ⟨h.out.a, s.output.length⟩, h1, h2⟩, rfl,
    ⟨hh.inp, ⟨hh.got.nil, Nat.le_refl _⟩, ⟨hh.out.nil, Nat.le_refl _⟩, ho1, ho2⟩, rfl, rfl, rfl⟩

end Go.Proofs.Ytcmgioaggmaclaa
