/- Serial, part G: New and Do. -/
import Derived.Test.YtcmgioaggmaclaaSerF
namespace Go.Proofs.Ytcmgioaggmaclaa
open Go Go.Sx
set_option maxRecDepth 100000
set_option maxHeartbeats 2000000
set_option linter.unusedVariables false

def Cmd.zero : Cmd := ⟨0, 0, 0, []⟩
def Ans.zero : Ans := ⟨0, 0, []⟩
def Chan.zero : Chan := ⟨false, .zero, .zero⟩
def S.zero : S := ⟨[], 0, 0, [], [], .zero, .zero⟩
def CH.nil : CH := ⟨.nil, .nil⟩
def SH.nil : SH := ⟨.nil, .nil, .nil, .nil, .nil⟩

theorem CH.nil_ok : CH.nil.Ok Chan.zero := ⟨Hd.nil_ok, Hd.nil_ok⟩
theorem SH.nil_ok : SH.nil.Ok S.zero := ⟨Hd.nil_ok, Hd.nil_ok, Hd.nil_ok, CH.nil_ok, CH.nil_ok⟩
theorem CH.nil_by (w : World) : CH.nil.By Chan.zero w := ⟨By.nil w, By.nil w⟩
theorem SH.nil_by (w : World) : SH.nil.By S.zero w := ⟨By.nil w, By.nil w, By.nil w, CH.nil_by w, CH.nil_by w⟩

/-- A state and a number. -/
def RelSE (r : S × Int) (v : Value) (F : Fx) : Prop := ∃ h : SH, v = .tuple #[.agg ⟨r.1.cells h⟩, .int .i64 r.2] ∧ h.Ok r.1 ∧ F = ⟨h.By r.1, []⟩

def S.new (l : List UInt8) : S × Int := if iGt l.length 4000 then (.zero, 6) else ({ S.zero with input := l }, 0)

theorem new_spec (h : Hd) (l : List UInt8) (hh : h.Ok l.length) (hl : l.length ≤ 1000000) : PureSpec Try.prog 11 [h.v l.length] (fun w => By w h l) (RelSE (S.new l)) := by
  refine PureSpec.of_xc tabOk Try.func11 rfl (by decide) (n := Try.f11.ntmps - 1) rfl rfl fun w0 av => ?_
  conv => whnf
  intro b
  conv => whnf
  refine XIf.split (fun hc => ?_) (fun hc => ?_)
  · conv => whnf
    have e : S.new l = (.zero, 6) := by simp only [S.new, hc, if_true]
    rw [e]
    exact ⟨⟨SH.nil.By S.zero, []⟩, Ent.imp fun w h => SH.nil_by w, SH.nil, rfl, SH.nil_ok, rfl⟩
  · conv => whnf
    refine XCall.pure (clone_spec _ _ hh hl) (fun w h => h) ?_
    rintro v F ⟨h1, rfl, ho1, rfl⟩
    conv => whnf
    have e : S.new l = ({ S.zero with input := l }, 0) := by simp only [S.new, hc, Bool.false_eq_true, if_false]
    rw [e]
    exact ⟨⟨SH.By ⟨h1, .nil, .nil, .nil, .nil⟩ { S.zero with input := l }, []⟩, Ent.imp fun w h => ⟨h.2, By.nil w, By.nil w, CH.nil_by w, CH.nil_by w⟩, ⟨h1, .nil, .nil, .nil, .nil⟩, rfl, ⟨ho1, Hd.nil_ok, Hd.nil_ok, CH.nil_ok, CH.nil_ok⟩, rfl⟩

def S.do (s : S) (c : Cmd) : S × Int :=
  if !s.valid then (.zero, 1)
  else if (iNe c.op 0 && iNe c.op 1) || !proper c.tag c.op then (.zero, 2)
  else if iEq c.op 1 then
    let r := s.i.take c
    if iNe r.2 0 then (.zero, r.2) else ({ s with i := r.1 }, 0)
  else
    let r := s.o.take c
    if iNe r.2 0 then (.zero, r.2) else ({ s with o := r.1 }, 0)

theorem do_spec (s : S) (h : SH) (hh : h.Ok s) (hf : s.Few) (c : Cmd) (k : Hd) (hk : k.Ok c.data.length) (hl : c.data.length ≤ 1000000) :
    PureSpec Try.prog 23 [.agg ⟨s.cells h⟩, .agg ⟨c.cells k⟩] (fun w => h.By s w ∧ By w k c.data) (RelSE (s.do c)) := by
  refine PureSpec.of_xc tabOk Try.func23 rfl (by decide) (n := Try.f23.ntmps - 2) rfl rfl fun w0 av => ?_
  conv => whnf
  intro b1
  conv => whnf
  intro b2
  conv => whnf
  intro b3
  conv => whnf
  refine XCall.val (valid_spec s h) (fun _ _ => trivial) (fun v D hv => ?_)
  subst hv
  conv => whnf
  refine XIf.split (fun h1 => ?_) (fun h1 => ?_)
  · conv => whnf
    have e : s.do c = (.zero, 1) := by simp [S.do]; intro h; simp [h] at h1
    rw [e]
    exact ⟨⟨SH.nil.By S.zero, []⟩, Ent.imp fun w h => SH.nil_by w, SH.nil, rfl, SH.nil_ok, rfl⟩
  · conv => whnf
    have hv : s.valid = true := by simpa using h1
    repeat' (first
      | (refine XSame.of ?_; conv => whnf)
      | (refine XStop.draw tabOk mixed rfl rfl ?_; conv => whnf)
      | (refine XCall.val (proper_spec _ _) (fun _ _ => trivial) (fun v D hv => ?_); subst hv; conv => whnf)
      | (refine XIf.split (fun hc => ?_) (fun hc => ?_) <;> conv => whnf))
    · have e : s.do c = (.zero, 2) := by simp only [S.do, hv, hc]; rfl
      rw [e]
      exact ⟨⟨SH.nil.By S.zero, []⟩, Ent.imp fun w h => SH.nil_by w, SH.nil, rfl, SH.nil_ok, rfl⟩
    · rename_i h2
      have e : s.do c = (.zero, 2) := by simp only [S.do, hv, h2, hc]; rfl
      rw [e]
      exact ⟨⟨SH.nil.By S.zero, []⟩, Ent.imp fun w h => SH.nil_by w, SH.nil, rfl, SH.nil_ok, rfl⟩
    · rename_i h2
      refine XCall.pure (copied_spec s h hh hf) (fun w h => h.1) ?_
      rintro v F ⟨g, rfl, hg, hg1, hg2, rfl⟩
      conv => whnf
      refine XIf.split (fun h3 => ?_) (fun h3 => ?_)
      · conv => whnf
        refine XCall.ptr (take_spec s.i g.i hg.i c k hk hl) 0 13 rfl rfl (fun w h => ⟨h.2.i, h.1.2⟩) ?_
        rintro v cs' F hlen ⟨g2, rfl, rfl, hg2', rfl⟩
        conv => whnf
        refine XIf.split (fun h4 => ?_) (fun h4 => ?_)
        · conv => whnf
          have e : s.do c = (.zero, (s.i.take c).2) := by simp only [S.do, hv, h2, hc, h3, h4]; rfl
          rw [e]
          exact ⟨⟨SH.nil.By S.zero, []⟩, Ent.imp fun w h => SH.nil_by w, SH.nil, rfl, SH.nil_ok, rfl⟩
        · conv => whnf
          have e : s.do c = ({ s with i := (s.i.take c).1 }, 0) := by simp only [S.do, hv, h2, hc, h3, h4]; rfl
          rw [e]
          exact ⟨⟨SH.By { g with i := g2 } { s with i := (s.i.take c).1 }, []⟩, Ent.imp fun w h => ⟨h.1.2.inp, h.1.2.got, h.1.2.out, h.1.2.o, h.2⟩, { g with i := g2 }, rfl, ⟨hg.inp, hg.got, hg.out, hg.o, hg2'⟩, rfl⟩
      · conv => whnf
        refine XCall.ptr (take_spec s.o g.o hg.o c k hk hl) 0 5 rfl rfl (fun w h => ⟨h.2.o, h.1.2⟩) ?_
        rintro v cs' F hlen ⟨g2, rfl, rfl, hg2', rfl⟩
        conv => whnf
        refine XIf.split (fun h4 => ?_) (fun h4 => ?_)
        · conv => whnf
          have e : s.do c = (.zero, (s.o.take c).2) := by simp only [S.do, hv, h2, hc, h3, h4]; rfl
          rw [e]
          exact ⟨⟨SH.nil.By S.zero, []⟩, Ent.imp fun w h => SH.nil_by w, SH.nil, rfl, SH.nil_ok, rfl⟩
        · conv => whnf
          have e : s.do c = ({ s with o := (s.o.take c).1 }, 0) := by simp only [S.do, hv, h2, hc, h3, h4]; rfl
          rw [e]
          exact ⟨⟨SH.By { g with o := g2 } { s with o := (s.o.take c).1 }, []⟩, Ent.imp fun w h => ⟨h.1.2.inp, h.1.2.got, h.1.2.out, h.2, h.1.2.i⟩, { g with o := g2 }, rfl, ⟨hg.inp, hg.got, hg.out, hg2', hg.i⟩, rfl⟩

end Go.Proofs.Ytcmgioaggmaclaa
