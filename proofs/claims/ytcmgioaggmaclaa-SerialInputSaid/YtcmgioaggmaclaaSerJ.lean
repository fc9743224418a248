/- Serial, part J: the reference's data, and its tests. -/
import Derived.Test.YtcmgioaggmaclaaSerI
namespace Go.Proofs.Ytcmgioaggmaclaa
open Go Go.Sx
set_option maxRecDepth 100000
set_option maxHeartbeats 2000000
set_option linter.unusedVariables false
set_option linter.unusedSimpArgs false

/-- The reference's channel has one more number, left. -/
def Chan.rcells (c : Chan) (left : Int) (h : CH) : List Value :=
  [.bool c.isOpen, .int .i64 c.cmd.tag, .int .i64 c.cmd.op, .int .i64 c.cmd.place, h.d.v c.cmd.data.length, .int .i64 left, .int .i64 c.last.tag, .int .i64 c.last.ans, h.l.v c.last.data.length]

/-- The reference's state. -/
def S.rcells (s : S) (lo li : Int) (h : SH) : List Value :=
  [h.inp.v s.input.length, .int .i64 s.pos, .int .i64 s.pause, h.got.v s.got.length, h.out.v s.output.length,
   .bool s.o.isOpen, .int .i64 s.o.cmd.tag, .int .i64 s.o.cmd.op, .int .i64 s.o.cmd.place, h.o.d.v s.o.cmd.data.length, .int .i64 lo, .int .i64 s.o.last.tag, .int .i64 s.o.last.ans, h.o.l.v s.o.last.data.length,
   .bool s.i.isOpen, .int .i64 s.i.cmd.tag, .int .i64 s.i.cmd.op, .int .i64 s.i.cmd.place, h.i.d.v s.i.cmd.data.length, .int .i64 li, .int .i64 s.i.last.tag, .int .i64 s.i.last.ans, h.i.l.v s.i.last.data.length]

def Chan.fw (c : Chan) : Bool := iLe c.cmd.data.length 300 && iLe c.last.data.length 300

theorem fewChannel_spec (c : Chan) (l : Int) (h : CH) : PureSpec Try.prog 50 [.agg ⟨c.rcells l h⟩] (fun _ => True) (fun v F => v = .bool c.fw) := by
  refine PureSpec.of_xc tabOk Try.func50 rfl (by decide) (n := Try.f50.ntmps - 1) rfl rfl fun w0 av => ?_
  conv => whnf
  intro b
  conv => whnf
  repeat' (first
    | (refine XSame.of ?_; conv => whnf)
    | (refine XStop.draw tabOk mixed rfl rfl ?_; conv => whnf)
    | (refine XIf.split (fun hc => ?_) (fun hc => ?_) <;> conv => whnf))
  all_goals
    refine ⟨_, Ent.refl _, ?_⟩
    simp_all [Chan.fw]

def S.fw (s : S) : Bool := iLe s.input.length 1000 && iLe s.got.length 1000 && iLe s.output.length 1000 && s.o.fw && s.i.fw

theorem rfew_spec (s : S) (lo li : Int) (h : SH) : PureSpec Try.prog 29 [.agg ⟨s.rcells lo li h⟩] (fun _ => True) (fun v F => v = .bool s.fw) := by
  refine PureSpec.of_xc tabOk Try.func29 rfl (by decide) (n := Try.f29.ntmps - 1) rfl rfl fun w0 av => ?_
  conv => whnf
  intro b
  conv => whnf
  repeat' (first
    | (refine XSame.of ?_; conv => whnf)
    | (refine XStop.draw tabOk mixed rfl rfl ?_; conv => whnf)
    | (refine XCall.val (fewChannel_spec s.o lo h.o) (fun _ _ => trivial) (fun v D hv => ?_); subst hv; conv => whnf)
    | (refine XCall.val (fewChannel_spec s.i li h.i) (fun _ _ => trivial) (fun v D hv => ?_); subst hv; conv => whnf)
    | (refine XIf.split (fun hc => ?_) (fun hc => ?_) <;> conv => whnf))
  all_goals
    refine ⟨_, Ent.refl _, ?_⟩
    simp_all [S.fw]

def S.lfew (s : S) (lo li : Int) (c : Cmd) : Bool := s.fw && iLe c.data.length 300 && iEq lo 0 && iEq li 0

theorem lfew_spec (s : S) (lo li : Int) (h : SH) (c : Cmd) (k : Hd) : PureSpec Try.prog 10 [.agg ⟨s.rcells lo li h⟩, .agg ⟨c.cells k⟩] (fun _ => True) (fun v F => v = .bool (s.lfew lo li c)) := by
  refine PureSpec.of_xc tabOk Try.func10 rfl (by decide) (n := Try.f10.ntmps - 2) rfl rfl fun w0 av => ?_
  conv => whnf
  intro b
  conv => whnf
  intro b
  conv => whnf
  repeat' (first
    | (refine XSame.of ?_; conv => whnf)
    | (refine XStop.draw tabOk mixed rfl rfl ?_; conv => whnf)
    | (refine XCall.val (rfew_spec s lo li h) (fun _ _ => trivial) (fun v D hv => ?_); subst hv; conv => whnf)
    | (refine XIf.split (fun hc => ?_) (fun hc => ?_) <;> conv => whnf))
  all_goals
    refine ⟨_, Ent.refl _, ?_⟩
    simp_all [S.lfew]

def rproper (tag op : Int) : Bool := iGe tag (IntKind.i64.wrap (2 - op)) && iEq (tag.tmod 2) op

theorem rproper_spec (tag op : Int) : PureSpec Try.prog 46 [.int .i64 tag, .int .i64 op] (fun _ => True) (fun v F => v = .bool (rproper tag op)) := by
  refine PureSpec.of_xc tabOk Try.func46 rfl (by decide) (n := Try.f46.ntmps - 2) rfl rfl fun w0 av => ?_
  conv => whnf
  repeat' (first
    | (refine XSame.of ?_; conv => whnf)
    | (refine XStop.draw tabOk mixed rfl rfl ?_; conv => whnf)
    | (refine XIf.split (fun hc => ?_) (fun hc => ?_) <;> conv => whnf))
  all_goals
    refine ⟨_, Ent.refl _, ?_⟩
    simp_all [rproper]

def Cmd.same (c d : Cmd) : Bool := iEq c.tag d.tag && iEq c.op d.op && iEq c.place d.place && c.data == d.data
def Ans.same (c d : Ans) : Bool := iEq c.tag d.tag && iEq c.ans d.ans && c.data == d.data

theorem sameCommand_spec (c d : Cmd) (h k : Hd) (hh : h.Ok c.data.length) (hk : k.Ok d.data.length) (hl : c.data.length ≤ 1000000) :
    PureSpec Try.prog 54 [.agg ⟨c.cells h⟩, .agg ⟨d.cells k⟩] (fun w => By w h c.data ∧ By w k d.data) (fun v F => v = .bool (c.same d)) := by
  refine PureSpec.of_xc tabOk Try.func54 rfl (by decide) (n := Try.f54.ntmps - 2) rfl rfl fun w0 av => ?_
  conv => whnf
  intro b
  conv => whnf
  intro b
  conv => whnf
  repeat' (first
    | (refine XSame.of ?_; conv => whnf)
    | (refine XStop.draw tabOk mixed rfl rfl ?_; conv => whnf)
    | (refine XCall.val (sameBytes_spec h k c.data d.data hh hk hl) (fun _ h => h) (fun v D hv => ?_); subst hv; conv => whnf)
    | (refine XIf.split (fun hc => ?_) (fun hc => ?_) <;> conv => whnf))
  all_goals
    refine ⟨_, Ent.refl _, ?_⟩
    simp_all [Cmd.same]

theorem sameAnswer_spec (c d : Ans) (h k : Hd) (hh : h.Ok c.data.length) (hk : k.Ok d.data.length) (hl : c.data.length ≤ 1000000) :
    PureSpec Try.prog 28 [.agg ⟨c.cells h⟩, .agg ⟨d.cells k⟩] (fun w => By w h c.data ∧ By w k d.data) (fun v F => v = .bool (c.same d)) := by
  refine PureSpec.of_xc tabOk Try.func28 rfl (by decide) (n := Try.f28.ntmps - 2) rfl rfl fun w0 av => ?_
  conv => whnf
  intro b
  conv => whnf
  intro b
  conv => whnf
  repeat' (first
    | (refine XSame.of ?_; conv => whnf)
    | (refine XStop.draw tabOk mixed rfl rfl ?_; conv => whnf)
    | (refine XCall.val (sameBytes_spec h k c.data d.data hh hk hl) (fun _ h => h) (fun v D hv => ?_); subst hv; conv => whnf)
    | (refine XIf.split (fun hc => ?_) (fun hc => ?_) <;> conv => whnf))
  all_goals
    refine ⟨_, Ent.refl _, ?_⟩
    simp_all [Ans.same]

def Chan.same (c : Chan) (l : Int) (d : Chan) (m : Int) : Bool := c.isOpen == d.isOpen && iEq l m && c.cmd.same d.cmd && c.last.same d.last

theorem sameChannel_spec (c d : Chan) (l m : Int) (h k : CH) (hh : h.Ok c) (hk : k.Ok d) (hf : c.Few) :
    PureSpec Try.prog 40 [.agg ⟨c.rcells l h⟩, .agg ⟨d.rcells m k⟩] (fun w => h.By c w ∧ k.By d w) (fun v F => v = .bool (c.same l d m)) := by
  refine PureSpec.of_xc tabOk Try.func40 rfl (by decide) (n := Try.f40.ntmps - 2) rfl rfl fun w0 av => ?_
  conv => whnf
  intro b
  conv => whnf
  intro b
  conv => whnf
  repeat' (first
    | (refine XSame.of ?_; conv => whnf)
    | (refine XStop.draw tabOk mixed rfl rfl ?_; conv => whnf)
    | (refine XCall.val (sameCommand_spec c.cmd d.cmd h.d k.d hh.d hk.d hf.d) (fun _ h => ⟨h.1.d, h.2.d⟩) (fun v D hv => ?_); subst hv; conv => whnf)
    | (refine XCall.val (sameAnswer_spec c.last d.last h.l k.l hh.l hk.l hf.l) (fun _ h => ⟨h.1.l, h.2.l⟩) (fun v D hv => ?_); subst hv; conv => whnf)
    | (refine XIf.split (fun hc => ?_) (fun hc => ?_) <;> conv => whnf))
  all_goals
    refine ⟨_, Ent.refl _, ?_⟩
    simp_all [Chan.same]

def S.same (s : S) (lo li : Int) (t : S) (mo mi : Int) : Bool :=
  s.input == t.input && iEq s.pos t.pos && iEq s.pause t.pause && s.got == t.got && s.output == t.output && s.o.same lo t.o mo && s.i.same li t.i mi

theorem requal_spec (s t : S) (lo li mo mi : Int) (h k : SH) (hh : h.Ok s) (hk : k.Ok t) (hf : s.Few) :
    PureSpec Try.prog 16 [.agg ⟨s.rcells lo li h⟩, .agg ⟨t.rcells mo mi k⟩] (fun w => h.By s w ∧ k.By t w) (fun v F => v = .bool (s.same lo li t mo mi)) := by
  refine PureSpec.of_xc tabOk Try.func16 rfl (by decide) (n := Try.f16.ntmps - 2) rfl rfl fun w0 av => ?_
  conv => whnf
  intro b
  conv => whnf
  intro b
  conv => whnf
  repeat' (first
    | (refine XSame.of ?_; conv => whnf)
    | (refine XStop.draw tabOk mixed rfl rfl ?_; conv => whnf)
    | (refine XCall.val (sameBytes_spec h.inp k.inp s.input t.input hh.inp hk.inp hf.inp) (fun w h => ⟨h.1.inp, h.2.inp⟩) (fun v D hv => ?_); subst hv; conv => whnf)
    | (refine XCall.val (sameBytes_spec h.got k.got s.got t.got hh.got hk.got hf.got) (fun w h => ⟨h.1.got, h.2.got⟩) (fun v D hv => ?_); subst hv; conv => whnf)
    | (refine XCall.val (sameBytes_spec h.out k.out s.output t.output hh.out hk.out hf.out) (fun w h => ⟨h.1.out, h.2.out⟩) (fun v D hv => ?_); subst hv; conv => whnf)
    | (refine XCall.val (sameChannel_spec s.o t.o lo mo h.o k.o hh.o hk.o hf.o) (fun w h => ⟨h.1.o, h.2.o⟩) (fun v D hv => ?_); subst hv; conv => whnf)
    | (refine XCall.val (sameChannel_spec s.i t.i li mi h.i k.i hh.i hk.i hf.i) (fun w h => ⟨h.1.i, h.2.i⟩) (fun v D hv => ?_); subst hv; conv => whnf)
    | (refine XIf.split (fun hc => ?_) (fun hc => ?_) <;> conv => whnf))
  all_goals
    refine ⟨_, Ent.refl _, ?_⟩
    simp_all [S.same]

/-- ref11.ValidChannel, with at most n left. -/
def Chan.rvalid (c : Chan) (l op n : Int) : Bool :=
  if iNe c.last.tag 0 && !rproper c.last.tag op then false
  else if c.isOpen then rproper c.cmd.tag op && iGe c.cmd.tag c.last.tag && iGe l 1 && iLe l n
  else c.cmd.same .zero && iEq l 0

theorem rcvalid_spec (c : Chan) (l op n : Int) (h : CH) (hh : h.Ok c) (hf : c.Few) : PureSpec Try.prog 55 [.agg ⟨c.rcells l h⟩, .int .i64 op, .int .i64 n] (h.By c) (fun v F => v = .bool (c.rvalid l op n)) := by
  refine PureSpec.of_xc tabOk Try.func55 rfl (by decide) (n := Try.f55.ntmps - 3) rfl rfl fun w0 av => ?_
  conv => whnf
  intro b
  conv => whnf
  repeat' (first
    | (refine XSame.of ?_; conv => whnf)
    | (refine XStop.draw tabOk mixed rfl rfl ?_; conv => whnf)
    | (refine XCall.val (rproper_spec _ _) (fun _ _ => trivial) (fun v D hv => ?_); subst hv; conv => whnf)
    | (refine XCall.val (sameCommand_spec c.cmd .zero h.d .nil hh.d Hd.nil_ok hf.d) (fun w h => ⟨h.d, By.nil w⟩) (fun v D hv => ?_); subst hv; conv => whnf)
    | (refine XIf.split (fun hc => ?_) (fun hc => ?_) <;> conv => whnf))
  all_goals
    refine ⟨_, Ent.refl _, ?_⟩
    simp_all [Chan.rvalid]

/-- ref12.ValidChannel. -/
def Chan.rvalid12 (c : Chan) (l op : Int) : Bool := c.rvalid (if c.isOpen then 1 else l) op 1

theorem rcvalid12_spec (c : Chan) (l op : Int) (h : CH) (hh : h.Ok c) (hf : c.Few) : PureSpec Try.prog 43 [.agg ⟨c.rcells l h⟩, .int .i64 op] (h.By c) (fun v F => v = .bool (c.rvalid12 l op)) := by
  refine PureSpec.of_xc tabOk Try.func43 rfl (by decide) (n := Try.f43.ntmps - 2) rfl rfl fun w0 av => ?_
  conv => whnf
  intro b
  conv => whnf
  refine XIf.split (fun hc => ?_) (fun hc => ?_)
  · conv => whnf
    refine XCall.val (rcvalid_spec c 1 op 1 h hh hf) (fun w h => h) (fun v D hv => ?_)
    subst hv
    conv => whnf
    refine ⟨_, Ent.refl _, ?_⟩
    simp [Chan.rvalid12, hc]
  · conv => whnf
    refine XCall.val (rcvalid_spec c l op 1 h hh hf) (fun w h => h) (fun v D hv => ?_)
    subst hv
    conv => whnf
    refine ⟨_, Ent.refl _, ?_⟩
    simp [Chan.rvalid12, hc]

def S.rvalid (s : S) (lo li : Int) : Bool :=
  iLe s.input.length 4000 && iGe s.pos 0 && iLe s.pos s.input.length && iGe s.pause 0 && iLt s.pause 128 && iLe s.got.length s.pos && iLe s.output.length 100000 && s.o.rvalid12 lo 0 && s.i.rvalid12 li 1

theorem rvalid_spec (s : S) (lo li : Int) (h : SH) (hh : h.Ok s) (hf : s.Few) : PureSpec Try.prog 22 [.agg ⟨s.rcells lo li h⟩] (h.By s) (fun v F => v = .bool (s.rvalid lo li)) := by
  refine PureSpec.of_xc tabOk Try.func22 rfl (by decide) (n := Try.f22.ntmps - 1) rfl rfl fun w0 av => ?_
  conv => whnf
  intro b
  conv => whnf
  repeat' (first
    | (refine XSame.of ?_; conv => whnf)
    | (refine XStop.draw tabOk mixed rfl rfl ?_; conv => whnf)
    | (refine XCall.val (rcvalid12_spec s.o lo 0 h.o hh.o hf.o) (fun _ h => h.o) (fun v D hv => ?_); subst hv; conv => whnf)
    | (refine XCall.val (rcvalid12_spec s.i li 1 h.i hh.i hf.i) (fun _ h => h.i) (fun v D hv => ?_); subst hv; conv => whnf)
    | (refine XIf.split (fun hc => ?_) (fun hc => ?_) <;> conv => whnf))
  all_goals
    refine ⟨_, Ent.refl _, ?_⟩
    simp_all [S.rvalid]

end Go.Proofs.Ytcmgioaggmaclaa
