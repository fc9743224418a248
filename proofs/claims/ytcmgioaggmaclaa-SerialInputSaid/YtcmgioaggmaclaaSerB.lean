/- Serial, part B: the data, and the functions that only look at it. -/
import Derived.Test.YtcmgioaggmaclaaSerA
namespace Go.Proofs.Ytcmgioaggmaclaa
open Go Go.Sx
set_option maxRecDepth 100000
set_option maxHeartbeats 2000000
set_option linter.unusedVariables false

structure Cmd where
  tag : Int
  op : Int
  place : Int
  data : List UInt8

structure Ans where
  tag : Int
  ans : Int
  data : List UInt8

structure Chan where
  isOpen : Bool
  cmd : Cmd
  last : Ans

structure S where
  input : List UInt8
  pos : Int
  pause : Int
  got : List UInt8
  output : List UInt8
  o : Chan
  i : Chan

/-- Handles of a channel's two slices. -/
structure CH where
  d : Hd
  l : Hd

structure SH where
  inp : Hd
  got : Hd
  out : Hd
  o : CH
  i : CH

def Cmd.cells (c : Cmd) (h : Hd) : List Value := [.int .i64 c.tag, .int .i64 c.op, .int .i64 c.place, h.v c.data.length]
def Ans.cells (c : Ans) (h : Hd) : List Value := [.int .i64 c.tag, .int .i64 c.ans, h.v c.data.length]
def Chan.cells (c : Chan) (h : CH) : List Value := [.bool c.isOpen, .int .i64 c.cmd.tag, .int .i64 c.cmd.op, .int .i64 c.cmd.place, h.d.v c.cmd.data.length, .int .i64 c.last.tag, .int .i64 c.last.ans, h.l.v c.last.data.length]
def S.cells (s : S) (h : SH) : List Value :=
  [h.inp.v s.input.length, .int .i64 s.pos, .int .i64 s.pause, h.got.v s.got.length, h.out.v s.output.length,
   .bool s.o.isOpen, .int .i64 s.o.cmd.tag, .int .i64 s.o.cmd.op, .int .i64 s.o.cmd.place, h.o.d.v s.o.cmd.data.length, .int .i64 s.o.last.tag, .int .i64 s.o.last.ans, h.o.l.v s.o.last.data.length,
   .bool s.i.isOpen, .int .i64 s.i.cmd.tag, .int .i64 s.i.cmd.op, .int .i64 s.i.cmd.place, h.i.d.v s.i.cmd.data.length, .int .i64 s.i.last.tag, .int .i64 s.i.last.ans, h.i.l.v s.i.last.data.length]

structure CH.Ok (h : CH) (c : Chan) : Prop where
  d : h.d.Ok c.cmd.data.length
  l : h.l.Ok c.last.data.length

structure SH.Ok (h : SH) (s : S) : Prop where
  inp : h.inp.Ok s.input.length
  got : h.got.Ok s.got.length
  out : h.out.Ok s.output.length
  o : h.o.Ok s.o
  i : h.i.Ok s.i

structure CH.By (h : CH) (c : Chan) (w : World) : Prop where
  d : Sx.By w h.d c.cmd.data
  l : Sx.By w h.l c.last.data

structure SH.By (h : SH) (s : S) (w : World) : Prop where
  inp : Sx.By w h.inp s.input
  got : Sx.By w h.got s.got
  out : Sx.By w h.out s.output
  o : h.o.By s.o w
  i : h.i.By s.i w

def proper (tag op : Int) : Bool := if iEq op 0 then iGe tag 2 && iEq (tag.tmod 2) 0 else iGe tag 1 && iEq (tag.tmod 2) 1

theorem proper_spec (tag op : Int) : PureSpec Try.prog 44 [.int .i64 tag, .int .i64 op] (fun _ => True) (fun v F => v = .bool (proper tag op)) := by
  refine PureSpec.of_xc tabOk Try.func44 rfl (by decide) (n := 19) rfl rfl fun w0 av => ?_
  conv => whnf
  refine XIf.split (fun hc => ?_) (fun hc => ?_)
  all_goals
    conv => whnf
    refine XSame.of ?_
    conv => whnf
    refine ⟨_, Ent.refl _, ?_⟩
    simp only [proper, hc]
    rfl

def Chan.valid (c : Chan) (op : Int) : Bool :=
  if iNe c.last.tag 0 && !proper c.last.tag op then false
  else if c.isOpen then proper c.cmd.tag op && iGe c.cmd.tag c.last.tag
  else iEq c.cmd.tag 0 && iEq c.cmd.op 0 && iEq c.cmd.place 0 && iEq c.cmd.data.length 0

theorem cvalid_spec (c : Chan) (h : CH) (op : Int) : PureSpec Try.prog 42 [.agg ⟨c.cells h⟩, .int .i64 op] (fun _ => True) (fun v F => v = .bool (c.valid op)) := by
  refine PureSpec.of_xc tabOk Try.func42 rfl (by decide) (n := 54) rfl rfl fun w0 av => ?_
  conv => whnf
  intro b
  conv => whnf
  repeat' (first
    | (refine XSame.of ?_; conv => whnf)
    | (refine XCall.val (proper_spec _ _) (fun _ _ => trivial) (fun v D hv => ?_); subst hv; conv => whnf)
    | (refine XIf.split (fun hc => ?_) (fun hc => ?_) <;> conv => whnf))
  all_goals
    refine ⟨_, Ent.refl _, ?_⟩
    simp_all [Chan.valid]

def S.valid (s : S) : Bool :=
  iLe s.input.length 4000 && iGe s.pos 0 && iLe s.pos s.input.length && iGe s.pause 0 && iLt s.pause 128 && iLe s.got.length s.pos && iLe s.output.length 100000 && s.o.valid 0 && s.i.valid 1

theorem valid_spec (s : S) (h : SH) : PureSpec Try.prog 21 [.agg ⟨s.cells h⟩] (fun _ => True) (fun v F => v = .bool s.valid) := by
  refine PureSpec.of_xc tabOk Try.func21 rfl (by decide) (n := Try.f21.ntmps - 1) rfl rfl fun w0 av => ?_
  conv => whnf
  intro b
  conv => whnf
  repeat' (first
    | (refine XSame.of ?_; conv => whnf)
    | (refine XCall.val (cvalid_spec s.o h.o 0) (fun _ _ => trivial) (fun v D hv => ?_); subst hv; conv => whnf)
    | (refine XCall.val (cvalid_spec s.i h.i 1) (fun _ _ => trivial) (fun v D hv => ?_); subst hv; conv => whnf)
    | (refine XIf.split (fun hc => ?_) (fun hc => ?_) <;> conv => whnf))
  all_goals
    refine ⟨_, Ent.refl _, ?_⟩
    simp_all [S.valid]

end Go.Proofs.Ytcmgioaggmaclaa
