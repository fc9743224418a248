/- Pipes, part L: the law's request, do. -/
import Derived.Test.YtpnnadojhacjiaaPiK
namespace Go.Proofs.Ytpnnadojhacjiaa
open Go Go.Sx
set_option maxRecDepth 100000
set_option maxHeartbeats 4000000
set_option linter.unusedVariables false
set_option linter.unusedSimpArgs false

theorem request_spec (r : Req) (k : Hd) (hk : k.Ok r.data.length) (hr : r.data.length ≤ 100000) :
    PureSpec Try.prog 21 [.agg ⟨r.cells k⟩] (fun w => By w k r.data) (fun v F => ∃ k' : Hd, v = .agg ⟨r.cells k'⟩ ∧ k'.Ok r.data.length ∧ F = ⟨fun w => By w k' r.data, []⟩) := by
  refine PureSpec.of_xc tabOk Try.func21 rfl (by decide) (n := Try.f21.ntmps - 1) rfl rfl fun w0 av => ?_
  conv => whnf
  intro b1
  conv => whnf
  intro b2
  conv => whnf
  refine XStop.draw tabOk mixed rfl rfl ?_
  conv => whnf
  refine XVal.build tabOk (t := 25) rfl rfl rfl [] rfl rfl (by simp) (by decide) fun b => ?_
  conv => whnf
  repeat (first
    | (refine XHeld.same rfl ?_; conv => whnf)
    | (refine XHeld.row rfl ?_; conv => whnf)
    | (refine XKeep.of ?_; conv => whnf))
  refine XVal.append tabOk (t := 25) (xt := 25) rfl rfl rfl rfl rfl rfl (r1 := []) (r2 := []) (C := []) (L := []) (M := r.data.map byteV) (Own.full (by simp)) (Sees.fact fun w h => h) (by simp) byte_one (by omega) (by simp; omega) fun a' cap' C' hO => ?_
  conv => whnf
  simp only [List.nil_append, Nat.zero_add] at hO ⊢
  repeat (first
    | (refine XHeld.same rfl ?_; conv => whnf)
    | (refine XKeep.of ?_; conv => whnf))
  refine ⟨⟨fun w => By w ⟨a', cap'⟩ r.data, []⟩, ?_, ⟨a', cap'⟩, rfl, ⟨hO.none_nil, hO.fit⟩, rfl⟩
  have hs := hO.share (r1 := []) (r2 := []) (D := fun w => By w k r.data)
  exact hs.trans (Ent.imp fun w h => h.2)

/-- A step of the law. -/
structure Stp where
  op : Int
  req : Req

def Stp.cells (s : Stp) (h : Hd) : List Value := [.int .i64 s.op, .int .i64 s.req.task, .bool s.req.write, .int .i64 s.req.n, h.v s.req.data.length]

def Pipe.step (p : Pipe) (s : Stp) : Pipe × List An × Int :=
  if iEq s.op 0 then ((p.open s.req.write).1, [], (p.open s.req.write).2)
  else if iEq s.op 1 then p.close s.req.write
  else if iEq s.op 2 then p.drop s.req.task
  else p.ask s.req

theorem step_spec (p : Pipe) (h : PH) (hh : h.Ok p) (hf : p.Few) (hw : p.wait.length < 100000) (s : Stp) (k : Hd) (hk : k.Ok s.req.data.length) (hr : s.req.data.length ≤ 100000) :
    PureSpec Try.prog 9 [.agg ⟨h.cells p⟩, .agg ⟨s.cells k⟩] (fun w => h.By p w ∧ By w k s.req.data) (RelPA (p.step s)) := by
  refine PureSpec.of_xc tabOk Try.func9 rfl (by decide) (n := Try.f9.ntmps - 2) rfl rfl fun w0 av => ?_
  conv => whnf
  intro b1
  conv => whnf
  intro b2
  conv => whnf
  intro b3
  conv => whnf
  refine XIf.split (fun h0 => ?_) (fun h0 => ?_)
  · conv => whnf
    have e : p.step s = ((p.open s.req.write).1, [], (p.open s.req.write).2) := by simp only [Pipe.step, h0, if_true]
    rw [e]
    refine XCall.pure (open_spec p h hh hf s.req.write) (fun w h => h.1) ?_
    generalize p.open s.req.write = r
    rintro v F ⟨h1, rfl, hh1, rfl⟩
    conv => whnf
    intro b4
    conv => whnf
    exact ⟨⟨fun w => h1.By r.1 w ∧ AnAt w Hd.nil [], []⟩, Ent.of_le ⟨by simp [Fx.and], fun w h => ⟨h.2, rfl, fun _ h => by cases h⟩⟩, h1, Hd.nil, [], rfl, hh1, Hd.nil_ok, rfl, (fun _ h => by cases h), rfl⟩
  conv => whnf
  refine XIf.split (fun h1 => ?_) (fun h1 => ?_)
  · conv => whnf
    have e : p.step s = p.close s.req.write := by simp only [Pipe.step, h0, h1, if_true, if_false, Bool.false_eq_true]
    rw [e]
    refine XCall.pure (close_spec p h hh hf s.req.write) (fun w h => h.1) ?_
    generalize p.close s.req.write = r
    rintro v F ⟨q1, ka, la, rfl, hq1, hka, hla, hoa, rfl⟩
    conv => whnf
    exact ⟨⟨fun w => q1.By r.1 w ∧ AnAt w ka la, []⟩, Ent.of_le ⟨by simp [Fx.and], fun w h => h.2⟩, q1, ka, la, rfl, hq1, hka, hla, hoa, rfl⟩
  conv => whnf
  refine XIf.split (fun h2 => ?_) (fun h2 => ?_)
  · conv => whnf
    have e : p.step s = p.drop s.req.task := by simp only [Pipe.step, h0, h1, h2, if_true, if_false, Bool.false_eq_true]
    rw [e]
    refine XCall.pure (drop_spec p h hh hf s.req.task) (fun w h => h.1) ?_
    generalize p.drop s.req.task = r
    rintro v F ⟨q1, ka, la, rfl, hq1, hka, hla, hoa, rfl⟩
    conv => whnf
    exact ⟨⟨fun w => q1.By r.1 w ∧ AnAt w ka la, []⟩, Ent.of_le ⟨by simp [Fx.and], fun w h => h.2⟩, q1, ka, la, rfl, hq1, hka, hla, hoa, rfl⟩
  conv => whnf
  have e : p.step s = p.ask s.req := by simp only [Pipe.step, h0, h1, h2, if_false, Bool.false_eq_true]
  rw [e]
  refine XStop.draw tabOk mixed rfl rfl ?_
  conv => whnf
  repeat (first
    | (refine XHeld.same rfl ?_; conv => whnf)
    | (refine XHeld.call rfl ?_; conv => whnf)
    | (refine XKeep.of ?_; conv => whnf))
  refine XCall.pure (request_spec s.req k hk hr) (fun w h => h.2) ?_
  rintro v F ⟨k2, rfl, hk2, rfl⟩
  conv => whnf
  repeat (first
    | (refine XHeld.same rfl ?_; conv => whnf)
    | (refine XHeld.call rfl ?_; conv => whnf)
    | (refine XKeep.of ?_; conv => whnf))
  refine XCall.pure (ask_spec p h hh hf hw s.req k2 hk2 hr) (fun w h => ⟨h.1.1, h.2⟩) ?_
  generalize p.ask s.req = r
  rintro v F ⟨q1, ka, la, rfl, hq1, hka, hla, hoa, rfl⟩
  conv => whnf
  repeat (first
    | (refine XHeld.same rfl ?_; conv => whnf)
    | (refine XHeld.call rfl ?_; conv => whnf)
    | (refine XKeep.of ?_; conv => whnf))
  exact ⟨⟨fun w => q1.By r.1 w ∧ AnAt w ka la, []⟩, Ent.of_le ⟨by simp [Fx.and], fun w h => h.2⟩, q1, ka, la, rfl, hq1, hka, hla, hoa, rfl⟩

end Go.Proofs.Ytpnnadojhacjiaa
