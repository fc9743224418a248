/- Pipes, part K: Drop. -/
import Derived.Test.YtpnnadojhacjiaaPiJ
namespace Go.Proofs.Ytpnnadojhacjiaa
open Go Go.Sx
set_option maxRecDepth 100000
set_option maxHeartbeats 4000000
set_option linter.unusedVariables false
set_option linter.unusedSimpArgs false

def Pipe.less (p : Pipe) (t : Int) : Pipe := { p with wait := p.wait.filter (fun r => !iEq r.task t) }

def Pipe.drop (p : Pipe) (t : Int) : Pipe × List An × Int :=
  if !p.valid then (.zero, [], 1)
  else if iLt (index p t) 0 then (.zero, [], 8)
  else ((p.less t).settle.1, (p.less t).settle.2, 0)

theorem drop_spec (p : Pipe) (h : PH) (hh : h.Ok p) (hf : p.Few) (t : Int) : PureSpec Try.prog 16 [.agg ⟨h.cells p⟩, .int .i64 t] (h.By p) (RelPA (p.drop t)) := by
  refine PureSpec.of_xc tabOk Try.func16 rfl (by decide) (n := Try.f16.ntmps - 2) rfl rfl fun w0 av => ?_
  conv => whnf
  intro b1
  conv => whnf
  intro b2
  conv => whnf
  intro b3
  conv => whnf
  refine XCall.val (valid_spec p h hh hf) (fun _ h => h) (fun v D hv => ?_)
  subst hv
  conv => whnf
  refine XIf.split (fun hv => ?_) (fun hv => ?_)
  · conv => whnf
    have e : p.drop t = (.zero, [], 1) := by simp only [Pipe.drop, hv, if_true]
    rw [e]
    exact zero_end (w0 := w0) 1
  conv => whnf
  have hv' : p.valid = true := by simpa using hv
  have hpr := valid_proper hv'
  refine XCall.val (index' p h hh hf t) (fun _ h => h) (fun v D hv => ?_)
  subst hv
  conv => whnf
  refine XIf.split (fun hi => ?_) (fun hi => ?_)
  · conv => whnf
    have e : p.drop t = (.zero, [], 8) := by simp only [Pipe.drop, hv, hi, if_true, if_false, Bool.false_eq_true]
    rw [e]
    exact zero_end (w0 := w0) 8
  conv => whnf
  have e : p.drop t = ((p.less t).settle.1, (p.less t).settle.2, 0) := by simp only [Pipe.drop, hv, hi, if_false, Bool.false_eq_true]
  rw [e]
  refine XCall.pure (clone_spec p h hh hf) (fun w h => h) ?_
  rintro v F ⟨o, rfl, ho, rfl⟩
  have hlen : o.l.length = p.wait.length := by rw [← ho.l]; simp
  have hw := hf.w
  have hix : ∃ k : Nat, k < o.l.length ∧ idx (fun q : Req × Hd => iEq q.1.task t) o.l 0 = (k : Int) := by
    have e1 : idx (fun q : Req × Hd => iEq q.1.task t) o.l 0 = index p t := by
      rw [index, ← ho.l]
      exact idx_map (·.1) (fun r : Req => iEq r.task t) o.l 0
    rcases idx_range (fun q : Req × Hd => iEq q.1.task t) o.l 0 with e2 | ⟨k, hk, e2, _⟩
    · rw [e1] at e2
      rw [e2] at hi
      simp [iLt_eq] at hi
    · exact ⟨k, hk, by rw [e2]; simp⟩
  obtain ⟨k, hk, hidx⟩ := hix
  obtain ⟨wb, ewa⟩ := own_some ho.w (by omega)
  have hOw := ho.w
  rw [ewa] at hOw
  conv => whnf
  intro b4
  conv => whnf
  rw [ewa]
  refine XCall.ent (F' := ⟨fun w => o.D w, orow o.ba o.bC ++ [(wb, Row.c o.wC)] ++ []⟩) (Ent.of_le ⟨by simp [Fx.and, OP.rs, ewa, orow], fun w h => h.2⟩) ?_
  refine delfunc_call hOw (by omega) hk hidx fun C' hO' => ?_
  conv => whnf
  have hmf : (o.l.filter (keeps t)).map (·.1) = (p.less t).wait := by
    show _ = p.wait.filter _
    rw [← ho.l, List.filter_map]
    rfl
  have hOq : (⟨o.ba, o.bc, o.bC, some ⟨wb, 0, none⟩, o.wc, C', o.l.filter (keeps t)⟩ : OP).Ok (p.less t) := ⟨ho.b, hO', hmf, fun q hq => ho.d q ((List.mem_filter.1 hq).1)⟩
  refine XCall.ent (F' := ⟨fun w => (⟨o.ba, o.bc, o.bC, some ⟨wb, 0, none⟩, o.wc, C', o.l.filter (keeps t)⟩ : OP).D w, [] ++ (⟨o.ba, o.bc, o.bC, some ⟨wb, 0, none⟩, o.wc, C', o.l.filter (keeps t)⟩ : OP).rs ++ []⟩) (Ent.of_le ⟨by simp [OP.rs, orow], fun w h q hq => h q ((List.mem_filter.1 hq).1)⟩) ?_
  have hfl : (p.less t).wait.length ≤ p.wait.length := List.length_filter_le _ _
  refine XCall.rows (settle_spec (p.less t) ⟨o.ba, o.bc, o.bC, some ⟨wb, 0, none⟩, o.wc, C', o.l.filter (keeps t)⟩ hOq ⟨hf.b, by omega, fun x hx => hf.d x ((List.mem_filter.1 hx).1)⟩ (fun x hx => hpr x ((List.mem_filter.1 hx).1))) (fun w h => h) ?_
  rintro v F ⟨o', ka, la, rfl, ho', hka, hla, hoa, rfl⟩
  conv => whnf
  refine ⟨⟨fun w => o'.ph.By _ w ∧ AnAt w ka la, []⟩, ?_, o'.ph, ka, la, rfl, OP.phOk ho', hka, hla, hoa, rfl⟩
  have hs := OP.share ho' (D := fun w => (⟨o.ba, o.bc, o.bC, some ⟨wb, 0, none⟩, o.wc, C', o.l.filter (keeps t)⟩ : OP).D w ∧ o'.D w ∧ AnAt w ka la) (fun w h => h.2.1)
  simp only [List.nil_append, List.append_nil]
  exact hs.trans (Ent.imp fun w h => ⟨h.2, h.1.2.2⟩)

end Go.Proofs.Ytpnnadojhacjiaa
