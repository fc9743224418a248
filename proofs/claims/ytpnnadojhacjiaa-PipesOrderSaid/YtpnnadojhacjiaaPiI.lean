/- Pipes, part I: Ask. -/
import Derived.Test.YtpnnadojhacjiaaPiH
namespace Go.Proofs.Ytpnnadojhacjiaa
open Go Go.Sx
set_option maxRecDepth 100000
set_option maxHeartbeats 4000000
set_option linter.unusedVariables false
set_option linter.unusedSimpArgs false

def Pipe.ask (p : Pipe) (r : Req) : Pipe × List An × Int :=
  if !p.valid || !r.proper then (.zero, [], 1)
  else if iGt r.data.length 64 then (.zero, [], 6)
  else if iGe (index p r.task) 0 then (.zero, [], 12)
  else (({ p with wait := p.wait ++ [r] } : Pipe).settle.1, ({ p with wait := p.wait ++ [r] } : Pipe).settle.2, 0)

theorem zero_end {w0 : World} {F : Fx} (n : Int) : ∃ F', Ent F F' ∧ RelPA (.zero, [], n) (.tuple #[.agg ⟨[.slice none 0 0, .int .i64 0, .int .i64 0, .slice none 0 0]⟩, .slice none 0 0, .int .i64 n]) F' :=
  ⟨⟨fun w => PH.nil.By Pipe.zero w ∧ AnAt w Hd.nil [], []⟩, Ent.bare fun w _ => ⟨PH.nil_by w, rfl, fun _ h => by cases h⟩, PH.nil, Hd.nil, [], rfl, PH.nil_ok, Hd.nil_ok, rfl, (fun _ h => by cases h), rfl⟩

theorem reqCells_snoc (l : List (Req × Hd)) (r : Req) (k : Hd) : reqCells (l ++ [(r, k)]) = reqCells l ++ r.cells k := by simp [reqCells]

theorem ask_spec (p : Pipe) (h : PH) (hh : h.Ok p) (hf : p.Few) (hw : p.wait.length < 100000) (r : Req) (k : Hd) (hk : k.Ok r.data.length) (hr : r.data.length ≤ 100000) :
    PureSpec Try.prog 18 [.agg ⟨h.cells p⟩, .agg ⟨r.cells k⟩] (fun w => h.By p w ∧ By w k r.data) (RelPA (p.ask r)) := by
  refine PureSpec.of_xc tabOk Try.func18 rfl (by decide) (n := Try.f18.ntmps - 2) rfl rfl fun w0 av => ?_
  conv => whnf
  intro b1
  conv => whnf
  intro b2
  conv => whnf
  intro b3
  conv => whnf
  refine XCall.val (valid_spec p h hh hf) (fun _ h => h.1) (fun v D hv => ?_)
  subst hv
  conv => whnf
  have hlen0 : h.l.length = p.wait.length := by rw [← hh.l]; simp
  refine XIf.split (fun hv => ?_) (fun hv => ?_)
  · conv => whnf
    repeat (refine XSame.of ?_; conv => whnf)
    have e : p.ask r = (.zero, [], 1) := by simp only [Pipe.ask, hv, Bool.true_or, if_true]
    rw [e]
    exact zero_end (w0 := w0) 1
  conv => whnf
  refine XCall.val (proper_spec r k) (fun _ _ => trivial) (fun v D hv => ?_)
  subst hv
  conv => whnf
  repeat (refine XSame.of ?_; conv => whnf)
  refine XIf.split (fun hq => ?_) (fun hq => ?_)
  · conv => whnf
    have e : p.ask r = (.zero, [], 1) := by
      have : (!r.proper) = true := by simpa using hq
      simp only [Pipe.ask, this, Bool.or_true, if_true]
    rw [e]
    exact zero_end (w0 := w0) 1
  conv => whnf
  have hv' : p.valid = true := by simpa using hv
  have hq' : r.proper = true := by simpa using hq
  have e1 : (!p.valid || !r.proper) = false := by rw [hv', hq']; rfl
  refine XIf.split (fun hg => ?_) (fun hg => ?_)
  · conv => whnf
    have e : p.ask r = (.zero, [], 6) := by simp only [Pipe.ask, e1, hg, if_true, if_false, Bool.false_eq_true]
    rw [e]
    exact zero_end (w0 := w0) 6
  conv => whnf
  refine XCall.val (index' p h hh hf r.task) (fun _ h => h.1) (fun v D hv => ?_)
  subst hv
  conv => whnf
  refine XIf.split (fun hi => ?_) (fun hi => ?_)
  · conv => whnf
    have e : p.ask r = (.zero, [], 12) := by simp only [Pipe.ask, e1, hg, hi, if_true, if_false, Bool.false_eq_true]
    rw [e]
    exact zero_end (w0 := w0) 12
  conv => whnf
  have e : p.ask r = (({ p with wait := p.wait ++ [r] } : Pipe).settle.1, ({ p with wait := p.wait ++ [r] } : Pipe).settle.2, 0) := by simp only [Pipe.ask, e1, hg, hi, if_false, Bool.false_eq_true]
  rw [e]
  have hpr := valid_proper hv'
  refine XCall.pure (clone_spec p h hh hf) (fun w h => h.1) ?_
  rintro v F ⟨o, rfl, ho, rfl⟩
  have hlen : o.l.length = p.wait.length := by rw [← ho.l]; simp
  conv => whnf
  intro b4
  conv => whnf
  refine XCall.pure (cloneB_spec k r.data hk (by omega)) (fun w h => h.1.2) ?_
  rintro v F ⟨a2, cp2, C2, rfl, hO2, rfl⟩
  conv => whnf
  refine XVal.build tabOk (t := 26) rfl rfl rfl [.agg ⟨r.cells ⟨a2, cp2⟩⟩] rfl rfl (by simp [Value.cells, Req.cells]) (by decide) fun b5 => ?_
  conv => whnf
  refine XVal.ent (F' := ⟨fun w => o.D w, orow o.ba o.bC ++ orow o.wa o.wC ++ (orow a2 C2 ++ [(b5, Row.c (r.cells ⟨a2, cp2⟩))])⟩) (Ent.of_le ⟨by simp [Fx.and, OP.rs, Value.cells], fun w h => h.1.2⟩) ?_
  refine XVal.append tabOk (t := 26) (xt := 26) rfl rfl rfl rfl rfl rfl (r1 := orow o.ba o.bC) (r2 := orow a2 C2 ++ [(b5, Row.c (r.cells ⟨a2, cp2⟩))]) (M := r.cells ⟨a2, cp2⟩) ho.w (Sees.row (by simp)) rfl (req_one _ _) (by omega) (by simp; omega) fun wa' wc' wC' hOw => ?_
  conv => whnf
  have hOq : (⟨o.ba, o.bc, o.bC, wa', wc', wC', o.l ++ [(r, ⟨a2, cp2⟩)]⟩ : OP).Ok { p with wait := p.wait ++ [r] } := by
    refine ⟨ho.b, ?_, by dsimp only; rw [List.map_append, ho.l]; rfl, fun q hq2 => ?_⟩
    · dsimp only
      rw [List.length_append, reqCells_snoc]
      exact hOw
    · rcases List.mem_append.1 hq2 with hq2 | hq2
      · exact ho.d q hq2
      · obtain rfl := List.mem_singleton.1 hq2
        exact ⟨hO2.none_nil, hO2.fit⟩
  have s1 : Ent ⟨fun w => o.D w, orow o.ba o.bC ++ orow wa' wC' ++ (orow a2 C2 ++ [(b5, Row.c (r.cells ⟨a2, cp2⟩))])⟩ ⟨fun w => o.D w, (orow o.ba o.bC ++ orow wa' wC') ++ orow a2 C2 ++ []⟩ := by
    refine Ent.of_le ⟨?_, fun w h => h⟩
    simp only [List.append_nil]
    exact List.Sublist.append (List.Sublist.refl _) (List.sublist_append_left _ _)
  have s2 := Own.share (r1 := orow o.ba o.bC ++ orow wa' wC') (r2 := []) hO2 (D := fun w => o.D w)
  refine XCall.ent (F' := ⟨fun w => (⟨o.ba, o.bc, o.bC, wa', wc', wC', o.l ++ [(r, ⟨a2, cp2⟩)]⟩ : OP).D w, [] ++ (⟨o.ba, o.bc, o.bC, wa', wc', wC', o.l ++ [(r, ⟨a2, cp2⟩)]⟩ : OP).rs ++ []⟩) (s1.trans (s2.trans (Ent.of_le ⟨by simp [OP.rs], fun w hw2 q hq2 => ?_⟩))) ?_
  · rcases List.mem_append.1 hq2 with hq2 | hq2
    · exact hw2.1 q hq2
    · obtain rfl := List.mem_singleton.1 hq2
      exact hw2.2
  have hset := settle_spec { p with wait := p.wait ++ [r] } ⟨o.ba, o.bc, o.bC, wa', wc', wC', o.l ++ [(r, ⟨a2, cp2⟩)]⟩ hOq ⟨hf.b, by simp; omega, fun x hx => ?_⟩ (fun x hx => ?_)
  rotate_left
  · rcases List.mem_append.1 hx with hx | hx
    · exact hf.d x hx
    · obtain rfl := List.mem_singleton.1 hx
      exact hr
  · rcases List.mem_append.1 hx with hx | hx
    · exact hpr x hx
    · obtain rfl := List.mem_singleton.1 hx
      exact hq'
  unfold OP.cells at hset
  simp only [List.length_append, List.length_singleton] at hset
  refine XCall.rows hset (fun w h => h) ?_
  rintro v F ⟨o', ka, la, rfl, ho', hka, hla, hoa, rfl⟩
  conv => whnf
  refine ⟨⟨fun w => o'.ph.By _ w ∧ AnAt w ka la, []⟩, ?_, o'.ph, ka, la, rfl, OP.phOk ho', hka, hla, hoa, rfl⟩
  have hs := OP.share ho' (D := fun w => (⟨o.ba, o.bc, o.bC, wa', wc', wC', o.l ++ [(r, ⟨a2, cp2⟩)]⟩ : OP).D w ∧ o'.D w ∧ AnAt w ka la) (fun w h => h.2.1)
  simp only [List.nil_append, List.append_nil]
  exact hs.trans (Ent.imp fun w h => ⟨h.2, h.1.2.2⟩)

end Go.Proofs.Ytpnnadojhacjiaa
