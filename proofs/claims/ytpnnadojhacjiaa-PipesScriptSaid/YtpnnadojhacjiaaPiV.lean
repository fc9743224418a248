/- Pipes, part V: the reference's functions, second half. -/
import Derived.Test.YtpnnadojhacjiaaPiU
namespace Go.Proofs.Ytpnnadojhacjiaa
open Go Go.Sx
set_option maxRecDepth 100000
set_option maxHeartbeats 4000000
set_option linter.unusedVariables false
set_option linter.unusedSimpArgs false

theorem ready_step {q : Pipe} (hs : q.Sane) (h : iGe q.ready 0 = true) : ∃ k : Nat, q.ready = (k : Int) ∧ k < q.wait.length ∧ (q.proceed k).1.Sane ∧ (q.proceed k).1.wait.length + 1 = q.wait.length ∧
    ∀ l, settleN q.wait.length q l = settleN (q.proceed k).1.wait.length (q.proceed k).1 (l ++ [(q.proceed k).2]) := by
  have h' : 0 ≤ q.ready := by simpa [iGe_eq] using h
  unfold Pipe.ready at h'
  split at h'
  · rename_i hr
    obtain ⟨k, hk, hl⟩ := reads_idx hr
    have e := proceed_read hk hl
    have hlen := read_len hr
    refine ⟨k, by simp [Pipe.ready, hr, hk], hl, by rw [e]; exact read_sane hs, by rw [e]; exact hlen, fun l => ?_⟩
    rw [e, ← hlen]
    conv => lhs; unfold settleN
    rw [if_pos hr]
  · rename_i hr
    split at h'
    · rename_i hw
      obtain ⟨k, hk, hl⟩ := writes_idx hw
      have e := proceed_write hk hl
      have hlen := write_len hw
      refine ⟨k, by simp [Pipe.ready, hr, hw, hk], hl, by rw [e]; exact write_sane hs hw, by rw [e]; exact hlen, fun l => ?_⟩
      rw [e, ← hlen]
      conv => lhs; unfold settleN
      rw [if_neg hr, if_pos hw]
    · omega

theorem ready_done {q : Pipe} (h : iGe q.ready 0 = false) : q.reads = false ∧ q.writes = false := by
  have h' : ¬ 0 ≤ q.ready := by simpa [iGe_eq] using h
  unfold Pipe.ready at h'
  split at h'
  · rename_i hr
    obtain ⟨k, hk, _⟩ := reads_idx hr
    omega
  · rename_i hr
    split at h'
    · rename_i hw
      obtain ⟨k, hk, _⟩ := writes_idx hw
      omega
    · rename_i hw
      exact ⟨by simpa using hr, by simpa using hw⟩

/-- A pipe and answers are handed back. -/
def RelPS (r : Pipe × List An) (v : Value) (F : Fx) : Prop :=
  ∃ (h : PH) (ka : Hd) (la : List (An × Hd)), v = .tuple #[.agg ⟨h.cells r.1⟩, ka.v la.length] ∧ h.Ok r.1 ∧ ka.Ok la.length ∧ la.map (·.1) = r.2 ∧ AnOk la ∧ F = ⟨fun w => h.By r.1 w ∧ AnAt w ka la, []⟩

theorem refSettle_spec (p : Pipe) (h : PH) (hh : h.Ok p) (hs : p.Sane) (hw : p.wait.length ≤ 1000) : PureSpec Try.prog 38 [.agg ⟨h.cells p⟩] (h.By p) (RelPS p.settle) := by
  refine PureSpec.of_xc tabOk Try.func38 rfl (by decide) (n := Try.f38.ntmps - 1) rfl rfl fun w0 av => ?_
  conv => whnf
  intro b1
  conv => whnf
  intro b2
  conv => whnf
  refine XStop.loop tabOk (ι := Pipe × PH × List (An × Hd) × Option Addr × Nat × List Value) ([4] ++ List.range' 5 15)
    (fun x => x.1.Sane ∧ x.2.1.Ok x.1 ∧ x.2.2.1.length + x.1.wait.length = p.wait.length ∧ settleN x.1.wait.length x.1 (x.2.2.1.map (·.1)) = p.settle ∧ AnOk x.2.2.1 ∧ Own 3 x.2.2.1.length x.2.2.2.1 x.2.2.2.2.1 x.2.2.2.2.2 (anCells x.2.2.1))
    (fun x => [(4, .v (.slice x.2.2.2.1 x.2.2.1.length x.2.2.2.2.1))]) (fun x => [x.2.1.cells x.1, [.slice none 0 0, .int .i64 0, .int .i64 0, .slice none 0 0]])
    (fun x => ⟨fun w => x.2.1.By x.1 w ∧ ∀ q ∈ x.2.2.1, By w q.2 q.1.data, orow x.2.2.2.1 x.2.2.2.2.2⟩)
    (fun x => x.1.wait.length) (p, h, [], none, 0, []) ⟨hs, hh, by simp, rfl, (fun q h => by simp at h), Own.nil 3⟩ ?_ rfl (Ent.of_le ⟨by simp [orow], fun w hw => ⟨hw, fun q h => by simp at h⟩⟩) fun x hx => ?_
  · conv => whnf
    repeat (first | exact FLe.nil | refine FLe.any ?_ | refine FLe.cons ?_)
  obtain ⟨q, hq, la, a, c, C⟩ := x
  obtain ⟨hqs, hqo, hln, hse, hao, hO⟩ := hx
  dsimp only at hqs hqo hln hse hao hO ⊢
  have hqf : q.Few := hqs.few (n := 1000) (by omega) (by omega)
  have hpr : ∀ r ∈ q.wait, r.proper = true := fun r hr => ((okReqs_iff.1 hqs.ok).1 r hr).1
  conv => whnf
  refine XCall.val (refReady_spec q hq hqo hqf) (fun w hw => hw.1) (fun v D hv => ?_)
  subst hv
  conv => whnf
  refine XIf.split (fun hc => ?_) (fun hc => ?_)
  · obtain ⟨k, hk, hkl, hks, hkw, hke⟩ := ready_step hqs hc
    have sp := refProceed_spec q hq hqo hqf hpr k hkl
    rw [hke] at hse
    generalize q.proceed k = q1 at *
    conv => whnf
    intro b3
    conv => whnf
    have hsr := refReady_spec q hq hqo hqf
    rw [hk] at hsr
    refine XStop.draw tabOk mixed rfl rfl ?_
    conv => whnf
    repeat' (first
      | (refine And.intro ?_ ?_ <;> conv => whnf)
      | (refine XHeld.same rfl ?_; conv => whnf)
      | (refine XHeld.row rfl ?_; conv => whnf)
      | (refine XHeld.call rfl ?_; conv => whnf)
      | (refine XKeep.of ?_; conv => whnf)
      | (refine XSame.of ?_; conv => whnf)
      | (refine XCall.val hsr (fun w hw => hw.1) (fun v D hv => ?_); subst hv; conv => whnf)
      | (refine XCall.pure sp (fun w hw => hw.1) ?_; rintro v F ⟨h2, k2, rfl, hh2, hk2, rfl⟩; conv => whnf)
      | (refine XHeld.mk ?_ ?_ ?_; (focus ((conv => whnf); (first | exact trivial | exact ⟨⟨rfl, rfl⟩, trivial⟩ | exact ⟨⟨rfl, rfl⟩, ⟨rfl, rfl⟩, trivial⟩ | exact ⟨⟨rfl, rfl⟩, ⟨rfl, rfl⟩, ⟨rfl, rfl⟩, trivial⟩ | exact ⟨⟨rfl, rfl⟩, ⟨rfl, rfl⟩, ⟨rfl, rfl⟩, ⟨rfl, rfl⟩, trivial⟩ | exact ⟨⟨rfl, rfl⟩, ⟨rfl, rfl⟩, ⟨rfl, rfl⟩, ⟨rfl, rfl⟩, ⟨rfl, rfl⟩, trivial⟩ | exact ⟨⟨rfl, rfl⟩, ⟨rfl, rfl⟩, ⟨rfl, rfl⟩, ⟨rfl, rfl⟩, ⟨rfl, rfl⟩, ⟨rfl, rfl⟩, trivial⟩ | exact ⟨⟨rfl, rfl⟩, ⟨rfl, rfl⟩, ⟨rfl, rfl⟩, ⟨rfl, rfl⟩, ⟨rfl, rfl⟩, ⟨rfl, rfl⟩, ⟨rfl, rfl⟩, trivial⟩ | exact ⟨⟨rfl, rfl⟩, ⟨rfl, rfl⟩, ⟨rfl, rfl⟩, ⟨rfl, rfl⟩, ⟨rfl, rfl⟩, ⟨rfl, rfl⟩, ⟨rfl, rfl⟩, ⟨rfl, rfl⟩, trivial⟩))); (focus (first | exact Ent.refl _ | exact Ent.left _ _ | exact Ent.of_le ⟨List.sublist_append_left _ _, fun w h => h⟩ | exact Ent.of_le ⟨List.Sublist.refl _, fun w h => h.1⟩)); conv => whnf))
    refine XVal.build tabOk (t := 40) rfl rfl rfl [.agg ⟨q1.2.cells k2⟩] rfl rfl (by simp [Value.cells, An.cells]) (by decide) fun b4 => ?_
    conv => whnf
    refine XVal.ent (F' := ⟨fun w => (hq.By q w ∧ ∀ q ∈ la, By w q.2 q.1.data) ∧ h2.By q1.1 w ∧ By w k2 q1.2.data, [] ++ orow a C ++ [(b4, Row.c (q1.2.cells k2))]⟩) Ent.mid ?_
    refine XVal.append tabOk (t := 40) (xt := 40) rfl rfl rfl rfl rfl rfl (r1 := []) (r2 := [(b4, Row.c (q1.2.cells k2))]) (M := q1.2.cells k2) hO (Sees.row (by simp)) rfl (an_one _ _) (by omega) (by simp; omega) fun a' c' C' hO' => ?_
    conv => whnf
    refine ⟨(q1.1, h2, la ++ [(q1.2, k2)], a', c', C'), ⟨⟨hks, hh2, by simp; omega, by simpa using hse, fun x hx => ?_, by simpa [anCells_snoc] using hO'⟩, by dsimp only; omega⟩, ?_, ?_, ?_⟩
    · rcases List.mem_append.1 hx with hx | hx
      · exact hao x hx
      · obtain rfl := List.mem_singleton.1 hx
        exact hk2
    · conv => whnf
      refine ⟨?_, rfl⟩
      repeat (first | exact FLe.nil | refine FLe.any ?_ | refine FLe.cons ?_ | refine FLe.eq (by rw [wrap_i64 (by omega)]; rfl) ?_ | refine FLe.eq (by simp) ?_)
    · conv => whnf
      exact ⟨⟨rfl, rfl⟩, ⟨rfl, rfl⟩, trivial⟩
    · refine Ent.of_le ⟨by simp, fun w hw => ⟨hw.2.1, fun x hx => ?_⟩⟩
      rcases List.mem_append.1 hx with hx | hx
      · exact hw.1.2 x hx
      · obtain rfl := List.mem_singleton.1 hx
        exact hw.2.2
  · conv => whnf
    obtain ⟨h1, h2⟩ := ready_done hc
    rw [settleN_done h1 h2] at hse
    rw [← hse]
    exact ⟨_, Ent.trans (Own.gives hO) (Ent.bare fun w hw => ⟨hw.1.1, hw.2, hw.1.2⟩), hq, ⟨a, c⟩, la, rfl, hqo, ⟨fun ha => hO.none_nil ha, hO.fit⟩, rfl, hao, rfl⟩

end Go.Proofs.Ytpnnadojhacjiaa
