/- Serial, part AE: the law SerialOnce. -/
import Derived.Test.YtcmgioaggmaclaaSfD
namespace Go.Proofs.Ytcmgioaggmaclaa
open Go Go.Sx
set_option maxRecDepth 100000
set_option maxHeartbeats 4000000
set_option linter.unusedVariables false
set_option linter.unusedSimpArgs false

theorem ansOf_data {l : List Ans} {t : Int} (h : ∀ a ∈ l, a.data.length ≤ 1000000) : (ansOf l t).1.data.length ≤ 1000000 := by
  unfold ansOf
  split
  · rename_i a ha
    exact h a (List.mem_of_find?_eq_some ha)
  · simp [Ans.zero]

theorem lawOnce_spec (s : S) (lo li : Int) (h : SH) (hh : h.Ok s) (c : Cmd) (k : Hd) (hk : k.Ok c.data.length) (o : Cmd) (m : Hd) (hm : m.Ok o.data.length) :
    PureSpec Try.prog 8 [.agg ⟨s.rcells lo li h⟩, .agg ⟨c.cells k⟩, .agg ⟨o.cells m⟩] (fun w => (h.By s w ∧ By w k c.data) ∧ By w m o.data) (fun v F => v = .bool true) := by
  refine PureSpec.of_xc tabOk Try.func8 rfl (by decide) (n := Try.f8.ntmps - 3) rfl rfl fun w0 av => ?_
  conv => whnf
  intro b1
  conv => whnf
  intro b2
  conv => whnf
  intro b3
  conv => whnf
  refine XCall.val awake_spec (fun _ _ => trivial) (fun v D hv => ?_)
  subst hv
  conv => whnf
  refine XCall.val (lfew_spec s lo li h c k) (fun _ _ => trivial) (fun v D hv => ?_)
  subst hv
  conv => whnf
  repeat (refine XSame.of ?_; conv => whnf)
  refine XIf.split (fun hc => ?_) (fun hc => ?_)
  · conv => whnf
    refine XCall.val awake_spec (fun _ _ => trivial) (fun v D hv => ?_)
    subst hv
    conv => whnf
    exact ⟨_, Ent.refl _, rfl⟩
  have hfw : s.fw = true ∧ lo = 0 ∧ li = 0 ∧ c.data.length ≤ 300 ∧ o.data.length ≤ 300 := by
    simp [S.lfew, iLe_eq, iGt_eq, iEq_eq] at hc
    refine ⟨hc.1.1.1.1, hc.1.1.2, hc.1.2, by omega, by omega⟩
  obtain ⟨hfw, rfl, rfl, hl, hlo⟩ := hfw
  have hf := fw_few hfw
  clear hc
  conv => whnf
  refine XStop.draw tabOk mixed rfl rfl ?_
  conv => whnf
  repeat' (first
    | (refine And.intro ?_ ?_ <;> conv => whnf)
    | (refine XSame.of ?_; conv => whnf)
    | (refine XHeld.same rfl ?_; conv => whnf)
    | (refine XKeep.of ?_; conv => whnf))
  refine XStop.draw tabOk mixed rfl rfl ?_
  conv => whnf
  have f1 := do_few hf (c := c) (by omega)
  have O : iNe (s.do c).2 0 = false → Once (s.do c).1 ⟨c.tag, c.op, o.place, o.data⟩ := fun he => once_law (by simpa [iNe_eq] using he) _ _
  have sp1 := do_spec s h hh hf c k hk (by omega)
  generalize s.do c = a at *
  repeat' (first
    | (refine And.intro ?_ ?_ <;> conv => whnf)
    | (refine XSame.of ?_; conv => whnf)
    | (refine XHeld.same rfl ?_; conv => whnf)
    | (refine XHeld.call rfl ?_; conv => whnf)
    | (refine XKeep.of ?_; conv => whnf)
    | (refine XCall.val (to_spec s 0 0 h) (fun _ _ => trivial) (fun v D hv => ?_); subst hv; conv => whnf)
    | (refine XCall.pure sp1 (fun w h => h.1) ?_; rintro v F ⟨h1, rfl, hh1, rfl⟩; conv => whnf)
    | (intro b4; conv => whnf))
  all_goals
    refine XIf.split (fun he => ?_) (fun he => ?_)
    · conv => whnf
      exact ⟨_, Ent.refl _, rfl⟩
    conv => whnf
    obtain ⟨o1, o2, o3, o4, o5⟩ := O he
    refine XCall.pure (do_spec a.1 h1 hh1 f1 ⟨c.tag, c.op, o.place, o.data⟩ m hm (by simp; omega)) (fun w h => ⟨h.2, h.1.2⟩) ?_
    have w1 : (a.1.do ⟨c.tag, c.op, o.place, o.data⟩).1 = a.1 := by rw [o1]
    have w2 : iNe (a.1.do ⟨c.tag, c.op, o.place, o.data⟩).2 0 = false := by rw [o1]; simp [iNe_eq]
    clear o1
    generalize a.1.do ⟨c.tag, c.op, o.place, o.data⟩ = bb at *
    rintro v F ⟨h2, rfl, hh2, rfl⟩
    conv => whnf
    intro b5
    conv => whnf
    refine XIf.no w2 ?_
    conv => whnf
    refine XCall.val (sequal_spec a.1 bb.1 h1 h2) (fun w h => ⟨h.1.2, h.2⟩) (fun v D hv => ?_)
    subst hv
    conv => whnf
    repeat (refine XSame.of ?_; conv => whnf)
    refine XIf.no (by rw [w1, S.equal_eq, S.same_self]; rfl) ?_
    conv => whnf
    refine XCall.pure (tick_spec a.1 h1 hh1 f1) (fun w h => h.1.2) ?_
    obtain ⟨f2, n2, _, dl2⟩ := tick_few f1
    have f3 := do_few f2 (c := ⟨c.tag, c.op, o.place, o.data⟩) (by simp; omega)
    generalize a.1.tick = t at *
    rintro v F ⟨h3, ka3, l3, k3, rfl, hh3, hka3, hl3, hok3, hk3, rfl⟩
    conv => whnf
    have g3 : t.2.1.length = l3.length := by rw [← hl3]; simp
    have as1 := answer_spec ka3 l3 c.tag (g3 ▸ hka3) (by omega) hok3
    rw [← g3, hl3] at as1
    refine XCall.pure as1 (fun w h => h.2.2.1) ?_
    have dx : (ansOf t.2.1 c.tag).1.data.length ≤ 1000000 := ansOf_data dl2
    dsimp only at o2 o3 o4 o5
    generalize ansOf t.2.1 c.tag = x at *
    rintro v F ⟨k4, rfl, hk4, rfl⟩
    conv => whnf
    intro b6
    conv => whnf
    refine XIf.split (fun hc => ?_) (fun hc => ?_)
    · conv => whnf
      refine ⟨_, Ent.refl _, ?_⟩
      simp [o2 (by simpa using hc), iEq_eq]
    conv => whnf
    have hx : x.2 = true := by simpa using hc
    have e3 := o3 hx
    have e4 := o4 hx
    have e5 := o5 hx
    refine XCall.pure (do_spec t.1 h3 hh3 f2 ⟨c.tag, c.op, o.place, o.data⟩ m hm (by simp; omega)) (fun w h => ⟨h.1.2.1, h.1.1.1.1.2⟩) ?_
    clear o2 o3 o4 o5
    generalize t.1.do ⟨c.tag, c.op, o.place, o.data⟩ = d at *
    rintro v F ⟨h5, rfl, hh5, rfl⟩
    conv => whnf
    intro b7
    conv => whnf
    refine XCall.pure (tick_spec d.1 h5 hh5 f3) (fun w h => h.2) ?_
    obtain ⟨f4, n4, _, dl4⟩ := tick_few f3
    generalize d.1.tick = u at *
    rintro v F ⟨h6, ka6, l6, k6, rfl, hh6, hka6, hl6, hok6, hk6, rfl⟩
    conv => whnf
    have g6 : u.2.1.length = l6.length := by rw [← hl6]; simp
    have as2 := answer_spec ka6 l6 c.tag (g6 ▸ hka6) (by omega) hok6
    rw [← g6, hl6] at as2
    refine XCall.pure as2 (fun w h => h.2.2.1) ?_
    generalize ansOf u.2.1 c.tag = y at *
    rintro v F ⟨k7, rfl, hk7, rfl⟩
    conv => whnf
    intro b8
    conv => whnf
    repeat (refine XSame.of ?_; conv => whnf)
    refine XIf.yes (by rw [e4]; simp [e3, hx, iEq_eq]) ?_
    conv => whnf
    refine XCall.val (sameAnswer_spec x.1 y.1 k4 k7 hk4 hk7 dx) (fun w h => ⟨h.1.1.1.2, h.2⟩) (fun v D hv => ?_)
    subst hv
    conv => whnf
    have es : x.1.same y.1 = true := by rw [e4]; exact Ans.same_self _
    have ot := f2.out
    repeat' (first
      | (refine XSame.of ?_; conv => whnf)
      | (refine XIf.yes es ?_; conv => whnf)
      | (refine XIf.yes (by rw [es]; rfl) ?_; conv => whnf)
      | (refine XCall.val (sameBytes_spec h3.out h6.out t.1.output u.1.output hh3.out hh6.out ot) (fun w h => ⟨h.1.1.1.1.2.1.out, h.1.2.1.out⟩) (fun v D hv => ?_); subst hv; conv => whnf)
      | (refine XIf.split (fun hq => ?_) (fun hq => ?_) <;> conv => whnf))
    · exact ⟨_, Ent.refl _, by simp⟩
    · exact ⟨_, Ent.refl _, by simp [e5 hq]⟩

end Go.Proofs.Ytcmgioaggmaclaa
