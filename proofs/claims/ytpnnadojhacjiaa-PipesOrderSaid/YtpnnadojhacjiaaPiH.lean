/- Pipes, part H: Open, Close. -/
import Derived.Test.YtpnnadojhacjiaaPiG
namespace Go.Proofs.Ytpnnadojhacjiaa
open Go Go.Sx
set_option maxRecDepth 100000
set_option maxHeartbeats 4000000
set_option linter.unusedVariables false
set_option linter.unusedSimpArgs false

def Pipe.zero : Pipe := ⟨[], 0, 0, []⟩
def PH.nil : PH := ⟨Hd.nil, Hd.nil, []⟩

theorem PH.nil_ok : PH.nil.Ok Pipe.zero := ⟨Hd.nil_ok, Hd.nil_ok, rfl, fun _ h => by cases h⟩
theorem PH.nil_by (w : World) : PH.nil.By Pipe.zero w := ⟨By.nil w, rfl, fun _ h => by cases h⟩

/-- A pipe and a number. -/
def RelPE (r : Pipe × Int) (v : Value) (F : Fx) : Prop := ∃ h : PH, v = .tuple #[.agg ⟨h.cells r.1⟩, .int .i64 r.2] ∧ h.Ok r.1 ∧ F = ⟨h.By r.1, []⟩

/-- A pipe, answers and a number. -/
def RelPA (r : Pipe × List An × Int) (v : Value) (F : Fx) : Prop :=
  ∃ (h : PH) (ka : Hd) (la : List (An × Hd)), v = .tuple #[.agg ⟨h.cells r.1⟩, ka.v la.length, .int .i64 r.2.2] ∧ h.Ok r.1 ∧ ka.Ok la.length ∧ la.map (·.1) = r.2.1 ∧ AnOk la ∧ F = ⟨fun w => h.By r.1 w ∧ AnAt w ka la, []⟩

theorem OP.share {o : OP} {p : Pipe} (ho : o.Ok p) {D : World → Prop} (hD : ∀ w, D w → o.D w) : Ent ⟨D, o.rs⟩ ⟨fun w => D w ∧ o.ph.By p w, []⟩ := by
  have h1 := Own.share (r1 := []) (r2 := orow o.wa o.wC) ho.b (D := D)
  have h2 := Own.share (r1 := []) (r2 := []) ho.w (D := fun w => D w ∧ RowAt w o.ba (p.buf.map byteV))
  simp only [List.nil_append, List.append_nil] at h1 h2
  exact h1.trans (h2.trans (Ent.imp fun w h => ⟨h.1.1, h.1.2, h.2, hD w h.1.1⟩))

theorem OP.done {o : OP} {p : Pipe} (ho : o.Ok p) {F : Fx} (hF : F.rs = o.rs) (hD : ∀ w, F.D w → o.D w) : Ent F ⟨o.ph.By p, []⟩ := by
  obtain ⟨D, rs⟩ := F
  dsimp only at hF hD
  subst hF
  exact (OP.share ho hD).trans (Ent.imp fun w h => h.2)

theorem okReqs_proper : ∀ {l : List Req} {ks : List Int}, okReqs ks l = true → ∀ r ∈ l, r.proper = true
  | [], _, _, r, hr => by cases hr
  | x :: l, ks, h, r, hr => by
    simp only [okReqs, Bool.and_eq_true] at h
    rcases List.mem_cons.1 hr with rfl | hr
    · exact h.1.1.1
    · exact okReqs_proper h.2 r hr

theorem valid_proper {p : Pipe} (h : p.valid = true) : ∀ r ∈ p.wait, r.proper = true := by
  simp only [Pipe.valid, Bool.and_eq_true] at h
  exact okReqs_proper h.1.1.2

theorem valid_ends {p : Pipe} (h : p.valid = true) : 0 ≤ p.rd ∧ p.rd ≤ 1000 ∧ 0 ≤ p.wr ∧ p.wr ≤ 1000 := by
  simp [Pipe.valid, iLe_eq, iGe_eq] at h
  omega

def Pipe.open (p : Pipe) (t : Bool) : Pipe × Int :=
  if !p.valid then (.zero, 1)
  else if t then (if iEq p.wr 1000 then (.zero, 6) else ({ p with wr := p.wr + 1 }, 0))
  else (if iEq p.rd 1000 then (.zero, 6) else ({ p with rd := p.rd + 1 }, 0))

theorem open_spec (p : Pipe) (h : PH) (hh : h.Ok p) (hf : p.Few) (t : Bool) : PureSpec Try.prog 22 [.agg ⟨h.cells p⟩, .bool t] (h.By p) (RelPE (p.open t)) := by
  refine PureSpec.of_xc tabOk Try.func22 rfl (by decide) (n := Try.f22.ntmps - 2) rfl rfl fun w0 av => ?_
  conv => whnf
  intro b1
  conv => whnf
  intro b2
  conv => whnf
  refine XCall.val (valid_spec p h hh hf) (fun _ h => h) (fun v D hv => ?_)
  subst hv
  conv => whnf
  refine XIf.split (fun hv => ?_) (fun hv => ?_)
  · conv => whnf
    have e : p.open t = (.zero, 1) := by simp only [Pipe.open, hv, if_true]
    rw [e]
    exact ⟨⟨PH.nil.By Pipe.zero, []⟩, Ent.imp fun w _ => PH.nil_by w, PH.nil, rfl, PH.nil_ok, rfl⟩
  have hv' : p.valid = true := by simpa using hv
  have hends := valid_ends hv'
  conv => whnf
  refine XCall.pure (clone_spec p h hh hf) (fun w h => h) ?_
  rintro v F ⟨o, rfl, ho, rfl⟩
  conv => whnf
  intro b3
  conv => whnf
  refine XIf.split (fun ht => ?_) (fun ht => ?_)
  all_goals
    conv => whnf
    refine XIf.split (fun hc => ?_) (fun hc => ?_)
    · conv => whnf
      have e : p.open t = (.zero, 6) := by simp only [Pipe.open, hv, ht, hc, if_true, if_false, Bool.false_eq_true]
      rw [e]
      exact ⟨⟨PH.nil.By Pipe.zero, []⟩, Ent.bare fun w _ => PH.nil_by w, PH.nil, rfl, PH.nil_ok, rfl⟩
    · conv => whnf
      rw [wrap_i64 (by omega)]
      have e := show p.open t = p.open t from rfl
      conv at e => rhs; simp only [Pipe.open, hv, ht, hc, if_true, if_false, Bool.false_eq_true]
      rw [e]
      refine ⟨_, ?_, o.ph, rfl, ?_, rfl⟩
      · refine OP.done (o := o) ?_ ?_ ?_
        · exact ⟨ho.b, ho.w, ho.l, ho.d⟩
        · simp [Fx.and]
        · exact fun w h => h.2
      · exact OP.phOk ⟨ho.b, ho.w, ho.l, ho.d⟩

def Pipe.close (p : Pipe) (t : Bool) : Pipe × List An × Int :=
  if !p.valid then (.zero, [], 1)
  else if t then (if iEq p.wr 0 then (.zero, [], 7) else (({ p with wr := p.wr - 1 } : Pipe).settle.1, ({ p with wr := p.wr - 1 } : Pipe).settle.2, 0))
  else (if iEq p.rd 0 then (.zero, [], 7) else (({ p with rd := p.rd - 1 } : Pipe).settle.1, ({ p with rd := p.rd - 1 } : Pipe).settle.2, 0))

theorem close_spec (p : Pipe) (h : PH) (hh : h.Ok p) (hf : p.Few) (t : Bool) : PureSpec Try.prog 17 [.agg ⟨h.cells p⟩, .bool t] (h.By p) (RelPA (p.close t)) := by
  refine PureSpec.of_xc tabOk Try.func17 rfl (by decide) (n := Try.f17.ntmps - 2) rfl rfl fun w0 av => ?_
  conv => whnf
  intro b1
  conv => whnf
  intro b2
  conv => whnf
  refine XCall.val (valid_spec p h hh hf) (fun _ h => h) (fun v D hv => ?_)
  subst hv
  conv => whnf
  refine XIf.split (fun hv => ?_) (fun hv => ?_)
  · conv => whnf
    have e : p.close t = (.zero, [], 1) := by simp only [Pipe.close, hv, if_true]
    rw [e]
    exact ⟨⟨fun w => PH.nil.By Pipe.zero w ∧ AnAt w Hd.nil [], []⟩, Ent.imp fun w _ => ⟨PH.nil_by w, rfl, fun _ h => by cases h⟩, PH.nil, Hd.nil, [], rfl, PH.nil_ok, Hd.nil_ok, rfl, (fun _ h => by cases h), rfl⟩
  have hv' : p.valid = true := by simpa using hv
  have hends := valid_ends hv'
  have hpr := valid_proper hv'
  conv => whnf
  refine XCall.pure (clone_spec p h hh hf) (fun w h => h) ?_
  rintro v F ⟨o, rfl, ho, rfl⟩
  conv => whnf
  intro b3
  conv => whnf
  refine XIf.split (fun ht => ?_) (fun ht => ?_)
  all_goals
    conv => whnf
    refine XIf.split (fun hc => ?_) (fun hc => ?_)
    · conv => whnf
      have e : p.close t = (.zero, [], 7) := by simp only [Pipe.close, hv, ht, hc, if_true, if_false, Bool.false_eq_true]
      rw [e]
      exact ⟨⟨fun w => PH.nil.By Pipe.zero w ∧ AnAt w Hd.nil [], []⟩, Ent.bare fun w _ => ⟨PH.nil_by w, rfl, fun _ h => by cases h⟩, PH.nil, Hd.nil, [], rfl, PH.nil_ok, Hd.nil_ok, rfl, (fun _ h => by cases h), rfl⟩
    · conv => whnf
      rw [wrap_i64 (by omega)]
      have e := show p.close t = p.close t from rfl
      conv at e => rhs; simp only [Pipe.close, hv, ht, hc, if_true, if_false, Bool.false_eq_true]
      rw [e]
      refine XCall.ent (F' := ⟨fun w => o.D w, [] ++ o.rs ++ []⟩) (Ent.of_le ⟨by simp [Fx.and], fun w h => h.2⟩) ?_
      first
        | refine XCall.rows (settle_spec { p with wr := p.wr - 1 } o ⟨ho.b, ho.w, ho.l, ho.d⟩ ⟨hf.b, hf.w, hf.d⟩ hpr) (fun w h => h) ?_
        | refine XCall.rows (settle_spec { p with rd := p.rd - 1 } o ⟨ho.b, ho.w, ho.l, ho.d⟩ ⟨hf.b, hf.w, hf.d⟩ hpr) (fun w h => h) ?_
      rintro v F ⟨o', ka, la, rfl, ho', hka, hla, hoa, rfl⟩
      conv => whnf
      refine ⟨⟨fun w => o'.ph.By _ w ∧ AnAt w ka la, []⟩, ?_, o'.ph, ka, la, rfl, OP.phOk ho', hka, hla, hoa, rfl⟩
      have hs := OP.share ho' (D := fun w => o.D w ∧ o'.D w ∧ AnAt w ka la) (fun w h => h.2.1)
      simp only [List.nil_append, List.append_nil]
      exact hs.trans (Ent.imp fun w h => ⟨h.2, h.1.2.2⟩)

end Go.Proofs.Ytpnnadojhacjiaa
