/- Pipes, part W: the reference's Valid, Open, Close, Ask, Drop, for a valid pipe. -/
import Derived.Test.YtpnnadojhacjiaaPiV
namespace Go.Proofs.Ytpnnadojhacjiaa
open Go Go.Sx
set_option maxRecDepth 100000
set_option maxHeartbeats 4000000
set_option linter.unusedVariables false
set_option linter.unusedSimpArgs false

theorem index_self {p : Pipe} (hs : p.Sane) {i : Nat} (hi : i < p.wait.length) : index p p.wait[i].task = (i : Int) := by
  rcases idx_range (fun r : Req => iEq r.task p.wait[i].task) p.wait 0 with h | ⟨k, hk, h3, h4, h5⟩
  · have := idx_some (q := fun r : Req => iEq r.task p.wait[i].task) (List.getElem_mem hi) (by simp [iEq_eq]) 0
    rw [h] at this
    omega
  · show idx _ _ _ = _
    rw [h3]
    have e : p.wait[k].task = p.wait[i].task := by simpa [iEq_eq] using h4
    have hnd := (okReqs_iff.1 hs.ok).2
    have : k = i := by
      rcases Nat.lt_trichotomy k i with h | h | h
      · exact absurd e (by
          have := List.pairwise_iff_getElem.1 hnd k i (by simpa using hk) (by simpa using hi) h
          simpa using this)
      · exact h
      · exact absurd e.symm (by
          have := List.pairwise_iff_getElem.1 hnd i k (by simpa using hi) (by simpa using hk) h
          simpa using this)
    rw [this]
    simp

theorem ready_none {p : Pipe} (h1 : p.reads = false) (h2 : p.writes = false) : p.ready = -1 := by simp [Pipe.ready, h1, h2]

theorem refValid_spec (p : Pipe) (h : PH) (hh : h.Ok p) (hv : p.valid = true) (hw : p.wait.length ≤ 1000) : PureSpec Try.prog 37 [.agg ⟨h.cells p⟩] (h.By p) (fun v F => v = .bool true) := by
  obtain ⟨hs, hr1, hr2⟩ := valid_iff.1 hv
  have hf : p.Few := hs.few hw (by omega)
  have hlen : h.l.length = p.wait.length := by rw [← hh.l]; simp
  have e1 := hs.buf
  have e2 := hs.rd0
  have e3 := hs.rd1
  have e4 := hs.wr0
  have e5 := hs.wr1
  have t1 : iGt (p.buf.length : Int) 64 = false := by simp [iGt_eq]; omega
  have t2 : iLt p.rd 0 = false := by simp [iLt_eq]; omega
  have t3 : iGt p.rd 1000 = false := by simp [iGt_eq]; omega
  have t4 : iLt p.wr 0 = false := by simp [iLt_eq]; omega
  have t5 : iGt p.wr 1000 = false := by simp [iGt_eq]; omega
  refine PureSpec.of_xc tabOk Try.func37 rfl (by decide) (n := Try.f37.ntmps - 1) rfl rfl fun w0 av => ?_
  conv => whnf
  intro b1
  conv => whnf
  repeat' (first
    | (refine XSame.of ?_; conv => whnf))
  refine XIf.split (fun hc => ?_) (fun hc => ?_)
  · simp [t1, t2, t3, t4, t5] at hc
  conv => whnf
  refine XStop.loop tabOk (ι := Nat) ([3, 4] ++ List.range' 29 29) (fun x => x ≤ h.l.length)
    (fun x => [(3, .v (.int .i64 (x : Int)))]) (fun _ => [h.cells p]) (fun _ => ⟨h.By p, []⟩)
    (fun x => h.l.length - x) 0 (Nat.zero_le _) ?_ rfl (Ent.refl _) fun i hi => ?_
  · conv => whnf
    repeat (first | exact FLe.nil | refine FLe.any ?_ | refine FLe.cons ?_)
  conv => whnf
  refine XIf.split (fun hlt => ?_) (fun hlt => ?_)
  · conv => whnf
    have hlt' : i < h.l.length := by
      have : (i : Int) < h.l.length := by simpa [iLt_eq] using hlt
      omega
    have hpw : p.wait[i]'(by omega) = h.l[i].1 := by
      have : p.wait[i]? = (h.l.map (·.1))[i]? := by rw [hh.l]
      simpa [hlt', show i < p.wait.length by omega] using this
    obtain ⟨hp1, _, hp3⟩ := (okReqs_iff.1 hs.ok).1 h.l[i].1 (by rw [← hpw]; exact List.getElem_mem _)
    have hidx : index p h.l[i].1.task = (i : Int) := by rw [← hpw]; exact index_self hs (by omega)
    refine XVal.of_read (XRead.index tabOk (t := 29) rfl rfl rfl (by omega) (by omega) hh.w.nil fun ad had => ?_)
    conv => whnf
    refine XVal.of_read (XRead.loads tabOk (t := 37) rfl rfl (ad := ad) (k := i * 4) (L := reqCells h.l) (fun w hst => had ▸ hst.now.r.1) rfl (reqCells_get h.l hlt') rfl ?_)
    conv => whnf
    intro b2
    conv => whnf
    refine XCall.val (refProper_spec h.l[i].1 h.l[i].2) (fun _ _ => trivial) (fun v D hv => ?_)
    subst hv
    conv => whnf
    refine XSame.of ?_
    conv => whnf
    refine XIf.no (by rw [hp1]; simp [iGt_eq]; omega) ?_
    conv => whnf
    refine XCall.val (refOf_spec p h hh hf h.l[i].1.task) (fun w hw => hw) (fun v D hv => ?_)
    subst hv
    rw [hidx]
    conv => whnf
    repeat' (first
      | (refine XSame.of ?_; conv => whnf))
    refine XIf.no (by simp [iNe_eq]) ?_
    conv => whnf
    refine ⟨i + 1, ⟨hlt', by dsimp only; omega⟩, ?_, ?_, Ent.refl _⟩
    · conv => whnf
      refine ⟨?_, rfl⟩
      repeat (first | exact FLe.nil | refine FLe.any ?_ | refine FLe.cons ?_ | refine FLe.eq (by rw [wrap_i64 (by omega)]; rfl) ?_)
    · conv => whnf
      exact ⟨⟨rfl, rfl⟩, trivial⟩
  · conv => whnf
    refine XCall.val (refReady_spec p h hh hf) (fun w hw => hw) (fun v D hv => ?_)
    subst hv
    rw [ready_none hr1 hr2]
    conv => whnf
    refine ⟨_, Ent.refl _, ?_⟩
    simp [iLt_eq]

theorem refOpen_spec (p : Pipe) (h : PH) (hh : h.Ok p) (hv : p.valid = true) (hw : p.wait.length ≤ 1000) (t : Bool) : PureSpec Try.prog 23 [.agg ⟨h.cells p⟩, .bool t] (h.By p) (RelPE (p.open t)) := by
  obtain ⟨hs, hr1, hr2⟩ := valid_iff.1 hv
  have e2 := hs.rd0
  have e3 := hs.rd1
  have e4 := hs.wr0
  have e5 := hs.wr1
  have hf : p.Few := hs.few hw (by omega)
  cases t with
  | true =>
    refine PureSpec.of_xc tabOk Try.func23 rfl (by decide) (n := Try.f23.ntmps - 2) rfl rfl fun w0 av => ?_
    conv => whnf
    intro b1
    conv => whnf
    intro b2
    conv => whnf
    refine XCall.val (refValid_spec p h hh hv hw) (fun w hw => hw) (fun v D hv => ?_)
    subst hv
    conv => whnf
    repeat' (first
      | (refine XSame.of ?_; conv => whnf)
      | (refine XIf.split (fun hc => ?_) (fun hc => ?_) <;> conv => whnf))
    · have hc' : iEq p.wr 1000 = true := by simpa using hc
      have e : p.open true = (.zero, 6) := by simp [Pipe.open, hv, hc']
      rw [e]
      exact ⟨⟨PH.nil.By Pipe.zero, []⟩, Ent.bare fun w _ => PH.nil_by w, PH.nil, rfl, PH.nil_ok, rfl⟩
    · have hc' : iEq p.wr 1000 = false := by simpa using hc
      have e : p.open true = ({ p with wr := p.wr + 1 }, 0) := by simp [Pipe.open, hv, hc']
      rw [e, wrap_i64 (by omega)]
      exact ⟨⟨h.By { p with wr := p.wr + 1 }, []⟩, Ent.bare fun w hw => ⟨hw.b, hw.r⟩, h, rfl, ⟨hh.b, hh.w, hh.l, hh.d⟩, rfl⟩
  | false =>
    refine PureSpec.of_xc tabOk Try.func23 rfl (by decide) (n := Try.f23.ntmps - 2) rfl rfl fun w0 av => ?_
    conv => whnf
    intro b1
    conv => whnf
    intro b2
    conv => whnf
    refine XCall.val (refValid_spec p h hh hv hw) (fun w hw => hw) (fun v D hv => ?_)
    subst hv
    conv => whnf
    repeat' (first
      | (refine XSame.of ?_; conv => whnf)
      | (refine XIf.split (fun hc => ?_) (fun hc => ?_) <;> conv => whnf))
    · have hc' : iEq p.rd 1000 = true := by simpa using hc
      have e : p.open false = (.zero, 6) := by simp [Pipe.open, hv, hc']
      rw [e]
      exact ⟨⟨PH.nil.By Pipe.zero, []⟩, Ent.bare fun w _ => PH.nil_by w, PH.nil, rfl, PH.nil_ok, rfl⟩
    · have hc' : iEq p.rd 1000 = false := by simpa using hc
      have e : p.open false = ({ p with rd := p.rd + 1 }, 0) := by simp [Pipe.open, hv, hc']
      rw [e, wrap_i64 (by omega)]
      exact ⟨⟨h.By { p with rd := p.rd + 1 }, []⟩, Ent.bare fun w hw => ⟨hw.b, hw.r⟩, h, rfl, ⟨hh.b, hh.w, hh.l, hh.d⟩, rfl⟩

theorem refClose_spec (p : Pipe) (h : PH) (hh : h.Ok p) (hv : p.valid = true) (hw : p.wait.length ≤ 1000) (t : Bool) : PureSpec Try.prog 24 [.agg ⟨h.cells p⟩, .bool t] (h.By p) (RelPA (p.close t)) := by
  obtain ⟨hs, hr1, hr2⟩ := valid_iff.1 hv
  have e2 := hs.rd0
  have e3 := hs.rd1
  have e4 := hs.wr0
  have e5 := hs.wr1
  cases t with
  | true =>
    refine PureSpec.of_xc tabOk Try.func24 rfl (by decide) (n := Try.f24.ntmps - 2) rfl rfl fun w0 av => ?_
    conv => whnf
    intro b1
    conv => whnf
    intro b2
    conv => whnf
    refine XCall.val (refValid_spec p h hh hv hw) (fun w hw => hw) (fun v D hv => ?_)
    subst hv
    conv => whnf
    repeat' (first
      | (refine XSame.of ?_; conv => whnf)
      | (refine XIf.split (fun hc => ?_) (fun hc => ?_) <;> conv => whnf))
    · have hc' : iEq p.wr 0 = true := by simpa using hc
      have e : p.close true = (.zero, [], 7) := by simp [Pipe.close, hv, hc']
      rw [e]
      exact zero_end (w0 := w0) 7
    · have hc' : iEq p.wr 0 = false := by simpa using hc
      have hne : p.wr ≠ 0 := by simpa [iEq_eq] using hc'
      have e : p.close true = (({ p with wr := p.wr - 1 } : Pipe).settle.1, ({ p with wr := p.wr - 1 } : Pipe).settle.2, 0) := by simp [Pipe.close, hv, hc']
      rw [e, wrap_i64 (by omega)]
      refine XCall.pure (refSettle_spec { p with wr := p.wr - 1 } h ⟨hh.b, hh.w, hh.l, hh.d⟩ ⟨hs.buf, hs.rd0, hs.rd1, by show 0 ≤ p.wr - 1; omega, by show p.wr - 1 ≤ 1000; omega, hs.ok⟩ hw) (fun w hw => ⟨hw.b, hw.r⟩) ?_
      rintro v F ⟨h2, ka, la, rfl, hh2, hka, hla, hao, rfl⟩
      conv => whnf
      exact ⟨_, Ent.bare fun w hw => hw.2, h2, ka, la, rfl, hh2, hka, hla, hao, rfl⟩
  | false =>
    refine PureSpec.of_xc tabOk Try.func24 rfl (by decide) (n := Try.f24.ntmps - 2) rfl rfl fun w0 av => ?_
    conv => whnf
    intro b1
    conv => whnf
    intro b2
    conv => whnf
    refine XCall.val (refValid_spec p h hh hv hw) (fun w hw => hw) (fun v D hv => ?_)
    subst hv
    conv => whnf
    repeat' (first
      | (refine XSame.of ?_; conv => whnf)
      | (refine XIf.split (fun hc => ?_) (fun hc => ?_) <;> conv => whnf))
    · have hc' : iEq p.rd 0 = true := by simpa using hc
      have e : p.close false = (.zero, [], 7) := by simp [Pipe.close, hv, hc']
      rw [e]
      exact zero_end (w0 := w0) 7
    · have hc' : iEq p.rd 0 = false := by simpa using hc
      have hne : p.rd ≠ 0 := by simpa [iEq_eq] using hc'
      have e : p.close false = (({ p with rd := p.rd - 1 } : Pipe).settle.1, ({ p with rd := p.rd - 1 } : Pipe).settle.2, 0) := by simp [Pipe.close, hv, hc']
      rw [e, wrap_i64 (by omega)]
      refine XCall.pure (refSettle_spec { p with rd := p.rd - 1 } h ⟨hh.b, hh.w, hh.l, hh.d⟩ ⟨hs.buf, by show 0 ≤ p.rd - 1; omega, by show p.rd - 1 ≤ 1000; omega, hs.wr0, hs.wr1, hs.ok⟩ hw) (fun w hw => ⟨hw.b, hw.r⟩) ?_
      rintro v F ⟨h2, ka, la, rfl, hh2, hka, hla, hao, rfl⟩
      conv => whnf
      exact ⟨_, Ent.bare fun w hw => hw.2, h2, ka, la, rfl, hh2, hka, hla, hao, rfl⟩

theorem less_erase {p : Pipe} (hs : p.Sane) {t : Int} {k : Nat} (hk : index p t = (k : Int)) (hl : k < p.wait.length) : p.less t = { p with wait := p.wait.eraseIdx k } := by
  rcases idx_range (fun r : Req => iEq r.task t) p.wait 0 with h | ⟨j, hj, h3, h4, h5⟩
  · have : index p t = -1 := h
    rw [this] at hk
    omega
  · have e : (k : Int) = ((0 + j : Nat) : Int) := by rw [← hk]; exact h3
    have : j = k := by omega
    subst this
    have ht : p.wait[j].task = t := by simpa [iEq_eq] using h4
    have hnd := (okReqs_iff.1 hs.ok).2
    unfold Pipe.less
    congr 1
    have e1 : p.wait = p.wait.take j ++ p.wait[j] :: p.wait.drop (j + 1) := by simp
    rw [List.eraseIdx_eq_take_drop_succ]
    conv => lhs; rw [e1]
    rw [List.filter_append, List.filter_cons_of_neg (by simp [iEq_eq, ht])]
    have f1 : (p.wait.take j).filter (fun r => !iEq r.task t) = p.wait.take j := by
      rw [List.filter_eq_self]
      intro r hr
      obtain ⟨i, hi, rfl⟩ := List.getElem_of_mem hr
      simp at hi
      have := h5 i (by omega)
      simpa using this
    have f2 : (p.wait.drop (j + 1)).filter (fun r => !iEq r.task t) = p.wait.drop (j + 1) := by
      rw [List.filter_eq_self]
      intro r hr
      obtain ⟨i, hi, rfl⟩ := List.getElem_of_mem hr
      simp at hi
      have := List.pairwise_iff_getElem.1 hnd j (j + 1 + i) (by simpa using hj) (by simp; omega) (by omega)
      simp at this
      simp [iEq_eq]
      rw [← ht]
      exact fun he => this he.symm
    rw [f1, f2]

theorem refDrop_spec (p : Pipe) (h : PH) (hh : h.Ok p) (hv : p.valid = true) (hw : p.wait.length ≤ 1000) (t : Int) : PureSpec Try.prog 25 [.agg ⟨h.cells p⟩, .int .i64 t] (h.By p) (RelPA (p.drop t)) := by
  obtain ⟨hs, hr1, hr2⟩ := valid_iff.1 hv
  have hf : p.Few := hs.few hw (by omega)
  refine PureSpec.of_xc tabOk Try.func25 rfl (by decide) (n := Try.f25.ntmps - 2) rfl rfl fun w0 av => ?_
  conv => whnf
  intro b1
  conv => whnf
  intro b2
  conv => whnf
  refine XCall.val (refValid_spec p h hh hv hw) (fun w hw => hw) (fun v D hv => ?_)
  subst hv
  conv => whnf
  refine XCall.val (refOf_spec p h hh hf t) (fun w hw => hw) (fun v D hv => ?_)
  subst hv
  conv => whnf
  refine XIf.split (fun hc => ?_) (fun hc => ?_)
  · conv => whnf
    have e : p.drop t = (.zero, [], 8) := by simp [Pipe.drop, hv, hc]
    rw [e]
    exact zero_end (w0 := w0) 8
  · conv => whnf
    obtain ⟨k, hk, hkl⟩ : ∃ k : Nat, index p t = (k : Int) ∧ k < p.wait.length := by
      rcases idx_range (fun r : Req => iEq r.task t) p.wait 0 with e | ⟨k, hk, e, _⟩
      · have : index p t = -1 := e
        rw [this] at hc
        simp [iLt_eq] at hc
      · exact ⟨k, by show idx _ _ _ = _; rw [e]; simp, hk⟩
    have e : p.drop t = ((p.less t).settle.1, (p.less t).settle.2, 0) := by simp [Pipe.drop, hv, hc]
    rw [e]
    have hls := less_sane hs t
    have hle := less_erase hs hk hkl
    rw [hle] at hls ⊢
    rw [hk]
    refine XCall.pure (refWithout_spec p h hh hf k hkl) (fun w hw => hw) ?_
    rintro v F ⟨h1, rfl, hh1, rfl⟩
    conv => whnf
    refine XCall.pure (refSettle_spec _ h1 hh1 hls (by show (p.wait.eraseIdx k).length ≤ 1000; exact Nat.le_trans (List.eraseIdx_sublist ..).length_le hw)) (fun w hw => hw.2) ?_
    rintro v F ⟨h2, ka, la, rfl, hh2, hka, hla, hao, rfl⟩
    conv => whnf
    exact ⟨_, Ent.bare fun w hw => hw.2, h2, ka, la, rfl, hh2, hka, hla, hao, rfl⟩

end Go.Proofs.Ytpnnadojhacjiaa
