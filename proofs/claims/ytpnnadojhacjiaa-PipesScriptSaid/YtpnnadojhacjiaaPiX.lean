/- Pipes, part X: the reference's Ask, and the law's want. -/
import Derived.Test.YtpnnadojhacjiaaPiW
namespace Go.Proofs.Ytpnnadojhacjiaa
open Go Go.Sx
set_option maxRecDepth 100000
set_option maxHeartbeats 4000000
set_option linter.unusedVariables false
set_option linter.unusedSimpArgs false

theorem refAsk_spec (p : Pipe) (h : PH) (hh : h.Ok p) (hv : p.valid = true) (hw : p.wait.length < 1000) (r : Req) (k : Hd) (hk : k.Ok r.data.length) (hr : r.data.length ≤ 100000) :
    PureSpec Try.prog 26 [.agg ⟨h.cells p⟩, .agg ⟨r.cells k⟩] (fun w => h.By p w ∧ By w k r.data) (RelPA (p.ask r)) := by
  obtain ⟨hs, hr1, hr2⟩ := valid_iff.1 hv
  have hf : p.Few := hs.few (n := 1000) (by omega) (by omega)
  have hlen : h.l.length = p.wait.length := by rw [← hh.l]; simp
  refine PureSpec.of_xc tabOk Try.func26 rfl (by decide) (n := Try.f26.ntmps - 2) rfl rfl fun w0 av => ?_
  conv => whnf
  intro b1
  conv => whnf
  intro b2
  conv => whnf
  intro b3
  conv => whnf
  refine XCall.val (refValid_spec p h hh hv (by omega)) (fun w hw => hw.1) (fun v D hv => ?_)
  subst hv
  conv => whnf
  refine XCall.val (refProper_spec r k) (fun _ _ => trivial) (fun v D hv => ?_)
  subst hv
  conv => whnf
  repeat' (first
    | (refine XSame.of ?_; conv => whnf))
  refine XIf.split (fun hc1 => ?_) (fun hc1 => ?_)
  · conv => whnf
    have hc' : r.proper = false := by simpa using hc1
    have e : p.ask r = (.zero, [], 1) := by simp [Pipe.ask, hv, hc']
    rw [e]
    exact zero_end (w0 := w0) 1
  conv => whnf
  have hc1' : r.proper = true := by simpa using hc1
  refine XIf.split (fun hc2 => ?_) (fun hc2 => ?_)
  · conv => whnf
    have e : p.ask r = (.zero, [], 6) := by simp [Pipe.ask, hv, hc1', hc2]
    rw [e]
    exact zero_end (w0 := w0) 6
  conv => whnf
  refine XCall.val (refOf_spec p h hh hf r.task) (fun w hw => hw.1) (fun v D hv => ?_)
  subst hv
  conv => whnf
  refine XIf.split (fun hc3 => ?_) (fun hc3 => ?_)
  · conv => whnf
    have e : p.ask r = (.zero, [], 12) := by simp [Pipe.ask, hv, hc1', hc2, hc3]
    rw [e]
    exact zero_end (w0 := w0) 12
  conv => whnf
  have e : p.ask r = (({ p with wait := p.wait ++ [r] } : Pipe).settle.1, ({ p with wait := p.wait ++ [r] } : Pipe).settle.2, 0) := by simp [Pipe.ask, hv, hc1', hc2, hc3]
  have hqs : ({ p with wait := p.wait ++ [r] } : Pipe).Sane := by
    have h2' : r.data.length ≤ 64 := by simp [iGt_eq] at hc2; omega
    have h3' : ¬ 0 ≤ index p r.task := by simpa [iGe_eq] using hc3
    have ho := okReqs_iff.1 hs.ok
    refine ⟨hs.buf, hs.rd0, hs.rd1, hs.wr0, hs.wr1, okReqs_iff.2 ⟨fun x hx => ?_, ?_⟩⟩
    · rcases List.mem_append.1 hx with hx | hx
      · exact ho.1 x hx
      · obtain rfl := List.mem_singleton.1 hx
        exact ⟨hc1', by simp, h2'⟩
    · show ((p.wait ++ [r]).map (·.task)).Nodup
      rw [List.map_append, List.nodup_append]
      refine ⟨ho.2, by simp, fun a ha b hb => ?_⟩
      obtain ⟨x, hx, rfl⟩ := List.mem_map.1 ha
      simp at hb
      subst hb
      have := idx_none h3' x hx
      simpa [iEq_eq] using this
  rw [e]
  refine XVal.build tabOk (t := 25) rfl rfl rfl [] rfl rfl (by simp) (by decide) fun b9 => ?_
  conv => whnf
  refine XVal.copyZ tabOk (t := 25) (xt := 25) rfl rfl rfl rfl rfl rfl (M := r.data.map byteV) (Sees.fact fun w hw => hw.2) (by simp) (by omega) (by simp; omega) fun k2 hk2 => ?_
  conv => whnf
  refine XStop.draw tabOk mixed rfl rfl ?_
  conv => whnf
  repeat' (first
    | (refine And.intro ?_ ?_ <;> conv => whnf)
    | (refine XHeld.same rfl ?_; conv => whnf)
    | (refine XHeld.row rfl ?_; conv => whnf)
    | (refine XHeld.call rfl ?_; conv => whnf)
    | (refine XKeep.of ?_; conv => whnf)
    | (refine XSame.of ?_; conv => whnf)
    | (refine XVal.build tabOk (t := 29) rfl rfl rfl [] rfl rfl (by simp) (by decide) fun b0 => ?_; conv => whnf)
    | (refine XVal.build tabOk (t := 29) rfl rfl rfl [.agg ⟨r.cells k2⟩] rfl rfl (by simp [Value.cells, Req.cells]) (by decide) fun b5 => ?_; conv => whnf)
    | (refine XVal.ent (F' := ⟨fun w => (h.By p w ∧ By w k r.data) ∧ RowAt w k2.a (r.data.map byteV), [(b9, Row.c [])] ++ orow (some ⟨b0, 0, none⟩) [] ++ []⟩) (Ent.refl _) ?_; refine XVal.append tabOk (t := 29) (xt := 29) rfl rfl rfl rfl rfl rfl (r1 := [(b9, Row.c [])]) (r2 := []) (C := []) (L := []) (M := reqCells h.l) (Own.full (by simp)) (Sees.fact fun w hw => hw.1.1.r.1) (reqCells_len _) (reqCells_one _) (by omega) (by simp; omega) fun a1 c1 C1 hO1 => ?_; conv => whnf)
    | (refine XVal.ent (F' := ⟨fun w => (h.By p w ∧ By w k r.data) ∧ RowAt w k2.a (r.data.map byteV), [(b9, Row.c [])] ++ orow (some ⟨b0, 0, none⟩) [] ++ [(b5, Row.c (r.cells k2))]⟩) (Ent.refl _) ?_; refine XVal.append tabOk (t := 29) (xt := 29) rfl rfl rfl rfl rfl rfl (r1 := [(b9, Row.c [])]) (r2 := [(b5, Row.c (r.cells k2))]) (C := []) (L := []) (M := reqCells h.l) (Own.full (by simp)) (Sees.fact fun w hw => hw.1.1.r.1) (reqCells_len _) (reqCells_one _) (by omega) (by simp; omega) fun a1 c1 C1 hO1 => ?_; conv => whnf)
    | (refine XVal.ent (F' := ⟨fun w => (h.By p w ∧ By w k r.data) ∧ RowAt w k2.a (r.data.map byteV), [(b9, Row.c []), (b5, Row.c (r.cells k2))] ++ orow (some ⟨b0, 0, none⟩) [] ++ []⟩) (Ent.refl _) ?_; refine XVal.append tabOk (t := 29) (xt := 29) rfl rfl rfl rfl rfl rfl (r1 := [(b9, Row.c []), (b5, Row.c (r.cells k2))]) (r2 := []) (C := []) (L := []) (M := reqCells h.l) (Own.full (by simp)) (Sees.fact fun w hw => hw.1.1.r.1) (reqCells_len _) (reqCells_one _) (by omega) (by simp; omega) fun a1 c1 C1 hO1 => ?_; conv => whnf)
    | (refine XVal.ent (F' := ⟨fun w => (h.By p w ∧ By w k r.data) ∧ RowAt w k2.a (r.data.map byteV), [(b9, Row.c [])] ++ orow a1 C1 ++ [(b5, Row.c (r.cells k2))]⟩) Ent.mid ?_; refine XVal.append tabOk (t := 29) (xt := 29) rfl rfl rfl rfl rfl rfl (r1 := [(b9, Row.c [])]) (r2 := [(b5, Row.c (r.cells k2))]) (M := (r.cells k2)) hO1 (Sees.row (by simp)) rfl (req_one _ _) (by omega) (by simp; omega) fun a2 c2 C2 hO2 => ?_; conv => whnf)
    | (refine XVal.ent (F' := ⟨fun w => (h.By p w ∧ By w k r.data) ∧ RowAt w k2.a (r.data.map byteV), [(b9, Row.c [])] ++ orow a1 C1 ++ [(b5, Row.c (r.cells k2))]⟩) (Ent.refl _) ?_; refine XVal.append tabOk (t := 29) (xt := 29) rfl rfl rfl rfl rfl rfl (r1 := [(b9, Row.c [])]) (r2 := [(b5, Row.c (r.cells k2))]) (M := (r.cells k2)) hO1 (Sees.row (by simp)) rfl (req_one _ _) (by omega) (by simp; omega) fun a2 c2 C2 hO2 => ?_; conv => whnf)
    | (refine XVal.ent (F' := ⟨fun w => (h.By p w ∧ By w k r.data) ∧ RowAt w k2.a (r.data.map byteV), [(b9, Row.c []), (b5, Row.c (r.cells k2))] ++ orow a1 C1 ++ []⟩) (Ent.refl _) ?_; refine XVal.append tabOk (t := 29) (xt := 29) rfl rfl rfl rfl rfl rfl (r1 := [(b9, Row.c []), (b5, Row.c (r.cells k2))]) (r2 := []) (M := (r.cells k2)) hO1 (Sees.row (by simp)) rfl (req_one _ _) (by omega) (by simp; omega) fun a2 c2 C2 hO2 => ?_; conv => whnf)
    | (refine XHeld.mk ?_ ?_ ?_; (focus ((conv => whnf); (first | exact trivial | exact ⟨⟨rfl, rfl⟩, trivial⟩ | exact ⟨⟨rfl, rfl⟩, ⟨rfl, rfl⟩, trivial⟩ | exact ⟨⟨rfl, rfl⟩, ⟨rfl, rfl⟩, ⟨rfl, rfl⟩, trivial⟩ | exact ⟨⟨rfl, rfl⟩, ⟨rfl, rfl⟩, ⟨rfl, rfl⟩, ⟨rfl, rfl⟩, trivial⟩ | exact ⟨⟨rfl, rfl⟩, ⟨rfl, rfl⟩, ⟨rfl, rfl⟩, ⟨rfl, rfl⟩, ⟨rfl, rfl⟩, trivial⟩ | exact ⟨⟨rfl, rfl⟩, ⟨rfl, rfl⟩, ⟨rfl, rfl⟩, ⟨rfl, rfl⟩, ⟨rfl, rfl⟩, ⟨rfl, rfl⟩, trivial⟩ | exact ⟨⟨rfl, rfl⟩, ⟨rfl, rfl⟩, ⟨rfl, rfl⟩, ⟨rfl, rfl⟩, ⟨rfl, rfl⟩, ⟨rfl, rfl⟩, ⟨rfl, rfl⟩, trivial⟩ | exact ⟨⟨rfl, rfl⟩, ⟨rfl, rfl⟩, ⟨rfl, rfl⟩, ⟨rfl, rfl⟩, ⟨rfl, rfl⟩, ⟨rfl, rfl⟩, ⟨rfl, rfl⟩, ⟨rfl, rfl⟩, trivial⟩))); (focus (first | exact Ent.refl _ | exact Ent.left _ _ | exact Ent.of_le ⟨List.sublist_append_left _ _, fun w h => h⟩ | exact Ent.of_le ⟨List.Sublist.refl _, fun w h => h.1⟩)); conv => whnf))
  all_goals
    have hO3 : Own 4 (h.l ++ [(r, k2)]).length a2 c2 C2 (reqCells (h.l ++ [(r, k2)])) := by
      rw [reqCells_snoc]
      simpa using hO2
    have hh2 : PH.Ok ⟨h.b, ⟨a2, c2⟩, h.l ++ [(r, k2)]⟩ { p with wait := p.wait ++ [r] } := by
      refine ⟨hh.b, ⟨fun ha => hO3.none_nil ha, hO3.fit⟩, by simp [hh.l], fun q hq => ?_⟩
      rcases List.mem_append.1 hq with hq | hq
      · exact hh.d q hq
      · obtain rfl := List.mem_singleton.1 hq
        exact hk2
    have sp := refSettle_spec { p with wait := p.wait ++ [r] } ⟨h.b, ⟨a2, c2⟩, h.l ++ [(r, k2)]⟩ hh2 hqs (by simp; omega)
    rw [show PH.cells ⟨h.b, ⟨a2, c2⟩, h.l ++ [(r, k2)]⟩ { p with wait := p.wait ++ [r] } = [h.b.v p.buf.length, .int .i64 p.rd, .int .i64 p.wr, .slice a2 (0 + h.l.length + 1) c2] from by simp [PH.cells]] at sp
    have hby : ∀ w, ((h.By p w ∧ By w k r.data) ∧ RowAt w k2.a (r.data.map byteV)) ∧ RowAt w a2 (reqCells (h.l ++ [(r, k2)])) → PH.By ⟨h.b, ⟨a2, c2⟩, h.l ++ [(r, k2)]⟩ { p with wait := p.wait ++ [r] } w := fun w hw => by
      refine ⟨hw.1.1.1.b, hw.2, fun q hq => ?_⟩
      rcases List.mem_append.1 hq with hq | hq
      · exact hw.1.1.1.r.2 q hq
      · obtain rfl := List.mem_singleton.1 hq
        exact hw.1.2
    first
      | refine XCall.ent (Own.share (D := fun w => (h.By p w ∧ By w k r.data) ∧ RowAt w k2.a (r.data.map byteV)) hO3 (r1 := [(b9, Row.c [])]) (r2 := [(b5, Row.c (r.cells k2))])) ?_
      | refine XCall.ent (Own.share (D := fun w => (h.By p w ∧ By w k r.data) ∧ RowAt w k2.a (r.data.map byteV)) hO3 (r1 := [(b9, Row.c []), (b5, Row.c (r.cells k2))]) (r2 := [])) ?_
    refine XCall.pure sp hby ?_
    rintro v F ⟨h2, ka, la, rfl, hh2, hka, hla, hao, rfl⟩
    conv => whnf
    exact ⟨_, Ent.bare fun w hw => hw.2, h2, ka, la, rfl, hh2, hka, hla, hao, rfl⟩

theorem want_spec (p : Pipe) (h : PH) (hh : h.Ok p) (hv : p.valid = true) (hw : p.wait.length < 1000) (s : Stp) (k : Hd) (hk : k.Ok s.req.data.length) (hr : s.req.data.length ≤ 100000) :
    PureSpec Try.prog 10 [.agg ⟨h.cells p⟩, .agg ⟨s.cells k⟩] (fun w => h.By p w ∧ By w k s.req.data) (RelPA (p.step s)) := by
  refine PureSpec.of_xc tabOk Try.func10 rfl (by decide) (n := Try.f10.ntmps - 2) rfl rfl fun w0 av => ?_
  conv => whnf
  intro b1
  conv => whnf
  intro b2
  conv => whnf
  intro b3
  conv => whnf
  refine XIf.split (fun h0 => ?_) (fun h0 => ?_)
  · conv => whnf
    have e : p.step s = ((p.open s.req.write).1, [], (p.open s.req.write).2) := by simp [Pipe.step, h0]
    rw [e]
    refine XCall.pure (refOpen_spec p h hh hv (by omega) s.req.write) (fun w hw => hw.1) ?_
    rintro v F ⟨h2, rfl, hh2, rfl⟩
    conv => whnf
    intro b4
    conv => whnf
    exact ⟨⟨fun w => h2.By (p.open s.req.write).1 w ∧ AnAt w Hd.nil [], []⟩, Ent.bare fun w hw => ⟨hw.2, rfl, fun _ h => by cases h⟩, h2, Hd.nil, [], rfl, hh2, Hd.nil_ok, rfl, (fun q hq => by simp at hq), rfl⟩
  conv => whnf
  refine XIf.split (fun h1 => ?_) (fun h1 => ?_)
  · conv => whnf
    have e : p.step s = p.close s.req.write := by simp [Pipe.step, h0, h1]
    rw [e]
    refine XCall.pure (refClose_spec p h hh hv (by omega) s.req.write) (fun w hw => hw.1) ?_
    rintro v F ⟨h2, ka, la, rfl, hh2, hka, hla, hao, rfl⟩
    conv => whnf
    exact ⟨_, Ent.bare fun w hw => hw.2, h2, ka, la, rfl, hh2, hka, hla, hao, rfl⟩
  conv => whnf
  refine XIf.split (fun h2 => ?_) (fun h2 => ?_)
  · conv => whnf
    have e : p.step s = p.drop s.req.task := by simp [Pipe.step, h0, h1, h2]
    rw [e]
    refine XCall.pure (refDrop_spec p h hh hv (by omega) s.req.task) (fun w hw => hw.1) ?_
    rintro v F ⟨h2, ka, la, rfl, hh2, hka, hla, hao, rfl⟩
    conv => whnf
    exact ⟨_, Ent.bare fun w hw => hw.2, h2, ka, la, rfl, hh2, hka, hla, hao, rfl⟩
  conv => whnf
  have e : p.step s = p.ask s.req := by simp [Pipe.step, h0, h1, h2]
  rw [e]
  refine XCall.pure (refAsk_spec p h hh hv hw s.req k hk hr) (fun w hw => hw) ?_
  rintro v F ⟨h2, ka, la, rfl, hh2, hka, hla, hao, rfl⟩
  conv => whnf
  exact ⟨_, Ent.bare fun w hw => hw.2, h2, ka, la, rfl, hh2, hka, hla, hao, rfl⟩

end Go.Proofs.Ytpnnadojhacjiaa
