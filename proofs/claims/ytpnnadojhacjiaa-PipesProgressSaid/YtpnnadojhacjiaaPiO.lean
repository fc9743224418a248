/- Pipes, part O: the law PipesProgress. -/
import Derived.Test.YtpnnadojhacjiaaPiN
namespace Go.Proofs.Ytpnnadojhacjiaa
open Go Go.Sx
set_option maxRecDepth 100000
set_option maxHeartbeats 4000000
set_option linter.unusedVariables false
set_option linter.unusedSimpArgs false

theorem stpCells_snoc (l : List (Stp × Hd)) (s : Stp) (k : Hd) : stpCells (l ++ [(s, k)]) = stpCells l ++ s.cells k := by simp [stpCells]

theorem next_one {n : Nat} : Builtin.nextslicecap (n + 1) n ≤ n + n / 4 + 600 := by
  unfold Builtin.nextslicecap
  split
  · omega
  · split
    · omega
    · have := growBy_le (n + 1) 4 n (by omega)
      omega

theorem next_zero (n : Nat) : Builtin.nextslicecap n 0 ≤ n := by
  unfold Builtin.nextslicecap
  split
  · exact Nat.le_refl _
  · simp

theorem progress_spec (h : Hd) (l : List (Stp × Hd)) (hh : h.Ok l.length) (ho : StpOk l) (hn : l.length * 56 ≤ 140737488351232) (r : Req) (k : Hd) (hk : k.Ok r.data.length) :
    PureSpec Try.prog 6 [h.v l.length, .agg ⟨r.cells k⟩] (fun w => StpAt w h l ∧ By w k r.data) (fun v F => v = .bool true) := by
  have hroom2 : ∀ {c1 : Nat}, l.length ≤ c1 → c1 < l.length + 1 → Builtin.nextslicecap (l.length + 1) c1 * 56 ≤ 2 ^ 48 := by
    intro c1 h1 h2
    have e : c1 = l.length := by omega
    subst e
    have := Nat.mul_le_mul_right 56 (next_one (n := l.length))
    omega
  have hspec2 : ∀ {a2 : Option Addr} {c2 : Nat}, (a2 = none → l.length + 1 = 0) → l.length + 1 ≤ c2 → PureSpec Try.prog 8 [.slice a2 (l.length + 1) c2] (fun w => RowAt w a2 (stpCells l ++ Stp.cells ⟨0, r⟩ k)) (fun v F => v = .bool (few (l.map (·.1) ++ [⟨0, r⟩]))) := by
    intro a2 c2 h1 h2
    have := few_spec ⟨a2, c2⟩ (l ++ [(⟨0, r⟩, k)]) ⟨by simpa using h1, by simpa using h2⟩ (by simp; omega)
    rw [stpCells_snoc] at this
    simpa using this
  refine PureSpec.of_xc tabOk Try.func6 rfl (by decide) (n := Try.f6.ntmps - 2) rfl rfl fun w0 av => ?_
  conv => whnf
  intro b1
  conv => whnf
  refine XCall.val awake_spec (fun _ _ => trivial) (fun v D hv => ?_)
  subst hv
  conv => whnf
  refine XStop.draw tabOk mixed rfl rfl ?_
  conv => whnf
  repeat' (first
    | (refine And.intro ?_ ?_ <;> conv => whnf)
    | (refine XHeld.same rfl ?_; conv => whnf)
    | (refine XHeld.row rfl ?_; conv => whnf)
    | (refine XKeep.of ?_; conv => whnf)
    | (refine XVal.build tabOk (t := 22) rfl rfl rfl [] rfl rfl (by simp) (by decide) fun b0 => ?_; conv => whnf)
    | (refine XVal.build tabOk (t := 22) rfl rfl rfl [.agg ⟨Stp.cells ⟨0, r⟩ k⟩] rfl rfl (by simp [Value.cells, Stp.cells]) (by decide) fun b2 => ?_; conv => whnf))
  focus
    refine XVal.appendG tabOk (t := 22) (xt := 22) rfl rfl rfl rfl rfl rfl (r1 := []) (r2 := []) (C := []) (L := []) (M := stpCells l) (Own.full (by simp)) (Sees.fact fun w h => h.1.1) (stpCells_len l) (stpCells_one l) (by omega) (fun _ => by have := Nat.mul_le_mul_right 56 (next_zero (0 + l.length)); show _ * 56 ≤ _; omega) fun a1 c1 C1 hO1 => ?_
    conv => whnf
    simp only [List.nil_append, List.append_nil, Nat.zero_add] at hO1 ⊢
    repeat' (first
      | (refine And.intro ?_ ?_ <;> conv => whnf)
      | (refine XHeld.same rfl ?_; conv => whnf)
      | (refine XHeld.row rfl ?_; conv => whnf)
      | (refine XKeep.of ?_; conv => whnf)
      | (refine XVal.build tabOk (t := 22) rfl rfl rfl [.agg ⟨Stp.cells ⟨0, r⟩ k⟩] rfl rfl (by simp [Value.cells, Stp.cells]) (by decide) fun b2 => ?_; conv => whnf))
    refine XVal.ent (F' := ⟨fun w => StpAt w h l ∧ By w k r.data, [] ++ orow a1 C1 ++ [(b2, Row.c (Stp.cells ⟨0, r⟩ k))]⟩) (Ent.refl _) ?_
    refine XVal.appendG tabOk (t := 22) (xt := 22) rfl rfl rfl rfl rfl rfl (r1 := []) (r2 := [(b2, Row.c (Stp.cells ⟨0, r⟩ k))]) (M := Stp.cells ⟨0, r⟩ k) hO1 (Sees.row (by simp)) rfl (stp_one _ _) (by omega) (fun hc => hroom2 hO1.fit hc) fun a2 c2 C2 hO2 => ?_
    conv => whnf
    repeat (first
      | (refine XHeld.same rfl ?_; conv => whnf)
      | (refine XHeld.row rfl ?_; conv => whnf)
      | (refine XHeld.call rfl ?_; conv => whnf)
      | (refine XKeep.of ?_; conv => whnf))
    have sp := hspec2 hO2.none_nil hO2.fit
    refine XCall.look sp (Sx.Loc.row _ _) (fun w hst => hO2.at (r1 := []) (r2 := [(b2, Row.c (Stp.cells ⟨0, r⟩ k))]) hst) ?_
    conv => whnf
  rotate_left
  focus
    refine XVal.ent (F' := ⟨fun w => StpAt w h l ∧ By w k r.data, [] ++ orow (some ⟨b0, 0, none⟩) [] ++ [(b2, Row.c (Stp.cells ⟨0, r⟩ k))]⟩) (Ent.refl _) ?_
    refine XVal.appendG tabOk (t := 22) (xt := 22) rfl rfl rfl rfl rfl rfl (r1 := []) (r2 := [(b2, Row.c (Stp.cells ⟨0, r⟩ k))]) (C := []) (L := []) (M := stpCells l) (Own.full (by simp)) (Sees.fact fun w h => h.1.1) (stpCells_len l) (stpCells_one l) (by omega) (fun _ => by have := Nat.mul_le_mul_right 56 (next_zero (0 + l.length)); show _ * 56 ≤ _; omega) fun a1 c1 C1 hO1 => ?_
    conv => whnf
    simp only [List.nil_append, List.append_nil, Nat.zero_add] at hO1 ⊢
    repeat' (first
      | (refine And.intro ?_ ?_ <;> conv => whnf)
      | (refine XHeld.same rfl ?_; conv => whnf)
      | (refine XHeld.row rfl ?_; conv => whnf)
      | (refine XKeep.of ?_; conv => whnf))
    refine XVal.ent (F' := ⟨fun w => StpAt w h l ∧ By w k r.data, [] ++ orow a1 C1 ++ [(b2, Row.c (Stp.cells ⟨0, r⟩ k))]⟩) (Ent.refl _) ?_
    refine XVal.appendG tabOk (t := 22) (xt := 22) rfl rfl rfl rfl rfl rfl (r1 := []) (r2 := [(b2, Row.c (Stp.cells ⟨0, r⟩ k))]) (M := Stp.cells ⟨0, r⟩ k) hO1 (Sees.row (by simp)) rfl (stp_one _ _) (by omega) (fun hc => hroom2 hO1.fit hc) fun a2 c2 C2 hO2 => ?_
    conv => whnf
    repeat (first
      | (refine XHeld.same rfl ?_; conv => whnf)
      | (refine XHeld.row rfl ?_; conv => whnf)
      | (refine XHeld.call rfl ?_; conv => whnf)
      | (refine XKeep.of ?_; conv => whnf))
    have sp := hspec2 hO2.none_nil hO2.fit
    refine XCall.look sp (Sx.Loc.row _ _) (fun w hst => hO2.at (r1 := []) (r2 := [(b2, Row.c (Stp.cells ⟨0, r⟩ k))]) hst) ?_
    conv => whnf
  rotate_left
  focus
    refine XVal.ent (F' := ⟨fun w => StpAt w h l ∧ By w k r.data, [(b2, Row.c (Stp.cells ⟨0, r⟩ k))] ++ orow (some ⟨b0, 0, none⟩) [] ++ []⟩) (Ent.refl _) ?_
    refine XVal.appendG tabOk (t := 22) (xt := 22) rfl rfl rfl rfl rfl rfl (r1 := [(b2, Row.c (Stp.cells ⟨0, r⟩ k))]) (r2 := []) (C := []) (L := []) (M := stpCells l) (Own.full (by simp)) (Sees.fact fun w h => h.1.1) (stpCells_len l) (stpCells_one l) (by omega) (fun _ => by have := Nat.mul_le_mul_right 56 (next_zero (0 + l.length)); show _ * 56 ≤ _; omega) fun a1 c1 C1 hO1 => ?_
    conv => whnf
    simp only [List.nil_append, List.append_nil, Nat.zero_add] at hO1 ⊢
    repeat' (first
      | (refine And.intro ?_ ?_ <;> conv => whnf)
      | (refine XHeld.same rfl ?_; conv => whnf)
      | (refine XHeld.row rfl ?_; conv => whnf)
      | (refine XKeep.of ?_; conv => whnf))
    refine XVal.ent (F' := ⟨fun w => StpAt w h l ∧ By w k r.data, [(b2, Row.c (Stp.cells ⟨0, r⟩ k))] ++ orow a1 C1 ++ []⟩) (Ent.of_le ⟨by simp, fun w h => h⟩) ?_
    refine XVal.appendG tabOk (t := 22) (xt := 22) rfl rfl rfl rfl rfl rfl (r1 := [(b2, Row.c (Stp.cells ⟨0, r⟩ k))]) (r2 := []) (M := Stp.cells ⟨0, r⟩ k) hO1 (Sees.row (by simp)) rfl (stp_one _ _) (by omega) (fun hc => hroom2 hO1.fit hc) fun a2 c2 C2 hO2 => ?_
    conv => whnf
    repeat (first
      | (refine XHeld.same rfl ?_; conv => whnf)
      | (refine XHeld.row rfl ?_; conv => whnf)
      | (refine XHeld.call rfl ?_; conv => whnf)
      | (refine XKeep.of ?_; conv => whnf))
    have sp := hspec2 hO2.none_nil hO2.fit
    refine XCall.look sp (Sx.Loc.row _ _) (fun w hst => hO2.at (r1 := [(b2, Row.c (Stp.cells ⟨0, r⟩ k))]) (r2 := []) hst) ?_
    conv => whnf
  all_goals
    refine XIf.split (fun hf => ?_) (fun hf => ?_)
    · conv => whnf
      exact ⟨_, Ent.refl _, rfl⟩
    conv => whnf
    have hf' : few (l.map (·.1) ++ [⟨0, r⟩]) = true := by simpa using hf
    obtain ⟨hlen, hdat⟩ := few_all hf'
    have hl40 : l.length ≤ 39 := by simp at hlen; omega
    have hr200 : r.data.length ≤ 200 := hdat ⟨0, r⟩ (by simp)
    have hs200 : ∀ q ∈ l, q.1.req.data.length ≤ 200 := fun q hq => hdat q.1 (by simp; exact .inl ⟨q.2, hq⟩)
    intro b3
    conv => whnf
    refine XStop.loop tabOk (ι := Nat × Pipe × PH) ([6, 7, 8, 9, 10, 11, 12] ++ List.range' 27 80) (fun x => x.1 ≤ l.length ∧ x.2.1.valid = true ∧ x.2.1.wait.length ≤ x.1 ∧ x.2.2.Ok x.2.1)
      (fun x => [(6, .v (.int .i64 (x.1 : Int)))]) (fun x => [r.cells k, x.2.2.cells x.2.1]) (fun x => ⟨fun w => (StpAt w h l ∧ By w k r.data) ∧ x.2.2.By x.2.1 w, []⟩)
      (fun x => l.length - x.1) (0, Pipe.zero, PH.nil) ⟨Nat.zero_le _, zero_valid, Nat.le_refl _, PH.nil_ok⟩ ?_ rfl (Ent.bare fun w hw => ⟨hw, PH.nil_by w⟩) fun x hx => ?_
    · conv => whnf
      repeat (first | exact FLe.nil | refine FLe.any ?_ | refine FLe.cons ?_)
    obtain ⟨i, p, hp⟩ := x
    obtain ⟨hi, hv, hwl, hpo⟩ := hx
    dsimp only at hi hv hwl hpo ⊢
    obtain ⟨hs, hrd, hwr⟩ := valid_iff.1 hv
    have hpf : p.Few := hs.few hwl (by omega)
    conv => whnf
    refine XIf.split (fun hlt => ?_) (fun hge => ?_)
    · conv => whnf
      have hlt' : i < l.length := by
        have : (i : Int) < l.length := by simpa [iLt_eq] using hlt
        omega
      refine XStop.draw tabOk mixed rfl rfl ?_
      conv => whnf
      have hok := ho _ (List.getElem_mem hlt')
      have sp := step_spec p hp hpo hpf (by omega) l[i].1 l[i].2 hok (by have := hs200 _ (List.getElem_mem hlt'); omega)
      have hsv := step_valid hv l[i].1
      generalize p.step l[i].1 = q at sp hsv
      repeat' (first
        | (refine And.intro ?_ ?_ <;> conv => whnf)
        | (refine XHeld.same rfl ?_; conv => whnf)
        | (refine XHeld.row rfl ?_; conv => whnf)
        | (refine XHeld.call rfl ?_; conv => whnf)
        | (refine XKeep.of ?_; conv => whnf)
        | (refine XHeld.mk (by exact ⟨⟨rfl, rfl⟩, ⟨rfl, rfl⟩, trivial⟩) (Ent.refl _) ?_; conv => whnf)
        | (refine XRead.index tabOk (t := 22) rfl rfl rfl (by omega) (by omega) hh.nil fun ad had => ?_; conv => whnf)
        | (refine XRead.loads tabOk (t := 39) rfl rfl (ad := ad) (k := i * 5) (L := stpCells l) (fun w hst => had ▸ hst.now.1.1.1) rfl (stpCells_get l hlt') rfl ?_; conv => whnf)
        | (refine XCall.pure sp (fun w h => ⟨h.2, h.1.1.2 _ (List.getElem_mem hlt')⟩) ?_; rintro v F ⟨hq1, ka, la, rfl, hqo, hka, hla, hoa, rfl⟩; conv => whnf)
        | (intro bq; conv => whnf))
      all_goals
        refine XIf.split (fun he => ?_) (fun he => ?_)
        · conv => whnf
          refine ⟨(i + 1, p, hp), ⟨⟨hlt', hv, by dsimp only; omega, hpo⟩, by dsimp only; omega⟩, ?_, ?_, ?_⟩
          · conv => whnf
            refine ⟨?_, rfl⟩
            repeat (first | exact FLe.nil | refine FLe.any ?_ | refine FLe.cons ?_ | refine FLe.eq (by rw [wrap_i64 (by omega)]; rfl) ?_)
          · conv => whnf
            exact ⟨⟨rfl, rfl⟩, ⟨rfl, rfl⟩, trivial⟩
          · exact Ent.of_le ⟨by simp [Fx.and], fun w hw => hw.1⟩
        conv => whnf
        have he' : q.2.2 = 0 := by simpa [iNe_eq] using he
        obtain ⟨hqv, hql⟩ := hsv he'
        obtain ⟨hs1, hrd1, hwr1⟩ := valid_iff.1 hqv
        have hqf : q.1.Few := hs1.few (n := i + 1) (by omega) (by omega)
        refine XCall.val (valid_spec q.1 hq1 hqo hqf) (fun w h => h.2.1) (fun v D hv2 => ?_)
        subst hv2
        conv => whnf
        repeat (refine XSame.of ?_; conv => whnf)
        refine XIf.split (fun hc => ?_) (fun hc => ?_)
        · exfalso
          rw [hqv] at hc
          have := hs1.buf
          simp [iGt_eq] at hc
          omega
        conv => whnf
        refine XStop.loop tabOk (ι := Nat) ([10, 11, 12] ++ List.range' 55 52) (fun x => x ≤ q.1.wait.length)
          (fun x => [(10, .v (.bool ((q.1.wait.take x).all fun r => !r.write))), (11, .v (.int .i64 (x : Int)))]) (fun x => [r.cells k, hq1.cells q.1, hq1.cells q.1]) (fun x => ⟨fun w => (StpAt w h l ∧ By w k r.data) ∧ hq1.By q.1 w, []⟩)
          (fun x => q.1.wait.length - x) 0 (Nat.zero_le _) ?_ rfl (Ent.bare fun w hw => ⟨hw.1.1, hw.2.1⟩) fun x hx => ?_
        · conv => whnf
          repeat (first | exact FLe.nil | refine FLe.any ?_ | refine FLe.cons ?_)
        conv => whnf
        have hlen1 : hq1.l.length = q.1.wait.length := by rw [← hqo.l]; simp
        refine XIf.split (fun hlx => ?_) (fun hgx => ?_)
        · conv => whnf
          have hx1 : x < hq1.l.length := by
            have : (x : Int) < hq1.l.length := by simpa [iLt_eq] using hlx
            omega
          have hx2 : x < q.1.wait.length := by omega
          have hpw : q.1.wait[x] = hq1.l[x].1 := by
            have : q.1.wait[x]? = (hq1.l.map (·.1))[x]? := by rw [hqo.l]
            simpa [hx1, hx2] using this
          refine XVal.of_read (XRead.index tabOk (t := 26) rfl rfl rfl (by omega) (by omega) hqo.w.nil fun ad2 had2 => ?_)
          conv => whnf
          refine XVal.of_read (XRead.loads tabOk (t := 51) rfl rfl (ad := ad2) (k := x * 4) (L := reqCells hq1.l) (fun w hst => had2 ▸ hst.now.2.r.1) rfl (reqCells_get hq1.l hx1) rfl ?_)
          conv => whnf
          intro bx
          conv => whnf
          have hR : hq1.l[x].1.write = false → q.1.buf.length = 0 ∧ q.1.wr ≠ 0 := fun hw => valid_reading hqv (r := hq1.l[x].1) (by rw [← hpw]; exact List.getElem_mem hx2) hw
          have hW : hq1.l[x].1.write = true → ((q.1.wait.take x).all fun r => !r.write) = true → q.1.rd ≠ 0 ∧ 64 < q.1.buf.length + hq1.l[x].1.data.length := fun hw ha => by
            have := valid_writing hqv hx2 (by rw [hpw]; exact hw) ha
            rw [hpw] at this
            exact this
          have hT : ((q.1.wait.take (x + 1)).all fun r => !r.write) = (((q.1.wait.take x).all fun r => !r.write) && !hq1.l[x].1.write) := by
            rw [List.take_succ_eq_append_getElem hx2, List.all_append, hpw]
            simp
          have hdx := (okReqs_iff.1 hs1.ok).1 hq1.l[x].1 (by rw [← hpw]; exact List.getElem_mem hx2)
          have hbx := hs1.buf
          have hwx := hql
          generalize hq1.l[x].1.write = wx at *
          generalize ((q.1.wait.take x).all fun r => !r.write) = fx at *
          have hfin : ∀ (wv : Bool), wv = ((q.1.wait.take (x + 1)).all fun r => !r.write) → SV.v (.bool wv) = SV.v (.bool ((q.1.wait.take (x + 1)).all fun r => !r.write)) := fun wv hw => by rw [hw]
          refine XIf.split (fun h1 => ?_) (fun h1 => ?_)
          · have h1' : wx = false := by simpa using h1
            obtain ⟨c1', c2'⟩ := hR h1'
            conv => whnf
            repeat (refine XSame.of ?_; conv => whnf)
            refine XIf.split (fun h2 => ?_) (fun h2 => ?_)
            · exfalso
              simp [iGt_eq, c1'] at h2
            conv => whnf
            repeat (refine XSame.of ?_; conv => whnf)
            refine XIf.split (fun h3 => ?_) (fun h3 => ?_)
            · exfalso
              simp [iEq_eq, c2'] at h3
            conv => whnf
            repeat (refine XSame.of ?_; conv => whnf)
            refine XIf.split (fun h4 => ?_) (fun h4 => ?_)
            · exfalso
              rw [h1'] at h4
              simp at h4
            conv => whnf
            repeat (refine XSame.of ?_; conv => whnf)
            refine ⟨x + 1, ⟨hx2, by dsimp only; omega⟩, ?_, ?_, ?_⟩
            · conv => whnf
              refine ⟨?_, rfl⟩
              repeat (first | exact FLe.nil | refine FLe.any ?_ | refine FLe.cons ?_ | refine FLe.eq (by rw [wrap_i64 (by omega)]; rfl) ?_ | refine FLe.eq (hfin _ (by rw [hT])) ?_)
            · conv => whnf
              exact ⟨⟨rfl, rfl⟩, ⟨rfl, rfl⟩, ⟨rfl, rfl⟩, trivial⟩
            · exact Ent.refl _
          · have h1' : wx = true := by simpa using h1
            conv => whnf
            repeat (refine XSame.of ?_; conv => whnf)
            refine XIf.split (fun h4 => ?_) (fun h4 => ?_)
            · have h4' : fx = true := by rw [h1'] at h4; simpa using h4
              obtain ⟨c1', c2'⟩ := hW h1' h4'
              conv => whnf
              repeat (refine XSame.of ?_; conv => whnf)
              refine XIf.split (fun h5 => ?_) (fun h5 => ?_)
              · exfalso
                simp [iEq_eq, c1'] at h5
              conv => whnf
              repeat (refine XSame.of ?_; conv => whnf)
              refine XIf.split (fun h6 => ?_) (fun h6 => ?_)
              · exfalso
                rw [wrap_i64 (by omega)] at h6
                simp [iLe_eq] at h6
                omega
              conv => whnf
              repeat (refine XSame.of ?_; conv => whnf)
              refine ⟨x + 1, ⟨hx2, by dsimp only; omega⟩, ?_, ?_, ?_⟩
              · conv => whnf
                refine ⟨?_, rfl⟩
                repeat (first | exact FLe.nil | refine FLe.any ?_ | refine FLe.cons ?_ | refine FLe.eq (by rw [wrap_i64 (by omega)]; rfl) ?_ | refine FLe.eq (hfin _ (by rw [hT])) ?_)
              · conv => whnf
                exact ⟨⟨rfl, rfl⟩, ⟨rfl, rfl⟩, ⟨rfl, rfl⟩, trivial⟩
              · exact Ent.refl _
            · conv => whnf
              repeat (refine XSame.of ?_; conv => whnf)
              refine ⟨x + 1, ⟨hx2, by dsimp only; omega⟩, ?_, ?_, ?_⟩
              · conv => whnf
                refine ⟨?_, rfl⟩
                repeat (first | exact FLe.nil | refine FLe.any ?_ | refine FLe.cons ?_ | refine FLe.eq (by rw [wrap_i64 (by omega)]; rfl) ?_ | refine FLe.eq (hfin _ (by rw [hT])) ?_)
              · conv => whnf
                exact ⟨⟨rfl, rfl⟩, ⟨rfl, rfl⟩, ⟨rfl, rfl⟩, trivial⟩
              · exact Ent.refl _
        · conv => whnf
          refine ⟨(i + 1, q.1, hq1), ⟨⟨hlt', hqv, by dsimp only; omega, hqo⟩, by dsimp only; omega⟩, ?_, ?_, ?_⟩
          · conv => whnf
            refine ⟨?_, rfl⟩
            repeat (first | exact FLe.nil | refine FLe.any ?_ | refine FLe.cons ?_ | refine FLe.eq (by rw [wrap_i64 (by omega)]; rfl) ?_)
          · conv => whnf
            exact ⟨⟨rfl, rfl⟩, ⟨rfl, rfl⟩, trivial⟩
          · exact Ent.refl _
    · conv => whnf
      refine XIf.split (fun hr1 => ?_) (fun hr1 => ?_)
      · conv => whnf
        exact ⟨_, Ent.refl _, rfl⟩
      conv => whnf
      have hrd0 : p.rd = 0 := by
        have h1 := hs.rd0
        simp [iGt_eq] at hr1
        omega
      have sr := request_spec ⟨r.task, true, r.n, r.data⟩ k hk (by show r.data.length ≤ 100000; omega)
      have sa : ∀ k2 : Hd, k2.Ok r.data.length → PureSpec Try.prog 18 [.agg ⟨hp.cells p⟩, .agg ⟨Req.cells ⟨r.task, true, r.n, r.data⟩ k2⟩] (fun w => hp.By p w ∧ By w k2 r.data) (RelPA (p.ask ⟨r.task, true, r.n, r.data⟩)) := fun k2 hk2 =>
        ask_spec p hp hpo hpf (by omega) ⟨r.task, true, r.n, r.data⟩ k2 hk2 (by show r.data.length ≤ 100000; omega)
      have hbr := ask_broken hv hrd0 (r := ⟨r.task, true, r.n, r.data⟩) rfl
      generalize p.ask ⟨r.task, true, r.n, r.data⟩ = q2 at sa hbr
      refine XStop.draw tabOk mixed rfl rfl ?_
      conv => whnf
      repeat' (first
        | (refine And.intro ?_ ?_ <;> conv => whnf)
        | (refine XHeld.same rfl ?_; conv => whnf)
        | (refine XHeld.row rfl ?_; conv => whnf)
        | (refine XHeld.call rfl ?_; conv => whnf)
        | (refine XKeep.of ?_; conv => whnf)
        | (refine XHeld.mk (by exact ⟨⟨rfl, rfl⟩, ⟨rfl, rfl⟩, trivial⟩) (Ent.refl _) ?_; conv => whnf)
        | (refine XCall.pure sr (fun w h => h.1.2) ?_; rintro v F ⟨k2, rfl, hk2, rfl⟩; conv => whnf)
        | (refine XCall.pure (sa _ hk2) (fun w h => ⟨h.1.2, h.2⟩) ?_; rintro v F ⟨hq2, ka2, la2, rfl, hqo2, hka2, hla2, hoa2, rfl⟩; conv => whnf)
        | (intro bq; conv => whnf))
      all_goals
        rcases Classical.em (q2.2.2 = 0) with he2 | he2
        · have hb2 := hbr he2
          rw [hb2] at hla2
          have hl1 : la2.length = 1 := by
            have := congrArg List.length hla2
            simpa using this
          have l0 : 0 < la2.length := by omega
          have hx : (la2[0]'(by omega)).1 = ⟨r.task, -17, []⟩ := by
            have : (la2.map (·.1))[0]? = some ⟨r.task, -17, []⟩ := by rw [hla2]; rfl
            rw [List.getElem?_map, List.getElem?_eq_getElem (by omega)] at this
            simpa using this
          refine XStop.draw tabOk mixed rfl rfl ?_
          conv => whnf
          repeat' (first
            | (refine And.intro ?_ ?_ <;> conv => whnf)
            | (refine XHeld.same rfl ?_; conv => whnf)
            | (refine XHeld.row rfl ?_; conv => whnf)
            | (refine XHeld.call rfl ?_; conv => whnf)
            | (refine XKeep.of ?_; conv => whnf)
            | (refine XSame.of ?_; conv => whnf)
            | (refine XIf.no ?hb ?_; (case hb => simp [iNe_eq, iEq_eq, he2, hl1, hx]); conv => whnf)
            | (refine XIf.yes ?hb ?_; (case hb => simp [iNe_eq, iEq_eq, he2, hl1, hx]); conv => whnf)
            | (refine XRead.index tabOk (t := 32) rfl rfl rfl (by omega) (by omega) hka2.nil fun ad had => ?_; conv => whnf)
            | (refine XRead.loadF tabOk (t := 3) rfl rfl (ad := ad) (k := 0 * 3 + 0) (L := anCells la2) (v := .int .i64 la2[0].1.task) (fun w hst => had ▸ hst.now.2.2.1) (fun hsp => Addr.add_add hsp _ _) (anCells_at la2 l0 (by omega)) ?_; conv => whnf)
            | (refine XRead.loadF tabOk (t := 3) rfl rfl (ad := ad) (k := 0 * 3 + 1) (L := anCells la2) (v := .int .i64 la2[0].1.res) (fun w hst => had ▸ hst.now.2.2.1) (fun hsp => Addr.add_add hsp _ _) (anCells_at la2 l0 (by omega)) ?_; conv => whnf)
            | (refine ⟨_, Ent.refl _, ?_⟩; simp [iNe_eq, iEq_eq, he2, hl1, hx]))
        · refine XStop.draw tabOk mixed rfl rfl ?_
          conv => whnf
          repeat' (first
            | (refine And.intro ?_ ?_ <;> conv => whnf)
            | (refine XHeld.same rfl ?_; conv => whnf)
            | (refine XHeld.row rfl ?_; conv => whnf)
            | (refine XHeld.call rfl ?_; conv => whnf)
            | (refine XKeep.of ?_; conv => whnf)
            | (refine XSame.of ?_; conv => whnf)
            | (refine XIf.no ?hb ?_; (case hb => simp [iNe_eq, iEq_eq, he2]); conv => whnf)
            | (refine XIf.yes ?hb ?_; (case hb => simp [iNe_eq, iEq_eq, he2]); conv => whnf)
            | (refine ⟨_, Ent.refl _, ?_⟩; simp [iNe_eq, iEq_eq, he2]))

end Go.Proofs.Ytpnnadojhacjiaa
