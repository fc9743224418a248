/- Pipes, part D2: the law PipesOrder. -/
import Derived.Test.YtpnnadojhacjiaaPjC
namespace Go.Proofs.Ytpnnadojhacjiaa
open Go Go.Sx
set_option maxRecDepth 100000
set_option maxHeartbeats 8000000
set_option linter.unusedVariables false
set_option linter.unusedSimpArgs false

theorem awP_valid : awP.valid = true := by decide +kernel

theorem order_walk (h : Hd) (l : List (Stp × Hd)) (hh : h.Ok l.length) (ho : StpOk l) (hn : l.length ≤ 9223372036854775807) (n : Int) (hn0 : 0 ≤ n ∧ n ≤ 255) :
    PureSpec Try.prog 4 [h.v l.length, .int .u8 n] (fun w => StpAt w h l) (fun v F => v = .bool true) := by
  refine PureSpec.of_xc tabOk Try.func4 rfl (by decide) (n := Try.f4.ntmps - 2) rfl rfl fun w0 av => ?_
  conv => whnf
  refine XCall.val awake_spec (fun _ _ => trivial) (fun v D hv => ?_)
  subst hv
  conv => whnf
  refine XCall.val (few_spec h l hh hn) (fun w hw => hw.1) (fun v D hv => ?_)
  subst hv
  conv => whnf
  refine XIf.split (fun hf => ?_) (fun hf => ?_)
  · conv => whnf
    exact ⟨_, Ent.refl _, rfl⟩
  conv => whnf
  have hf' : few (l.map (·.1)) = true := by simpa using hf
  obtain ⟨hlen, hdat⟩ := few_all hf'
  have hl40 : l.length ≤ 40 := by simpa using hlen
  have hs200 : ∀ q ∈ l, q.1.req.data.length ≤ 200 := fun q hq => hdat q.1 (List.mem_map.2 ⟨q, hq, rfl⟩)
  intro b1
  conv => whnf
  refine XStop.loop tabOk (ι := Nat × Pipe × PH × List UInt8 × List UInt8) (List.range' 6 21 ++ List.range' 33 192)
    (fun x => x.1 ≤ l.length ∧ x.2.1.valid = true ∧ x.2.1.wait.length ≤ x.1 ∧ x.2.2.1.Ok x.2.1 ∧ x.2.1.rd = 1 ∧ x.2.1.wr = 1 ∧ Flow x.2.1 x.2.2.2 ∧ x.2.2.2.1.length ≤ 20000 * x.1)
    (fun x => [(6, .v (strV x.2.2.2.1)), (7, .v (strV x.2.2.2.2)), (8, .v (.int .i64 (x.1 : Int)))]) (fun x => [x.2.2.1.cells x.2.1])
    (fun x => ⟨fun w => StpAt w h l ∧ x.2.2.1.By x.2.1 w, []⟩)
    (fun x => l.length - x.1) (0, awP, PH.nil, [], []) ⟨Nat.zero_le _, awP_valid, Nat.le_refl _, ⟨Hd.nil_ok, Hd.nil_ok, rfl, fun _ h => by cases h⟩, rfl, rfl, ⟨rfl⟩, Nat.le_refl _⟩ ?_ rfl (Ent.bare fun w hw => ⟨hw, By.nil w, rfl, fun _ h => by cases h⟩) fun x hx => ?_
  · conv => whnf
    repeat (first | exact FLe.nil | refine FLe.any ?_ | refine FLe.cons ?_)
  obtain ⟨i, p, hp, W, Rd⟩ := x
  obtain ⟨hi, hv, hwl, hpo, hrd1, hwr1, hfl, hWl⟩ := hx
  dsimp only at hi hv hwl hpo hrd1 hwr1 hfl hWl ⊢
  obtain ⟨hs, hrd, hwr⟩ := valid_iff.1 hv
  have hpf : p.Few := hs.few hwl (by omega)
  have hRl : Rd.length ≤ W.length := by
    have := congrArg List.length hfl.eq
    simp at this
    omega
  conv => whnf
  refine XIf.split (fun hlt => ?_) (fun hlt => ?_)
  · conv => whnf
    have hlt' : i < l.length := by
      have : (i : Int) < l.length := by simpa [iLt_eq] using hlt
      omega
    refine XVal.of_read (XRead.index tabOk (t := 22) rfl rfl rfl (by omega) (by omega) hh.nil fun ad had => ?_)
    conv => whnf
    refine XVal.of_read (XRead.loads tabOk (t := 39) rfl rfl (ad := ad) (k := i * 5) (L := stpCells l) (fun w hst => had ▸ hst.now.1.1) rfl (stpCells_get l hlt') rfl ?_)
    conv => whnf
    intro b3
    conv => whnf
    repeat' (first
      | (refine XSame.of ?_; conv => whnf))
    refine XIf.split (fun hop => ?_) (fun hop => ?_)
    · conv => whnf
      refine ⟨(i + 1, p, hp, W, Rd), ⟨⟨hlt', hv, by dsimp only; omega, hpo, hrd1, hwr1, hfl, by dsimp only; omega⟩, by dsimp only; omega⟩, ?_, ?_, ?_⟩
      · conv => whnf
        refine ⟨?_, rfl⟩
        repeat (first | exact FLe.nil | refine FLe.any ?_ | refine FLe.cons ?_ | refine FLe.eq (by rw [wrap_i64 (by omega)]; rfl) ?_)
      · conv => whnf
        exact ⟨⟨rfl, rfl⟩, trivial⟩
      · exact Ent.refl _
    have hop' : l[i].1.op ≠ 0 ∧ l[i].1.op ≠ 1 := by
      simp [iEq_eq] at hop
      exact ⟨hop.1, hop.2⟩
    conv => whnf
    refine XCall.pure (fromO_spec p hp hpo hpf) (fun w hw => hw.2) ?_
    rintro v F ⟨kb, m, a, c, C, rfl, hm, hmo, hO, rfl⟩
    have hml : m.length = p.wait.length := by
      have := congrArg List.length hm
      simpa using this
    conv => whnf
    have hok := ho _ (List.getElem_mem hlt')
    have sp := step_spec p hp hpo hpf (by omega) l[i].1 l[i].2 hok (by have := hs200 _ (List.getElem_mem hlt'); omega)
    have hsv := step_valid hv l[i].1
    have hsf := fun h0 => step_flow hv hrd1 hwr1 hop'.1 hop'.2 h0 hfl
    generalize p.step l[i].1 = q at sp hsv hsf
    refine XCall.pure sp (fun w h => ⟨h.1.2, h.1.1.2 _ (List.getElem_mem hlt')⟩) ?_
    rintro v F ⟨hq1, ka, la, rfl, hqo, hka, hla, hoa, rfl⟩
    conv => whnf
    intro b4
    conv => whnf
    refine XIf.split (fun he => ?_) (fun he => ?_)
    · conv => whnf
      refine ⟨(i + 1, p, hp, W, Rd), ⟨⟨hlt', hv, by dsimp only; omega, hpo, hrd1, hwr1, hfl, by dsimp only; omega⟩, by dsimp only; omega⟩, ?_, ?_, ?_⟩
      · conv => whnf
        refine ⟨?_, rfl⟩
        repeat (first | exact FLe.nil | refine FLe.any ?_ | refine FLe.cons ?_ | refine FLe.eq (by rw [wrap_i64 (by omega)]; rfl) ?_)
      · conv => whnf
        exact ⟨⟨rfl, rfl⟩, trivial⟩
      · exact Ent.of_le ⟨by simp [Fx.and], fun w hw => hw.1.1⟩
    have he' : q.2.2 = 0 := by simpa [iNe_eq] using he
    obtain ⟨hqv, hql⟩ := hsv he'
    obtain ⟨hs1, hs2, hs3, hs4, hs5⟩ := hsf he'
    conv => whnf
    refine XVal.build tabOk (t := 29) rfl rfl rfl [.agg ⟨l[i].1.req.cells l[i].2⟩] rfl rfl (by simp [Value.cells, Req.cells]) (by decide) fun b5 => ?_
    conv => whnf
    refine XVal.ent (F' := ⟨fun w => ((StpAt w h l ∧ hp.By p w) ∧ ∀ q ∈ m, By w q.2 q.1.data) ∧ hq1.By q.1 w ∧ AnAt w ka la, [] ++ orow a C ++ [(b5, Row.c (l[i].1.req.cells l[i].2))]⟩) (Ent.of_le ⟨by simp [Fx.and, Value.cells], fun w hw => hw⟩) ?_
    refine XVal.append tabOk (t := 29) (xt := 29) rfl rfl rfl rfl rfl rfl (r1 := []) (r2 := [(b5, Row.c (l[i].1.req.cells l[i].2))]) (M := l[i].1.req.cells l[i].2) hO (Sees.row (by simp)) rfl (req_one _ _) (by omega) (by simp; omega) fun a2 c2 C2 hO2 => ?_
    conv => whnf
    obtain ⟨Wl, hWl0⟩ : ∃ Wl : List (Req × Hd), Wl = m ++ [(l[i].1.req, l[i].2)] := ⟨_, rfl⟩
    have hWm : Wl.map (·.1) = p.wait ++ [l[i].1.req] := by rw [hWl0, List.map_append, hm]; rfl
    have hWk : Own 4 Wl.length a2 c2 C2 (reqCells Wl) := by
      rw [hWl0, reqCells_snoc]
      simpa using hO2
    have hWo : ReqOk Wl := by
      rw [hWl0]
      intro q hq
      rcases List.mem_append.1 hq with hq | hq
      · exact hmo q hq
      · obtain rfl := List.mem_singleton.1 hq
        exact hok
    have hWn : Wl.length = m.length + 1 := by rw [hWl0]; simp
    have hWd : ∀ t, (findR (Wl.map (·.1)) t).data.length ≤ 200 := findR_small (by
      rw [hWm]
      intro r hr
      rcases List.mem_append.1 hr with hr | hr
      · have := ((okReqs_iff.1 hs.ok).1 r hr).2.2
        omega
      · obtain rfl := List.mem_singleton.1 hr
        exact hs200 _ (List.getElem_mem hlt'))
    have hWB : ∀ w, (∀ q ∈ m, By w q.2 q.1.data) → StpAt w h l → ∀ q ∈ Wl, By w q.2 q.1.data := fun w h1 h2 q hq => by
      rw [hWl0] at hq
      rcases List.mem_append.1 hq with hq | hq
      · exact h1 q hq
      · obtain rfl := List.mem_singleton.1 hq
        exact h2.2 _ (List.getElem_mem hlt')
    have hOn : m.length + 1 = Wl.length := hWn.symm
    rw [hOn]
    have hlal : la.length ≤ 41 := by
      have := congrArg List.length hla
      simp at this
      omega
    have had : ∀ x ∈ la, x.1.data.length ≤ 64 := fun x hx => hs2 x.1 (by rw [← hla]; exact List.mem_map_of_mem hx)
    rw [← hWm, ← hla] at hs3
    refine XStop.ent (F' := ⟨fun w => (StpAt w h l ∧ hp.By p w ∧ hq1.By q.1 w ∧ AnAt w ka la) ∧ ReqAt w ⟨a2, c2⟩ Wl, []⟩) (Ent.trans (Own.share (D := fun w => ((StpAt w h l ∧ hp.By p w) ∧ ∀ q ∈ m, By w q.2 q.1.data) ∧ hq1.By q.1 w ∧ AnAt w ka la) hWk (r1 := []) (r2 := [(b5, Row.c (l[i].1.req.cells l[i].2))])) (Ent.bare fun w hw => ⟨⟨hw.1.1.1.1, hw.1.1.1.2, hw.1.2.1, hw.1.2.2⟩, hw.2, hWB w hw.1.1.2 hw.1.1.1.1⟩)) ?_
    refine XStop.loop tabOk (ι := Nat × List UInt8 × List UInt8) ([6, 7, 14, 15] ++ List.range' 68 28)
      (fun x => x.1 ≤ la.length ∧ absorb (Wl.map (·.1)) ((la.drop x.1).map (·.1)) x.2 = absorb (Wl.map (·.1)) (la.map (·.1)) (W, Rd) ∧ x.2.1.length ≤ 20000 * i + 200 * x.1 ∧ x.2.2.length ≤ 20000 * i + 200 * x.1)
      (fun x => [(6, .v (strV x.2.1)), (7, .v (strV x.2.2)), (14, .v (.int .i64 (x.1 : Int)))]) (fun x => [hp.cells p, l[i].1.cells l[i].2, hq1.cells q.1])
      (fun x => ⟨fun w => (StpAt w h l ∧ hp.By p w ∧ hq1.By q.1 w ∧ AnAt w ka la) ∧ ReqAt w ⟨a2, c2⟩ Wl, []⟩)
      (fun x => la.length - x.1) (0, W, Rd) ⟨Nat.zero_le _, rfl, by dsimp only; omega, by dsimp only; omega⟩ ?_ rfl (Ent.refl _) fun x hx => ?_
    · conv => whnf
      repeat (first | exact FLe.nil | refine FLe.any ?_ | refine FLe.cons ?_)
    obtain ⟨k, W', R'⟩ := x
    obtain ⟨hk, hab, hW', hR'⟩ := hx
    dsimp only at hk hab hW' hR' ⊢
    conv => whnf
    refine XIf.split (fun hkl => ?_) (fun hkl => ?_)
    · have hkl' : k < la.length := by
        have : (k : Int) < la.length := by simpa [iLt_eq] using hkl
        omega
      rw [List.drop_eq_getElem_cons hkl', List.map_cons] at hab
      have hab' : absorb (Wl.map (·.1)) ((la.drop (k + 1)).map (·.1)) (absorb1 (Wl.map (·.1)) la[k].1 (W', R')) = absorb (Wl.map (·.1)) (la.map (·.1)) (W, Rd) := hab
      have hdk := had _ (List.getElem_mem hkl')
      have hdf := hWd la[k].1.task
      conv => whnf
      refine XVal.of_read (XRead.index tabOk (t := 32) rfl rfl rfl (by omega) (by omega) hka.nil fun adk hadk => ?_)
      conv => whnf
      refine XVal.of_read (XRead.loadF tabOk (t := 3) rfl rfl (ad := adk) (k := k * 3 + 0) (L := anCells la) (v := .int .i64 la[k].1.task) (fun w hst => hadk ▸ hst.now.1.2.2.2.1) (fun hsp => Addr.add_add hsp _ _) (anCells_at la hkl' (by omega)) ?_)
      conv => whnf
      refine XCall.pure (find_spec ⟨a2, c2⟩ Wl ⟨fun ha => hWk.none_nil ha, hWk.fit⟩ hWo (by omega) la[k].1.task) (fun w hw => hw.2) ?_
      unfold absorb1 at hab'
      simp only at hab'
      generalize findR (Wl.map (·.1)) la[k].1.task = r at *
      rintro v F ⟨kr, rfl, hkr, rfl⟩
      conv => whnf
      intro b6
      conv => whnf
      refine XIf.split (fun hrw => ?_) (fun hrw => ?_)
      · rw [if_pos hrw] at hab'
        conv => whnf
        refine XVal.of_read (XRead.bytes tabOk (t := 25) (u := 9) rfl rfl rfl rfl rfl rfl (l := r.data) (Sees.fact fun w hw => hw.2) rfl ?_)
        conv => whnf
        refine XVal.of_read (XRead.strAdd (l := W') (m := r.data) (by omega) ?_)
        conv => whnf
        refine XVal.of_read (XRead.index tabOk (t := 32) rfl rfl rfl (by omega) (by omega) hka.nil fun ad2 had2 => ?_)
        conv => whnf
        refine XVal.of_read (XRead.loadF tabOk (t := 25) rfl rfl (ad := ad2) (k := k * 3 + 2) (L := anCells la) (v := la[k].2.v la[k].1.data.length) (fun w hst => had2 ▸ hst.now.1.1.2.2.2.1) (fun hsp => Addr.add_add hsp _ _) (anCells_at la hkl' (by omega)) ?_)
        conv => whnf
        refine XVal.of_read (XRead.bytes tabOk (t := 25) (u := 9) rfl rfl rfl rfl rfl rfl (l := la[k].1.data) (Sees.fact fun w hw => hw.1.1.2.2.2.2 _ (List.getElem_mem hkl')) rfl ?_)
        conv => whnf
        refine XVal.of_read (XRead.strAdd (l := R') (m := la[k].1.data) (by omega) ?_)
        conv => whnf
        refine ⟨(k + 1, W' ++ r.data, R' ++ la[k].1.data), ⟨⟨hkl', hab', by simp; omega, by simp; omega⟩, by dsimp only; omega⟩, ?_, ?_, ?_⟩
        · conv => whnf
          refine ⟨?_, rfl⟩
          repeat (first | exact FLe.nil | refine FLe.any ?_ | refine FLe.cons ?_ | refine FLe.eq (by rw [wrap_i64 (by omega)]; rfl) ?_)
        · conv => whnf
          exact ⟨⟨rfl, rfl⟩, ⟨rfl, rfl⟩, ⟨rfl, rfl⟩, trivial⟩
        · exact Ent.of_le ⟨by simp [Fx.and], fun w hw => hw.1⟩
      · rw [if_neg (by simp [hrw])] at hab'
        conv => whnf
        refine XVal.of_read (XRead.index tabOk (t := 32) rfl rfl rfl (by omega) (by omega) hka.nil fun ad2 had2 => ?_)
        conv => whnf
        refine XVal.of_read (XRead.loadF tabOk (t := 25) rfl rfl (ad := ad2) (k := k * 3 + 2) (L := anCells la) (v := la[k].2.v la[k].1.data.length) (fun w hst => had2 ▸ hst.now.1.1.2.2.2.1) (fun hsp => Addr.add_add hsp _ _) (anCells_at la hkl' (by omega)) ?_)
        conv => whnf
        refine XVal.of_read (XRead.bytes tabOk (t := 25) (u := 9) rfl rfl rfl rfl rfl rfl (l := la[k].1.data) (Sees.fact fun w hw => hw.1.1.2.2.2.2 _ (List.getElem_mem hkl')) rfl ?_)
        conv => whnf
        refine XVal.of_read (XRead.strAdd (l := R') (m := la[k].1.data) (by omega) ?_)
        conv => whnf
        refine ⟨(k + 1, W', R' ++ la[k].1.data), ⟨⟨hkl', hab', by dsimp only; omega, by simp; omega⟩, by dsimp only; omega⟩, ?_, ?_, ?_⟩
        · conv => whnf
          refine ⟨?_, rfl⟩
          repeat (first | exact FLe.nil | refine FLe.any ?_ | refine FLe.cons ?_ | refine FLe.eq (by rw [wrap_i64 (by omega)]; rfl) ?_)
        · conv => whnf
          exact ⟨⟨rfl, rfl⟩, ⟨rfl, rfl⟩, ⟨rfl, rfl⟩, trivial⟩
        · exact Ent.of_le ⟨by simp [Fx.and], fun w hw => hw.1⟩
    · have hke : k = la.length := by
        have : ¬ (k : Int) < la.length := by simpa [iLt_eq] using hkl
        omega
      subst hke
      rw [List.drop_length] at hab
      have hab' : (W', R') = absorb (Wl.map (·.1)) (la.map (·.1)) (W, Rd) := hab
      rw [← hab'] at hs3
      have hfl2 := hs3.eq
      dsimp only at hfl2
      have hRW : R'.length ≤ W'.length := by
        have := congrArg List.length hfl2
        simp at this
        omega
      have htk : W'.take R'.length = R' := by rw [hfl2]; simp
      conv => whnf
      refine XIf.no (by show iGt (R'.length : Int) (W'.length : Int) = false; simp [iGt_eq]; omega) ?_
      conv => whnf
      refine XVal.of_read (XRead.strTake tabOk (t := 9) rfl rfl (l := W') R'.length rfl hRW ?_)
      rw [htk]
      conv => whnf
      refine XVal.of_read (XRead.strNe (l := R') (m := R') ?_)
      conv => whnf
      repeat' (first
        | (refine XSame.of ?_; conv => whnf))
      refine XIf.no (by simp) ?_
      conv => whnf
      refine ⟨(i + 1, q.1, hq1, W', R'), ⟨⟨hlt', hqv, by dsimp only; omega, hqo, hs4, hs5, hs3, by dsimp only; omega⟩, by dsimp only; omega⟩, ?_, ?_, ?_⟩
      · conv => whnf
        refine ⟨?_, rfl⟩
        repeat (first | exact FLe.nil | refine FLe.any ?_ | refine FLe.cons ?_ | refine FLe.eq (by rw [wrap_i64 (by omega)]; rfl) ?_)
      · conv => whnf
        exact ⟨⟨rfl, rfl⟩, trivial⟩
      · exact Ent.bare fun w hw => ⟨hw.1.1, hw.1.2.2.1⟩
  · conv => whnf
    have hW0 : W.length ≤ 800000 + 20000 * (40 - p.wait.length) := by omega
    have hp40 : p.wait.length ≤ 40 := by omega
    refine XStop.ent (F' := ⟨fun w => hp.By p w, []⟩) (Ent.bare fun w hw => hw.2) ?_
    clear hRl hpf hs hrd hwr hWl hwl
    refine XStop.loop tabOk (ι := Pipe × PH × List UInt8 × List UInt8) ([6, 7] ++ List.range' 16 11 ++ List.range' 110 115)
      (fun x => x.1.valid = true ∧ x.1.wait.length ≤ 40 ∧ x.2.1.Ok x.1 ∧ x.1.rd = 1 ∧ x.1.wr = 1 ∧ Flow x.1 x.2.2 ∧ x.2.2.1.length ≤ 800000 + 20000 * (40 - x.1.wait.length))
      (fun x => [(6, .v (strV x.2.2.1)), (7, .v (strV x.2.2.2))]) (fun x => [x.2.1.cells x.1])
      (fun x => ⟨fun w => x.2.1.By x.1 w, []⟩)
      (fun x => x.1.wait.length) (p, hp, W, Rd) ⟨hv, hp40, hpo, hrd1, hwr1, hfl, hW0⟩ ?_ rfl (Ent.refl _) fun x hx => ?_
    · conv => whnf
      repeat (first | exact FLe.nil | refine FLe.any ?_ | refine FLe.cons ?_)
    clear hv hp40 hpo hrd1 hwr1 hfl hW0
    obtain ⟨p, hp, W, Rd⟩ := x
    obtain ⟨hv, hp40, hpo, hrd1, hwr1, hfl, hWl⟩ := hx
    dsimp only at hv hp40 hpo hrd1 hwr1 hfl hWl ⊢
    obtain ⟨hs, hrd, hwr⟩ := valid_iff.1 hv
    have hpf : p.Few := hs.few hp40 (by omega)
    have hpl : hp.l.length = p.wait.length := by rw [← hpo.l]; simp
    have hRl : Rd.length ≤ W.length := by
      have := congrArg List.length hfl.eq
      simp at this
      omega
    conv => whnf
    refine XIf.split (fun hgt => ?_) (fun hgt => ?_)
    · have hw0 : 0 < p.wait.length := by
        have : (0 : Int) < hp.l.length := by simpa [iGt_eq] using hgt
        omega
      have hw1 : 0 < hp.l.length := by omega
      have hpw : p.wait[0] = hp.l[0].1 := by
        have : p.wait[0]? = (hp.l.map (·.1))[0]? := by rw [hpo.l]
        simpa [hw0, hw1] using this
      obtain ⟨q, hq0, hq1, hqv, hqw, hqa, hqd, hqf, hqr, hqs⟩ := drop_flow hv hrd1 hwr1 hw0 hfl
      have sp := drop_spec p hp hpo hpf p.wait[0].task
      rw [hq0, hpw] at sp
      conv => whnf
      refine XStop.draw tabOk mixed rfl rfl ?_
      conv => whnf
      repeat' (first
        | (refine And.intro ?_ ?_ <;> conv => whnf)
        | (refine XHeld.same rfl ?_; conv => whnf)
        | (refine XHeld.row rfl ?_; conv => whnf)
        | (refine XHeld.call rfl ?_; conv => whnf)
        | (refine XKeep.of ?_; conv => whnf)
        | (refine XSame.of ?_; conv => whnf)
        | (refine XRead.index tabOk (t := 26) rfl rfl rfl (by omega) (by omega) hpo.w.nil fun ad had => ?_; conv => whnf)
        | (refine XRead.loadF tabOk (t := 3) rfl rfl (ad := ad) (k := 0 * 4 + 0) (L := reqCells hp.l) (v := .int .i64 hp.l[0].1.task) (fun w hst => had ▸ hst.now.r.1) (fun hsp => Addr.add_add hsp _ _) (reqCells_at hp.l hw1 (by omega)) ?_; conv => whnf)
        | (refine XCall.pure sp (fun w hw => hw) ?_; rintro v F ⟨h2, ka, la, rfl, hh2, hka, hla, hoa, rfl⟩; conv => whnf)
        | (intro b4; conv => whnf)
        | (refine XHeld.mk ?_ ?_ ?_; (focus ((conv => whnf); (first | exact trivial | exact ⟨⟨rfl, rfl⟩, trivial⟩ | exact ⟨⟨rfl, rfl⟩, ⟨rfl, rfl⟩, trivial⟩ | exact ⟨⟨rfl, rfl⟩, ⟨rfl, rfl⟩, ⟨rfl, rfl⟩, trivial⟩ | exact ⟨⟨rfl, rfl⟩, ⟨rfl, rfl⟩, ⟨rfl, rfl⟩, ⟨rfl, rfl⟩, trivial⟩ | exact ⟨⟨rfl, rfl⟩, ⟨rfl, rfl⟩, ⟨rfl, rfl⟩, ⟨rfl, rfl⟩, ⟨rfl, rfl⟩, trivial⟩ | exact ⟨⟨rfl, rfl⟩, ⟨rfl, rfl⟩, ⟨rfl, rfl⟩, ⟨rfl, rfl⟩, ⟨rfl, rfl⟩, ⟨rfl, rfl⟩, trivial⟩ | exact ⟨⟨rfl, rfl⟩, ⟨rfl, rfl⟩, ⟨rfl, rfl⟩, ⟨rfl, rfl⟩, ⟨rfl, rfl⟩, ⟨rfl, rfl⟩, ⟨rfl, rfl⟩, trivial⟩ | exact ⟨⟨rfl, rfl⟩, ⟨rfl, rfl⟩, ⟨rfl, rfl⟩, ⟨rfl, rfl⟩, ⟨rfl, rfl⟩, ⟨rfl, rfl⟩, ⟨rfl, rfl⟩, ⟨rfl, rfl⟩, trivial⟩))); (focus (first | exact Ent.refl _ | exact Ent.left _ _ | exact Ent.of_le ⟨List.sublist_append_left _ _, fun w h => h⟩ | exact Ent.of_le ⟨List.Sublist.refl _, fun w h => h.1⟩)); conv => whnf))
      all_goals
        have h2l : h2.l.length = q.1.wait.length := by rw [← hh2.l]; simp
        refine XIf.no (by simp [iNe_eq, iGe_eq, hq1]; omega) ?_
        conv => whnf
        have hlal : la.length ≤ 40 := by
          have := congrArg List.length hla
          simp at this
          omega
        have had : ∀ x ∈ la, x.1.data.length ≤ 64 := fun x hx => hqd x.1 (by rw [← hla]; exact List.mem_map_of_mem hx)
        have hqf2 := hqf
        rw [← hla] at hqf2
        have hWd : ∀ t, (findR p.wait t).data.length ≤ 200 := findR_small fun r hr => by
          have := ((okReqs_iff.1 hs.ok).1 r hr).2.2
          omega
        refine XStop.loop tabOk (ι := Nat × List UInt8 × List UInt8) ([6, 7, 19, 20] ++ List.range' 136 30)
          (fun x => x.1 ≤ la.length ∧ absorb p.wait ((la.drop x.1).map (·.1)) x.2 = absorb p.wait (la.map (·.1)) (W, Rd) ∧ x.2.1.length ≤ 800000 + 20000 * (40 - p.wait.length) + 200 * x.1 ∧ x.2.2.length ≤ 800000 + 20000 * (40 - p.wait.length) + 200 * x.1)
          (fun x => [(6, .v (strV x.2.1)), (7, .v (strV x.2.2)), (19, .v (.int .i64 (x.1 : Int)))]) (fun x => [hp.cells p, h2.cells q.1])
          (fun x => ⟨fun w => hp.By p w ∧ h2.By q.1 w ∧ AnAt w ka la, []⟩)
          (fun x => la.length - x.1) (0, W, Rd) ⟨Nat.zero_le _, rfl, by dsimp only; omega, by dsimp only; omega⟩ ?_ rfl (Ent.refl _) fun x hx => ?_
        · conv => whnf
          repeat (first | exact FLe.nil | refine FLe.any ?_ | refine FLe.cons ?_)
        obtain ⟨k, W', R'⟩ := x
        obtain ⟨hk, hab, hW', hR'⟩ := hx
        dsimp only at hk hab hW' hR' ⊢
        conv => whnf
        refine XIf.split (fun hkl => ?_) (fun hkl => ?_)
        · have hkl' : k < la.length := by
            have : (k : Int) < la.length := by simpa [iLt_eq] using hkl
            omega
          rw [List.drop_eq_getElem_cons hkl', List.map_cons] at hab
          have hab' : absorb p.wait ((la.drop (k + 1)).map (·.1)) (absorb1 p.wait la[k].1 (W', R')) = absorb p.wait (la.map (·.1)) (W, Rd) := hab
          have hdk := had _ (List.getElem_mem hkl')
          have hdf := hWd la[k].1.task
          have sfm : ∀ h' : PH, h'.Ok p → PureSpec Try.prog 15 [h'.w.v h'.l.length, .int .i64 la[k].1.task] (fun w => ReqAt w h'.w h'.l) (fun v F => ∃ k' : Hd, v = .agg ⟨(findR p.wait la[k].1.task).cells k'⟩ ∧ k'.Ok (findR p.wait la[k].1.task).data.length ∧ F = ⟨fun w => By w k' (findR p.wait la[k].1.task).data, []⟩) := fun h' ho' => by
            have hl' : h'.l.length = p.wait.length := by rw [← ho'.l]; simp
            have := find_spec h'.w h'.l ho'.w ho'.d (by omega) la[k].1.task
            rw [ho'.l] at this
            exact this
          unfold absorb1 at hab'
          simp only at hab'
          generalize findR p.wait la[k].1.task = r at *
          conv => whnf
          refine XStop.draw tabOk mixed rfl rfl ?_
          conv => whnf
          repeat' (first
            | (refine And.intro ?_ ?_ <;> conv => whnf)
            | (refine XHeld.same rfl ?_; conv => whnf)
            | (refine XHeld.row rfl ?_; conv => whnf)
            | (refine XHeld.call rfl ?_; conv => whnf)
            | (refine XKeep.of ?_; conv => whnf)
            | (refine XSame.of ?_; conv => whnf)
            | (refine XRead.index tabOk (t := 32) rfl rfl rfl (by omega) (by omega) hka.nil fun adk hadk => ?_; conv => whnf)
            | (refine XRead.loadF tabOk (t := 3) rfl rfl (ad := adk) (k := k * 3 + 0) (L := anCells la) (v := .int .i64 la[k].1.task) (fun w hst => hadk ▸ hst.now.2.2.1) (fun hsp => Addr.add_add hsp _ _) (anCells_at la hkl' (by omega)) ?_; conv => whnf)
            | (refine XCall.pure (fromS_spec p hp hpo hpf) (fun w hw => hw.1) ?_; rintro v F ⟨h5, rfl, ho5, rfl⟩; conv => whnf)
            | (refine XCall.pure (sfm h5 ho5) (fun w hw => hw.2.r) ?_; rintro v F ⟨kr, rfl, hkr, rfl⟩; conv => whnf)
            | (intro b6; conv => whnf)
            | (refine XHeld.mk ?_ ?_ ?_; (focus ((conv => whnf); (first | exact trivial | exact ⟨⟨rfl, rfl⟩, trivial⟩ | exact ⟨⟨rfl, rfl⟩, ⟨rfl, rfl⟩, trivial⟩ | exact ⟨⟨rfl, rfl⟩, ⟨rfl, rfl⟩, ⟨rfl, rfl⟩, trivial⟩ | exact ⟨⟨rfl, rfl⟩, ⟨rfl, rfl⟩, ⟨rfl, rfl⟩, ⟨rfl, rfl⟩, trivial⟩ | exact ⟨⟨rfl, rfl⟩, ⟨rfl, rfl⟩, ⟨rfl, rfl⟩, ⟨rfl, rfl⟩, ⟨rfl, rfl⟩, trivial⟩ | exact ⟨⟨rfl, rfl⟩, ⟨rfl, rfl⟩, ⟨rfl, rfl⟩, ⟨rfl, rfl⟩, ⟨rfl, rfl⟩, ⟨rfl, rfl⟩, trivial⟩ | exact ⟨⟨rfl, rfl⟩, ⟨rfl, rfl⟩, ⟨rfl, rfl⟩, ⟨rfl, rfl⟩, ⟨rfl, rfl⟩, ⟨rfl, rfl⟩, ⟨rfl, rfl⟩, trivial⟩ | exact ⟨⟨rfl, rfl⟩, ⟨rfl, rfl⟩, ⟨rfl, rfl⟩, ⟨rfl, rfl⟩, ⟨rfl, rfl⟩, ⟨rfl, rfl⟩, ⟨rfl, rfl⟩, ⟨rfl, rfl⟩, trivial⟩))); (focus (first | exact Ent.refl _ | exact Ent.left _ _ | exact Ent.of_le ⟨List.sublist_append_left _ _, fun w h => h⟩ | exact Ent.of_le ⟨List.Sublist.refl _, fun w h => h.1⟩)); conv => whnf))
          all_goals
            refine XIf.split (fun hrw => ?_) (fun hrw => ?_)
            · rw [if_pos hrw] at hab'
              conv => whnf
              refine XVal.of_read (XRead.bytes tabOk (t := 25) (u := 9) rfl rfl rfl rfl rfl rfl (l := r.data) (Sees.fact fun w hw => hw.2) rfl ?_)
              conv => whnf
              refine XVal.of_read (XRead.strAdd (l := W') (m := r.data) (by omega) ?_)
              conv => whnf
              refine XVal.of_read (XRead.index tabOk (t := 32) rfl rfl rfl (by omega) (by omega) hka.nil fun ad2 had2 => ?_)
              conv => whnf
              refine XVal.of_read (XRead.loadF tabOk (t := 25) rfl rfl (ad := ad2) (k := k * 3 + 2) (L := anCells la) (v := la[k].2.v la[k].1.data.length) (fun w hst => had2 ▸ hst.now.1.1.2.2.1) (fun hsp => Addr.add_add hsp _ _) (anCells_at la hkl' (by omega)) ?_)
              conv => whnf
              refine XVal.of_read (XRead.bytes tabOk (t := 25) (u := 9) rfl rfl rfl rfl rfl rfl (l := la[k].1.data) (Sees.fact fun w hw => hw.1.1.2.2.2 _ (List.getElem_mem hkl')) rfl ?_)
              conv => whnf
              refine XVal.of_read (XRead.strAdd (l := R') (m := la[k].1.data) (by omega) ?_)
              conv => whnf
              refine ⟨(k + 1, W' ++ r.data, R' ++ la[k].1.data), ⟨⟨hkl', hab', by simp; omega, by simp; omega⟩, by dsimp only; omega⟩, ?_, ?_, ?_⟩
              · conv => whnf
                refine ⟨?_, rfl⟩
                repeat (first | exact FLe.nil | refine FLe.any ?_ | refine FLe.cons ?_ | refine FLe.eq (by rw [wrap_i64 (by omega)]; rfl) ?_)
              · conv => whnf
                exact ⟨⟨rfl, rfl⟩, ⟨rfl, rfl⟩, trivial⟩
              · exact Ent.of_le ⟨by simp [Fx.and], fun w hw => hw.1.1⟩
            · rw [if_neg (by simp [hrw])] at hab'
              conv => whnf
              refine XVal.of_read (XRead.index tabOk (t := 32) rfl rfl rfl (by omega) (by omega) hka.nil fun ad2 had2 => ?_)
              conv => whnf
              refine XVal.of_read (XRead.loadF tabOk (t := 25) rfl rfl (ad := ad2) (k := k * 3 + 2) (L := anCells la) (v := la[k].2.v la[k].1.data.length) (fun w hst => had2 ▸ hst.now.1.1.2.2.1) (fun hsp => Addr.add_add hsp _ _) (anCells_at la hkl' (by omega)) ?_)
              conv => whnf
              refine XVal.of_read (XRead.bytes tabOk (t := 25) (u := 9) rfl rfl rfl rfl rfl rfl (l := la[k].1.data) (Sees.fact fun w hw => hw.1.1.2.2.2 _ (List.getElem_mem hkl')) rfl ?_)
              conv => whnf
              refine XVal.of_read (XRead.strAdd (l := R') (m := la[k].1.data) (by omega) ?_)
              conv => whnf
              refine ⟨(k + 1, W', R' ++ la[k].1.data), ⟨⟨hkl', hab', by dsimp only; omega, by simp; omega⟩, by dsimp only; omega⟩, ?_, ?_, ?_⟩
              · conv => whnf
                refine ⟨?_, rfl⟩
                repeat (first | exact FLe.nil | refine FLe.any ?_ | refine FLe.cons ?_ | refine FLe.eq (by rw [wrap_i64 (by omega)]; rfl) ?_)
              · conv => whnf
                exact ⟨⟨rfl, rfl⟩, ⟨rfl, rfl⟩, trivial⟩
              · exact Ent.of_le ⟨by simp [Fx.and], fun w hw => hw.1.1⟩
        · have hke : k = la.length := by
            have : ¬ (k : Int) < la.length := by simpa [iLt_eq] using hkl
            omega
          subst hke
          rw [List.drop_length] at hab
          have hab' : (W', R') = absorb p.wait (la.map (·.1)) (W, Rd) := hab
          rw [← hab'] at hqf2
          conv => whnf
          refine ⟨(q.1, h2, W', R'), ⟨⟨hqv, by dsimp only; omega, hh2, hqr, hqs, hqf2, by dsimp only; omega⟩, by dsimp only; omega⟩, ?_, ?_, ?_⟩
          · conv => whnf
            refine ⟨?_, rfl⟩
            repeat (first | exact FLe.nil | refine FLe.any ?_ | refine FLe.cons ?_ | refine FLe.eq (by rw [wrap_i64 (by omega)]; rfl) ?_)
          · conv => whnf
            exact ⟨⟨rfl, rfl⟩, trivial⟩
          · exact Ent.bare fun w hw => hw.2.1
    · have hw0 : p.wait = [] := by
        have : ¬ (0 : Int) < hp.l.length := by simpa [iGt_eq] using hgt
        exact List.eq_nil_of_length_eq_zero (by omega)
      have sp := close_spec p hp hpo hpf true
      have hbl := hs.buf
      have hv2 := wr_zero_valid hv hw0
      obtain ⟨q, hq0, hq1, hq2⟩ : ∃ q, p.close true = q ∧ q.1 = { p with wr := 0 } ∧ q.2.2 = 0 := ⟨_, rfl, by rw [close_empty hv hwr1 hw0], by rw [close_empty hv hwr1 hw0]⟩
      rw [hq0] at sp
      have hqv : q.1.valid = true := by rw [hq1]; exact hv2
      have hqw : q.1.wait = [] := by rw [hq1]; exact hw0
      have hqr : q.1.wr = 0 := by rw [hq1]
      have hqb : q.1.buf = p.buf := by rw [hq1]
      conv => whnf
      refine XCall.pure sp (fun w hw => hw) ?_
      rintro v F ⟨h2, ka, la, rfl, hh2, hka, hla, hoa, rfl⟩
      conv => whnf
      refine XIf.no (by simp [iNe_eq, hq2]) ?_
      conv => whnf
      refine XStop.loop tabOk (ι := Nat × Pipe × PH × List UInt8) ([7, 23, 24, 25, 26] ++ List.range' 175 50)
        (fun x => x.2.1.valid = true ∧ x.2.1.wait = [] ∧ x.2.1.wr = 0 ∧ x.2.2.1.Ok x.2.1 ∧ W = x.2.2.2 ++ x.2.1.buf ∧ x.2.1.buf.length + x.1 ≤ 64)
        (fun x => [(7, .v (strV x.2.2.2)), (23, .v (.int .i64 (x.1 : Int)))]) (fun x => [x.2.2.1.cells x.2.1])
        (fun x => ⟨fun w => x.2.2.1.By x.2.1 w, []⟩)
        (fun x => 64 - x.1) (0, q.1, h2, Rd) ⟨hqv, hqw, hqr, hh2, by dsimp only; rw [hqb]; exact hfl.eq, by dsimp only; rw [hqb]; omega⟩ ?_ rfl (Ent.of_le ⟨by simp [Fx.and], fun w hw => hw.2.1⟩) fun x hx => ?_
      · conv => whnf
        repeat (first | exact FLe.nil | refine FLe.any ?_ | refine FLe.cons ?_)
      obtain ⟨j, p2, hp2, R'⟩ := x
      obtain ⟨hv3, hw3, hwr3, hpo3, hfl3, hj3⟩ := hx
      dsimp only at hv3 hw3 hwr3 hpo3 hfl3 hj3 ⊢
      obtain ⟨hs3, _, _⟩ := valid_iff.1 hv3
      have hpf3 : p2.Few := hs3.few (n := 0) (by rw [hw3]; simp) (by omega)
      conv => whnf
      refine XIf.yes (by simp [iLt_eq]; omega) ?_
      conv => whnf
      have hN : 1 ≤ IntKind.i64.wrap (IntKind.i64.wrap (n.tmod (Int.ofNat (19 + 1))) + 1) ∧ IntKind.i64.wrap (IntKind.i64.wrap (n.tmod (Int.ofNat (19 + 1))) + 1) ≤ 20 := by
        have e : n.tmod (Int.ofNat (19 + 1)) = n % 20 := Int.tmod_eq_emod_of_nonneg hn0.1
        rw [e]
        have h1 : 0 ≤ n % 20 := Int.emod_nonneg _ (by omega)
        have h2 : n % 20 < 20 := Int.emod_lt_of_pos _ (by omega)
        rw [wrap_i64 (n := n % 20) (by omega), wrap_i64 (by omega)]
        omega
      generalize IntKind.i64.wrap (IntKind.i64.wrap (n.tmod (Int.ofNat (19 + 1))) + 1) = nn at hN
      have sq := ask_spec p2 hp2 hpo3 hpf3 (by rw [hw3]; simp) ⟨1, false, nn, []⟩ Hd.nil Hd.nil_ok (by simp)
      obtain ⟨kk, hkk⟩ : ∃ kk, kk = min nn.toNat p2.buf.length := ⟨_, rfl⟩
      obtain ⟨q3, e0, e1, e2, e3⟩ : ∃ q3, p2.ask ⟨1, false, nn, []⟩ = q3 ∧ q3.1 = { p2 with buf := p2.buf.drop kk } ∧ q3.2.1 = [⟨1, (kk : Int), p2.buf.take kk⟩] ∧ q3.2.2 = 0 :=
        ⟨_, rfl, by rw [ask_last hv3 hwr3 hw3 ⟨hN.1, by omega⟩, hkk], by rw [ask_last hv3 hwr3 hw3 ⟨hN.1, by omega⟩, hkk], by rw [ask_last hv3 hwr3 hw3 ⟨hN.1, by omega⟩]⟩
      rw [e0] at sq
      have hv4 : q3.1.valid = true := by rw [e1]; exact drop_buf_valid hv3 hw3 kk
      have hw4 : q3.1.wait = [] := by rw [e1]; exact hw3
      have hr4 : q3.1.wr = 0 := by rw [e1]; exact hwr3
      have hb4 : q3.1.buf = p2.buf.drop kk := by rw [e1]
      refine XCall.pure sq (fun w hw => ⟨hw, By.nil w⟩) ?_
      rintro v F ⟨h4, k4, l4, rfl, hh4, hk4, hl4, ho4, rfl⟩
      have hl1 : l4.length = 1 := by
        have := congrArg List.length hl4
        rw [e2] at this
        simpa using this
      have l0 : 0 < l4.length := by omega
      have hx : (l4[0]'(by omega)).1 = ⟨1, (kk : Int), p2.buf.take kk⟩ := by
        have : (l4.map (·.1))[0]? = some ⟨1, (kk : Int), p2.buf.take kk⟩ := by rw [hl4, e2]; rfl
        rw [List.getElem?_map, List.getElem?_eq_getElem (by omega)] at this
        simpa using this
      have htl : (p2.buf.take kk).length = kk := by simp; omega
      have f1 : (anCells l4)[0 * 3 + 1]? = some (.int .i64 (kk : Int)) := by rw [anCells_at l4 l0 (by omega), hx]; rfl
      have f2 : (anCells l4)[0 * 3 + 2]? = some (l4[0].2.v kk) := by
        rw [anCells_at l4 l0 (by omega)]
        show some (l4[0].2.v l4[0].1.data.length) = _
        rw [hx]
        simp only [htl]
      have hW2 : W.length = R'.length + p2.buf.length := by rw [hfl3]; simp
      conv => whnf
      intro b7
      conv => whnf
      refine XStop.draw tabOk mixed rfl rfl ?_
      conv => whnf
      repeat' (first
        | (refine And.intro ?_ ?_ <;> conv => whnf)
        | (refine XHeld.same rfl ?_; conv => whnf)
        | (refine XHeld.row rfl ?_; conv => whnf)
        | (refine XHeld.call rfl ?_; conv => whnf)
        | (refine XKeep.of ?_; conv => whnf)
        | (refine XSame.of ?_; conv => whnf)
        | (refine XIf.no ?hb ?_; (case hb => simp [iNe_eq, e3, hl1]); conv => whnf)
        | (refine XRead.index tabOk (t := 32) rfl rfl rfl (by omega) (by omega) hk4.nil fun ad had => ?_; conv => whnf)
        | (refine XRead.loadF tabOk (t := 3) rfl rfl (ad := ad) (k := 0 * 3 + 1) (L := anCells l4) (v := .int .i64 (kk : Int)) (fun w hst => had ▸ hst.now.2.2.1) (fun hsp => Addr.add_add hsp _ _) f1 ?_; conv => whnf)
        | (refine XRead.loadF tabOk (t := 25) rfl rfl (ad := ad) (k := 0 * 3 + 2) (L := anCells l4) (v := l4[0].2.v kk) (fun w hst => had ▸ hst.now.2.2.1) (fun hsp => Addr.add_add hsp _ _) f2 ?_; conv => whnf)
        | (refine XHeld.mk ?_ ?_ ?_; (focus ((conv => whnf); (first | exact trivial | exact ⟨⟨rfl, rfl⟩, trivial⟩ | exact ⟨⟨rfl, rfl⟩, ⟨rfl, rfl⟩, trivial⟩ | exact ⟨⟨rfl, rfl⟩, ⟨rfl, rfl⟩, ⟨rfl, rfl⟩, trivial⟩ | exact ⟨⟨rfl, rfl⟩, ⟨rfl, rfl⟩, ⟨rfl, rfl⟩, ⟨rfl, rfl⟩, trivial⟩ | exact ⟨⟨rfl, rfl⟩, ⟨rfl, rfl⟩, ⟨rfl, rfl⟩, ⟨rfl, rfl⟩, ⟨rfl, rfl⟩, trivial⟩ | exact ⟨⟨rfl, rfl⟩, ⟨rfl, rfl⟩, ⟨rfl, rfl⟩, ⟨rfl, rfl⟩, ⟨rfl, rfl⟩, ⟨rfl, rfl⟩, trivial⟩ | exact ⟨⟨rfl, rfl⟩, ⟨rfl, rfl⟩, ⟨rfl, rfl⟩, ⟨rfl, rfl⟩, ⟨rfl, rfl⟩, ⟨rfl, rfl⟩, ⟨rfl, rfl⟩, trivial⟩ | exact ⟨⟨rfl, rfl⟩, ⟨rfl, rfl⟩, ⟨rfl, rfl⟩, ⟨rfl, rfl⟩, ⟨rfl, rfl⟩, ⟨rfl, rfl⟩, ⟨rfl, rfl⟩, ⟨rfl, rfl⟩, trivial⟩))); (focus (first | exact Ent.refl _ | exact Ent.left _ _ | exact Ent.of_le ⟨List.sublist_append_left _ _, fun w h => h⟩ | exact Ent.of_le ⟨List.Sublist.refl _, fun w h => h.1⟩)); conv => whnf))
      refine XVal.of_read (XRead.index tabOk (t := 32) rfl rfl rfl (by omega) (by omega) hk4.nil fun ad5 had5 => ?_)
      conv => whnf
      refine XVal.of_read (XRead.loadF tabOk (t := 25) rfl rfl (ad := ad5) (k := 0 * 3 + 2) (L := anCells l4) (v := l4[0].2.v kk) (fun w hst => had5 ▸ hst.now.2.2.1) (fun hsp => Addr.add_add hsp _ _) f2 ?_)
      conv => whnf
      refine XVal.of_read (XRead.bytes tabOk (t := 25) (u := 9) rfl rfl rfl rfl rfl rfl (l := p2.buf.take kk) (Sees.fact fun w hw => by have := hw.2.2.2 _ (List.getElem_mem l0); rw [hx] at this; exact this) htl.symm ?_)
      conv => whnf
      refine XVal.of_read (XRead.strAdd (l := R') (m := p2.buf.take kk) (by omega) ?_)
      conv => whnf
      refine XVal.of_read (XRead.index tabOk (t := 32) rfl rfl rfl (by omega) (by omega) hk4.nil fun ad6 had6 => ?_)
      conv => whnf
      refine XVal.of_read (XRead.loadF tabOk (t := 3) rfl rfl (ad := ad6) (k := 0 * 3 + 1) (L := anCells l4) (v := .int .i64 (kk : Int)) (fun w hst => had6 ▸ hst.now.2.2.1) (fun hsp => Addr.add_add hsp _ _) f1 ?_)
      conv => whnf
      refine XIf.split (fun hz => ?_) (fun hz => ?_)
      · have hk0 : kk = 0 := by
          have : (kk : Int) = 0 := by simpa [iEq_eq] using hz
          omega
        have hb0 : p2.buf = [] := List.eq_nil_of_length_eq_zero (by omega)
        conv => whnf
        refine XVal.of_read (XRead.strEq (l := R' ++ p2.buf.take kk) (m := W) ?_)
        conv => whnf
        refine ⟨_, Ent.refl _, ?_⟩
        rw [hfl3, hb0]
        simp
      · have hk0 : 0 < kk := by
          have : ¬ (kk : Int) = 0 := by simpa [iEq_eq] using hz
          omega
        conv => whnf
        refine ⟨(j + 1, q3.1, h4, R' ++ p2.buf.take kk), ⟨⟨hv4, hw4, hr4, hh4, ?_, ?_⟩, by dsimp only; omega⟩, ?_, ?_, ?_⟩
        · dsimp only
          rw [hb4, hfl3, List.append_assoc, List.take_append_drop]
        · dsimp only
          rw [hb4]
          simp
          omega
        · conv => whnf
          refine ⟨?_, rfl⟩
          repeat (first | exact FLe.nil | refine FLe.any ?_ | refine FLe.cons ?_ | refine FLe.eq (by rw [wrap_i64 (by omega)]; rfl) ?_)
        · conv => whnf
          exact ⟨⟨rfl, rfl⟩, trivial⟩
        · exact Ent.of_le ⟨by simp [Fx.and], fun w hw => hw.2.1⟩

end Go.Proofs.Ytpnnadojhacjiaa
