/- Pipes, part Z: the law PipesScript. -/
import Derived.Test.YtpnnadojhacjiaaPiY
namespace Go.Proofs.Ytpnnadojhacjiaa
open Go Go.Sx
set_option maxRecDepth 100000
set_option maxHeartbeats 4000000
set_option linter.unusedVariables false
set_option linter.unusedSimpArgs false

theorem settleN_small : ∀ (n : Nat) (p : Pipe) (l : List An), p.Sane → (settleN n p l).2.length ≤ l.length + n ∧ ∀ a ∈ (settleN n p l).2, a ∈ l ∨ a.data.length ≤ 64
  | 0, p, l, h => ⟨Nat.le_refl _, fun a ha => .inl ha⟩
  | n + 1, p, l, h => by
    unfold settleN
    split
    · rename_i hr
      obtain ⟨h1, h2⟩ := settleN_small n p.read.1 (l ++ [p.read.2]) (read_sane h)
      refine ⟨by simp at h1; omega, fun a ha => ?_⟩
      rcases h2 a ha with h3 | h3
      · rcases List.mem_append.1 h3 with h4 | h4
        · exact .inl h4
        · obtain rfl := List.mem_singleton.1 h4
          right
          show (p.buf.take _).length ≤ 64
          have := h.buf
          simp
          omega
      · exact .inr h3
    · split
      · rename_i hw
        obtain ⟨h1, h2⟩ := settleN_small n p.write.1 (l ++ [p.write.2]) (write_sane h hw)
        refine ⟨by simp at h1; omega, fun a ha => ?_⟩
        rcases h2 a ha with h3 | h3
        · rcases List.mem_append.1 h3 with h4 | h4
          · exact .inl h4
          · obtain rfl := List.mem_singleton.1 h4
            right
            unfold Pipe.write
            simp only
            split <;> simp
        · exact .inr h3
      · exact ⟨by dsimp only; omega, fun a ha => .inl ha⟩

theorem step_err (p : Pipe) (s : Stp) (h : (p.step s).2.2 ≠ 0) : (p.step s).1 = .zero ∧ (p.step s).2.1 = [] := by
  unfold Pipe.step at h ⊢
  split at h
  · rename_i h0
    rw [if_pos h0]
    unfold Pipe.open at h ⊢
    repeat' (split at h)
    all_goals simp_all
  · rename_i h0
    rw [if_neg h0]
    split at h
    · rename_i h1
      rw [if_pos h1]
      unfold Pipe.close at h ⊢
      repeat' (split at h)
      all_goals simp_all
    · rename_i h1
      rw [if_neg h1]
      split at h
      · rename_i h2
        rw [if_pos h2]
        unfold Pipe.drop at h ⊢
        repeat' (split at h)
        all_goals simp_all
      · rename_i h2
        rw [if_neg h2]
        unfold Pipe.ask at h ⊢
        repeat' (split at h)
        all_goals simp_all

theorem step_small {p : Pipe} (hv : p.valid = true) (hw : p.wait.length ≤ 1000) (s : Stp) : (p.step s).1.Few ∧ (p.step s).2.1.length ≤ 100000 ∧ ∀ a ∈ (p.step s).2.1, a.data.length ≤ 100000 := by
  by_cases h : (p.step s).2.2 = 0
  · obtain ⟨h1, h2⟩ := step_valid hv s h
    refine ⟨(valid_iff.1 h1).1.few (n := 2000) (by omega) (by omega), ?_⟩
    rcases step_cases hv s h with ⟨_, e, _⟩ | ⟨q, hq, hl, e, _⟩
    · rw [e]
      simp
    · rw [e]
      obtain ⟨h3, h4⟩ := settleN_small q.wait.length q [] hq
      refine ⟨?_, fun a ha => ?_⟩
      · show (settleN q.wait.length q []).2.length ≤ _
        simp at h3
        omega
      · rcases h4 a ha with h5 | h5
        · simp at h5
        · omega
  · obtain ⟨h1, h2⟩ := step_err p s h
    rw [h1, h2]
    exact ⟨⟨by decide, by decide, fun r hr => by simp [Pipe.zero] at hr⟩, by simp, fun a ha => by simp at ha⟩

theorem script_walk (h : Hd) (l : List (Stp × Hd)) (hh : h.Ok l.length) (ho : StpOk l) (hn : l.length ≤ 9223372036854775807) :
    PureSpec Try.prog 3 [h.v l.length] (fun w => StpAt w h l) (fun v F => v = .bool true) := by
  refine PureSpec.of_xc tabOk Try.func3 rfl (by decide) (n := Try.f3.ntmps - 1) rfl rfl fun w0 av => ?_
  conv => whnf
  refine XCall.val awake_spec (fun _ _ => trivial) (fun v D hv => ?_)
  subst hv
  conv => whnf
  refine XCall.val (few_spec h l hh hn) (fun w hw => hw.1) (fun v D hv => ?_)
  subst hv
  conv => whnf
  refine XIf.split (fun hf => ?_) (fun hf => ?_)
  · conv => whnf
    exact ⟨_, Ent.refl _, rfl⟩
  conv => whnf
  have hf' : few (l.map (·.1)) = true := by simpa using hf
  obtain ⟨hlen, hdat⟩ := few_all hf'
  have hl40 : l.length ≤ 40 := by simpa using hlen
  have hs200 : ∀ q ∈ l, q.1.req.data.length ≤ 200 := fun q hq => hdat q.1 (List.mem_map.2 ⟨q, hq, rfl⟩)
  intro b1
  conv => whnf
  intro b2
  conv => whnf
  refine XStop.loop tabOk (ι := Nat × Pipe × PH × PH) ([5, 6, 7, 8, 9, 10, 11] ++ List.range' 17 47)
    (fun x => x.1 ≤ l.length ∧ x.2.1.valid = true ∧ x.2.1.wait.length ≤ x.1 ∧ x.2.2.1.Ok x.2.1 ∧ x.2.2.2.Ok x.2.1)
    (fun x => [(5, .v (.int .i64 (x.1 : Int)))]) (fun x => [x.2.2.1.cells x.2.1, x.2.2.2.cells x.2.1])
    (fun x => ⟨fun w => StpAt w h l ∧ x.2.2.1.By x.2.1 w ∧ x.2.2.2.By x.2.1 w, []⟩)
    (fun x => l.length - x.1) (0, Pipe.zero, PH.nil, PH.nil) ⟨Nat.zero_le _, zero_valid, Nat.le_refl _, PH.nil_ok, PH.nil_ok⟩ ?_ rfl (Ent.bare fun w hw => ⟨hw, PH.nil_by w, PH.nil_by w⟩) fun x hx => ?_
  · conv => whnf
    repeat (first | exact FLe.nil | refine FLe.any ?_ | refine FLe.cons ?_)
  obtain ⟨i, p, hp, hq⟩ := x
  obtain ⟨hi, hv, hwl, hpo, hqo⟩ := hx
  dsimp only at hi hv hwl hpo hqo ⊢
  obtain ⟨hs, hrd, hwr⟩ := valid_iff.1 hv
  have hpf : p.Few := hs.few hwl (by omega)
  conv => whnf
  refine XIf.split (fun hlt => ?_) (fun hlt => ?_)
  · conv => whnf
    have hlt' : i < l.length := by
      have : (i : Int) < l.length := by simpa [iLt_eq] using hlt
      omega
    have hok := ho _ (List.getElem_mem hlt')
    have sp := step_spec p hp hpo hpf (by omega) l[i].1 l[i].2 hok (by have := hs200 _ (List.getElem_mem hlt'); omega)
    have sq := want_spec p hq hqo hv (by omega) l[i].1 l[i].2 hok (by have := hs200 _ (List.getElem_mem hlt'); omega)
    have hsv := step_valid hv l[i].1
    obtain ⟨hsm1, hsm2, hsm3⟩ := step_small hv (by omega) l[i].1
    generalize p.step l[i].1 = q at sp sq hsv hsm1 hsm2 hsm3
    refine XStop.draw tabOk mixed rfl rfl ?_
    conv => whnf
    repeat' (first
      | (refine And.intro ?_ ?_ <;> conv => whnf)
      | (refine XHeld.same rfl ?_; conv => whnf)
      | (refine XHeld.row rfl ?_; conv => whnf)
      | (refine XHeld.call rfl ?_; conv => whnf)
      | (refine XKeep.of ?_; conv => whnf)
      | (refine XSame.of ?_; conv => whnf)
      | (refine XRead.index tabOk (t := 22) rfl rfl rfl (by omega) (by omega) hh.nil fun ad had => ?_; conv => whnf)
      | (refine XRead.loads tabOk (t := 39) rfl rfl (ad := ad) (k := i * 5) (L := stpCells l) (fun w hst => had ▸ hst.now.1.1) rfl (stpCells_get l hlt') rfl ?_; conv => whnf)
      | (refine XCall.pure sp (fun w h => ⟨h.2.1, h.1.2 _ (List.getElem_mem hlt')⟩) ?_; rintro v F ⟨ha, ka, la, rfl, hao, hka, hla, hoa, rfl⟩; conv => whnf)
      | (intro bq; conv => whnf)
      | (refine XHeld.mk ?_ ?_ ?_; (focus ((conv => whnf); (first | exact trivial | exact ⟨⟨rfl, rfl⟩, trivial⟩ | exact ⟨⟨rfl, rfl⟩, ⟨rfl, rfl⟩, trivial⟩ | exact ⟨⟨rfl, rfl⟩, ⟨rfl, rfl⟩, ⟨rfl, rfl⟩, trivial⟩ | exact ⟨⟨rfl, rfl⟩, ⟨rfl, rfl⟩, ⟨rfl, rfl⟩, ⟨rfl, rfl⟩, trivial⟩ | exact ⟨⟨rfl, rfl⟩, ⟨rfl, rfl⟩, ⟨rfl, rfl⟩, ⟨rfl, rfl⟩, ⟨rfl, rfl⟩, trivial⟩ | exact ⟨⟨rfl, rfl⟩, ⟨rfl, rfl⟩, ⟨rfl, rfl⟩, ⟨rfl, rfl⟩, ⟨rfl, rfl⟩, ⟨rfl, rfl⟩, trivial⟩ | exact ⟨⟨rfl, rfl⟩, ⟨rfl, rfl⟩, ⟨rfl, rfl⟩, ⟨rfl, rfl⟩, ⟨rfl, rfl⟩, ⟨rfl, rfl⟩, ⟨rfl, rfl⟩, trivial⟩ | exact ⟨⟨rfl, rfl⟩, ⟨rfl, rfl⟩, ⟨rfl, rfl⟩, ⟨rfl, rfl⟩, ⟨rfl, rfl⟩, ⟨rfl, rfl⟩, ⟨rfl, rfl⟩, ⟨rfl, rfl⟩, trivial⟩))); (focus (first | exact Ent.refl _ | exact Ent.left _ _ | exact Ent.of_le ⟨List.sublist_append_left _ _, fun w h => h⟩ | exact Ent.of_le ⟨List.Sublist.refl _, fun w h => h.1⟩)); conv => whnf))
    all_goals
      refine XStop.draw tabOk mixed rfl rfl ?_
      conv => whnf
      repeat' (first
        | (refine And.intro ?_ ?_ <;> conv => whnf)
        | (refine XHeld.same rfl ?_; conv => whnf)
        | (refine XHeld.row rfl ?_; conv => whnf)
        | (refine XHeld.call rfl ?_; conv => whnf)
        | (refine XKeep.of ?_; conv => whnf)
        | (refine XSame.of ?_; conv => whnf)
        | (refine XRead.index tabOk (t := 22) rfl rfl rfl (by omega) (by omega) hh.nil fun ad had => ?_; conv => whnf)
        | (refine XRead.loads tabOk (t := 39) rfl rfl (ad := ad) (k := i * 5) (L := stpCells l) (fun w hst => had ▸ hst.now.1.1.1) rfl (stpCells_get l hlt') rfl ?_; conv => whnf)
        | (refine XCall.pure sq (fun w h => ⟨h.1.2.2, h.1.1.2 _ (List.getElem_mem hlt')⟩) ?_; rintro v F ⟨hb, kb, lb, rfl, hbo, hkb, hlb, hob, rfl⟩; conv => whnf)
        | (intro bq; conv => whnf)
        | (refine XHeld.mk ?_ ?_ ?_; (focus ((conv => whnf); (first | exact trivial | exact ⟨⟨rfl, rfl⟩, trivial⟩ | exact ⟨⟨rfl, rfl⟩, ⟨rfl, rfl⟩, trivial⟩ | exact ⟨⟨rfl, rfl⟩, ⟨rfl, rfl⟩, ⟨rfl, rfl⟩, trivial⟩ | exact ⟨⟨rfl, rfl⟩, ⟨rfl, rfl⟩, ⟨rfl, rfl⟩, ⟨rfl, rfl⟩, trivial⟩ | exact ⟨⟨rfl, rfl⟩, ⟨rfl, rfl⟩, ⟨rfl, rfl⟩, ⟨rfl, rfl⟩, ⟨rfl, rfl⟩, trivial⟩ | exact ⟨⟨rfl, rfl⟩, ⟨rfl, rfl⟩, ⟨rfl, rfl⟩, ⟨rfl, rfl⟩, ⟨rfl, rfl⟩, ⟨rfl, rfl⟩, trivial⟩ | exact ⟨⟨rfl, rfl⟩, ⟨rfl, rfl⟩, ⟨rfl, rfl⟩, ⟨rfl, rfl⟩, ⟨rfl, rfl⟩, ⟨rfl, rfl⟩, ⟨rfl, rfl⟩, trivial⟩ | exact ⟨⟨rfl, rfl⟩, ⟨rfl, rfl⟩, ⟨rfl, rfl⟩, ⟨rfl, rfl⟩, ⟨rfl, rfl⟩, ⟨rfl, rfl⟩, ⟨rfl, rfl⟩, ⟨rfl, rfl⟩, trivial⟩))); (focus (first | exact Ent.refl _ | exact Ent.left _ _ | exact Ent.of_le ⟨List.sublist_append_left _ _, fun w h => h⟩ | exact Ent.of_le ⟨List.Sublist.refl _, fun w h => h.1⟩)); conv => whnf))
      all_goals
        refine XStop.ent (F' := ⟨fun w => (StpAt w h l ∧ hp.By p w ∧ hq.By p w) ∧ (ha.By q.1 w ∧ AnAt w ka la) ∧ (hb.By q.1 w ∧ AnAt w kb lb), []⟩) (Ent.of_le ⟨by simp [Fx.and], fun w hw => ⟨hw.1.1, hw.1.2, hw.2⟩⟩) ?_
        have hla' : la.length ≤ 100000 := by
          have := congrArg List.length hla
          simp at this
          omega
        have sa := answers_spec ka la hka hoa hla' (fun x hx => hsm3 x.1 (by rw [← hla]; exact List.mem_map_of_mem hx))
        have sf := from_spec q.1 ha hao hsm1
        refine XStop.draw tabOk mixed rfl rfl ?_
        conv => whnf
        repeat' (first
          | (refine And.intro ?_ ?_ <;> conv => whnf)
          | (refine XHeld.same rfl ?_; conv => whnf)
          | (refine XHeld.row rfl ?_; conv => whnf)
          | (refine XHeld.call rfl ?_; conv => whnf)
          | (refine XKeep.of ?_; conv => whnf)
          | (refine XSame.of ?_; conv => whnf)
          | (refine XIf.no ?hb ?_; (case hb => simp [iNe_eq]); conv => whnf)
          | (refine XCall.pure sa (fun w hw => hw.2.1.2) ?_; rintro v F ⟨k3, l3, rfl, hk3, ho3, hm3, rfl⟩; conv => whnf)
          | (refine XCall.val (same_spec k3 kb l3 lb hk3 hkb (by rw [hm3, hla, hlb]) (by have := congrArg List.length hm3; simp at this; omega)) (fun w hw => ⟨hw.2, hw.1.2.2.2⟩) (fun v D hv => ?_); subst hv; conv => whnf)
          | (refine XCall.pure sf (fun w hw => hw.1.2.1.1) ?_; rintro v F ⟨h4, rfl, ho4, rfl⟩; conv => whnf)
          | (refine XCall.val (equal_spec q.1 h4 hb ho4 hbo hsm1) (fun w hw => ⟨hw.2, hw.1.1.2.2.1⟩) (fun v D hv => ?_); subst hv; conv => whnf)
          | (refine XHeld.mk ?_ ?_ ?_; (focus ((conv => whnf); (first | exact trivial | exact ⟨⟨rfl, rfl⟩, trivial⟩ | exact ⟨⟨rfl, rfl⟩, ⟨rfl, rfl⟩, trivial⟩ | exact ⟨⟨rfl, rfl⟩, ⟨rfl, rfl⟩, ⟨rfl, rfl⟩, trivial⟩ | exact ⟨⟨rfl, rfl⟩, ⟨rfl, rfl⟩, ⟨rfl, rfl⟩, ⟨rfl, rfl⟩, trivial⟩ | exact ⟨⟨rfl, rfl⟩, ⟨rfl, rfl⟩, ⟨rfl, rfl⟩, ⟨rfl, rfl⟩, ⟨rfl, rfl⟩, trivial⟩ | exact ⟨⟨rfl, rfl⟩, ⟨rfl, rfl⟩, ⟨rfl, rfl⟩, ⟨rfl, rfl⟩, ⟨rfl, rfl⟩, ⟨rfl, rfl⟩, trivial⟩ | exact ⟨⟨rfl, rfl⟩, ⟨rfl, rfl⟩, ⟨rfl, rfl⟩, ⟨rfl, rfl⟩, ⟨rfl, rfl⟩, ⟨rfl, rfl⟩, ⟨rfl, rfl⟩, trivial⟩ | exact ⟨⟨rfl, rfl⟩, ⟨rfl, rfl⟩, ⟨rfl, rfl⟩, ⟨rfl, rfl⟩, ⟨rfl, rfl⟩, ⟨rfl, rfl⟩, ⟨rfl, rfl⟩, ⟨rfl, rfl⟩, trivial⟩))); (focus (first | exact Ent.refl _ | exact Ent.left _ _ | exact Ent.of_le ⟨List.sublist_append_left _ _, fun w h => h⟩ | exact Ent.of_le ⟨List.Sublist.refl _, fun w h => h.1⟩)); conv => whnf))
        all_goals
          refine XIf.split (fun he => ?_) (fun he => ?_)
          · have he' : q.2.2 = 0 := by simpa [iEq_eq] using he
            obtain ⟨hqv, hql⟩ := hsv he'
            conv => whnf
            refine XStop.draw tabOk mixed rfl rfl ?_
            conv => whnf
            repeat' (first
              | (refine And.intro ?_ ?_ <;> conv => whnf)
              | (refine XHeld.same rfl ?_; conv => whnf)
              | (refine XHeld.row rfl ?_; conv => whnf)
              | (refine XHeld.call rfl ?_; conv => whnf)
              | (refine XKeep.of ?_; conv => whnf)
              | (refine XSame.of ?_; conv => whnf)
              | (refine XHeld.mk ?_ ?_ ?_; (focus ((conv => whnf); (first | exact trivial | exact ⟨⟨rfl, rfl⟩, trivial⟩ | exact ⟨⟨rfl, rfl⟩, ⟨rfl, rfl⟩, trivial⟩ | exact ⟨⟨rfl, rfl⟩, ⟨rfl, rfl⟩, ⟨rfl, rfl⟩, trivial⟩ | exact ⟨⟨rfl, rfl⟩, ⟨rfl, rfl⟩, ⟨rfl, rfl⟩, ⟨rfl, rfl⟩, trivial⟩ | exact ⟨⟨rfl, rfl⟩, ⟨rfl, rfl⟩, ⟨rfl, rfl⟩, ⟨rfl, rfl⟩, ⟨rfl, rfl⟩, trivial⟩ | exact ⟨⟨rfl, rfl⟩, ⟨rfl, rfl⟩, ⟨rfl, rfl⟩, ⟨rfl, rfl⟩, ⟨rfl, rfl⟩, ⟨rfl, rfl⟩, trivial⟩ | exact ⟨⟨rfl, rfl⟩, ⟨rfl, rfl⟩, ⟨rfl, rfl⟩, ⟨rfl, rfl⟩, ⟨rfl, rfl⟩, ⟨rfl, rfl⟩, ⟨rfl, rfl⟩, trivial⟩ | exact ⟨⟨rfl, rfl⟩, ⟨rfl, rfl⟩, ⟨rfl, rfl⟩, ⟨rfl, rfl⟩, ⟨rfl, rfl⟩, ⟨rfl, rfl⟩, ⟨rfl, rfl⟩, ⟨rfl, rfl⟩, trivial⟩))); (focus (first | exact Ent.refl _ | exact Ent.left _ _ | exact Ent.of_le ⟨List.sublist_append_left _ _, fun w h => h⟩ | exact Ent.of_le ⟨List.Sublist.refl _, fun w h => h.1⟩)); conv => whnf))
            all_goals
              refine ⟨(i + 1, q.1, ha, hb), ⟨⟨hlt', hqv, by dsimp only; omega, hao, hbo⟩, by dsimp only; omega⟩, ?_, ?_, ?_⟩
              · conv => whnf
                refine ⟨?_, rfl⟩
                repeat (first | exact FLe.nil | refine FLe.any ?_ | refine FLe.cons ?_ | refine FLe.eq (by rw [wrap_i64 (by omega)]; rfl) ?_)
              · conv => whnf
                exact ⟨⟨rfl, rfl⟩, ⟨rfl, rfl⟩, trivial⟩
              · exact Ent.bare fun w hw => ⟨hw.1.1.1.1, hw.1.1.2.1.1, hw.1.1.2.2.1⟩
          · conv => whnf
            refine ⟨(i + 1, p, hp, hq), ⟨⟨hlt', hv, by dsimp only; omega, hpo, hqo⟩, by dsimp only; omega⟩, ?_, ?_, ?_⟩
            · conv => whnf
              refine ⟨?_, rfl⟩
              repeat (first | exact FLe.nil | refine FLe.any ?_ | refine FLe.cons ?_ | refine FLe.eq (by rw [wrap_i64 (by omega)]; rfl) ?_)
            · conv => whnf
              exact ⟨⟨rfl, rfl⟩, ⟨rfl, rfl⟩, trivial⟩
            · exact Ent.bare fun w hw => hw.1.1.1
  · conv => whnf
    exact ⟨_, Ent.refl _, rfl⟩

end Go.Proofs.Ytpnnadojhacjiaa
