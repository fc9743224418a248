/- Pipes, part Y: comparing and converting. -/
import Derived.Test.YtpnnadojhacjiaaPiX
namespace Go.Proofs.Ytpnnadojhacjiaa
open Go Go.Sx
set_option maxRecDepth 100000
set_option maxHeartbeats 4000000
set_option linter.unusedVariables false
set_option linter.unusedSimpArgs false

theorem sameReq_spec (r : Req) (k k' : Hd) : PureSpec Try.prog 27 [.agg ⟨r.cells k⟩, .agg ⟨r.cells k'⟩] (fun w => By w k r.data ∧ By w k' r.data) (fun v F => v = .bool true) := by
  refine PureSpec.of_xc tabOk Try.func27 rfl (by decide) (n := Try.f27.ntmps - 2) rfl rfl fun w0 av => ?_
  conv => whnf
  intro b1
  conv => whnf
  intro b2
  conv => whnf
  repeat' (first
    | (refine XSame.of ?_; conv => whnf)
    | (refine XIf.yes ?hb ?_; (case hb => simp [iEq_eq]); conv => whnf))
  refine XVal.of_read (XRead.bytes tabOk (t := 25) (u := 9) rfl rfl rfl rfl rfl rfl (l := r.data) (Sees.fact fun w hw => hw.1) rfl ?_)
  conv => whnf
  refine XVal.of_read (XRead.bytes tabOk (t := 25) (u := 9) rfl rfl rfl rfl rfl rfl (l := r.data) (Sees.fact fun w hw => hw.2) rfl ?_)
  conv => whnf
  refine XVal.of_read (XRead.strEq (l := r.data) (m := r.data) ?_)
  conv => whnf
  repeat' (first
    | (refine XSame.of ?_; conv => whnf))
  refine ⟨_, Ent.refl _, ?_⟩
  simp [iEq_eq]

theorem equal_spec (p : Pipe) (h h' : PH) (hh : h.Ok p) (hh' : h'.Ok p) (hf : p.Few) : PureSpec Try.prog 13 [.agg ⟨h.cells p⟩, .agg ⟨h'.cells p⟩] (fun w => h.By p w ∧ h'.By p w) (fun v F => v = .bool true) := by
  have hlen : h.l.length = p.wait.length := by rw [← hh.l]; simp
  have hlen' : h'.l.length = p.wait.length := by rw [← hh'.l]; simp
  have hw := hf.w
  refine PureSpec.of_xc tabOk Try.func13 rfl (by decide) (n := Try.f13.ntmps - 2) rfl rfl fun w0 av => ?_
  conv => whnf
  intro b1
  conv => whnf
  intro b2
  conv => whnf
  refine XVal.of_read (XRead.bytes tabOk (t := 25) (u := 9) rfl rfl rfl rfl rfl rfl (l := p.buf) (Sees.fact fun w hw => hw.1.b) rfl ?_)
  conv => whnf
  refine XVal.of_read (XRead.bytes tabOk (t := 25) (u := 9) rfl rfl rfl rfl rfl rfl (l := p.buf) (Sees.fact fun w hw => hw.2.b) rfl ?_)
  conv => whnf
  refine XVal.of_read (XRead.strNe (l := p.buf) (m := p.buf) ?_)
  conv => whnf
  repeat' (first
    | (refine XSame.of ?_; conv => whnf)
    | (refine XIf.no ?hb ?_; (case hb => simp [iNe_eq, hlen, hlen']); conv => whnf))
  refine XStop.loop tabOk (ι := Nat) ([5] ++ List.range' 36 19) (fun x => x ≤ h.l.length)
    (fun x => [(5, .v (.int .i64 (x : Int)))]) (fun _ => [h.cells p, h'.cells p]) (fun _ => ⟨fun w => h.By p w ∧ h'.By p w, []⟩)
    (fun x => h.l.length - x) 0 (Nat.zero_le _) ?_ rfl (Ent.refl _) fun i hi => ?_
  · conv => whnf
    repeat (first | exact FLe.nil | refine FLe.any ?_ | refine FLe.cons ?_)
  conv => whnf
  refine XIf.split (fun hlt => ?_) (fun hlt => ?_)
  · conv => whnf
    have hlt' : i < h.l.length := by
      have : (i : Int) < h.l.length := by simpa [iLt_eq] using hlt
      omega
    have hlt2 : i < h'.l.length := by omega
    have hsame : h'.l[i].1 = h.l[i].1 := by
      have e1 : (h.l.map (·.1))[i]? = (h'.l.map (·.1))[i]? := by rw [hh.l, hh'.l]
      simpa [hlt', hlt2] using e1.symm
    have sp := sameReq_spec h.l[i].1 h.l[i].2 h'.l[i].2
    refine XStop.draw tabOk mixed rfl rfl ?_
    conv => whnf
    repeat' (first
      | (refine And.intro ?_ ?_ <;> conv => whnf)
      | (refine XHeld.same rfl ?_; conv => whnf)
      | (refine XHeld.row rfl ?_; conv => whnf)
      | (refine XHeld.call rfl ?_; conv => whnf)
      | (refine XKeep.of ?_; conv => whnf)
      | (refine XSame.of ?_; conv => whnf)
      | (refine XRead.index tabOk (t := 29) rfl rfl rfl (by omega) (by omega) hh.w.nil fun ad1 had1 => ?_; conv => whnf)
      | (refine XRead.index tabOk (t := 29) rfl rfl rfl (by omega) (by omega) hh'.w.nil fun ad2 had2 => ?_; conv => whnf)
      | (refine XRead.loads tabOk (t := 37) rfl rfl (ad := ad1) (k := i * 4) (L := reqCells h.l) (fun w hst => had1 ▸ hst.now.1.r.1) rfl (reqCells_get h.l hlt') rfl ?_; conv => whnf)
      | (refine XRead.loads tabOk (t := 37) rfl rfl (ad := ad2) (k := i * 4) (L := reqCells h'.l) (fun w hst => had2 ▸ hst.now.2.r.1) rfl (reqCells_get h'.l hlt2) rfl ?_; conv => whnf)
      | (refine XHeld.mk ?_ ?_ ?_; (focus ((conv => whnf); (first | exact trivial | exact ⟨⟨rfl, rfl⟩, trivial⟩ | exact ⟨⟨rfl, rfl⟩, ⟨rfl, rfl⟩, trivial⟩ | exact ⟨⟨rfl, rfl⟩, ⟨rfl, rfl⟩, ⟨rfl, rfl⟩, trivial⟩ | exact ⟨⟨rfl, rfl⟩, ⟨rfl, rfl⟩, ⟨rfl, rfl⟩, ⟨rfl, rfl⟩, trivial⟩ | exact ⟨⟨rfl, rfl⟩, ⟨rfl, rfl⟩, ⟨rfl, rfl⟩, ⟨rfl, rfl⟩, ⟨rfl, rfl⟩, trivial⟩ | exact ⟨⟨rfl, rfl⟩, ⟨rfl, rfl⟩, ⟨rfl, rfl⟩, ⟨rfl, rfl⟩, ⟨rfl, rfl⟩, ⟨rfl, rfl⟩, trivial⟩ | exact ⟨⟨rfl, rfl⟩, ⟨rfl, rfl⟩, ⟨rfl, rfl⟩, ⟨rfl, rfl⟩, ⟨rfl, rfl⟩, ⟨rfl, rfl⟩, ⟨rfl, rfl⟩, trivial⟩ | exact ⟨⟨rfl, rfl⟩, ⟨rfl, rfl⟩, ⟨rfl, rfl⟩, ⟨rfl, rfl⟩, ⟨rfl, rfl⟩, ⟨rfl, rfl⟩, ⟨rfl, rfl⟩, ⟨rfl, rfl⟩, trivial⟩))); (focus (first | exact Ent.refl _ | exact Ent.left _ _ | exact Ent.of_le ⟨List.sublist_append_left _ _, fun w h => h⟩ | exact Ent.of_le ⟨List.Sublist.refl _, fun w h => h.1⟩)); conv => whnf))
    rw [hsame]
    refine XCall.val sp (fun w hw => ⟨hw.1.r.2 _ (List.getElem_mem hlt'), by have := hw.2.r.2 _ (List.getElem_mem hlt2); rw [hsame] at this; exact this⟩) (fun v D hv => ?_)
    subst hv
    conv => whnf
    repeat' (first
      | (refine And.intro ?_ ?_ <;> conv => whnf)
      | (refine XHeld.same rfl ?_; conv => whnf)
      | (refine XHeld.row rfl ?_; conv => whnf)
      | (refine XHeld.call rfl ?_; conv => whnf)
      | (refine XKeep.of ?_; conv => whnf)
      | (refine XSame.of ?_; conv => whnf)
      | (refine XHeld.mk ?_ ?_ ?_; (focus ((conv => whnf); (first | exact trivial | exact ⟨⟨rfl, rfl⟩, trivial⟩ | exact ⟨⟨rfl, rfl⟩, ⟨rfl, rfl⟩, trivial⟩ | exact ⟨⟨rfl, rfl⟩, ⟨rfl, rfl⟩, ⟨rfl, rfl⟩, trivial⟩ | exact ⟨⟨rfl, rfl⟩, ⟨rfl, rfl⟩, ⟨rfl, rfl⟩, ⟨rfl, rfl⟩, trivial⟩ | exact ⟨⟨rfl, rfl⟩, ⟨rfl, rfl⟩, ⟨rfl, rfl⟩, ⟨rfl, rfl⟩, ⟨rfl, rfl⟩, trivial⟩ | exact ⟨⟨rfl, rfl⟩, ⟨rfl, rfl⟩, ⟨rfl, rfl⟩, ⟨rfl, rfl⟩, ⟨rfl, rfl⟩, ⟨rfl, rfl⟩, trivial⟩ | exact ⟨⟨rfl, rfl⟩, ⟨rfl, rfl⟩, ⟨rfl, rfl⟩, ⟨rfl, rfl⟩, ⟨rfl, rfl⟩, ⟨rfl, rfl⟩, ⟨rfl, rfl⟩, trivial⟩ | exact ⟨⟨rfl, rfl⟩, ⟨rfl, rfl⟩, ⟨rfl, rfl⟩, ⟨rfl, rfl⟩, ⟨rfl, rfl⟩, ⟨rfl, rfl⟩, ⟨rfl, rfl⟩, ⟨rfl, rfl⟩, trivial⟩))); (focus (first | exact Ent.refl _ | exact Ent.left _ _ | exact Ent.of_le ⟨List.sublist_append_left _ _, fun w h => h⟩ | exact Ent.of_le ⟨List.Sublist.refl _, fun w h => h.1⟩)); conv => whnf))
    refine ⟨i + 1, ⟨hlt', by dsimp only; omega⟩, ?_, ?_, Ent.refl _⟩
    · conv => whnf
      refine ⟨?_, rfl⟩
      repeat (first | exact FLe.nil | refine FLe.any ?_ | refine FLe.cons ?_ | refine FLe.eq (by rw [wrap_i64 (by omega)]; rfl) ?_)
    · conv => whnf
      exact ⟨⟨rfl, rfl⟩, ⟨rfl, rfl⟩, trivial⟩
  · conv => whnf
    exact ⟨_, Ent.refl _, rfl⟩

theorem answers_spec (k : Hd) (l : List (An × Hd)) (hk : k.Ok l.length) (ho : AnOk l) (hl : l.length ≤ 100000) (hd : ∀ q ∈ l, q.1.data.length ≤ 100000) :
    PureSpec Try.prog 12 [k.v l.length] (fun w => AnAt w k l) (fun v F => ∃ (k' : Hd) (l' : List (An × Hd)), v = k'.v l'.length ∧ k'.Ok l'.length ∧ AnOk l' ∧ l'.map (·.1) = l.map (·.1) ∧ F = ⟨fun w => AnAt w k' l', []⟩) := by
  refine PureSpec.of_xc tabOk Try.func12 rfl (by decide) (n := Try.f12.ntmps - 1) rfl rfl fun w0 av => ?_
  conv => whnf
  refine XStop.loop tabOk (ι := Nat × List (An × Hd) × Option Addr × Nat × List Value) ([3, 4] ++ List.range' 5 27)
    (fun x => x.1 ≤ l.length ∧ x.2.1.map (·.1) = (l.take x.1).map (·.1) ∧ AnOk x.2.1 ∧ Own 3 x.2.1.length x.2.2.1 x.2.2.2.1 x.2.2.2.2 (anCells x.2.1))
    (fun x => [(3, .v (.slice x.2.2.1 x.2.1.length x.2.2.2.1)), (4, .v (.int .i64 (x.1 : Int)))]) (fun x => [])
    (fun x => ⟨fun w => AnAt w k l ∧ ∀ q ∈ x.2.1, By w q.2 q.1.data, orow x.2.2.1 x.2.2.2.2⟩)
    (fun x => l.length - x.1) (0, [], none, 0, []) ⟨Nat.zero_le _, rfl, (fun q h => by simp at h), Own.nil 3⟩ ?_ rfl (Ent.of_le ⟨by simp [orow], fun w hw => ⟨hw, fun q h => by simp at h⟩⟩) fun x hx => ?_
  · conv => whnf
    repeat (first | exact FLe.nil | refine FLe.any ?_ | refine FLe.cons ?_)
  obtain ⟨i, m, a, c, C⟩ := x
  obtain ⟨hi, hm, hmo, hO⟩ := hx
  dsimp only at hi hm hmo hO ⊢
  have hml : m.length = i := by
    have := congrArg List.length hm
    simp at this
    omega
  conv => whnf
  refine XIf.split (fun hlt => ?_) (fun hlt => ?_)
  · conv => whnf
    have hlt' : i < l.length := by
      have : (i : Int) < l.length := by simpa [iLt_eq] using hlt
      omega
    have hdl := hd _ (List.getElem_mem hlt')
    refine XStop.draw tabOk mixed rfl rfl ?_
    conv => whnf
    repeat' (first
      | (refine And.intro ?_ ?_ <;> conv => whnf)
      | (refine XHeld.same rfl ?_; conv => whnf)
      | (refine XHeld.row rfl ?_; conv => whnf)
      | (refine XHeld.call rfl ?_; conv => whnf)
      | (refine XKeep.of ?_; conv => whnf)
      | (refine XSame.of ?_; conv => whnf)
      | (refine XRead.index tabOk (t := 32) rfl rfl rfl (by omega) (by omega) hk.nil fun ad had => ?_; conv => whnf)
      | (refine XRead.loadF tabOk (t := 3) rfl rfl (ad := ad) (k := i * 3 + 0) (L := anCells l) (v := .int .i64 l[i].1.task) (fun w hst => had ▸ hst.now.1.1) (fun hsp => Addr.add_add hsp _ _) (anCells_at l hlt' (by omega)) ?_; conv => whnf)
      | (refine XRead.loadF tabOk (t := 3) rfl rfl (ad := ad) (k := i * 3 + 1) (L := anCells l) (v := .int .i64 l[i].1.res) (fun w hst => had ▸ hst.now.1.1) (fun hsp => Addr.add_add hsp _ _) (anCells_at l hlt' (by omega)) ?_; conv => whnf)
      | (refine XRead.loadF tabOk (t := 25) rfl rfl (ad := ad) (k := i * 3 + 2) (L := anCells l) (v := l[i].2.v l[i].1.data.length) (fun w hst => had ▸ hst.now.1.1) (fun hsp => Addr.add_add hsp _ _) (anCells_at l hlt' (by omega)) ?_; conv => whnf)
      | (refine XVal.build tabOk (t := 25) rfl rfl rfl [] rfl rfl (by simp) (by decide) fun b0 => ?_; conv => whnf)
      | (refine XVal.copyZ tabOk (t := 25) (xt := 25) rfl rfl rfl rfl rfl rfl (M := l[i].1.data.map byteV) (Sees.fact fun w hw => hw.1.2 _ (List.getElem_mem hlt')) (by simp) (by omega) (by simp; omega) fun k2 hk2 => ?_; conv => whnf)
      | (refine XVal.build tabOk (t := 40) rfl rfl rfl [.agg ⟨l[i].1.cells k2⟩] rfl rfl (by simp [Value.cells, An.cells]) (by decide) fun b6 => ?_; conv => whnf)
      | (refine XHeld.mk ?_ ?_ ?_; (focus ((conv => whnf); (first | exact trivial | exact ⟨⟨rfl, rfl⟩, trivial⟩ | exact ⟨⟨rfl, rfl⟩, ⟨rfl, rfl⟩, trivial⟩ | exact ⟨⟨rfl, rfl⟩, ⟨rfl, rfl⟩, ⟨rfl, rfl⟩, trivial⟩ | exact ⟨⟨rfl, rfl⟩, ⟨rfl, rfl⟩, ⟨rfl, rfl⟩, ⟨rfl, rfl⟩, trivial⟩ | exact ⟨⟨rfl, rfl⟩, ⟨rfl, rfl⟩, ⟨rfl, rfl⟩, ⟨rfl, rfl⟩, ⟨rfl, rfl⟩, trivial⟩ | exact ⟨⟨rfl, rfl⟩, ⟨rfl, rfl⟩, ⟨rfl, rfl⟩, ⟨rfl, rfl⟩, ⟨rfl, rfl⟩, ⟨rfl, rfl⟩, trivial⟩ | exact ⟨⟨rfl, rfl⟩, ⟨rfl, rfl⟩, ⟨rfl, rfl⟩, ⟨rfl, rfl⟩, ⟨rfl, rfl⟩, ⟨rfl, rfl⟩, ⟨rfl, rfl⟩, trivial⟩ | exact ⟨⟨rfl, rfl⟩, ⟨rfl, rfl⟩, ⟨rfl, rfl⟩, ⟨rfl, rfl⟩, ⟨rfl, rfl⟩, ⟨rfl, rfl⟩, ⟨rfl, rfl⟩, ⟨rfl, rfl⟩, trivial⟩))); (focus (first | exact Ent.refl _ | exact Ent.left _ _ | exact Ent.of_le ⟨List.sublist_append_left _ _, fun w h => h⟩ | exact Ent.of_le ⟨List.Sublist.refl _, fun w h => h.1⟩)); conv => whnf))
    all_goals
      refine XVal.ent (F' := ⟨fun w => (AnAt w k l ∧ ∀ q ∈ m, By w q.2 q.1.data) ∧ By w k2 l[i].1.data, [] ++ orow a C ++ [(b0, Row.c []), (b6, Row.c (l[i].1.cells k2))]⟩) (Ent.of_le ⟨by simp [Value.cells], fun w hw => hw⟩) ?_
      refine XVal.append tabOk (t := 40) (xt := 40) rfl rfl rfl rfl rfl rfl (r1 := []) (r2 := [(b0, Row.c []), (b6, Row.c (l[i].1.cells k2))]) (M := l[i].1.cells k2) hO (Sees.row (by simp)) rfl (an_one _ _) (by omega) (by simp; omega) fun a' c' C' hO' => ?_
      conv => whnf
      repeat' (first
        | (refine And.intro ?_ ?_ <;> conv => whnf)
        | (refine XHeld.same rfl ?_; conv => whnf)
        | (refine XHeld.row rfl ?_; conv => whnf)
        | (refine XHeld.call rfl ?_; conv => whnf)
        | (refine XKeep.of ?_; conv => whnf)
        | (refine XSame.of ?_; conv => whnf)
        | (refine XHeld.mk ?_ ?_ ?_; (focus ((conv => whnf); (first | exact trivial | exact ⟨⟨rfl, rfl⟩, trivial⟩ | exact ⟨⟨rfl, rfl⟩, ⟨rfl, rfl⟩, trivial⟩ | exact ⟨⟨rfl, rfl⟩, ⟨rfl, rfl⟩, ⟨rfl, rfl⟩, trivial⟩ | exact ⟨⟨rfl, rfl⟩, ⟨rfl, rfl⟩, ⟨rfl, rfl⟩, ⟨rfl, rfl⟩, trivial⟩ | exact ⟨⟨rfl, rfl⟩, ⟨rfl, rfl⟩, ⟨rfl, rfl⟩, ⟨rfl, rfl⟩, ⟨rfl, rfl⟩, trivial⟩ | exact ⟨⟨rfl, rfl⟩, ⟨rfl, rfl⟩, ⟨rfl, rfl⟩, ⟨rfl, rfl⟩, ⟨rfl, rfl⟩, ⟨rfl, rfl⟩, trivial⟩ | exact ⟨⟨rfl, rfl⟩, ⟨rfl, rfl⟩, ⟨rfl, rfl⟩, ⟨rfl, rfl⟩, ⟨rfl, rfl⟩, ⟨rfl, rfl⟩, ⟨rfl, rfl⟩, trivial⟩ | exact ⟨⟨rfl, rfl⟩, ⟨rfl, rfl⟩, ⟨rfl, rfl⟩, ⟨rfl, rfl⟩, ⟨rfl, rfl⟩, ⟨rfl, rfl⟩, ⟨rfl, rfl⟩, ⟨rfl, rfl⟩, trivial⟩))); (focus (first | exact Ent.refl _ | exact Ent.left _ _ | exact Ent.of_le ⟨List.sublist_append_left _ _, fun w h => h⟩ | exact Ent.of_le ⟨List.Sublist.refl _, fun w h => h.1⟩)); conv => whnf))
      refine ⟨(i + 1, m ++ [(l[i].1, k2)], a', c', C'), ⟨⟨hlt', ?_, fun x hx => ?_, by simpa [anCells_snoc] using hO'⟩, by dsimp only; omega⟩, ?_, ?_, ?_⟩
      · dsimp only
        rw [List.take_succ_eq_append_getElem hlt', List.map_append, List.map_append, hm]
        rfl
      · rcases List.mem_append.1 hx with hx | hx
        · exact hmo x hx
        · obtain rfl := List.mem_singleton.1 hx
          exact hk2
      · conv => whnf
        refine ⟨?_, rfl⟩
        repeat (first | exact FLe.nil | refine FLe.any ?_ | refine FLe.cons ?_ | refine FLe.eq (by rw [wrap_i64 (by omega)]; rfl) ?_ | refine FLe.eq (by simp) ?_)
      · conv => whnf
        exact trivial
      · refine Ent.of_le ⟨by simp, fun w hw => ⟨hw.1.1, fun x hx => ?_⟩⟩
        rcases List.mem_append.1 hx with hx | hx
        · exact hw.1.2 x hx
        · obtain rfl := List.mem_singleton.1 hx
          exact hw.2
  · conv => whnf
    have hie : i = l.length := by
      have : ¬ (i : Int) < l.length := by simpa [iLt_eq] using hlt
      omega
    rw [hie, List.take_length] at hm
    exact ⟨_, Ent.trans (Own.gives hO) (Ent.bare fun w hw => ⟨hw.2, hw.1.2⟩), ⟨a, c⟩, m, rfl, ⟨fun ha => hO.none_nil ha, hO.fit⟩, hmo, hm, rfl⟩

theorem same_spec (k k' : Hd) (l l' : List (An × Hd)) (hk : k.Ok l.length) (hk' : k'.Ok l'.length) (he : l.map (·.1) = l'.map (·.1)) (hl : l.length ≤ 100000) :
    PureSpec Try.prog 11 [k.v l.length, k'.v l'.length] (fun w => AnAt w k l ∧ AnAt w k' l') (fun v F => v = .bool true) := by
  have hlen : l'.length = l.length := by
    have := congrArg List.length he
    simpa using this.symm
  refine PureSpec.of_xc tabOk Try.func11 rfl (by decide) (n := Try.f11.ntmps - 2) rfl rfl fun w0 av => ?_
  conv => whnf
  refine XIf.no (by simp [iNe_eq, hlen]) ?_
  conv => whnf
  refine XStop.loop tabOk (ι := Nat) ([5] ++ List.range' 11 45) (fun x => x ≤ l.length)
    (fun x => [(5, .v (.int .i64 (x : Int)))]) (fun _ => []) (fun _ => ⟨fun w => AnAt w k l ∧ AnAt w k' l', []⟩)
    (fun x => l.length - x) 0 (Nat.zero_le _) ?_ rfl (Ent.refl _) fun i hi => ?_
  · conv => whnf
    repeat (first | exact FLe.nil | refine FLe.any ?_ | refine FLe.cons ?_)
  conv => whnf
  refine XIf.split (fun hlt => ?_) (fun hlt => ?_)
  · conv => whnf
    have hlt' : i < l.length := by
      have : (i : Int) < l.length := by simpa [iLt_eq] using hlt
      omega
    have hlt2 : i < l'.length := by omega
    have hsame : l'[i].1 = l[i].1 := by
      have e1 : (l.map (·.1))[i]? = (l'.map (·.1))[i]? := by rw [he]
      simpa [hlt', hlt2] using e1.symm
    have f1 : (anCells l')[i * 3 + 0]? = some (.int .i64 l[i].1.task) := by rw [anCells_at l' hlt2 (by omega), hsame]; rfl
    have f2 : (anCells l')[i * 3 + 1]? = some (.int .i64 l[i].1.res) := by rw [anCells_at l' hlt2 (by omega), hsame]; rfl
    have f3 : (anCells l')[i * 3 + 2]? = some (l'[i].2.v l[i].1.data.length) := by rw [anCells_at l' hlt2 (by omega), hsame]; rfl
    refine XStop.draw tabOk mixed rfl rfl ?_
    conv => whnf
    repeat' (first
      | (refine And.intro ?_ ?_ <;> conv => whnf)
      | (refine XHeld.same rfl ?_; conv => whnf)
      | (refine XHeld.row rfl ?_; conv => whnf)
      | (refine XHeld.call rfl ?_; conv => whnf)
      | (refine XKeep.of ?_; conv => whnf)
      | (refine XSame.of ?_; conv => whnf)
      | (refine XIf.no ?hb ?_; (case hb => simp [iNe_eq]); conv => whnf)
      | (refine XRead.index tabOk (t := 40) rfl rfl rfl (by omega) (by omega) hk.nil fun ad had => ?_; conv => whnf)
      | (refine XRead.index tabOk (t := 40) rfl rfl rfl (by omega) (by omega) hk'.nil fun ad2 had2 => ?_; conv => whnf)
      | (refine XRead.loadF tabOk (t := 3) rfl rfl (ad := ad) (k := i * 3 + 0) (L := anCells l) (v := .int .i64 l[i].1.task) (fun w hst => had ▸ hst.now.1.1) (fun hsp => Addr.add_add hsp _ _) (anCells_at l hlt' (by omega)) ?_; conv => whnf)
      | (refine XRead.loadF tabOk (t := 3) rfl rfl (ad := ad) (k := i * 3 + 1) (L := anCells l) (v := .int .i64 l[i].1.res) (fun w hst => had ▸ hst.now.1.1) (fun hsp => Addr.add_add hsp _ _) (anCells_at l hlt' (by omega)) ?_; conv => whnf)
      | (refine XRead.loadF tabOk (t := 25) rfl rfl (ad := ad) (k := i * 3 + 2) (L := anCells l) (v := l[i].2.v l[i].1.data.length) (fun w hst => had ▸ hst.now.1.1) (fun hsp => Addr.add_add hsp _ _) (anCells_at l hlt' (by omega)) ?_; conv => whnf)
      | (refine XRead.loadF tabOk (t := 3) rfl rfl (ad := ad2) (k := i * 3 + 0) (L := anCells l') (v := .int .i64 l[i].1.task) (fun w hst => had2 ▸ hst.now.2.1) (fun hsp => Addr.add_add hsp _ _) f1 ?_; conv => whnf)
      | (refine XRead.loadF tabOk (t := 3) rfl rfl (ad := ad2) (k := i * 3 + 1) (L := anCells l') (v := .int .i64 l[i].1.res) (fun w hst => had2 ▸ hst.now.2.1) (fun hsp => Addr.add_add hsp _ _) f2 ?_; conv => whnf)
      | (refine XRead.loadF tabOk (t := 25) rfl rfl (ad := ad2) (k := i * 3 + 2) (L := anCells l') (v := l'[i].2.v l[i].1.data.length) (fun w hst => had2 ▸ hst.now.2.1) (fun hsp => Addr.add_add hsp _ _) f3 ?_; conv => whnf)
      | (refine XRead.bytes tabOk (t := 25) (u := 9) rfl rfl rfl rfl rfl rfl (l := l[i].1.data) (Sees.fact fun w hw => hw.1.2 _ (List.getElem_mem hlt')) rfl ?_; conv => whnf)
      | (refine XRead.bytes tabOk (t := 25) (u := 9) rfl rfl rfl rfl rfl rfl (l := l[i].1.data) (Sees.fact fun w hw => by have := hw.2.2 _ (List.getElem_mem hlt2); rw [hsame] at this; exact this) rfl ?_; conv => whnf)
      | (refine XRead.strNe (l := l[i].1.data) (m := l[i].1.data) ?_; conv => whnf)
      | (refine XHeld.mk ?_ ?_ ?_; (focus ((conv => whnf); (first | exact trivial | exact ⟨⟨rfl, rfl⟩, trivial⟩ | exact ⟨⟨rfl, rfl⟩, ⟨rfl, rfl⟩, trivial⟩ | exact ⟨⟨rfl, rfl⟩, ⟨rfl, rfl⟩, ⟨rfl, rfl⟩, trivial⟩ | exact ⟨⟨rfl, rfl⟩, ⟨rfl, rfl⟩, ⟨rfl, rfl⟩, ⟨rfl, rfl⟩, trivial⟩ | exact ⟨⟨rfl, rfl⟩, ⟨rfl, rfl⟩, ⟨rfl, rfl⟩, ⟨rfl, rfl⟩, ⟨rfl, rfl⟩, trivial⟩ | exact ⟨⟨rfl, rfl⟩, ⟨rfl, rfl⟩, ⟨rfl, rfl⟩, ⟨rfl, rfl⟩, ⟨rfl, rfl⟩, ⟨rfl, rfl⟩, trivial⟩ | exact ⟨⟨rfl, rfl⟩, ⟨rfl, rfl⟩, ⟨rfl, rfl⟩, ⟨rfl, rfl⟩, ⟨rfl, rfl⟩, ⟨rfl, rfl⟩, ⟨rfl, rfl⟩, trivial⟩ | exact ⟨⟨rfl, rfl⟩, ⟨rfl, rfl⟩, ⟨rfl, rfl⟩, ⟨rfl, rfl⟩, ⟨rfl, rfl⟩, ⟨rfl, rfl⟩, ⟨rfl, rfl⟩, ⟨rfl, rfl⟩, trivial⟩))); (focus (first | exact Ent.refl _ | exact Ent.left _ _ | exact Ent.of_le ⟨List.sublist_append_left _ _, fun w h => h⟩ | exact Ent.of_le ⟨List.Sublist.refl _, fun w h => h.1⟩)); conv => whnf))
    all_goals
      refine ⟨i + 1, ⟨hlt', by dsimp only; omega⟩, ?_, ?_, Ent.refl _⟩
      · conv => whnf
        refine ⟨?_, rfl⟩
        repeat (first | exact FLe.nil | refine FLe.any ?_ | refine FLe.cons ?_ | refine FLe.eq (by rw [wrap_i64 (by omega)]; rfl) ?_)
      · conv => whnf
        exact trivial
  · conv => whnf
    exact ⟨_, Ent.refl _, rfl⟩

theorem from_spec (p : Pipe) (h : PH) (hh : h.Ok p) (hf : p.Few) : PureSpec Try.prog 14 [.agg ⟨h.cells p⟩] (h.By p) (fun v F => ∃ h' : PH, v = .agg ⟨h'.cells p⟩ ∧ h'.Ok p ∧ F = ⟨h'.By p, []⟩) := by
  have hlen : h.l.length = p.wait.length := by rw [← hh.l]; simp
  have hbl := hf.b
  have hwl := hf.w
  refine PureSpec.of_xc tabOk Try.func14 rfl (by decide) (n := Try.f14.ntmps - 1) rfl rfl fun w0 av => ?_
  conv => whnf
  intro b1
  conv => whnf
  intro b2
  conv => whnf
  refine XStop.draw tabOk mixed rfl rfl ?_
  conv => whnf
  repeat' (first
    | (refine And.intro ?_ ?_ <;> conv => whnf)
    | (refine XHeld.same rfl ?_; conv => whnf)
    | (refine XHeld.row rfl ?_; conv => whnf)
    | (refine XHeld.call rfl ?_; conv => whnf)
    | (refine XKeep.of ?_; conv => whnf)
    | (refine XSame.of ?_; conv => whnf)
    | (refine XVal.build tabOk (t := 25) rfl rfl rfl [] rfl rfl (by simp) (by decide) fun b0 => ?_; conv => whnf)
    | (refine XVal.copyZ tabOk (t := 25) (xt := 25) rfl rfl rfl rfl rfl rfl (M := p.buf.map byteV) (Sees.fact fun w hw => hw.b) (by simp) (by omega) (by simp; omega) fun kb hkb => ?_; conv => whnf)
    | (intro b3; conv => whnf)
    | (refine XHeld.mk ?_ ?_ ?_; (focus ((conv => whnf); (first | exact trivial | exact ⟨⟨rfl, rfl⟩, trivial⟩ | exact ⟨⟨rfl, rfl⟩, ⟨rfl, rfl⟩, trivial⟩ | exact ⟨⟨rfl, rfl⟩, ⟨rfl, rfl⟩, ⟨rfl, rfl⟩, trivial⟩ | exact ⟨⟨rfl, rfl⟩, ⟨rfl, rfl⟩, ⟨rfl, rfl⟩, ⟨rfl, rfl⟩, trivial⟩ | exact ⟨⟨rfl, rfl⟩, ⟨rfl, rfl⟩, ⟨rfl, rfl⟩, ⟨rfl, rfl⟩, ⟨rfl, rfl⟩, trivial⟩ | exact ⟨⟨rfl, rfl⟩, ⟨rfl, rfl⟩, ⟨rfl, rfl⟩, ⟨rfl, rfl⟩, ⟨rfl, rfl⟩, ⟨rfl, rfl⟩, trivial⟩ | exact ⟨⟨rfl, rfl⟩, ⟨rfl, rfl⟩, ⟨rfl, rfl⟩, ⟨rfl, rfl⟩, ⟨rfl, rfl⟩, ⟨rfl, rfl⟩, ⟨rfl, rfl⟩, trivial⟩ | exact ⟨⟨rfl, rfl⟩, ⟨rfl, rfl⟩, ⟨rfl, rfl⟩, ⟨rfl, rfl⟩, ⟨rfl, rfl⟩, ⟨rfl, rfl⟩, ⟨rfl, rfl⟩, ⟨rfl, rfl⟩, trivial⟩))); (focus (first | exact Ent.refl _ | exact Ent.left _ _ | exact Ent.of_le ⟨List.sublist_append_left _ _, fun w h => h⟩ | exact Ent.of_le ⟨List.Sublist.refl _, fun w h => h.1⟩)); conv => whnf))
  all_goals
    refine XStop.loop tabOk (ι := Nat × List (Req × Hd) × Option Addr × Nat × List Value) ([4, 5] ++ List.range' 15 28)
      (fun x => x.1 ≤ h.l.length ∧ x.2.1.map (·.1) = (h.l.take x.1).map (·.1) ∧ ReqOk x.2.1 ∧ Own 4 x.2.1.length x.2.2.1 x.2.2.2.1 x.2.2.2.2 (reqCells x.2.1))
      (fun x => [(4, .v (.int .i64 (x.1 : Int)))]) (fun x => [h.cells p, [.slice none 0 0, .int .i64 0, .int .i64 0, .slice none 0 0], [kb.v p.buf.length, .int .i64 p.rd, .int .i64 p.wr, .slice x.2.2.1 x.2.1.length x.2.2.2.1]])
      (fun x => ⟨fun w => (h.By p w ∧ By w kb p.buf) ∧ ∀ q ∈ x.2.1, By w q.2 q.1.data, orow x.2.2.1 x.2.2.2.2⟩)
      (fun x => h.l.length - x.1) (0, [], none, 0, []) ⟨Nat.zero_le _, rfl, (fun q h => by simp at h), Own.nil 4⟩ ?_ rfl (Ent.of_le ⟨by simp [orow], fun w hw => ⟨hw, fun q h => by simp at h⟩⟩) fun x hx => ?_
    · conv => whnf
      repeat (first | exact FLe.nil | refine FLe.any ?_ | refine FLe.cons ?_)
    obtain ⟨i, m, a, c, C⟩ := x
    obtain ⟨hi, hm, hmo, hO⟩ := hx
    dsimp only at hi hm hmo hO ⊢
    have hml : m.length = i := by
      have := congrArg List.length hm
      simp at this
      omega
    conv => whnf
    refine XIf.split (fun hlt => ?_) (fun hlt => ?_)
    · conv => whnf
      have hlt' : i < h.l.length := by
        have : (i : Int) < h.l.length := by simpa [iLt_eq] using hlt
        omega
      have hdl := hf.d h.l[i].1 (by rw [← hh.l]; exact List.mem_map_of_mem (List.getElem_mem hlt'))
      refine XVal.of_read (XRead.index tabOk (t := 26) rfl rfl rfl (by omega) (by omega) hh.w.nil fun ad had => ?_)
      conv => whnf
      refine XVal.of_read (XRead.loads tabOk (t := 51) rfl rfl (ad := ad) (k := i * 4) (L := reqCells h.l) (fun w hst => had ▸ hst.now.1.1.r.1) rfl (reqCells_get h.l hlt') rfl ?_)
      conv => whnf
      intro b4
      conv => whnf
      refine XStop.draw tabOk mixed rfl rfl ?_
      conv => whnf
      repeat' (first
        | (refine And.intro ?_ ?_ <;> conv => whnf)
        | (refine XHeld.same rfl ?_; conv => whnf)
        | (refine XHeld.row rfl ?_; conv => whnf)
        | (refine XHeld.call rfl ?_; conv => whnf)
        | (refine XKeep.of ?_; conv => whnf)
        | (refine XSame.of ?_; conv => whnf)
        | (refine XVal.build tabOk (t := 25) rfl rfl rfl [] rfl rfl (by simp) (by decide) fun b5 => ?_; conv => whnf)
        | (refine XVal.copyZ tabOk (t := 25) (xt := 25) rfl rfl rfl rfl rfl rfl (M := h.l[i].1.data.map byteV) (Sees.fact fun w hw => hw.1.1.r.2 _ (List.getElem_mem hlt')) (by simp) (by omega) (by simp; omega) fun k2 hk2 => ?_; conv => whnf)
        | (refine XVal.build tabOk (t := 29) rfl rfl rfl [.agg ⟨h.l[i].1.cells k2⟩] rfl rfl (by simp [Value.cells, Req.cells]) (by decide) fun b6 => ?_; conv => whnf)
        | (refine XHeld.mk ?_ ?_ ?_; (focus ((conv => whnf); (first | exact trivial | exact ⟨⟨rfl, rfl⟩, trivial⟩ | exact ⟨⟨rfl, rfl⟩, ⟨rfl, rfl⟩, trivial⟩ | exact ⟨⟨rfl, rfl⟩, ⟨rfl, rfl⟩, ⟨rfl, rfl⟩, trivial⟩ | exact ⟨⟨rfl, rfl⟩, ⟨rfl, rfl⟩, ⟨rfl, rfl⟩, ⟨rfl, rfl⟩, trivial⟩ | exact ⟨⟨rfl, rfl⟩, ⟨rfl, rfl⟩, ⟨rfl, rfl⟩, ⟨rfl, rfl⟩, ⟨rfl, rfl⟩, trivial⟩ | exact ⟨⟨rfl, rfl⟩, ⟨rfl, rfl⟩, ⟨rfl, rfl⟩, ⟨rfl, rfl⟩, ⟨rfl, rfl⟩, ⟨rfl, rfl⟩, trivial⟩ | exact ⟨⟨rfl, rfl⟩, ⟨rfl, rfl⟩, ⟨rfl, rfl⟩, ⟨rfl, rfl⟩, ⟨rfl, rfl⟩, ⟨rfl, rfl⟩, ⟨rfl, rfl⟩, trivial⟩ | exact ⟨⟨rfl, rfl⟩, ⟨rfl, rfl⟩, ⟨rfl, rfl⟩, ⟨rfl, rfl⟩, ⟨rfl, rfl⟩, ⟨rfl, rfl⟩, ⟨rfl, rfl⟩, ⟨rfl, rfl⟩, trivial⟩))); (focus (first | exact Ent.refl _ | exact Ent.left _ _ | exact Ent.of_le ⟨List.sublist_append_left _ _, fun w h => h⟩ | exact Ent.of_le ⟨List.Sublist.refl _, fun w h => h.1⟩)); conv => whnf))
      refine XVal.ent (F' := ⟨fun w => ((h.By p w ∧ By w kb p.buf) ∧ ∀ q ∈ m, By w q.2 q.1.data) ∧ By w k2 h.l[i].1.data, [] ++ orow a C ++ [(b5, Row.c []), (b6, Row.c (h.l[i].1.cells k2))]⟩) (Ent.of_le ⟨by simp [Value.cells], fun w hw => hw⟩) ?_
      refine XVal.append tabOk (t := 29) (xt := 29) rfl rfl rfl rfl rfl rfl (r1 := []) (r2 := [(b5, Row.c []), (b6, Row.c (h.l[i].1.cells k2))]) (M := h.l[i].1.cells k2) hO (Sees.row (by simp)) rfl (req_one _ _) (by omega) (by simp; omega) fun a' c' C' hO' => ?_
      conv => whnf
      repeat' (first
        | (refine And.intro ?_ ?_ <;> conv => whnf)
        | (refine XHeld.same rfl ?_; conv => whnf)
        | (refine XHeld.row rfl ?_; conv => whnf)
        | (refine XHeld.call rfl ?_; conv => whnf)
        | (refine XKeep.of ?_; conv => whnf)
        | (refine XSame.of ?_; conv => whnf)
        | (refine XHeld.mk ?_ ?_ ?_; (focus ((conv => whnf); (first | exact trivial | exact ⟨⟨rfl, rfl⟩, trivial⟩ | exact ⟨⟨rfl, rfl⟩, ⟨rfl, rfl⟩, trivial⟩ | exact ⟨⟨rfl, rfl⟩, ⟨rfl, rfl⟩, ⟨rfl, rfl⟩, trivial⟩ | exact ⟨⟨rfl, rfl⟩, ⟨rfl, rfl⟩, ⟨rfl, rfl⟩, ⟨rfl, rfl⟩, trivial⟩ | exact ⟨⟨rfl, rfl⟩, ⟨rfl, rfl⟩, ⟨rfl, rfl⟩, ⟨rfl, rfl⟩, ⟨rfl, rfl⟩, trivial⟩ | exact ⟨⟨rfl, rfl⟩, ⟨rfl, rfl⟩, ⟨rfl, rfl⟩, ⟨rfl, rfl⟩, ⟨rfl, rfl⟩, ⟨rfl, rfl⟩, trivial⟩ | exact ⟨⟨rfl, rfl⟩, ⟨rfl, rfl⟩, ⟨rfl, rfl⟩, ⟨rfl, rfl⟩, ⟨rfl, rfl⟩, ⟨rfl, rfl⟩, ⟨rfl, rfl⟩, trivial⟩ | exact ⟨⟨rfl, rfl⟩, ⟨rfl, rfl⟩, ⟨rfl, rfl⟩, ⟨rfl, rfl⟩, ⟨rfl, rfl⟩, ⟨rfl, rfl⟩, ⟨rfl, rfl⟩, ⟨rfl, rfl⟩, trivial⟩))); (focus (first | exact Ent.refl _ | exact Ent.left _ _ | exact Ent.of_le ⟨List.sublist_append_left _ _, fun w h => h⟩ | exact Ent.of_le ⟨List.Sublist.refl _, fun w h => h.1⟩)); conv => whnf))
      refine ⟨(i + 1, m ++ [(h.l[i].1, k2)], a', c', C'), ⟨⟨hlt', ?_, fun x hx => ?_, by simpa [reqCells_snoc] using hO'⟩, by dsimp only; omega⟩, ?_, ?_, ?_⟩
      · dsimp only
        rw [List.take_succ_eq_append_getElem hlt', List.map_append, List.map_append, hm]
        rfl
      · rcases List.mem_append.1 hx with hx | hx
        · exact hmo x hx
        · obtain rfl := List.mem_singleton.1 hx
          exact hk2
      · conv => whnf
        refine ⟨?_, rfl⟩
        repeat (first | exact FLe.nil | refine FLe.any ?_ | refine FLe.cons ?_ | refine FLe.eq (by rw [wrap_i64 (by omega)]; rfl) ?_)
      · conv => whnf
        refine ⟨⟨rfl, rfl⟩, ⟨rfl, rfl⟩, ⟨rfl, ?_⟩, trivial⟩
        simp
      · refine Ent.of_le ⟨by simp, fun w hw => ⟨hw.1.1, fun x hx => ?_⟩⟩
        rcases List.mem_append.1 hx with hx | hx
        · exact hw.1.2 x hx
        · obtain rfl := List.mem_singleton.1 hx
          exact hw.2
    · conv => whnf
      have hie : i = h.l.length := by
        have : ¬ (i : Int) < h.l.length := by simpa [iLt_eq] using hlt
        omega
      rw [hie, List.take_length, hh.l] at hm
      exact ⟨_, Ent.trans (Own.gives hO) (Ent.bare fun w hw => ⟨hw.1.1.2, hw.2, hw.1.2⟩), ⟨kb, ⟨a, c⟩, m⟩, rfl, ⟨hkb, ⟨fun ha => hO.none_nil ha, hO.fit⟩, hm, hmo⟩, rfl⟩

end Go.Proofs.Ytpnnadojhacjiaa
