/- Pipes, part C2: From with its row, find. -/
import Derived.Test.YtpnnadojhacjiaaPjB
import Derived.Test.YtpnnadojhacjiaaSyF
namespace Go.Proofs.Ytpnnadojhacjiaa
open Go Go.Sx
set_option maxRecDepth 100000
set_option maxHeartbeats 4000000
set_option linter.unusedVariables false
set_option linter.unusedSimpArgs false

theorem fromO_spec (p : Pipe) (h : PH) (hh : h.Ok p) (hf : p.Few) : PureSpec Try.prog 14 [.agg ⟨h.cells p⟩] (h.By p) (fun v F => ∃ (kb : Hd) (m : List (Req × Hd)) (a : Option Addr) (c : Nat) (C : List Value), v = .agg ⟨[kb.v p.buf.length, .int .i64 p.rd, .int .i64 p.wr, .slice a m.length c]⟩ ∧
    m.map (·.1) = p.wait ∧ ReqOk m ∧ Own 4 m.length a c C (reqCells m) ∧ F = ⟨fun w => ∀ q ∈ m, By w q.2 q.1.data, orow a C⟩) := by
  have hlen : h.l.length = p.wait.length := by rw [← hh.l]; simp
  have hbl := hf.b
  have hwl := hf.w
  refine PureSpec.of_xc tabOk Try.func14 rfl (by decide) (n := Try.f14.ntmps - 1) rfl rfl fun w0 av => ?_
  conv => whnf
  intro b1
  conv => whnf
  intro b2
  conv => whnf
  refine XStop.draw tabOk mixed rfl rfl ?_
  conv => whnf
  repeat' (first
    | (refine And.intro ?_ ?_ <;> conv => whnf)
    | (refine XHeld.same rfl ?_; conv => whnf)
    | (refine XHeld.row rfl ?_; conv => whnf)
    | (refine XHeld.call rfl ?_; conv => whnf)
    | (refine XKeep.of ?_; conv => whnf)
    | (refine XSame.of ?_; conv => whnf)
    | (refine XVal.build tabOk (t := 25) rfl rfl rfl [] rfl rfl (by simp) (by decide) fun b0 => ?_; conv => whnf)
    | (refine XVal.copyZ tabOk (t := 25) (xt := 25) rfl rfl rfl rfl rfl rfl (M := p.buf.map byteV) (Sees.fact fun w hw => hw.b) (by simp) (by omega) (by simp; omega) fun kb hkb => ?_; conv => whnf)
    | (intro b3; conv => whnf)
    | (refine XHeld.mk ?_ ?_ ?_; (focus ((conv => whnf); (first | exact trivial | exact ⟨⟨rfl, rfl⟩, trivial⟩ | exact ⟨⟨rfl, rfl⟩, ⟨rfl, rfl⟩, trivial⟩ | exact ⟨⟨rfl, rfl⟩, ⟨rfl, rfl⟩, ⟨rfl, rfl⟩, trivial⟩ | exact ⟨⟨rfl, rfl⟩, ⟨rfl, rfl⟩, ⟨rfl, rfl⟩, ⟨rfl, rfl⟩, trivial⟩ | exact ⟨⟨rfl, rfl⟩, ⟨rfl, rfl⟩, ⟨rfl, rfl⟩, ⟨rfl, rfl⟩, ⟨rfl, rfl⟩, trivial⟩ | exact ⟨⟨rfl, rfl⟩, ⟨rfl, rfl⟩, ⟨rfl, rfl⟩, ⟨rfl, rfl⟩, ⟨rfl, rfl⟩, ⟨rfl, rfl⟩, trivial⟩ | exact ⟨⟨rfl, rfl⟩, ⟨rfl, rfl⟩, ⟨rfl, rfl⟩, ⟨rfl, rfl⟩, ⟨rfl, rfl⟩, ⟨rfl, rfl⟩, ⟨rfl, rfl⟩, trivial⟩ | exact ⟨⟨rfl, rfl⟩, ⟨rfl, rfl⟩, ⟨rfl, rfl⟩, ⟨rfl, rfl⟩, ⟨rfl, rfl⟩, ⟨rfl, rfl⟩, ⟨rfl, rfl⟩, ⟨rfl, rfl⟩, trivial⟩))); (focus (first | exact Ent.refl _ | exact Ent.left _ _ | exact Ent.of_le ⟨List.sublist_append_left _ _, fun w h => h⟩ | exact Ent.of_le ⟨List.Sublist.refl _, fun w h => h.1⟩)); conv => whnf))
  all_goals
    refine XStop.loop tabOk (ι := Nat × List (Req × Hd) × Option Addr × Nat × List Value) ([4, 5] ++ List.range' 15 28)
      (fun x => x.1 ≤ h.l.length ∧ x.2.1.map (·.1) = (h.l.take x.1).map (·.1) ∧ ReqOk x.2.1 ∧ Own 4 x.2.1.length x.2.2.1 x.2.2.2.1 x.2.2.2.2 (reqCells x.2.1))
      (fun x => [(4, .v (.int .i64 (x.1 : Int)))]) (fun x => [h.cells p, [.slice none 0 0, .int .i64 0, .int .i64 0, .slice none 0 0], [kb.v p.buf.length, .int .i64 p.rd, .int .i64 p.wr, .slice x.2.2.1 x.2.1.length x.2.2.2.1]])
      (fun x => ⟨fun w => (h.By p w ∧ By w kb p.buf) ∧ ∀ q ∈ x.2.1, By w q.2 q.1.data, orow x.2.2.1 x.2.2.2.2⟩)
      (fun x => h.l.length - x.1) (0, [], none, 0, []) ⟨Nat.zero_le _, rfl, (fun q h => by simp at h), Own.nil 4⟩ ?_ rfl (Ent.of_le ⟨by simp [orow], fun w hw => ⟨hw, fun q h => by simp at h⟩⟩) fun x hx => ?_
    · conv => whnf
      repeat (first | exact FLe.nil | refine FLe.any ?_ | refine FLe.cons ?_)
    obtain ⟨i, m, a, c, C⟩ := x
    obtain ⟨hi, hm, hmo, hO⟩ := hx
    dsimp only at hi hm hmo hO ⊢
    have hml : m.length = i := by
      have := congrArg List.length hm
      simp at this
      omega
    conv => whnf
    refine XIf.split (fun hlt => ?_) (fun hlt => ?_)
    · conv => whnf
      have hlt' : i < h.l.length := by
        have : (i : Int) < h.l.length := by simpa [iLt_eq] using hlt
        omega
      have hdl := hf.d h.l[i].1 (by rw [← hh.l]; exact List.mem_map_of_mem (List.getElem_mem hlt'))
      refine XVal.of_read (XRead.index tabOk (t := 26) rfl rfl rfl (by omega) (by omega) hh.w.nil fun ad had => ?_)
      conv => whnf
      refine XVal.of_read (XRead.loads tabOk (t := 51) rfl rfl (ad := ad) (k := i * 4) (L := reqCells h.l) (fun w hst => had ▸ hst.now.1.1.r.1) rfl (reqCells_get h.l hlt') rfl ?_)
      conv => whnf
      intro b4
      conv => whnf
      refine XStop.draw tabOk mixed rfl rfl ?_
      conv => whnf
      repeat' (first
        | (refine And.intro ?_ ?_ <;> conv => whnf)
        | (refine XHeld.same rfl ?_; conv => whnf)
        | (refine XHeld.row rfl ?_; conv => whnf)
        | (refine XHeld.call rfl ?_; conv => whnf)
        | (refine XKeep.of ?_; conv => whnf)
        | (refine XSame.of ?_; conv => whnf)
        | (refine XVal.build tabOk (t := 25) rfl rfl rfl [] rfl rfl (by simp) (by decide) fun b5 => ?_; conv => whnf)
        | (refine XVal.copyZ tabOk (t := 25) (xt := 25) rfl rfl rfl rfl rfl rfl (M := h.l[i].1.data.map byteV) (Sees.fact fun w hw => hw.1.1.r.2 _ (List.getElem_mem hlt')) (by simp) (by omega) (by simp; omega) fun k2 hk2 => ?_; conv => whnf)
        | (refine XVal.build tabOk (t := 29) rfl rfl rfl [.agg ⟨h.l[i].1.cells k2⟩] rfl rfl (by simp [Value.cells, Req.cells]) (by decide) fun b6 => ?_; conv => whnf)
        | (refine XHeld.mk ?_ ?_ ?_; (focus ((conv => whnf); (first | exact trivial | exact ⟨⟨rfl, rfl⟩, trivial⟩ | exact ⟨⟨rfl, rfl⟩, ⟨rfl, rfl⟩, trivial⟩ | exact ⟨⟨rfl, rfl⟩, ⟨rfl, rfl⟩, ⟨rfl, rfl⟩, trivial⟩ | exact ⟨⟨rfl, rfl⟩, ⟨rfl, rfl⟩, ⟨rfl, rfl⟩, ⟨rfl, rfl⟩, trivial⟩ | exact ⟨⟨rfl, rfl⟩, ⟨rfl, rfl⟩, ⟨rfl, rfl⟩, ⟨rfl, rfl⟩, ⟨rfl, rfl⟩, trivial⟩ | exact ⟨⟨rfl, rfl⟩, ⟨rfl, rfl⟩, ⟨rfl, rfl⟩, ⟨rfl, rfl⟩, ⟨rfl, rfl⟩, ⟨rfl, rfl⟩, trivial⟩ | exact ⟨⟨rfl, rfl⟩, ⟨rfl, rfl⟩, ⟨rfl, rfl⟩, ⟨rfl, rfl⟩, ⟨rfl, rfl⟩, ⟨rfl, rfl⟩, ⟨rfl, rfl⟩, trivial⟩ | exact ⟨⟨rfl, rfl⟩, ⟨rfl, rfl⟩, ⟨rfl, rfl⟩, ⟨rfl, rfl⟩, ⟨rfl, rfl⟩, ⟨rfl, rfl⟩, ⟨rfl, rfl⟩, ⟨rfl, rfl⟩, trivial⟩))); (focus (first | exact Ent.refl _ | exact Ent.left _ _ | exact Ent.of_le ⟨List.sublist_append_left _ _, fun w h => h⟩ | exact Ent.of_le ⟨List.Sublist.refl _, fun w h => h.1⟩)); conv => whnf))
      refine XVal.ent (F' := ⟨fun w => ((h.By p w ∧ By w kb p.buf) ∧ ∀ q ∈ m, By w q.2 q.1.data) ∧ By w k2 h.l[i].1.data, [] ++ orow a C ++ [(b5, Row.c []), (b6, Row.c (h.l[i].1.cells k2))]⟩) (Ent.of_le ⟨by simp [Value.cells], fun w hw => hw⟩) ?_
      refine XVal.append tabOk (t := 29) (xt := 29) rfl rfl rfl rfl rfl rfl (r1 := []) (r2 := [(b5, Row.c []), (b6, Row.c (h.l[i].1.cells k2))]) (M := h.l[i].1.cells k2) hO (Sees.row (by simp)) rfl (req_one _ _) (by omega) (by simp; omega) fun a' c' C' hO' => ?_
      conv => whnf
      repeat' (first
        | (refine And.intro ?_ ?_ <;> conv => whnf)
        | (refine XHeld.same rfl ?_; conv => whnf)
        | (refine XHeld.row rfl ?_; conv => whnf)
        | (refine XHeld.call rfl ?_; conv => whnf)
        | (refine XKeep.of ?_; conv => whnf)
        | (refine XSame.of ?_; conv => whnf)
        | (refine XHeld.mk ?_ ?_ ?_; (focus ((conv => whnf); (first | exact trivial | exact ⟨⟨rfl, rfl⟩, trivial⟩ | exact ⟨⟨rfl, rfl⟩, ⟨rfl, rfl⟩, trivial⟩ | exact ⟨⟨rfl, rfl⟩, ⟨rfl, rfl⟩, ⟨rfl, rfl⟩, trivial⟩ | exact ⟨⟨rfl, rfl⟩, ⟨rfl, rfl⟩, ⟨rfl, rfl⟩, ⟨rfl, rfl⟩, trivial⟩ | exact ⟨⟨rfl, rfl⟩, ⟨rfl, rfl⟩, ⟨rfl, rfl⟩, ⟨rfl, rfl⟩, ⟨rfl, rfl⟩, trivial⟩ | exact ⟨⟨rfl, rfl⟩, ⟨rfl, rfl⟩, ⟨rfl, rfl⟩, ⟨rfl, rfl⟩, ⟨rfl, rfl⟩, ⟨rfl, rfl⟩, trivial⟩ | exact ⟨⟨rfl, rfl⟩, ⟨rfl, rfl⟩, ⟨rfl, rfl⟩, ⟨rfl, rfl⟩, ⟨rfl, rfl⟩, ⟨rfl, rfl⟩, ⟨rfl, rfl⟩, trivial⟩ | exact ⟨⟨rfl, rfl⟩, ⟨rfl, rfl⟩, ⟨rfl, rfl⟩, ⟨rfl, rfl⟩, ⟨rfl, rfl⟩, ⟨rfl, rfl⟩, ⟨rfl, rfl⟩, ⟨rfl, rfl⟩, trivial⟩))); (focus (first | exact Ent.refl _ | exact Ent.left _ _ | exact Ent.of_le ⟨List.sublist_append_left _ _, fun w h => h⟩ | exact Ent.of_le ⟨List.Sublist.refl _, fun w h => h.1⟩)); conv => whnf))
      refine ⟨(i + 1, m ++ [(h.l[i].1, k2)], a', c', C'), ⟨⟨hlt', ?_, fun x hx => ?_, by simpa [reqCells_snoc] using hO'⟩, by dsimp only; omega⟩, ?_, ?_, ?_⟩
      · dsimp only
        rw [List.take_succ_eq_append_getElem hlt', List.map_append, List.map_append, hm]
        rfl
      · rcases List.mem_append.1 hx with hx | hx
        · exact hmo x hx
        · obtain rfl := List.mem_singleton.1 hx
          exact hk2
      · conv => whnf
        refine ⟨?_, rfl⟩
        repeat (first | exact FLe.nil | refine FLe.any ?_ | refine FLe.cons ?_ | refine FLe.eq (by rw [wrap_i64 (by omega)]; rfl) ?_)
      · conv => whnf
        refine ⟨⟨rfl, rfl⟩, ⟨rfl, rfl⟩, ⟨rfl, ?_⟩, trivial⟩
        simp
      · refine Ent.of_le ⟨by simp, fun w hw => ⟨hw.1.1, fun x hx => ?_⟩⟩
        rcases List.mem_append.1 hx with hx | hx
        · exact hw.1.2 x hx
        · obtain rfl := List.mem_singleton.1 hx
          exact hw.2
    · conv => whnf
      have hie : i = h.l.length := by
        have : ¬ (i : Int) < h.l.length := by simpa [iLt_eq] using hlt
        omega
      rw [hie, List.take_length, hh.l] at hm
      exact ⟨⟨fun w => ∀ q ∈ m, By w q.2 q.1.data, orow a C⟩, Ent.of_le ⟨List.Sublist.refl _, fun w hw => hw.2⟩, kb, m, a, c, C, rfl, hm, hmo, hO, rfl⟩

theorem fromS_spec (p : Pipe) (h : PH) (hh : h.Ok p) (hf : p.Few) : PureSpec Try.prog 14 [.agg ⟨h.cells p⟩] (h.By p) (fun v F => ∃ h' : PH, v = .agg ⟨h'.cells p⟩ ∧ h'.Ok p ∧ F = ⟨h'.By p, []⟩) := by
  have hlen : h.l.length = p.wait.length := by rw [← hh.l]; simp
  have hbl := hf.b
  have hwl := hf.w
  refine PureSpec.of_xc tabOk Try.func14 rfl (by decide) (n := Try.f14.ntmps - 1) rfl rfl fun w0 av => ?_
  conv => whnf
  intro b1
  conv => whnf
  intro b2
  conv => whnf
  refine XStop.draw tabOk mixed rfl rfl ?_
  conv => whnf
  repeat' (first
    | (refine And.intro ?_ ?_ <;> conv => whnf)
    | (refine XHeld.same rfl ?_; conv => whnf)
    | (refine XHeld.row rfl ?_; conv => whnf)
    | (refine XHeld.call rfl ?_; conv => whnf)
    | (refine XKeep.of ?_; conv => whnf)
    | (refine XSame.of ?_; conv => whnf)
    | (refine XVal.build tabOk (t := 25) rfl rfl rfl [] rfl rfl (by simp) (by decide) fun b0 => ?_; conv => whnf)
    | (refine XVal.copyZ tabOk (t := 25) (xt := 25) rfl rfl rfl rfl rfl rfl (M := p.buf.map byteV) (Sees.fact fun w hw => hw.b) (by simp) (by omega) (by simp; omega) fun kb hkb => ?_; conv => whnf)
    | (intro b3; conv => whnf)
    | (refine XHeld.mk ?_ ?_ ?_; (focus ((conv => whnf); (first | exact trivial | exact ⟨⟨rfl, rfl⟩, trivial⟩ | exact ⟨⟨rfl, rfl⟩, ⟨rfl, rfl⟩, trivial⟩ | exact ⟨⟨rfl, rfl⟩, ⟨rfl, rfl⟩, ⟨rfl, rfl⟩, trivial⟩ | exact ⟨⟨rfl, rfl⟩, ⟨rfl, rfl⟩, ⟨rfl, rfl⟩, ⟨rfl, rfl⟩, trivial⟩ | exact ⟨⟨rfl, rfl⟩, ⟨rfl, rfl⟩, ⟨rfl, rfl⟩, ⟨rfl, rfl⟩, ⟨rfl, rfl⟩, trivial⟩ | exact ⟨⟨rfl, rfl⟩, ⟨rfl, rfl⟩, ⟨rfl, rfl⟩, ⟨rfl, rfl⟩, ⟨rfl, rfl⟩, ⟨rfl, rfl⟩, trivial⟩ | exact ⟨⟨rfl, rfl⟩, ⟨rfl, rfl⟩, ⟨rfl, rfl⟩, ⟨rfl, rfl⟩, ⟨rfl, rfl⟩, ⟨rfl, rfl⟩, ⟨rfl, rfl⟩, trivial⟩ | exact ⟨⟨rfl, rfl⟩, ⟨rfl, rfl⟩, ⟨rfl, rfl⟩, ⟨rfl, rfl⟩, ⟨rfl, rfl⟩, ⟨rfl, rfl⟩, ⟨rfl, rfl⟩, ⟨rfl, rfl⟩, trivial⟩))); (focus (first | exact Ent.refl _ | exact Ent.left _ _ | exact Ent.of_le ⟨List.sublist_append_left _ _, fun w h => h⟩ | exact Ent.of_le ⟨List.Sublist.refl _, fun w h => h.1⟩)); conv => whnf))
  all_goals
    refine XStop.loop tabOk (ι := Nat × List (Req × Hd) × Option Addr × Nat × List Value) ([4, 5] ++ List.range' 15 28)
      (fun x => x.1 ≤ h.l.length ∧ x.2.1.map (·.1) = (h.l.take x.1).map (·.1) ∧ ReqOk x.2.1 ∧ Own 4 x.2.1.length x.2.2.1 x.2.2.2.1 x.2.2.2.2 (reqCells x.2.1))
      (fun x => [(4, .v (.int .i64 (x.1 : Int)))]) (fun x => [h.cells p, [.slice none 0 0, .int .i64 0, .int .i64 0, .slice none 0 0], [kb.v p.buf.length, .int .i64 p.rd, .int .i64 p.wr, .slice x.2.2.1 x.2.1.length x.2.2.2.1]])
      (fun x => ⟨fun w => (h.By p w ∧ By w kb p.buf) ∧ ∀ q ∈ x.2.1, By w q.2 q.1.data, orow x.2.2.1 x.2.2.2.2⟩)
      (fun x => h.l.length - x.1) (0, [], none, 0, []) ⟨Nat.zero_le _, rfl, (fun q h => by simp at h), Own.nil 4⟩ ?_ rfl (Ent.of_le ⟨by simp [orow], fun w hw => ⟨hw, fun q h => by simp at h⟩⟩) fun x hx => ?_
    · conv => whnf
      repeat (first | exact FLe.nil | refine FLe.any ?_ | refine FLe.cons ?_)
    obtain ⟨i, m, a, c, C⟩ := x
    obtain ⟨hi, hm, hmo, hO⟩ := hx
    dsimp only at hi hm hmo hO ⊢
    have hml : m.length = i := by
      have := congrArg List.length hm
      simp at this
      omega
    conv => whnf
    refine XIf.split (fun hlt => ?_) (fun hlt => ?_)
    · conv => whnf
      have hlt' : i < h.l.length := by
        have : (i : Int) < h.l.length := by simpa [iLt_eq] using hlt
        omega
      have hdl := hf.d h.l[i].1 (by rw [← hh.l]; exact List.mem_map_of_mem (List.getElem_mem hlt'))
      refine XVal.of_read (XRead.index tabOk (t := 26) rfl rfl rfl (by omega) (by omega) hh.w.nil fun ad had => ?_)
      conv => whnf
      refine XVal.of_read (XRead.loads tabOk (t := 51) rfl rfl (ad := ad) (k := i * 4) (L := reqCells h.l) (fun w hst => had ▸ hst.now.1.1.r.1) rfl (reqCells_get h.l hlt') rfl ?_)
      conv => whnf
      intro b4
      conv => whnf
      refine XStop.draw tabOk mixed rfl rfl ?_
      conv => whnf
      repeat' (first
        | (refine And.intro ?_ ?_ <;> conv => whnf)
        | (refine XHeld.same rfl ?_; conv => whnf)
        | (refine XHeld.row rfl ?_; conv => whnf)
        | (refine XHeld.call rfl ?_; conv => whnf)
        | (refine XKeep.of ?_; conv => whnf)
        | (refine XSame.of ?_; conv => whnf)
        | (refine XVal.build tabOk (t := 25) rfl rfl rfl [] rfl rfl (by simp) (by decide) fun b5 => ?_; conv => whnf)
        | (refine XVal.copyZ tabOk (t := 25) (xt := 25) rfl rfl rfl rfl rfl rfl (M := h.l[i].1.data.map byteV) (Sees.fact fun w hw => hw.1.1.r.2 _ (List.getElem_mem hlt')) (by simp) (by omega) (by simp; omega) fun k2 hk2 => ?_; conv => whnf)
        | (refine XVal.build tabOk (t := 29) rfl rfl rfl [.agg ⟨h.l[i].1.cells k2⟩] rfl rfl (by simp [Value.cells, Req.cells]) (by decide) fun b6 => ?_; conv => whnf)
        | (refine XHeld.mk ?_ ?_ ?_; (focus ((conv => whnf); (first | exact trivial | exact ⟨⟨rfl, rfl⟩, trivial⟩ | exact ⟨⟨rfl, rfl⟩, ⟨rfl, rfl⟩, trivial⟩ | exact ⟨⟨rfl, rfl⟩, ⟨rfl, rfl⟩, ⟨rfl, rfl⟩, trivial⟩ | exact ⟨⟨rfl, rfl⟩, ⟨rfl, rfl⟩, ⟨rfl, rfl⟩, ⟨rfl, rfl⟩, trivial⟩ | exact ⟨⟨rfl, rfl⟩, ⟨rfl, rfl⟩, ⟨rfl, rfl⟩, ⟨rfl, rfl⟩, ⟨rfl, rfl⟩, trivial⟩ | exact ⟨⟨rfl, rfl⟩, ⟨rfl, rfl⟩, ⟨rfl, rfl⟩, ⟨rfl, rfl⟩, ⟨rfl, rfl⟩, ⟨rfl, rfl⟩, trivial⟩ | exact ⟨⟨rfl, rfl⟩, ⟨rfl, rfl⟩, ⟨rfl, rfl⟩, ⟨rfl, rfl⟩, ⟨rfl, rfl⟩, ⟨rfl, rfl⟩, ⟨rfl, rfl⟩, trivial⟩ | exact ⟨⟨rfl, rfl⟩, ⟨rfl, rfl⟩, ⟨rfl, rfl⟩, ⟨rfl, rfl⟩, ⟨rfl, rfl⟩, ⟨rfl, rfl⟩, ⟨rfl, rfl⟩, ⟨rfl, rfl⟩, trivial⟩))); (focus (first | exact Ent.refl _ | exact Ent.left _ _ | exact Ent.of_le ⟨List.sublist_append_left _ _, fun w h => h⟩ | exact Ent.of_le ⟨List.Sublist.refl _, fun w h => h.1⟩)); conv => whnf))
      refine XVal.ent (F' := ⟨fun w => ((h.By p w ∧ By w kb p.buf) ∧ ∀ q ∈ m, By w q.2 q.1.data) ∧ By w k2 h.l[i].1.data, [] ++ orow a C ++ [(b5, Row.c []), (b6, Row.c (h.l[i].1.cells k2))]⟩) (Ent.of_le ⟨by simp [Value.cells], fun w hw => hw⟩) ?_
      refine XVal.append tabOk (t := 29) (xt := 29) rfl rfl rfl rfl rfl rfl (r1 := []) (r2 := [(b5, Row.c []), (b6, Row.c (h.l[i].1.cells k2))]) (M := h.l[i].1.cells k2) hO (Sees.row (by simp)) rfl (req_one _ _) (by omega) (by simp; omega) fun a' c' C' hO' => ?_
      conv => whnf
      repeat' (first
        | (refine And.intro ?_ ?_ <;> conv => whnf)
        | (refine XHeld.same rfl ?_; conv => whnf)
        | (refine XHeld.row rfl ?_; conv => whnf)
        | (refine XHeld.call rfl ?_; conv => whnf)
        | (refine XKeep.of ?_; conv => whnf)
        | (refine XSame.of ?_; conv => whnf)
        | (refine XHeld.mk ?_ ?_ ?_; (focus ((conv => whnf); (first | exact trivial | exact ⟨⟨rfl, rfl⟩, trivial⟩ | exact ⟨⟨rfl, rfl⟩, ⟨rfl, rfl⟩, trivial⟩ | exact ⟨⟨rfl, rfl⟩, ⟨rfl, rfl⟩, ⟨rfl, rfl⟩, trivial⟩ | exact ⟨⟨rfl, rfl⟩, ⟨rfl, rfl⟩, ⟨rfl, rfl⟩, ⟨rfl, rfl⟩, trivial⟩ | exact ⟨⟨rfl, rfl⟩, ⟨rfl, rfl⟩, ⟨rfl, rfl⟩, ⟨rfl, rfl⟩, ⟨rfl, rfl⟩, trivial⟩ | exact ⟨⟨rfl, rfl⟩, ⟨rfl, rfl⟩, ⟨rfl, rfl⟩, ⟨rfl, rfl⟩, ⟨rfl, rfl⟩, ⟨rfl, rfl⟩, trivial⟩ | exact ⟨⟨rfl, rfl⟩, ⟨rfl, rfl⟩, ⟨rfl, rfl⟩, ⟨rfl, rfl⟩, ⟨rfl, rfl⟩, ⟨rfl, rfl⟩, ⟨rfl, rfl⟩, trivial⟩ | exact ⟨⟨rfl, rfl⟩, ⟨rfl, rfl⟩, ⟨rfl, rfl⟩, ⟨rfl, rfl⟩, ⟨rfl, rfl⟩, ⟨rfl, rfl⟩, ⟨rfl, rfl⟩, ⟨rfl, rfl⟩, trivial⟩))); (focus (first | exact Ent.refl _ | exact Ent.left _ _ | exact Ent.of_le ⟨List.sublist_append_left _ _, fun w h => h⟩ | exact Ent.of_le ⟨List.Sublist.refl _, fun w h => h.1⟩)); conv => whnf))
      refine ⟨(i + 1, m ++ [(h.l[i].1, k2)], a', c', C'), ⟨⟨hlt', ?_, fun x hx => ?_, by simpa [reqCells_snoc] using hO'⟩, by dsimp only; omega⟩, ?_, ?_, ?_⟩
      · dsimp only
        rw [List.take_succ_eq_append_getElem hlt', List.map_append, List.map_append, hm]
        rfl
      · rcases List.mem_append.1 hx with hx | hx
        · exact hmo x hx
        · obtain rfl := List.mem_singleton.1 hx
          exact hk2
      · conv => whnf
        refine ⟨?_, rfl⟩
        repeat (first | exact FLe.nil | refine FLe.any ?_ | refine FLe.cons ?_ | refine FLe.eq (by rw [wrap_i64 (by omega)]; rfl) ?_)
      · conv => whnf
        refine ⟨⟨rfl, rfl⟩, ⟨rfl, rfl⟩, ⟨rfl, ?_⟩, trivial⟩
        simp
      · refine Ent.of_le ⟨by simp, fun w hw => ⟨hw.1.1, fun x hx => ?_⟩⟩
        rcases List.mem_append.1 hx with hx | hx
        · exact hw.1.2 x hx
        · obtain rfl := List.mem_singleton.1 hx
          exact hw.2
    · conv => whnf
      have hie : i = h.l.length := by
        have : ¬ (i : Int) < h.l.length := by simpa [iLt_eq] using hlt
        omega
      rw [hie, List.take_length, hh.l] at hm
      exact ⟨_, Ent.trans (Own.gives hO) (Ent.bare fun w hw => ⟨hw.1.1.2, hw.2, hw.1.2⟩), ⟨kb, ⟨a, c⟩, m⟩, rfl, ⟨hkb, ⟨fun ha => hO.none_nil ha, hO.fit⟩, hm, hmo⟩, rfl⟩

theorem findR_last {W : List Req} {y : Req} {t : Int} (h : y.task = t) : findR (W ++ [y]) t = y := by
  unfold findR
  rw [List.reverse_append]
  simp [List.find?_cons, iEq_eq, h]

theorem find_spec (k : Hd) (l : List (Req × Hd)) (hk : k.Ok l.length) (ho : ReqOk l) (hl : l.length ≤ 100000) (t : Int) :
    PureSpec Try.prog 15 [k.v l.length, .int .i64 t] (fun w => ReqAt w k l) (fun v F => ∃ k' : Hd, v = .agg ⟨(findR (l.map (·.1)) t).cells k'⟩ ∧ k'.Ok (findR (l.map (·.1)) t).data.length ∧ F = ⟨fun w => By w k' (findR (l.map (·.1)) t).data, []⟩) := by
  refine PureSpec.of_xc tabOk Try.func15 rfl (by decide) (n := Try.f15.ntmps - 2) rfl rfl fun w0 av => ?_
  conv => whnf
  intro b1
  conv => whnf
  refine XStop.loop tabOk (ι := Nat) ([5] ++ List.range' 9 15) (fun j => j ≤ l.length ∧ findR ((l.take j).map (·.1)) t = findR (l.map (·.1)) t)
    (fun j => [(5, .v (.int .i64 ((j : Int) - 1)))]) (fun _ => [[.int .i64 0, .bool false, .int .i64 0, .slice none 0 0]]) (fun _ => ⟨fun w => ReqAt w k l, []⟩)
    (fun j => j) l.length ⟨Nat.le_refl _, by simp⟩ ?_ rfl (Ent.refl _) fun j hj => ?_
  · conv => whnf
    repeat (first | exact FLe.nil | refine FLe.any ?_ | refine FLe.cons ?_ | refine FLe.eq (by rw [wrap_i64 (by omega)]) ?_)
  obtain ⟨hj1, hj2⟩ := hj
  conv => whnf
  refine XIf.split (fun hc => ?_) (fun hc => ?_)
  · have hj0 : 0 < j := by
      have : (0 : Int) ≤ (j : Int) - 1 := by simpa [iGe_eq] using hc
      omega
    obtain ⟨i, rfl⟩ : ∃ i, j = i + 1 := ⟨j - 1, by omega⟩
    have hi : i < l.length := by omega
    rw [List.take_succ_eq_append_getElem hi, List.map_append] at hj2
    have ei : (((i + 1 : Nat) : Int) - 1) = (i : Int) := by omega
    rw [ei]
    conv => whnf
    refine XVal.of_read (XRead.index tabOk (t := 29) rfl rfl rfl (by omega) (by omega) hk.nil fun ad had => ?_)
    conv => whnf
    refine XVal.of_read (XRead.loadF tabOk (t := 3) rfl rfl (ad := ad) (k := i * 4 + 0) (L := reqCells l) (v := .int .i64 l[i].1.task) (fun w hst => had ▸ hst.now.1) (fun hsp => Addr.add_add hsp _ _) (reqCells_at l hi (by omega)) ?_)
    conv => whnf
    refine XIf.split (fun hc2 => ?_) (fun hc2 => ?_)
    · have ht : l[i].1.task = t := by simpa [iEq_eq] using hc2
      have e : findR (l.map (·.1)) t = l[i].1 := by
        rw [← hj2]
        exact findR_last ht
      rw [e]
      conv => whnf
      refine XVal.of_read (XRead.index tabOk (t := 29) rfl rfl rfl (by omega) (by omega) hk.nil fun ad2 had2 => ?_)
      conv => whnf
      refine XVal.of_read (XRead.loads tabOk (t := 37) rfl rfl (ad := ad2) (k := i * 4) (L := reqCells l) (fun w hst => had2 ▸ hst.now.1) rfl (reqCells_get l hi) rfl ?_)
      conv => whnf
      exact ⟨_, Ent.bare fun w hw => hw.2 _ (List.getElem_mem hi), l[i].2, rfl, ho _ (List.getElem_mem hi), rfl⟩
    · have ht : l[i].1.task ≠ t := by simpa [iEq_eq] using hc2
      rw [show ([l[i]].map (·.1)) = [l[i].1] from rfl, findR_snoc ht] at hj2
      conv => whnf
      refine ⟨i, ⟨⟨by omega, hj2⟩, by dsimp only; omega⟩, ?_, ?_, Ent.refl _⟩
      · conv => whnf
        refine ⟨?_, rfl⟩
        repeat (first | exact FLe.nil | refine FLe.any ?_ | refine FLe.cons ?_ | refine FLe.eq (by rw [wrap_i64 (by omega)]) ?_)
      · conv => whnf
        exact ⟨⟨rfl, rfl⟩, trivial⟩
  · have hj0 : j = 0 := by
      have : ¬ (0 : Int) ≤ (j : Int) - 1 := by simpa [iGe_eq] using hc
      omega
    subst hj0
    have e : findR (l.map (·.1)) t = ⟨0, false, 0, []⟩ := by
      rw [← hj2]
      rfl
    rw [e]
    conv => whnf
    exact ⟨_, Ent.bare fun w _ => By.nil w, Hd.nil, rfl, Hd.nil_ok, rfl⟩

end Go.Proofs.Ytpnnadojhacjiaa
