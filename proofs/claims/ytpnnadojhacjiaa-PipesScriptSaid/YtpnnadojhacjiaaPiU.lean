/- Pipes, part U: the reference's functions, first half. -/
import Derived.Test.YtpnnadojhacjiaaPiR
import Derived.Test.YtpnnadojhacjiaaSyE
namespace Go.Proofs.Ytpnnadojhacjiaa
open Go Go.Sx
set_option maxRecDepth 100000
set_option maxHeartbeats 4000000
set_option linter.unusedVariables false
set_option linter.unusedSimpArgs false

theorem refProper_spec (r : Req) (h : Hd) : PureSpec Try.prog 41 [.agg ⟨r.cells h⟩] (fun _ => True) (fun v F => v = .bool r.proper) := by
  refine PureSpec.of_xc tabOk Try.func41 rfl (by decide) (n := Try.f41.ntmps - 1) rfl rfl fun w0 av => ?_
  conv => whnf
  intro b
  conv => whnf
  repeat' (first
    | (refine XSame.of ?_; conv => whnf)
    | (refine XIf.split (fun hc => ?_) (fun hc => ?_) <;> conv => whnf))
  all_goals
    refine ⟨_, Ent.refl _, ?_⟩
    simp_all [Req.proper, iLt_eq, iGe_eq, iEq_eq, iLe_eq]
  · split <;> intros <;> omega
  · cases decide (1 ≤ r.n) <;> simp [Bool.and_comm]

theorem refFirst_spec (p : Pipe) (h : PH) (hh : h.Ok p) (hf : p.Few) (t : Bool) : PureSpec Try.prog 52 [.agg ⟨h.cells p⟩, .bool t] (h.By p) (fun v F => v = .int .i64 (first p t)) := by
  have hlen : h.l.length = p.wait.length := by rw [← hh.l]; simp
  have hw := hf.w
  have e0 : idx (fun p : Req × Hd => p.1.write == t) h.l 0 = first p t := by rw [first, ← hh.l]; exact idx_map (·.1) (fun r : Req => r.write == t) h.l 0
  refine PureSpec.of_xc tabOk Try.func52 rfl (by decide) (n := Try.f52.ntmps - 2) rfl rfl fun w0 av => ?_
  conv => whnf
  intro b1
  conv => whnf
  refine XStop.loop tabOk (ι := Nat) (List.range' 4 18) (fun x => x ≤ h.l.length ∧ idx (fun p => p.1.write == t) (h.l.drop x) x = first p t)
    (fun x => [(5, .v (.int .i64 (x : Int)))]) (fun _ => [h.cells p]) (fun _ => ⟨h.By p, []⟩)
    (fun x => h.l.length - x) 0 ⟨Nat.zero_le _, e0⟩ ?_ rfl (Ent.refl _) fun i hi => ?_
  · conv => whnf
    repeat (first | exact FLe.nil | refine FLe.any ?_ | refine FLe.cons ?_)
  obtain ⟨hi1, hi2⟩ := hi
  conv => whnf
  refine XIf.split (fun hlt => ?_) (fun hlt => ?_)
  · conv => whnf
    have hlt' : i < h.l.length := by
      have : (i : Int) < h.l.length := by simpa [iLt_eq] using hlt
      omega
    rw [idx_drop hlt'] at hi2
    refine XVal.of_read (XRead.index tabOk (t := 29) rfl rfl rfl (by omega) (by omega) hh.w.nil fun ad had => ?_)
    conv => whnf
    refine XVal.of_read (XRead.loadF tabOk (t := 4) rfl rfl (ad := ad) (k := i * 4 + 1) (L := reqCells h.l) (v := .bool h.l[i].1.write) (fun w hst => had ▸ hst.now.r.1) (fun hsp => Addr.add_add hsp _ _) (reqCells_at h.l hlt' (by omega)) ?_)
    conv => whnf
    refine XIf.split (fun hc => ?_) (fun hc => ?_)
    · conv => whnf
      rw [if_pos hc] at hi2
      exact ⟨_, Ent.refl _, by dsimp only; rw [← hi2]⟩
    · conv => whnf
      rw [if_neg (by simp [hc])] at hi2
      refine ⟨i + 1, ⟨⟨hlt', hi2⟩, by dsimp only; omega⟩, ?_, ?_, Ent.refl _⟩
      · conv => whnf
        refine ⟨?_, rfl⟩
        repeat (first | exact FLe.nil | refine FLe.any ?_ | refine FLe.cons ?_ | refine FLe.eq (by rw [wrap_i64 (by omega)]; rfl) ?_)
      · conv => whnf
        exact ⟨⟨rfl, rfl⟩, trivial⟩
  · conv => whnf
    have hge' : h.l.length ≤ i := by
      have : ¬ (i : Int) < h.l.length := by simpa [iLt_eq] using hlt
      omega
    rw [List.drop_of_length_le hge'] at hi2
    exact ⟨_, Ent.refl _, by dsimp only; rw [← hi2]; rfl⟩

theorem refOf_spec (p : Pipe) (h : PH) (hh : h.Ok p) (hf : p.Few) (t : Int) : PureSpec Try.prog 39 [.agg ⟨h.cells p⟩, .int .i64 t] (h.By p) (fun v F => v = .int .i64 (index p t)) := by
  have hlen : h.l.length = p.wait.length := by rw [← hh.l]; simp
  have hw := hf.w
  have e0 : idx (fun p : Req × Hd => iEq p.1.task t) h.l 0 = index p t := by rw [index, ← hh.l]; exact idx_map (·.1) (fun r : Req => iEq r.task t) h.l 0
  refine PureSpec.of_xc tabOk Try.func39 rfl (by decide) (n := Try.f39.ntmps - 2) rfl rfl fun w0 av => ?_
  conv => whnf
  intro b1
  conv => whnf
  refine XStop.loop tabOk (ι := Nat) (List.range' 4 18) (fun x => x ≤ h.l.length ∧ idx (fun p => iEq p.1.task t) (h.l.drop x) x = index p t)
    (fun x => [(5, .v (.int .i64 (x : Int)))]) (fun _ => [h.cells p]) (fun _ => ⟨h.By p, []⟩)
    (fun x => h.l.length - x) 0 ⟨Nat.zero_le _, e0⟩ ?_ rfl (Ent.refl _) fun i hi => ?_
  · conv => whnf
    repeat (first | exact FLe.nil | refine FLe.any ?_ | refine FLe.cons ?_)
  obtain ⟨hi1, hi2⟩ := hi
  conv => whnf
  refine XIf.split (fun hlt => ?_) (fun hlt => ?_)
  · conv => whnf
    have hlt' : i < h.l.length := by
      have : (i : Int) < h.l.length := by simpa [iLt_eq] using hlt
      omega
    rw [idx_drop hlt'] at hi2
    refine XVal.of_read (XRead.index tabOk (t := 29) rfl rfl rfl (by omega) (by omega) hh.w.nil fun ad had => ?_)
    conv => whnf
    refine XVal.of_read (XRead.loadF tabOk (t := 3) rfl rfl (ad := ad) (k := i * 4 + 0) (L := reqCells h.l) (v := .int .i64 h.l[i].1.task) (fun w hst => had ▸ hst.now.r.1) (fun hsp => Addr.add_add hsp _ _) (reqCells_at h.l hlt' (by omega)) ?_)
    conv => whnf
    refine XIf.split (fun hc => ?_) (fun hc => ?_)
    · conv => whnf
      rw [if_pos hc] at hi2
      exact ⟨_, Ent.refl _, by dsimp only; rw [← hi2]⟩
    · conv => whnf
      rw [if_neg (by simp [hc])] at hi2
      refine ⟨i + 1, ⟨⟨hlt', hi2⟩, by dsimp only; omega⟩, ?_, ?_, Ent.refl _⟩
      · conv => whnf
        refine ⟨?_, rfl⟩
        repeat (first | exact FLe.nil | refine FLe.any ?_ | refine FLe.cons ?_ | refine FLe.eq (by rw [wrap_i64 (by omega)]; rfl) ?_)
      · conv => whnf
        exact ⟨⟨rfl, rfl⟩, trivial⟩
  · conv => whnf
    have hge' : h.l.length ≤ i := by
      have : ¬ (i : Int) < h.l.length := by simpa [iLt_eq] using hlt
      omega
    rw [List.drop_of_length_le hge'] at hi2
    exact ⟨_, Ent.refl _, by dsimp only; rw [← hi2]; rfl⟩

/-- The request that proceeds next. -/
def Pipe.ready (p : Pipe) : Int := if p.reads then first p false else if p.writes then first p true else -1

theorem refReady_spec (p : Pipe) (h : PH) (hh : h.Ok p) (hf : p.Few) : PureSpec Try.prog 48 [.agg ⟨h.cells p⟩] (h.By p) (fun v F => v = .int .i64 p.ready) := by
  have hlen : h.l.length = p.wait.length := by rw [← hh.l]; simp
  have hfa := first_at p true
  have hb := hf.b
  have hw := hf.w
  refine PureSpec.of_xc tabOk Try.func48 rfl (by decide) (n := Try.f48.ntmps - 1) rfl rfl fun w0 av => ?_
  conv => whnf
  intro b1
  conv => whnf
  refine XStop.draw tabOk mixed rfl rfl ?_
  conv => whnf
  repeat' (first
    | (refine And.intro ?_ ?_ <;> conv => whnf)
    | (refine XHeld.same rfl ?_; conv => whnf)
    | (refine XHeld.row rfl ?_; conv => whnf)
    | (refine XHeld.call rfl ?_; conv => whnf)
    | (refine XKeep.of ?_; conv => whnf)
    | (refine XSame.of ?_; conv => whnf)
    | (refine XCall.val (refFirst_spec p h hh hf false) (fun _ h => h) (fun v D hv => ?_); subst hv; conv => whnf)
    | (refine XCall.val (refFirst_spec p h hh hf true) (fun _ h => h) (fun v D hv => ?_); subst hv; conv => whnf)
    | (refine XHeld.mk ?_ ?_ ?_; (focus ((conv => whnf); (first | exact trivial | exact ⟨⟨rfl, rfl⟩, trivial⟩ | exact ⟨⟨rfl, rfl⟩, ⟨rfl, rfl⟩, trivial⟩ | exact ⟨⟨rfl, rfl⟩, ⟨rfl, rfl⟩, ⟨rfl, rfl⟩, trivial⟩ | exact ⟨⟨rfl, rfl⟩, ⟨rfl, rfl⟩, ⟨rfl, rfl⟩, ⟨rfl, rfl⟩, trivial⟩ | exact ⟨⟨rfl, rfl⟩, ⟨rfl, rfl⟩, ⟨rfl, rfl⟩, ⟨rfl, rfl⟩, ⟨rfl, rfl⟩, trivial⟩ | exact ⟨⟨rfl, rfl⟩, ⟨rfl, rfl⟩, ⟨rfl, rfl⟩, ⟨rfl, rfl⟩, ⟨rfl, rfl⟩, ⟨rfl, rfl⟩, trivial⟩ | exact ⟨⟨rfl, rfl⟩, ⟨rfl, rfl⟩, ⟨rfl, rfl⟩, ⟨rfl, rfl⟩, ⟨rfl, rfl⟩, ⟨rfl, rfl⟩, ⟨rfl, rfl⟩, trivial⟩ | exact ⟨⟨rfl, rfl⟩, ⟨rfl, rfl⟩, ⟨rfl, rfl⟩, ⟨rfl, rfl⟩, ⟨rfl, rfl⟩, ⟨rfl, rfl⟩, ⟨rfl, rfl⟩, ⟨rfl, rfl⟩, trivial⟩))); (focus (first | exact Ent.refl _ | exact Ent.left _ _ | exact Ent.of_le ⟨List.sublist_append_left _ _, fun w h => h⟩ | exact Ent.of_le ⟨List.Sublist.refl _, fun w h => h.1⟩)); conv => whnf))
  repeat' (first
    | (refine XSame.of ?_; conv => whnf)
    | (refine XIf.split (fun hc => ?_) (fun hc => ?_) <;> conv => whnf))
  · refine ⟨_, Ent.refl _, ?_⟩
    simp_all [Pipe.ready, Pipe.reads]
  · refine ⟨_, Ent.refl _, ?_⟩
    simp_all [Pipe.ready, Pipe.reads]
  all_goals
    have hr : p.reads = false := by
      unfold Pipe.reads
      simp_all
    have e0 : p.ready = if p.writes then first p true else -1 := by simp [Pipe.ready, hr]
    refine XStop.draw tabOk mixed rfl rfl ?_
    conv => whnf
    refine XIf.split (fun hc1 => ?_) (fun hc1 => ?_)
    · conv => whnf
      refine XIf.split (fun hc2 => ?_) (fun hc2 => ?_)
      · conv => whnf
        refine ⟨_, Ent.refl _, ?_⟩
        simp [e0, Pipe.writes, hc1, hc2]
      · conv => whnf
        obtain ⟨k, e1, hk⟩ := first_at p true hc1
        have hk' : k < h.l.length := by omega
        have hd : dataAt p.wait (first p true).toNat = h.l[k].1.data := by
          rw [e1, dataAt, ← hh.l]
          simp [hk']
        rw [e1]
        refine XRead.index tabOk (t := 29) rfl rfl rfl (by omega) (by omega) hh.w.nil fun ad had => ?_
        conv => whnf
        refine XRead.loadF tabOk (t := 25) rfl rfl (ad := ad) (k := k * 4 + 3) (L := reqCells h.l) (v := h.l[k].2.v h.l[k].1.data.length) (fun w hst => had ▸ hst.now.r.1) (fun hsp => Addr.add_add hsp _ _) (reqCells_at h.l hk' (by omega)) ?_
        conv => whnf
        have h2 := hf.d h.l[k].1 (by rw [← hh.l]; exact List.mem_map_of_mem (List.getElem_mem hk'))
        refine XIf.split (fun hc3 => ?_) (fun hc3 => ?_)
        · conv => whnf
          refine ⟨_, Ent.refl _, ?_⟩
          rw [wrap_i64 (by omega)] at hc3
          have : p.writes = true := by simp [Pipe.writes, hc1, hd]; simpa [hc2] using hc3
          simp [e0, this, e1]
        · conv => whnf
          refine ⟨_, Ent.refl _, ?_⟩
          rw [wrap_i64 (by omega)] at hc3
          have : p.writes = false := by simp [Pipe.writes, hc1, hd]; simpa [hc2] using hc3
          simp [e0, this]
    · conv => whnf
      refine ⟨_, Ent.refl _, ?_⟩
      simp [e0, Pipe.writes, hc1]

theorem req_left {w : World} {a : Option Addr} {l : List (Req × Hd)} (h : RowAt w a (reqCells l)) {i c : Nat} (hi : i ≤ c) : RowAt w (cutA a 0 c 4) (reqCells (l.take i)) := by
  have := RowAt.cut (size := 4) h (l := 0) (hi := i) (m := c) ⟨Nat.zero_le _, hi⟩
  rw [Nat.zero_mul, List.drop_zero, Nat.sub_zero, reqCells_take] at this
  exact this

theorem req_right {w : World} {a : Option Addr} {l : List (Req × Hd)} (h : RowAt w a (reqCells l)) {i c : Nat} (hi : i ≤ l.length) (hc : l.length ≤ c) : RowAt w (cutA a i c 4) (reqCells (l.drop i)) := by
  have := RowAt.cut (size := 4) h (l := i) (hi := l.length) (m := c) ⟨hi, hc⟩
  rw [reqCells_drop, List.take_of_length_le (by rw [reqCells_len]; simp)] at this
  exact this

theorem refWithout_spec (p : Pipe) (h : PH) (hh : h.Ok p) (hf : p.Few) (i : Nat) (hi : i < p.wait.length) :
    PureSpec Try.prog 40 [.agg ⟨h.cells p⟩, .int .i64 (i : Int)] (h.By p) (fun v F => ∃ h' : PH, v = .agg ⟨h'.cells { p with wait := p.wait.eraseIdx i }⟩ ∧ h'.Ok { p with wait := p.wait.eraseIdx i } ∧ F = ⟨h'.By { p with wait := p.wait.eraseIdx i }, []⟩) := by
  have hlen : h.l.length = p.wait.length := by rw [← hh.l]; simp
  have hw := hf.w
  have hcap := hh.w.cap
  refine PureSpec.of_xc tabOk Try.func40 rfl (by decide) (n := Try.f40.ntmps - 2) rfl rfl fun w0 av => ?_
  conv => whnf
  intro b1
  conv => whnf
  intro b2
  conv => whnf
  have S1 : ∀ (bs : List (Nat × Nat)) (cs : List (List Value)) (F : Fx) (K : Value → Prop), K (.slice (cutA h.w.a 0 h.w.c 4) i h.w.c) → XRead Try.prog w0 (fun _ _ => False) av (Instr.sliceAt 29 (h.w.v h.l.length) none (some (.int .i64 (i : Int))) none) bs cs F K := fun bs cs F K hK =>
    XRead.slice tabOk (t := 29) rfl rfl rfl (lo := none) (hi := some (i : Int)) (mx := none) (k1 := .i64) (k3 := .i64) 0 i h.w.c rfl rfl rfl (by omega) (by omega) (Nat.le_refl _) (fun h => by cases h) hK
  have S2 : ∀ (bs : List (Nat × Nat)) (cs : List (List Value)) (F : Fx) (K : Value → Prop), K (.slice (cutA h.w.a (i + 1) h.w.c 4) (h.l.length - (i + 1)) (h.w.c - (i + 1))) → XRead Try.prog w0 (fun _ _ => False) av (Instr.sliceAt 29 (h.w.v h.l.length) (some (.int .i64 (IntKind.i64.wrap ((i : Int) + 1)))) none none) bs cs F K := fun bs cs F K hK => by
    rw [wrap_i64 (by omega)]
    exact XRead.slice tabOk (t := 29) rfl rfl rfl (lo := some ((i : Int) + 1)) (hi := none) (mx := none) (k2 := .i64) (k3 := .i64) (i + 1) h.l.length h.w.c rfl rfl rfl (by omega) (by omega) (Nat.le_refl _) (fun h => by cases h) hK
  refine XStop.draw tabOk mixed rfl rfl ?_
  conv => whnf
  repeat' (first
    | (refine And.intro ?_ ?_ <;> conv => whnf)
    | (refine XHeld.same rfl ?_; conv => whnf)
    | (refine XHeld.row rfl ?_; conv => whnf)
    | (refine XHeld.call rfl ?_; conv => whnf)
    | (refine XKeep.of ?_; conv => whnf)
    | (refine XSame.of ?_; conv => whnf)
    | (refine S1 _ _ _ _ ?_; conv => whnf)
    | (refine S2 _ _ _ _ ?_; conv => whnf)
    | (refine XVal.build tabOk (t := 29) rfl rfl rfl [] rfl rfl (by simp) (by decide) fun b0 => ?_; conv => whnf)
    | (refine XHeld.mk ?_ ?_ ?_; (focus ((conv => whnf); (first | exact trivial | exact ⟨⟨rfl, rfl⟩, trivial⟩ | exact ⟨⟨rfl, rfl⟩, ⟨rfl, rfl⟩, trivial⟩ | exact ⟨⟨rfl, rfl⟩, ⟨rfl, rfl⟩, ⟨rfl, rfl⟩, trivial⟩ | exact ⟨⟨rfl, rfl⟩, ⟨rfl, rfl⟩, ⟨rfl, rfl⟩, ⟨rfl, rfl⟩, trivial⟩ | exact ⟨⟨rfl, rfl⟩, ⟨rfl, rfl⟩, ⟨rfl, rfl⟩, ⟨rfl, rfl⟩, ⟨rfl, rfl⟩, trivial⟩ | exact ⟨⟨rfl, rfl⟩, ⟨rfl, rfl⟩, ⟨rfl, rfl⟩, ⟨rfl, rfl⟩, ⟨rfl, rfl⟩, ⟨rfl, rfl⟩, trivial⟩ | exact ⟨⟨rfl, rfl⟩, ⟨rfl, rfl⟩, ⟨rfl, rfl⟩, ⟨rfl, rfl⟩, ⟨rfl, rfl⟩, ⟨rfl, rfl⟩, ⟨rfl, rfl⟩, trivial⟩ | exact ⟨⟨rfl, rfl⟩, ⟨rfl, rfl⟩, ⟨rfl, rfl⟩, ⟨rfl, rfl⟩, ⟨rfl, rfl⟩, ⟨rfl, rfl⟩, ⟨rfl, rfl⟩, ⟨rfl, rfl⟩, trivial⟩))); (focus (first | exact Ent.refl _ | exact Ent.left _ _ | exact Ent.of_le ⟨List.sublist_append_left _ _, fun w h => h⟩ | exact Ent.of_le ⟨List.Sublist.refl _, fun w h => h.1⟩)); conv => whnf))
  have he : h.l.eraseIdx i = h.l.take i ++ h.l.drop (i + 1) := List.eraseIdx_eq_take_drop_succ ..
  have hel : (h.l.eraseIdx i).length = i + (h.l.length - (i + 1)) := by rw [he]; simp; omega
  have hfin : ∀ {w : World} {a2 : Option Addr} {c2 : Nat}, h.By p w → RowAt w a2 (reqCells (h.l.take i) ++ reqCells (h.l.drop (i + 1))) → PH.By ⟨h.b, ⟨a2, c2⟩, h.l.eraseIdx i⟩ { p with wait := p.wait.eraseIdx i } w := fun h1 h2 =>
    ⟨h1.b, by show RowAt _ _ (reqCells (h.l.eraseIdx i)); rw [he, reqCells_append]; exact h2, fun q hq => h1.r.2 q ((List.eraseIdx_sublist ..).subset hq)⟩
  have hfok : ∀ {a2 : Option Addr} {c2 : Nat} {C2 L : List Value}, Own 4 (i + (h.l.length - (i + 1))) a2 c2 C2 L → PH.Ok ⟨h.b, ⟨a2, c2⟩, h.l.eraseIdx i⟩ { p with wait := p.wait.eraseIdx i } := fun hO =>
    ⟨hh.b, ⟨fun ha => by rw [hel]; exact hO.none_nil ha, by rw [hel]; exact hO.fit⟩, by show (h.l.eraseIdx i).map _ = p.wait.eraseIdx i; rw [he, List.map_append, List.map_take, List.map_drop, hh.l, List.eraseIdx_eq_take_drop_succ], fun q hq => hh.d q ((List.eraseIdx_sublist ..).subset hq)⟩
  rcases Nat.eq_zero_or_pos i with h0 | h0
  · refine XVal.append0 tabOk (t := 29) (xt := 29) rfl rfl rfl rfl rfl (Nat.le_refl _) h0 (fun w _ => RowAt.none' _) ?_
    conv => whnf
    repeat' (first
      | (refine And.intro ?_ ?_ <;> conv => whnf)
      | (refine XHeld.same rfl ?_; conv => whnf)
      | (refine XHeld.row rfl ?_; conv => whnf)
      | (refine XHeld.call rfl ?_; conv => whnf)
      | (refine XKeep.of ?_; conv => whnf)
      | (refine XSame.of ?_; conv => whnf)
      | (refine XHeld.mk ?_ ?_ ?_; (focus ((conv => whnf); (first | exact trivial | exact ⟨⟨rfl, rfl⟩, trivial⟩ | exact ⟨⟨rfl, rfl⟩, ⟨rfl, rfl⟩, trivial⟩ | exact ⟨⟨rfl, rfl⟩, ⟨rfl, rfl⟩, ⟨rfl, rfl⟩, trivial⟩ | exact ⟨⟨rfl, rfl⟩, ⟨rfl, rfl⟩, ⟨rfl, rfl⟩, ⟨rfl, rfl⟩, trivial⟩ | exact ⟨⟨rfl, rfl⟩, ⟨rfl, rfl⟩, ⟨rfl, rfl⟩, ⟨rfl, rfl⟩, ⟨rfl, rfl⟩, trivial⟩ | exact ⟨⟨rfl, rfl⟩, ⟨rfl, rfl⟩, ⟨rfl, rfl⟩, ⟨rfl, rfl⟩, ⟨rfl, rfl⟩, ⟨rfl, rfl⟩, trivial⟩ | exact ⟨⟨rfl, rfl⟩, ⟨rfl, rfl⟩, ⟨rfl, rfl⟩, ⟨rfl, rfl⟩, ⟨rfl, rfl⟩, ⟨rfl, rfl⟩, ⟨rfl, rfl⟩, trivial⟩ | exact ⟨⟨rfl, rfl⟩, ⟨rfl, rfl⟩, ⟨rfl, rfl⟩, ⟨rfl, rfl⟩, ⟨rfl, rfl⟩, ⟨rfl, rfl⟩, ⟨rfl, rfl⟩, ⟨rfl, rfl⟩, trivial⟩))); (focus (first | exact Ent.refl _ | exact Ent.left _ _ | exact Ent.of_le ⟨List.sublist_append_left _ _, fun w h => h⟩ | exact Ent.of_le ⟨List.Sublist.refl _, fun w h => h.1⟩)); conv => whnf))
    refine XVal.ent (F' := ⟨h.By p, [] ++ orow (some ⟨b0, 0, none⟩) [] ++ []⟩) (Ent.refl _) ?_
    refine XVal.append tabOk (t := 29) (xt := 29) rfl rfl rfl rfl rfl rfl (r1 := []) (r2 := []) (C := []) (L := []) (M := reqCells (h.l.drop (i + 1))) (Own.full (by simp)) (Sees.fact fun w hw => req_right hw.r.1 (by omega) hcap) (by rw [reqCells_len, List.length_drop]) (reqCells_one _) (by omega) (by simp; omega) fun a2 c2 C2 hO2 => ?_
    conv => whnf
    repeat' (first
      | (refine And.intro ?_ ?_ <;> conv => whnf)
      | (refine XHeld.same rfl ?_; conv => whnf)
      | (refine XHeld.row rfl ?_; conv => whnf)
      | (refine XHeld.call rfl ?_; conv => whnf)
      | (refine XKeep.of ?_; conv => whnf)
      | (refine XSame.of ?_; conv => whnf)
      | (refine XHeld.mk ?_ ?_ ?_; (focus ((conv => whnf); (first | exact trivial | exact ⟨⟨rfl, rfl⟩, trivial⟩ | exact ⟨⟨rfl, rfl⟩, ⟨rfl, rfl⟩, trivial⟩ | exact ⟨⟨rfl, rfl⟩, ⟨rfl, rfl⟩, ⟨rfl, rfl⟩, trivial⟩ | exact ⟨⟨rfl, rfl⟩, ⟨rfl, rfl⟩, ⟨rfl, rfl⟩, ⟨rfl, rfl⟩, trivial⟩ | exact ⟨⟨rfl, rfl⟩, ⟨rfl, rfl⟩, ⟨rfl, rfl⟩, ⟨rfl, rfl⟩, ⟨rfl, rfl⟩, trivial⟩ | exact ⟨⟨rfl, rfl⟩, ⟨rfl, rfl⟩, ⟨rfl, rfl⟩, ⟨rfl, rfl⟩, ⟨rfl, rfl⟩, ⟨rfl, rfl⟩, trivial⟩ | exact ⟨⟨rfl, rfl⟩, ⟨rfl, rfl⟩, ⟨rfl, rfl⟩, ⟨rfl, rfl⟩, ⟨rfl, rfl⟩, ⟨rfl, rfl⟩, ⟨rfl, rfl⟩, trivial⟩ | exact ⟨⟨rfl, rfl⟩, ⟨rfl, rfl⟩, ⟨rfl, rfl⟩, ⟨rfl, rfl⟩, ⟨rfl, rfl⟩, ⟨rfl, rfl⟩, ⟨rfl, rfl⟩, ⟨rfl, rfl⟩, trivial⟩))); (focus (first | exact Ent.refl _ | exact Ent.left _ _ | exact Ent.of_le ⟨List.sublist_append_left _ _, fun w h => h⟩ | exact Ent.of_le ⟨List.Sublist.refl _, fun w h => h.1⟩)); conv => whnf))
    have hO3 : Own 4 (i + (h.l.length - (i + 1))) a2 c2 C2 (reqCells (h.l.drop (i + 1))) := by
      have := hO2
      rw [h0] at this ⊢
      simpa using this
    refine ⟨_, Ent.trans (Own.share hO3 (r1 := []) (r2 := []) (D := h.By p)) (Ent.bare fun w hw => hfin (a2 := a2) (c2 := c2) hw.1 ?_), ⟨h.b, ⟨a2, c2⟩, h.l.eraseIdx i⟩, ?_, hfok hO3, rfl⟩
    · rw [h0]
      simpa [reqCells, h0] using hw.2
    · have e3 : (h.l.eraseIdx i).length = 0 + (h.l.length - (i + 1)) := by rw [hel]; omega
      simp only [PH.cells, e3]
  · refine XVal.appendNew tabOk (t := 29) (xt := 29) rfl rfl rfl rfl rfl rfl (L := []) (M := reqCells (h.l.take i)) (Sees.row (b := b0) (by simp)) (by simp) (Sees.fact fun w hw => req_left hw.r.1 (by omega)) (by rw [reqCells_len, List.length_take]; show min i h.l.length * 4 = i * 4; rw [Nat.min_eq_left (by omega)]) (by omega) (by omega) (by simp; omega) fun b5 c1 C1 hO1 => ?_
    conv => whnf
    repeat' (first
      | (refine And.intro ?_ ?_ <;> conv => whnf)
      | (refine XHeld.same rfl ?_; conv => whnf)
      | (refine XHeld.row rfl ?_; conv => whnf)
      | (refine XHeld.call rfl ?_; conv => whnf)
      | (refine XKeep.of ?_; conv => whnf)
      | (refine XSame.of ?_; conv => whnf)
      | (refine XHeld.mk ?_ ?_ ?_; (focus ((conv => whnf); (first | exact trivial | exact ⟨⟨rfl, rfl⟩, trivial⟩ | exact ⟨⟨rfl, rfl⟩, ⟨rfl, rfl⟩, trivial⟩ | exact ⟨⟨rfl, rfl⟩, ⟨rfl, rfl⟩, ⟨rfl, rfl⟩, trivial⟩ | exact ⟨⟨rfl, rfl⟩, ⟨rfl, rfl⟩, ⟨rfl, rfl⟩, ⟨rfl, rfl⟩, trivial⟩ | exact ⟨⟨rfl, rfl⟩, ⟨rfl, rfl⟩, ⟨rfl, rfl⟩, ⟨rfl, rfl⟩, ⟨rfl, rfl⟩, trivial⟩ | exact ⟨⟨rfl, rfl⟩, ⟨rfl, rfl⟩, ⟨rfl, rfl⟩, ⟨rfl, rfl⟩, ⟨rfl, rfl⟩, ⟨rfl, rfl⟩, trivial⟩ | exact ⟨⟨rfl, rfl⟩, ⟨rfl, rfl⟩, ⟨rfl, rfl⟩, ⟨rfl, rfl⟩, ⟨rfl, rfl⟩, ⟨rfl, rfl⟩, ⟨rfl, rfl⟩, trivial⟩ | exact ⟨⟨rfl, rfl⟩, ⟨rfl, rfl⟩, ⟨rfl, rfl⟩, ⟨rfl, rfl⟩, ⟨rfl, rfl⟩, ⟨rfl, rfl⟩, ⟨rfl, rfl⟩, ⟨rfl, rfl⟩, trivial⟩))); (focus (first | exact Ent.refl _ | exact Ent.left _ _ | exact Ent.of_le ⟨List.sublist_append_left _ _, fun w h => h⟩ | exact Ent.of_le ⟨List.Sublist.refl _, fun w h => h.1⟩)); conv => whnf))
    refine XVal.ent (F' := ⟨h.By p, [(b0, Row.c [])] ++ orow (some ⟨b5, 0, none⟩) C1 ++ []⟩) (Ent.refl _) ?_
    refine XVal.append tabOk (t := 29) (xt := 29) rfl rfl rfl rfl rfl rfl (r1 := [(b0, Row.c [])]) (r2 := []) (M := reqCells (h.l.drop (i + 1))) hO1 (Sees.fact fun w hw => req_right hw.r.1 (by omega) hcap) (by rw [reqCells_len, List.length_drop]) (reqCells_one _) (by omega) (by simp; omega) fun a2 c2 C2 hO2 => ?_
    conv => whnf
    repeat' (first
      | (refine And.intro ?_ ?_ <;> conv => whnf)
      | (refine XHeld.same rfl ?_; conv => whnf)
      | (refine XHeld.row rfl ?_; conv => whnf)
      | (refine XHeld.call rfl ?_; conv => whnf)
      | (refine XKeep.of ?_; conv => whnf)
      | (refine XSame.of ?_; conv => whnf)
      | (refine XHeld.mk ?_ ?_ ?_; (focus ((conv => whnf); (first | exact trivial | exact ⟨⟨rfl, rfl⟩, trivial⟩ | exact ⟨⟨rfl, rfl⟩, ⟨rfl, rfl⟩, trivial⟩ | exact ⟨⟨rfl, rfl⟩, ⟨rfl, rfl⟩, ⟨rfl, rfl⟩, trivial⟩ | exact ⟨⟨rfl, rfl⟩, ⟨rfl, rfl⟩, ⟨rfl, rfl⟩, ⟨rfl, rfl⟩, trivial⟩ | exact ⟨⟨rfl, rfl⟩, ⟨rfl, rfl⟩, ⟨rfl, rfl⟩, ⟨rfl, rfl⟩, ⟨rfl, rfl⟩, trivial⟩ | exact ⟨⟨rfl, rfl⟩, ⟨rfl, rfl⟩, ⟨rfl, rfl⟩, ⟨rfl, rfl⟩, ⟨rfl, rfl⟩, ⟨rfl, rfl⟩, trivial⟩ | exact ⟨⟨rfl, rfl⟩, ⟨rfl, rfl⟩, ⟨rfl, rfl⟩, ⟨rfl, rfl⟩, ⟨rfl, rfl⟩, ⟨rfl, rfl⟩, ⟨rfl, rfl⟩, trivial⟩ | exact ⟨⟨rfl, rfl⟩, ⟨rfl, rfl⟩, ⟨rfl, rfl⟩, ⟨rfl, rfl⟩, ⟨rfl, rfl⟩, ⟨rfl, rfl⟩, ⟨rfl, rfl⟩, ⟨rfl, rfl⟩, trivial⟩))); (focus (first | exact Ent.refl _ | exact Ent.left _ _ | exact Ent.of_le ⟨List.sublist_append_left _ _, fun w h => h⟩ | exact Ent.of_le ⟨List.Sublist.refl _, fun w h => h.1⟩)); conv => whnf))
    have hO3 : Own 4 (i + (h.l.length - (i + 1))) a2 c2 C2 (reqCells (h.l.take i) ++ reqCells (h.l.drop (i + 1))) := by
      simpa using hO2
    refine ⟨_, Ent.trans (Own.share hO3 (r1 := [(b0, Row.c [])]) (r2 := []) (D := h.By p)) (Ent.bare fun w hw => hfin (a2 := a2) (c2 := c2) hw.1 hw.2), ⟨h.b, ⟨a2, c2⟩, h.l.eraseIdx i⟩, ?_, hfok hO3, rfl⟩
    simp only [PH.cells, hel]
    rw [Nat.zero_add]

/-- The request with an index proceeds. -/
def Pipe.proceed (p : Pipe) (i : Nat) : Pipe × An :=
  let r := p.at i
  if r.write then
    if iEq p.rd 0 then ({ p with wait := p.wait.eraseIdx i }, ⟨r.task, -17, []⟩)
    else ({ p with wait := p.wait.eraseIdx i, buf := p.buf ++ r.data }, ⟨r.task, r.data.length, []⟩)
  else ({ p with wait := p.wait.eraseIdx i, buf := p.buf.drop (min r.n.toNat p.buf.length) }, ⟨r.task, (min r.n.toNat p.buf.length : Nat), p.buf.take (min r.n.toNat p.buf.length)⟩)

theorem proceed_read {p : Pipe} {k : Nat} (hk : first p false = (k : Int)) (hl : k < p.wait.length) : p.proceed k = p.read := by
  obtain ⟨_, _, h3⟩ := rq_first hl hk
  have hw : (p.at k).write = false := by simpa [Pipe.at, List.getD_eq_getElem?_getD, hl] using h3
  simp [Pipe.proceed, Pipe.read, hk, hw]

theorem proceed_write {p : Pipe} {k : Nat} (hk : first p true = (k : Int)) (hl : k < p.wait.length) : p.proceed k = p.write := by
  obtain ⟨_, _, h3⟩ := rq_first hl hk
  have hw : (p.at k).write = true := by simpa [Pipe.at, List.getD_eq_getElem?_getD, hl] using h3
  simp [Pipe.proceed, Pipe.write, hk, hw]

/-- A pipe and an answer are handed back. -/
def RelP1 (r : Pipe × An) (v : Value) (F : Fx) : Prop := ∃ (h : PH) (k : Hd), v = .tuple #[.agg ⟨h.cells r.1⟩, .agg ⟨r.2.cells k⟩] ∧ h.Ok r.1 ∧ k.Ok r.2.data.length ∧ F = ⟨fun w => h.By r.1 w ∧ By w k r.2.data, []⟩

theorem refProceed_spec (p : Pipe) (h : PH) (hh : h.Ok p) (hf : p.Few) (hp : ∀ r ∈ p.wait, r.proper = true) (i : Nat) (hi : i < p.wait.length) :
    PureSpec Try.prog 49 [.agg ⟨h.cells p⟩, .int .i64 (i : Int)] (h.By p) (RelP1 (p.proceed i)) := by
  have hlen : h.l.length = p.wait.length := by rw [← hh.l]; simp
  have hi' : i < h.l.length := by omega
  have hat : p.at i = h.l[i].1 := by
    rw [Pipe.at, ← hh.l]
    simp [List.getD_eq_getElem?_getD, hi']
  refine PureSpec.of_xc tabOk Try.func49 rfl (by decide) (n := Try.f49.ntmps - 2) rfl rfl fun w0 av => ?_
  conv => whnf
  intro b1
  conv => whnf
  intro b2
  conv => whnf
  intro b3
  conv => whnf
  refine XVal.of_read (XRead.index tabOk (t := 29) rfl rfl rfl (by omega) (by omega) hh.w.nil fun ad had => ?_)
  conv => whnf
  refine XVal.of_read (XRead.loads tabOk (t := 37) rfl rfl (ad := ad) (k := i * 4) (L := reqCells h.l) (fun w hst => had ▸ hst.now.r.1) rfl (reqCells_get h.l hi') rfl ?_)
  conv => whnf
  intro b4
  conv => whnf
  refine XCall.pure (refWithout_spec p h hh hf i hi) (fun w h => h) ?_
  rintro v F ⟨h2, rfl, hh2, rfl⟩
  conv => whnf
  have hbl := hf.b
  have hdl := hf.d h.l[i].1 (by rw [← hh.l]; exact List.mem_map_of_mem (List.getElem_mem hi'))
  have hcapb := hh.b.cap
  refine XIf.split (fun hwr => ?_) (fun hwr => ?_)
  · have hwf : h.l[i].1.write = false := by simpa using hwr
    have hpr := hp h.l[i].1 (by rw [← hh.l]; exact List.mem_map_of_mem (List.getElem_mem hi'))
    have hrn : 1 ≤ h.l[i].1.n := by
      simp [Req.proper, hwf, iGe_eq] at hpr
      omega
    obtain ⟨n0, hn0⟩ : ∃ n0, n0 = min h.l[i].1.n.toNat p.buf.length := ⟨_, rfl⟩
    have en : (if (p.buf.length : Int) < h.l[i].1.n then (p.buf.length : Int) else h.l[i].1.n) = (n0 : Int) := by
      split <;> omega
    conv => whnf
    rw [en]
    have S1 : ∀ (bs : List (Nat × Nat)) (cs : List (List Value)) (F : Fx) (K : Value → Prop), K (.slice (cutA h2.b.a 0 h2.b.c 1) n0 h2.b.c) → XRead Try.prog w0 (fun _ _ => False) av (Instr.sliceAt 25 (h2.b.v p.buf.length) none (some (.int .i64 (n0 : Int))) none) bs cs F K := fun bs cs F K hK =>
      XRead.slice tabOk (t := 25) rfl rfl rfl (lo := none) (hi := some (n0 : Int)) (mx := none) (k1 := .i64) (k3 := .i64) 0 n0 h2.b.c rfl rfl rfl (by omega) (by have := hh2.b.cap; dsimp only at this; omega) (Nat.le_refl _) (fun h => by cases h) hK
    have hcl : ∀ w, By w h2.b p.buf → RowAt w (cutA h2.b.a 0 h2.b.c 1) ((p.buf.take n0).map byteV) := fun w hw => by
      have := RowAt.cut (size := 1) hw (l := 0) (hi := n0) (m := h2.b.c) ⟨Nat.zero_le _, by have := hh2.b.cap; dsimp only at this; omega⟩
      simpa [List.map_take] using this
    have hcr : ∀ w, By w h2.b p.buf → RowAt w (cutA h2.b.a n0 h2.b.c 1) ((p.buf.drop n0).map byteV) := fun w hw => by
      have := RowAt.cut (size := 1) hw (l := n0) (hi := p.buf.length) (m := h2.b.c) ⟨by omega, hh2.b.cap⟩
      rw [List.take_of_length_le (by simp)] at this
      simpa [List.map_drop] using this
    refine XStop.draw tabOk mixed rfl rfl ?_
    conv => whnf
    repeat' (first
      | (refine And.intro ?_ ?_ <;> conv => whnf)
      | (refine XHeld.same rfl ?_; conv => whnf)
      | (refine XHeld.row rfl ?_; conv => whnf)
      | (refine XHeld.call rfl ?_; conv => whnf)
      | (refine XKeep.of ?_; conv => whnf)
      | (refine XSame.of ?_; conv => whnf)
      | (refine S1 _ _ _ _ ?_; conv => whnf)
      | (refine XVal.build tabOk (t := 25) rfl rfl rfl [] rfl rfl (by simp) (by decide) fun b0 => ?_; conv => whnf)
      | (refine XVal.copyZ tabOk (t := 25) (xt := 25) rfl rfl rfl rfl rfl rfl (M := (p.buf.take n0).map byteV) (Sees.fact fun w hw => hcl w hw.2.b) (by simp; omega) (by omega) (by simp; omega) fun k5 hk5 => ?_; conv => whnf)
      | (intro b5; conv => whnf)
      | (refine XHeld.mk ?_ ?_ ?_; (focus ((conv => whnf); (first | exact trivial | exact ⟨⟨rfl, rfl⟩, trivial⟩ | exact ⟨⟨rfl, rfl⟩, ⟨rfl, rfl⟩, trivial⟩ | exact ⟨⟨rfl, rfl⟩, ⟨rfl, rfl⟩, ⟨rfl, rfl⟩, trivial⟩ | exact ⟨⟨rfl, rfl⟩, ⟨rfl, rfl⟩, ⟨rfl, rfl⟩, ⟨rfl, rfl⟩, trivial⟩ | exact ⟨⟨rfl, rfl⟩, ⟨rfl, rfl⟩, ⟨rfl, rfl⟩, ⟨rfl, rfl⟩, ⟨rfl, rfl⟩, trivial⟩ | exact ⟨⟨rfl, rfl⟩, ⟨rfl, rfl⟩, ⟨rfl, rfl⟩, ⟨rfl, rfl⟩, ⟨rfl, rfl⟩, ⟨rfl, rfl⟩, trivial⟩ | exact ⟨⟨rfl, rfl⟩, ⟨rfl, rfl⟩, ⟨rfl, rfl⟩, ⟨rfl, rfl⟩, ⟨rfl, rfl⟩, ⟨rfl, rfl⟩, ⟨rfl, rfl⟩, trivial⟩ | exact ⟨⟨rfl, rfl⟩, ⟨rfl, rfl⟩, ⟨rfl, rfl⟩, ⟨rfl, rfl⟩, ⟨rfl, rfl⟩, ⟨rfl, rfl⟩, ⟨rfl, rfl⟩, ⟨rfl, rfl⟩, trivial⟩))); (focus (first | exact Ent.refl _ | exact Ent.left _ _ | exact Ent.of_le ⟨List.sublist_append_left _ _, fun w h => h⟩ | exact Ent.of_le ⟨List.Sublist.refl _, fun w h => h.1⟩)); conv => whnf))
    all_goals
      refine XVal.of_read (XRead.slice tabOk (t := 25) rfl rfl rfl (lo := some (n0 : Int)) (hi := none) (mx := none) (k2 := .i64) (k3 := .i64) n0 p.buf.length h2.b.c rfl rfl rfl (by omega) hh2.b.cap (Nat.le_refl _) (fun h => by cases h) ?_)
      conv => whnf
      refine XVal.copyZ tabOk (t := 25) (xt := 25) rfl rfl rfl rfl rfl rfl (M := (p.buf.drop n0).map byteV) (Sees.fact fun w hw => hcr w hw.1.2.b) (by simp) (by omega) (by simp; omega) fun k6 hk6 => ?_
      conv => whnf
      refine XStop.draw tabOk mixed rfl rfl ?_
      conv => whnf
      repeat' (first
        | (refine And.intro ?_ ?_ <;> conv => whnf)
        | (refine XHeld.same rfl ?_; conv => whnf)
        | (refine XHeld.row rfl ?_; conv => whnf)
        | (refine XHeld.call rfl ?_; conv => whnf)
        | (refine XKeep.of ?_; conv => whnf)
        | (refine XSame.of ?_; conv => whnf)
        | (intro bz; conv => whnf)
        | (refine XHeld.mk ?_ ?_ ?_; (focus ((conv => whnf); (first | exact trivial | exact ⟨⟨rfl, rfl⟩, trivial⟩ | exact ⟨⟨rfl, rfl⟩, ⟨rfl, rfl⟩, trivial⟩ | exact ⟨⟨rfl, rfl⟩, ⟨rfl, rfl⟩, ⟨rfl, rfl⟩, trivial⟩ | exact ⟨⟨rfl, rfl⟩, ⟨rfl, rfl⟩, ⟨rfl, rfl⟩, ⟨rfl, rfl⟩, trivial⟩ | exact ⟨⟨rfl, rfl⟩, ⟨rfl, rfl⟩, ⟨rfl, rfl⟩, ⟨rfl, rfl⟩, ⟨rfl, rfl⟩, trivial⟩ | exact ⟨⟨rfl, rfl⟩, ⟨rfl, rfl⟩, ⟨rfl, rfl⟩, ⟨rfl, rfl⟩, ⟨rfl, rfl⟩, ⟨rfl, rfl⟩, trivial⟩ | exact ⟨⟨rfl, rfl⟩, ⟨rfl, rfl⟩, ⟨rfl, rfl⟩, ⟨rfl, rfl⟩, ⟨rfl, rfl⟩, ⟨rfl, rfl⟩, ⟨rfl, rfl⟩, trivial⟩ | exact ⟨⟨rfl, rfl⟩, ⟨rfl, rfl⟩, ⟨rfl, rfl⟩, ⟨rfl, rfl⟩, ⟨rfl, rfl⟩, ⟨rfl, rfl⟩, ⟨rfl, rfl⟩, ⟨rfl, rfl⟩, trivial⟩))); (focus (first | exact Ent.refl _ | exact Ent.left _ _ | exact Ent.of_le ⟨List.sublist_append_left _ _, fun w h => h⟩ | exact Ent.of_le ⟨List.Sublist.refl _, fun w h => h.1⟩)); conv => whnf))
      all_goals
        have hpp : p.proceed i = ({ p with wait := p.wait.eraseIdx i, buf := p.buf.drop n0 }, ⟨h.l[i].1.task, n0, p.buf.take n0⟩) := by simp [Pipe.proceed, hat, hwf, hn0]
        rw [hpp]
        have e1 : (p.buf.drop n0).length = p.buf.length - n0 := by simp
        have e2 : (p.buf.take n0).length = n0 := by simp; omega
        refine ⟨⟨fun w => PH.By ⟨k6, h2.w, h2.l⟩ { p with wait := p.wait.eraseIdx i, buf := p.buf.drop n0 } w ∧ By w k5 (p.buf.take n0), []⟩, Ent.bare fun w hw => ⟨⟨hw.2, hw.1.1.2.r⟩, hw.1.2⟩, ⟨k6, h2.w, h2.l⟩, k5, ?_, ?_, ?_, rfl⟩
        · simp only [PH.cells, An.cells, e1, e2]
        · exact ⟨by show k6.Ok (p.buf.drop n0).length; rw [e1]; exact hk6, hh2.w, hh2.l, hh2.d⟩
        · show k5.Ok (p.buf.take n0).length
          rw [e2]
          exact hk5
  · have hwt : h.l[i].1.write = true := by simpa using hwr
    conv => whnf
    refine XIf.split (fun hrd => ?_) (fun hrd => ?_)
    · conv => whnf
      refine XStop.draw tabOk mixed rfl rfl ?_
      conv => whnf
      repeat' (first
        | (refine And.intro ?_ ?_ <;> conv => whnf)
        | (refine XHeld.same rfl ?_; conv => whnf)
        | (refine XHeld.row rfl ?_; conv => whnf)
        | (refine XHeld.call rfl ?_; conv => whnf)
        | (refine XKeep.of ?_; conv => whnf)
        | (refine XSame.of ?_; conv => whnf)
        | (intro bz; conv => whnf)
        | (refine XHeld.mk ?_ ?_ ?_; (focus ((conv => whnf); (first | exact trivial | exact ⟨⟨rfl, rfl⟩, trivial⟩ | exact ⟨⟨rfl, rfl⟩, ⟨rfl, rfl⟩, trivial⟩ | exact ⟨⟨rfl, rfl⟩, ⟨rfl, rfl⟩, ⟨rfl, rfl⟩, trivial⟩ | exact ⟨⟨rfl, rfl⟩, ⟨rfl, rfl⟩, ⟨rfl, rfl⟩, ⟨rfl, rfl⟩, trivial⟩ | exact ⟨⟨rfl, rfl⟩, ⟨rfl, rfl⟩, ⟨rfl, rfl⟩, ⟨rfl, rfl⟩, ⟨rfl, rfl⟩, trivial⟩ | exact ⟨⟨rfl, rfl⟩, ⟨rfl, rfl⟩, ⟨rfl, rfl⟩, ⟨rfl, rfl⟩, ⟨rfl, rfl⟩, ⟨rfl, rfl⟩, trivial⟩ | exact ⟨⟨rfl, rfl⟩, ⟨rfl, rfl⟩, ⟨rfl, rfl⟩, ⟨rfl, rfl⟩, ⟨rfl, rfl⟩, ⟨rfl, rfl⟩, ⟨rfl, rfl⟩, trivial⟩ | exact ⟨⟨rfl, rfl⟩, ⟨rfl, rfl⟩, ⟨rfl, rfl⟩, ⟨rfl, rfl⟩, ⟨rfl, rfl⟩, ⟨rfl, rfl⟩, ⟨rfl, rfl⟩, ⟨rfl, rfl⟩, trivial⟩))); (focus (first | exact Ent.refl _ | exact Ent.left _ _ | exact Ent.of_le ⟨List.sublist_append_left _ _, fun w h => h⟩ | exact Ent.of_le ⟨List.Sublist.refl _, fun w h => h.1⟩)); conv => whnf))
      have hpp : p.proceed i = ({ p with wait := p.wait.eraseIdx i }, ⟨h.l[i].1.task, -17, []⟩) := by
        have : iEq p.rd 0 = true := hrd
        simp [Pipe.proceed, hat, hwt, this]
      rw [hpp]
      exact ⟨⟨fun w => h2.By _ w ∧ By w Hd.nil [], []⟩, Ent.bare fun w hw => ⟨hw.2, By.nil w⟩, h2, Hd.nil, rfl, hh2, Hd.nil_ok, rfl⟩
    · have hpp : p.proceed i = ({ p with wait := p.wait.eraseIdx i, buf := p.buf ++ h.l[i].1.data }, ⟨h.l[i].1.task, h.l[i].1.data.length, []⟩) := by
        have : iEq p.rd 0 = false := hrd
        simp [Pipe.proceed, hat, hwt, this]
      have hend : ∀ {F : Fx} {a2 : Option Addr} {c2 : Nat} {C2 : List Value} {r1 r2 : List (Nat × Row)}, Own 1 (p.buf.length + h.l[i].1.data.length) a2 c2 C2 (p.buf.map byteV ++ h.l[i].1.data.map byteV) →
          Ent F ⟨fun w => h.By p w ∧ h2.By { p with wait := p.wait.eraseIdx i } w, r1 ++ orow a2 C2 ++ r2⟩ →
          ∃ F', Ent F F' ∧ RelP1 (p.proceed i) (.tuple #[.agg ⟨[.slice a2 (p.buf.length + h.l[i].1.data.length) c2, .int .i64 p.rd, .int .i64 p.wr, h2.w.v h2.l.length]⟩, .agg ⟨[.int .i64 h.l[i].1.task, .int .i64 (h.l[i].1.data.length : Int), .slice none 0 0]⟩]) F' := by
        intro F a2 c2 C2 r1 r2 hO hE
        rw [hpp]
        refine ⟨⟨fun w => PH.By ⟨⟨a2, c2⟩, h2.w, h2.l⟩ { p with wait := p.wait.eraseIdx i, buf := p.buf ++ h.l[i].1.data } w ∧ By w Hd.nil [], []⟩, Ent.trans hE (Ent.trans (Own.share hO (r1 := r1) (r2 := r2)) (Ent.bare fun w hw => ⟨⟨?_, hw.1.2.r⟩, By.nil w⟩)), ⟨⟨a2, c2⟩, h2.w, h2.l⟩, Hd.nil, ?_, ?_, Hd.nil_ok, rfl⟩
        · show RowAt w a2 ((p.buf ++ h.l[i].1.data).map byteV)
          rw [List.map_append]
          exact hw.2
        · simp only [PH.cells, An.cells, List.length_append]
          rfl
        · refine ⟨?_, hh2.w, hh2.l, hh2.d⟩
          show Hd.Ok _ (p.buf ++ h.l[i].1.data).length
          rw [List.length_append]
          exact hO.hd
      conv => whnf
      refine XStop.draw tabOk mixed rfl rfl ?_
      conv => whnf
      repeat' (first
        | (refine And.intro ?_ ?_ <;> conv => whnf)
        | (refine XHeld.same rfl ?_; conv => whnf)
        | (refine XHeld.row rfl ?_; conv => whnf)
        | (refine XHeld.call rfl ?_; conv => whnf)
        | (refine XKeep.of ?_; conv => whnf)
        | (refine XSame.of ?_; conv => whnf)
        | (refine XVal.build tabOk (t := 25) rfl rfl rfl [] rfl rfl (by simp) (by decide) fun b0 => ?_; conv => whnf)
        | (refine XHeld.mk ?_ ?_ ?_; (focus ((conv => whnf); (first | exact trivial | exact ⟨⟨rfl, rfl⟩, trivial⟩ | exact ⟨⟨rfl, rfl⟩, ⟨rfl, rfl⟩, trivial⟩ | exact ⟨⟨rfl, rfl⟩, ⟨rfl, rfl⟩, ⟨rfl, rfl⟩, trivial⟩ | exact ⟨⟨rfl, rfl⟩, ⟨rfl, rfl⟩, ⟨rfl, rfl⟩, ⟨rfl, rfl⟩, trivial⟩ | exact ⟨⟨rfl, rfl⟩, ⟨rfl, rfl⟩, ⟨rfl, rfl⟩, ⟨rfl, rfl⟩, ⟨rfl, rfl⟩, trivial⟩ | exact ⟨⟨rfl, rfl⟩, ⟨rfl, rfl⟩, ⟨rfl, rfl⟩, ⟨rfl, rfl⟩, ⟨rfl, rfl⟩, ⟨rfl, rfl⟩, trivial⟩ | exact ⟨⟨rfl, rfl⟩, ⟨rfl, rfl⟩, ⟨rfl, rfl⟩, ⟨rfl, rfl⟩, ⟨rfl, rfl⟩, ⟨rfl, rfl⟩, ⟨rfl, rfl⟩, trivial⟩ | exact ⟨⟨rfl, rfl⟩, ⟨rfl, rfl⟩, ⟨rfl, rfl⟩, ⟨rfl, rfl⟩, ⟨rfl, rfl⟩, ⟨rfl, rfl⟩, ⟨rfl, rfl⟩, ⟨rfl, rfl⟩, trivial⟩))); (focus (first | exact Ent.refl _ | exact Ent.left _ _ | exact Ent.of_le ⟨List.sublist_append_left _ _, fun w h => h⟩ | exact Ent.of_le ⟨List.Sublist.refl _, fun w h => h.1⟩)); conv => whnf))
      rcases Nat.eq_zero_or_pos p.buf.length with h0 | h0
      · refine XVal.append0 tabOk (t := 25) (xt := 25) rfl rfl rfl rfl rfl (Nat.le_refl _) h0 (fun w _ => RowAt.none' _) ?_
        conv => whnf
        repeat' (first
          | (refine And.intro ?_ ?_ <;> conv => whnf)
          | (refine XHeld.same rfl ?_; conv => whnf)
          | (refine XHeld.row rfl ?_; conv => whnf)
          | (refine XHeld.call rfl ?_; conv => whnf)
          | (refine XKeep.of ?_; conv => whnf)
          | (refine XSame.of ?_; conv => whnf)
          | (refine XHeld.mk ?_ ?_ ?_; (focus ((conv => whnf); (first | exact trivial | exact ⟨⟨rfl, rfl⟩, trivial⟩ | exact ⟨⟨rfl, rfl⟩, ⟨rfl, rfl⟩, trivial⟩ | exact ⟨⟨rfl, rfl⟩, ⟨rfl, rfl⟩, ⟨rfl, rfl⟩, trivial⟩ | exact ⟨⟨rfl, rfl⟩, ⟨rfl, rfl⟩, ⟨rfl, rfl⟩, ⟨rfl, rfl⟩, trivial⟩ | exact ⟨⟨rfl, rfl⟩, ⟨rfl, rfl⟩, ⟨rfl, rfl⟩, ⟨rfl, rfl⟩, ⟨rfl, rfl⟩, trivial⟩ | exact ⟨⟨rfl, rfl⟩, ⟨rfl, rfl⟩, ⟨rfl, rfl⟩, ⟨rfl, rfl⟩, ⟨rfl, rfl⟩, ⟨rfl, rfl⟩, trivial⟩ | exact ⟨⟨rfl, rfl⟩, ⟨rfl, rfl⟩, ⟨rfl, rfl⟩, ⟨rfl, rfl⟩, ⟨rfl, rfl⟩, ⟨rfl, rfl⟩, ⟨rfl, rfl⟩, trivial⟩ | exact ⟨⟨rfl, rfl⟩, ⟨rfl, rfl⟩, ⟨rfl, rfl⟩, ⟨rfl, rfl⟩, ⟨rfl, rfl⟩, ⟨rfl, rfl⟩, ⟨rfl, rfl⟩, ⟨rfl, rfl⟩, trivial⟩))); (focus (first | exact Ent.refl _ | exact Ent.left _ _ | exact Ent.of_le ⟨List.sublist_append_left _ _, fun w h => h⟩ | exact Ent.of_le ⟨List.Sublist.refl _, fun w h => h.1⟩)); conv => whnf))
        refine XVal.ent (F' := ⟨fun w => h.By p w ∧ h2.By { p with wait := p.wait.eraseIdx i } w, [] ++ orow (some ⟨b0, 0, none⟩) [] ++ []⟩) (Ent.refl _) ?_
        refine XVal.append tabOk (t := 25) (xt := 25) rfl rfl rfl rfl rfl rfl (r1 := []) (r2 := []) (C := []) (L := []) (M := h.l[i].1.data.map byteV) (Own.full (by simp)) (Sees.fact fun w hw => hw.1.r.2 _ (List.getElem_mem hi')) (by simp) byte_one (by omega) (by simp; omega) fun a2 c2 C2 hO2 => ?_
        conv => whnf
        refine XStop.draw tabOk mixed rfl rfl ?_
        conv => whnf
        repeat' (first
          | (refine And.intro ?_ ?_ <;> conv => whnf)
          | (refine XHeld.same rfl ?_; conv => whnf)
          | (refine XHeld.row rfl ?_; conv => whnf)
          | (refine XHeld.call rfl ?_; conv => whnf)
          | (refine XKeep.of ?_; conv => whnf)
          | (refine XSame.of ?_; conv => whnf)
          | (intro bz; conv => whnf)
          | (refine XHeld.mk ?_ ?_ ?_; (focus ((conv => whnf); (first | exact trivial | exact ⟨⟨rfl, rfl⟩, trivial⟩ | exact ⟨⟨rfl, rfl⟩, ⟨rfl, rfl⟩, trivial⟩ | exact ⟨⟨rfl, rfl⟩, ⟨rfl, rfl⟩, ⟨rfl, rfl⟩, trivial⟩ | exact ⟨⟨rfl, rfl⟩, ⟨rfl, rfl⟩, ⟨rfl, rfl⟩, ⟨rfl, rfl⟩, trivial⟩ | exact ⟨⟨rfl, rfl⟩, ⟨rfl, rfl⟩, ⟨rfl, rfl⟩, ⟨rfl, rfl⟩, ⟨rfl, rfl⟩, trivial⟩ | exact ⟨⟨rfl, rfl⟩, ⟨rfl, rfl⟩, ⟨rfl, rfl⟩, ⟨rfl, rfl⟩, ⟨rfl, rfl⟩, ⟨rfl, rfl⟩, trivial⟩ | exact ⟨⟨rfl, rfl⟩, ⟨rfl, rfl⟩, ⟨rfl, rfl⟩, ⟨rfl, rfl⟩, ⟨rfl, rfl⟩, ⟨rfl, rfl⟩, ⟨rfl, rfl⟩, trivial⟩ | exact ⟨⟨rfl, rfl⟩, ⟨rfl, rfl⟩, ⟨rfl, rfl⟩, ⟨rfl, rfl⟩, ⟨rfl, rfl⟩, ⟨rfl, rfl⟩, ⟨rfl, rfl⟩, ⟨rfl, rfl⟩, trivial⟩))); (focus (first | exact Ent.refl _ | exact Ent.left _ _ | exact Ent.of_le ⟨List.sublist_append_left _ _, fun w h => h⟩ | exact Ent.of_le ⟨List.Sublist.refl _, fun w h => h.1⟩)); conv => whnf))
        have hnil : p.buf = [] := List.eq_nil_of_length_eq_zero h0
        have hO3 : Own 1 (p.buf.length + h.l[i].1.data.length) a2 c2 C2 (p.buf.map byteV ++ h.l[i].1.data.map byteV) := by
          rw [hnil]
          simpa using hO2
        have := hend (r1 := []) (r2 := []) hO3 (Ent.refl _)
        rw [h0] at this
        exact this
      · refine XVal.appendNew tabOk (t := 25) (xt := 25) rfl rfl rfl rfl rfl rfl (L := []) (M := p.buf.map byteV) (Sees.row (b := b0) (by simp)) (by simp) (Sees.fact fun w hw => hw.2.b) (by simp) (by dsimp only; omega) (by dsimp only; omega) (by simp; omega) fun b5 c1 C1 hO1 => ?_
        conv => whnf
        repeat' (first
          | (refine And.intro ?_ ?_ <;> conv => whnf)
          | (refine XHeld.same rfl ?_; conv => whnf)
          | (refine XHeld.row rfl ?_; conv => whnf)
          | (refine XHeld.call rfl ?_; conv => whnf)
          | (refine XKeep.of ?_; conv => whnf)
          | (refine XSame.of ?_; conv => whnf)
          | (refine XHeld.mk ?_ ?_ ?_; (focus ((conv => whnf); (first | exact trivial | exact ⟨⟨rfl, rfl⟩, trivial⟩ | exact ⟨⟨rfl, rfl⟩, ⟨rfl, rfl⟩, trivial⟩ | exact ⟨⟨rfl, rfl⟩, ⟨rfl, rfl⟩, ⟨rfl, rfl⟩, trivial⟩ | exact ⟨⟨rfl, rfl⟩, ⟨rfl, rfl⟩, ⟨rfl, rfl⟩, ⟨rfl, rfl⟩, trivial⟩ | exact ⟨⟨rfl, rfl⟩, ⟨rfl, rfl⟩, ⟨rfl, rfl⟩, ⟨rfl, rfl⟩, ⟨rfl, rfl⟩, trivial⟩ | exact ⟨⟨rfl, rfl⟩, ⟨rfl, rfl⟩, ⟨rfl, rfl⟩, ⟨rfl, rfl⟩, ⟨rfl, rfl⟩, ⟨rfl, rfl⟩, trivial⟩ | exact ⟨⟨rfl, rfl⟩, ⟨rfl, rfl⟩, ⟨rfl, rfl⟩, ⟨rfl, rfl⟩, ⟨rfl, rfl⟩, ⟨rfl, rfl⟩, ⟨rfl, rfl⟩, trivial⟩ | exact ⟨⟨rfl, rfl⟩, ⟨rfl, rfl⟩, ⟨rfl, rfl⟩, ⟨rfl, rfl⟩, ⟨rfl, rfl⟩, ⟨rfl, rfl⟩, ⟨rfl, rfl⟩, ⟨rfl, rfl⟩, trivial⟩))); (focus (first | exact Ent.refl _ | exact Ent.left _ _ | exact Ent.of_le ⟨List.sublist_append_left _ _, fun w h => h⟩ | exact Ent.of_le ⟨List.Sublist.refl _, fun w h => h.1⟩)); conv => whnf))
        refine XVal.ent (F' := ⟨fun w => h.By p w ∧ h2.By { p with wait := p.wait.eraseIdx i } w, [(b0, Row.c [])] ++ orow (some ⟨b5, 0, none⟩) C1 ++ []⟩) (Ent.refl _) ?_
        refine XVal.append tabOk (t := 25) (xt := 25) rfl rfl rfl rfl rfl rfl (r1 := [(b0, Row.c [])]) (r2 := []) (M := h.l[i].1.data.map byteV) hO1 (Sees.fact fun w hw => hw.1.r.2 _ (List.getElem_mem hi')) (by simp) byte_one (by dsimp only; omega) (by simp; omega) fun a2 c2 C2 hO2 => ?_
        conv => whnf
        refine XStop.draw tabOk mixed rfl rfl ?_
        conv => whnf
        repeat' (first
          | (refine And.intro ?_ ?_ <;> conv => whnf)
          | (refine XHeld.same rfl ?_; conv => whnf)
          | (refine XHeld.row rfl ?_; conv => whnf)
          | (refine XHeld.call rfl ?_; conv => whnf)
          | (refine XKeep.of ?_; conv => whnf)
          | (refine XSame.of ?_; conv => whnf)
          | (intro bz; conv => whnf)
          | (refine XHeld.mk ?_ ?_ ?_; (focus ((conv => whnf); (first | exact trivial | exact ⟨⟨rfl, rfl⟩, trivial⟩ | exact ⟨⟨rfl, rfl⟩, ⟨rfl, rfl⟩, trivial⟩ | exact ⟨⟨rfl, rfl⟩, ⟨rfl, rfl⟩, ⟨rfl, rfl⟩, trivial⟩ | exact ⟨⟨rfl, rfl⟩, ⟨rfl, rfl⟩, ⟨rfl, rfl⟩, ⟨rfl, rfl⟩, trivial⟩ | exact ⟨⟨rfl, rfl⟩, ⟨rfl, rfl⟩, ⟨rfl, rfl⟩, ⟨rfl, rfl⟩, ⟨rfl, rfl⟩, trivial⟩ | exact ⟨⟨rfl, rfl⟩, ⟨rfl, rfl⟩, ⟨rfl, rfl⟩, ⟨rfl, rfl⟩, ⟨rfl, rfl⟩, ⟨rfl, rfl⟩, trivial⟩ | exact ⟨⟨rfl, rfl⟩, ⟨rfl, rfl⟩, ⟨rfl, rfl⟩, ⟨rfl, rfl⟩, ⟨rfl, rfl⟩, ⟨rfl, rfl⟩, ⟨rfl, rfl⟩, trivial⟩ | exact ⟨⟨rfl, rfl⟩, ⟨rfl, rfl⟩, ⟨rfl, rfl⟩, ⟨rfl, rfl⟩, ⟨rfl, rfl⟩, ⟨rfl, rfl⟩, ⟨rfl, rfl⟩, ⟨rfl, rfl⟩, trivial⟩))); (focus (first | exact Ent.refl _ | exact Ent.left _ _ | exact Ent.of_le ⟨List.sublist_append_left _ _, fun w h => h⟩ | exact Ent.of_le ⟨List.Sublist.refl _, fun w h => h.1⟩)); conv => whnf))
        have hO3 : Own 1 (p.buf.length + h.l[i].1.data.length) a2 c2 C2 (p.buf.map byteV ++ h.l[i].1.data.map byteV) := by
          simpa using hO2
        have := hend (r1 := [(b0, Row.c [])]) (r2 := []) hO3 (Ent.refl _)
        rw [Nat.zero_add]
        exact this

end Go.Proofs.Ytpnnadojhacjiaa
