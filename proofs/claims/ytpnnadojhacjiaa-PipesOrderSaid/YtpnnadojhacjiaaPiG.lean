/- Pipes, part G: settle. -/
import Derived.Test.YtpnnadojhacjiaaPiF
namespace Go.Proofs.Ytpnnadojhacjiaa
open Go Go.Sx
set_option maxRecDepth 100000
set_option maxHeartbeats 4000000
set_option linter.unusedVariables false
set_option linter.unusedSimpArgs false

theorem wait_read {p : Pipe} {r : Req} (h : r ∈ p.read.1.wait) : r ∈ p.wait := List.mem_of_mem_eraseIdx h

theorem wait_write {p : Pipe} {r : Req} (h : r ∈ p.write.1.wait) : r ∈ p.wait := by
  unfold Pipe.write at h
  dsimp only at h
  split at h <;> exact List.mem_of_mem_eraseIdx h

theorem wait_read_len {p : Pipe} (h : p.reads = true) : p.wait.length = p.read.1.wait.length + 1 := by
  have hfr : iGe (first p false) 0 = true := by
    unfold Pipe.reads at h
    simp only [Bool.and_eq_true] at h
    exact h.1
  obtain ⟨k, ek, hk⟩ := first_at p false hfr
  show _ = (p.wait.eraseIdx (first p false).toNat).length + 1
  rw [ek, List.length_eraseIdx, if_pos (by simpa using hk)]
  omega

theorem wait_write_len {p : Pipe} (h : p.writes = true) : p.wait.length = p.write.1.wait.length + 1 := by
  have hfr : iGe (first p true) 0 = true := by
    unfold Pipe.writes at h
    simp only [Bool.and_eq_true] at h
    exact h.1
  obtain ⟨k, ek, hk⟩ := first_at p true hfr
  have e : p.write.1.wait = p.wait.eraseIdx (first p true).toNat := by
    unfold Pipe.write
    dsimp only
    split <;> rfl
  rw [e, ek, List.length_eraseIdx, if_pos (by simpa using hk)]
  omega

theorem few_read {p : Pipe} (hf : p.Few) (h : p.reads = true) : p.read.1.Few := by
  have hl := wait_read_len h
  refine ⟨?_, by have := hf.w; omega, fun r hr => hf.d r (wait_read hr)⟩
  show (p.buf.drop _).length ≤ _
  have := hf.b
  simp
  omega

theorem few_write {p : Pipe} (hf : p.Few) (h : p.writes = true) : p.write.1.Few := by
  have hl := wait_write_len h
  refine ⟨?_, by have := hf.w; omega, fun r hr => hf.d r (wait_write hr)⟩
  have hb := hf.b
  unfold Pipe.writes at h
  unfold Pipe.write
  dsimp only
  split
  · exact hb
  · rename_i hz
    show (p.buf ++ (p.at _).data).length ≤ _
    have hz' : iEq p.rd 0 = false := by simpa using hz
    rw [hz'] at h
    simp [iLe_eq] at h
    have e : dataAt p.wait (first p true).toNat = (p.at (first p true).toNat).data := by
      unfold dataAt Pipe.at
      rw [List.getD_eq_getElem?_getD]
      cases p.wait[(first p true).toNat]? <;> rfl
    rw [e] at h
    simp
    omega

/-- What the loop of settle goes by. -/
structure GS where
  n : Nat
  p : Pipe
  o : OP
  la : List (An × Hd)
  aa : Option Addr
  ac : Nat
  aC : List Value

theorem settle_spec (p : Pipe) (o : OP) (ho : o.Ok p) (hf : p.Few) (hp : ∀ r ∈ p.wait, r.proper = true) :
    RowsSpec Try.prog 32 [.agg ⟨o.cells p⟩] o.rs o.D (fun v F => ∃ (o' : OP) (ka : Hd) (la : List (An × Hd)), v = .tuple #[.agg ⟨o'.cells p.settle.1⟩, ka.v la.length] ∧ o'.Ok p.settle.1 ∧ ka.Ok la.length ∧ la.map (·.1) = p.settle.2 ∧ AnOk la ∧
      F = ⟨fun w => o'.D w ∧ AnAt w ka la, o'.rs⟩) := by
  refine RowsSpec.of_xc tabOk Try.func32 rfl (by decide) (n := Try.f32.ntmps - 1) rfl rfl ?_ fun w0 av => ?_
  · intro r hr
    simp only [OP.rs, List.mem_append] at hr
    rcases hr with hr | hr
    all_goals
      unfold orow at hr
      split at hr
      · simp at hr
      · simp at hr
        subst hr
        exact ⟨_, rfl⟩
  conv => whnf
  intro b1
  conv => whnf
  intro b2
  conv => whnf
  intro b3
  conv => whnf
  refine XStop.loop tabOk (ι := GS) [8, 9, 10, 11, 12, 13, 14, 15, 16, 17, 18, 19, 20, 21, 22, 23, 24, 25, 26, 27, 28, 29, 30, 31]
    (fun x => x.o.Ok x.p ∧ x.p.Few ∧ (∀ r ∈ x.p.wait, r.proper = true) ∧ Own 3 x.la.length x.aa x.ac x.aC (anCells x.la) ∧ AnOk x.la ∧ x.la.length + x.p.wait.length ≤ p.wait.length ∧ settleN x.p.wait.length x.p (x.la.map (·.1)) = p.settle)
    (fun _ => []) (fun x => [o.cells p, [.slice none 0 0, .int .i64 0, .int .i64 0, .slice none 0 0], x.o.cells x.p ++ [.slice x.aa x.la.length x.ac]])
    (fun x => ⟨fun w => x.o.D w ∧ ∀ a ∈ x.la, By w a.2 a.1.data, x.o.rs ++ orow x.aa x.aC⟩)
    (fun x => x.p.wait.length) ⟨0, p, o, [], none, 0, []⟩ ⟨ho, hf, hp, Own.nil 3, (fun _ h => by simp at h), by simp, rfl⟩ ?_ rfl (Ent.of_le ⟨by simp [orow], fun w h => ⟨h, fun _ h => by simp at h⟩⟩) fun x hx => ?_
  · conv => whnf
    repeat (first | exact FLe.nil | refine FLe.any ?_ | refine FLe.cons ?_)
  obtain ⟨n, p1, o1, la, aa, ac, aC⟩ := x
  obtain ⟨ho1, hf1, hp1, hOa, hoa, hle, hset⟩ := hx
  dsimp only at ho1 hf1 hp1 hOa hoa hle hset ⊢
  have hw := hf.w
  have hlen : o1.l.length = p1.wait.length := by rw [← ho1.l]; simp
  conv => whnf
  refine XCall.look (reads_spec p1 o1.ph (OP.phOk ho1) hf1) (PH.loc _ _) (fun w hst => OP.sees ho1 (fun w h => h.1) hst) ?_
  conv => whnf
  refine XIf.split (fun hr => ?_) (fun hr => ?_)
  · conv => whnf
    refine read_call ho1 hf1 hp1 hr hOa (by omega) (fun w h => h.1) fun o' kh aa' ac' aC' ho' hsub hOa' hkh => ?_
    conv => whnf
    have hwl := wait_read_len hr
    refine ⟨⟨n, p1.read.1, o', la ++ [(p1.read.2, kh)], aa', ac', aC'⟩, ⟨⟨ho', few_read hf1 hr, fun r hr' => hp1 r (wait_read hr'), by dsimp only; rw [List.length_append]; exact hOa', ?_, ?_, ?_⟩, ?_⟩, ?_, ?_, ?_⟩
    · intro q hq
      rcases List.mem_append.1 hq with hq | hq
      · exact hoa q hq
      · obtain rfl := List.mem_singleton.1 hq
        exact hkh
    · dsimp only
      rw [List.length_append]
      simp only [List.length_singleton]
      omega
    · dsimp only
      rw [← hset, hwl, List.map_append]
      simp only [settleN, hr, if_true]
      rfl
    · dsimp only
      omega
    · conv => whnf
      refine ⟨?_, rfl⟩
      repeat (first | exact FLe.nil | refine FLe.any ?_ | refine FLe.cons ?_)
    · conv => whnf
      exact ⟨⟨rfl, rfl⟩, ⟨rfl, rfl⟩, ⟨rfl, by dsimp only; rw [List.length_append]; rfl⟩, trivial⟩
    · refine Ent.imp fun w hw => ⟨fun q hq => hw.1.1 q (hsub q hq), fun q hq => ?_⟩
      rcases List.mem_append.1 hq with hq | hq
      · exact hw.1.2 q hq
      · obtain rfl := List.mem_singleton.1 hq
        exact hw.2
  · conv => whnf
    refine XCall.look (writes_spec p1 o1.ph (OP.phOk ho1) hf1) (PH.loc _ _) (fun w hst => OP.sees ho1 (fun w h => h.1) hst) ?_
    conv => whnf
    refine XIf.split (fun hwr => ?_) (fun hwr => ?_)
    · conv => whnf
      refine write_call ho1 hf1 hp1 hwr hOa (by omega) (fun w h => h.1) fun o' kh aa' ac' aC' ho' hsub hOa' hkh => ?_
      conv => whnf
      have hwl := wait_write_len hwr
      refine ⟨⟨n, p1.write.1, o', la ++ [(p1.write.2, kh)], aa', ac', aC'⟩, ⟨⟨ho', few_write hf1 hwr, fun r hr' => hp1 r (wait_write hr'), by dsimp only; rw [List.length_append]; exact hOa', ?_, ?_, ?_⟩, ?_⟩, ?_, ?_, ?_⟩
      · intro q hq
        rcases List.mem_append.1 hq with hq | hq
        · exact hoa q hq
        · obtain rfl := List.mem_singleton.1 hq
          exact hkh
      · dsimp only
        rw [List.length_append]
        simp only [List.length_singleton]
        omega
      · dsimp only
        rw [← hset, hwl, List.map_append]
        simp only [settleN, hr, hwr, Bool.false_eq_true, if_false, if_true]
        rfl
      · dsimp only
        omega
      · conv => whnf
        refine ⟨?_, rfl⟩
        repeat (first | exact FLe.nil | refine FLe.any ?_ | refine FLe.cons ?_)
      · conv => whnf
        exact ⟨⟨rfl, rfl⟩, ⟨rfl, rfl⟩, ⟨rfl, by dsimp only; rw [List.length_append]; rfl⟩, trivial⟩
      · refine Ent.imp fun w hw => ⟨fun q hq => hw.1.1 q (hsub q hq), fun q hq => ?_⟩
        rcases List.mem_append.1 hq with hq | hq
        · exact hw.1.2 q hq
        · obtain rfl := List.mem_singleton.1 hq
          exact hw.2
    · conv => whnf
      refine XStop.draw tabOk mixed rfl rfl ?_
      conv => whnf
      repeat (first
        | (refine XHeld.same rfl ?_; conv => whnf)
        | (refine XKeep.of ?_; conv => whnf))
      rw [settleN_done hr hwr] at hset
      have hsh := Own.share (r1 := o1.rs) (r2 := []) hOa (D := fun w => o1.D w ∧ ∀ a ∈ la, By w a.2 a.1.data)
      simp only [List.append_nil] at hsh
      rw [← hset]
      exact ⟨⟨fun w => o1.D w ∧ AnAt w ⟨aa, ac⟩ la, o1.rs⟩, hsh.trans (Ent.imp fun w h => ⟨h.1.1, h.2, h.1.2⟩), o1, ⟨aa, ac⟩, la, rfl, ho1, ⟨hOa.none_nil, hOa.fit⟩, rfl, hoa, rfl⟩

end Go.Proofs.Ytpnnadojhacjiaa
