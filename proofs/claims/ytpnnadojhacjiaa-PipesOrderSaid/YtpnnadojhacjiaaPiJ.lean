/- Pipes, part J: DeleteFunc, Drop. -/
import Derived.Test.YtpnnadojhacjiaaPiI
namespace Go.Proofs.Ytpnnadojhacjiaa
open Go Go.Sx
set_option maxRecDepth 100000
set_option maxHeartbeats 4000000
set_option linter.unusedVariables false
set_option linter.unusedSimpArgs false

def keeps (t : Int) (q : Req × Hd) : Bool := !iEq q.1.task t

theorem reqCells_put (m : List (Req × Hd)) {i : Nat} (h : i < m.length) (q : Req × Hd) : laid (reqCells m) (i * 4) (q.1.cells q.2) = reqCells (m.set i q) := by
  have h1 := reqCells_cut m h
  have h2 := reqCells_cut (m.set i q) (i := i) (by simpa using h)
  have e1 : (m.set i q).take i = m.take i := by rw [List.take_set, List.set_eq_of_length_le (by simp; omega)]
  have e2 : (m.set i q).drop (i + 1) = m.drop (i + 1) := by simp [List.drop_set]
  rw [e1, e2] at h2
  simp only [List.getElem_set_self] at h2
  rw [h2, h1]
  have hl : (reqCells (m.take i)).length = i * 4 := by rw [reqCells_len]; simp; omega
  have := laid_app (reqCells (m.take i)) (m[i].1.cells m[i].2 ++ reqCells (m.drop (i + 1))) (q.1.cells q.2) 0
  rw [← hl]
  exact this

theorem indexfunc_call {w0 : World} {R : Nat → Nat → Prop} {av : Nat → Prop} {x1 x3 x4 : Nat × Nat} {c1 c3 c4 : List Value} {b2 : Nat} {t : Int} {D : World → Prop} {r1 r2 : List (Nat × Row)} {wb cap : Nat} {C : List Value} {l : List (Req × Hd)} {K : KV}
    (hO : Own 4 l.length (some ⟨wb, 0, none⟩) cap C (reqCells l)) (hl : l.length ≤ 100000)
    (h : K (.int .i64 (idx (fun q : Req × Hd => iEq q.1.task t) l 0)) [x1, (b2, 0), x3, x4] [c1, [.int .i64 t], c3, c4] ⟨D, r1 ++ [(wb, Row.c C)] ++ r2⟩) :
    XCall Try.prog w0 R av 42 [.slice (some ⟨wb, 0, none⟩) l.length cap, .func (.func 31) ⟨[]⟩ ⟨[.pointer (some ⟨b2, 0 + 0, none⟩)]⟩] [x1, (b2, 0), x3, x4] [c1, [.int .i64 t], c3, c4] ⟨D, r1 ++ [(wb, Row.c C)] ++ r2⟩ K := by
  refine XCall.inlineD tabOk Try.func42 rfl (by decide) (n := Try.f42.ntmps - 2) [.v _, .v _] rfl (by exact ⟨rfl, rfl, trivial⟩) ?_
  conv => whnf
  refine XStop.loop tabOk (ι := Nat) [4, 5, 8, 9, 10, 11, 12, 13, 14, 15, 16, 17, 18] (fun x => x ≤ l.length ∧ idx (fun q : Req × Hd => iEq q.1.task t) (l.drop x) x = idx (fun q : Req × Hd => iEq q.1.task t) l 0)
    (fun x => [(8, .v (.int .i64 (x : Int)))]) (fun _ => [c1, [.int .i64 t], c3, c4]) (fun _ => ⟨D, r1 ++ [(wb, Row.c C)] ++ r2⟩)
    (fun x => l.length - x) 0 ⟨Nat.zero_le _, rfl⟩ ?_ rfl (Ent.refl _) fun i hi => ?_
  · conv => whnf
    repeat (first | exact FLe.nil | refine FLe.any ?_ | refine FLe.cons ?_)
  obtain ⟨hi1, hi2⟩ := hi
  conv => whnf
  refine XIf.split (fun hlt => ?_) (fun hge => ?_)
  · conv => whnf
    have hlt' : i < l.length := by
      have : (i : Int) < l.length := by simpa [iLt_eq] using hlt
      omega
    refine XVal.of_read (XRead.index tabOk (t := 26) rfl rfl rfl (by omega) (by omega) (fun h => by cases h) fun ad had => ?_)
    cases had
    conv => whnf
    refine XVal.of_read (XRead.loads tabOk (t := 51) rfl rfl (ad := ⟨wb, 0, none⟩) (k := i * 4) (L := reqCells l) (fun w hst => hO.at (r1 := r1) (r2 := r2) hst) rfl (reqCells_get l hlt') rfl ?_)
    conv => whnf
    refine XCall.inlineD tabOk Try.func31 rfl (by decide) (n := Try.f31.ntmps - 2) [.v _, .v _] rfl (by exact ⟨rfl, rfl, trivial⟩) ?_
    conv => whnf
    intro b5
    conv => whnf
    refine XVal.of_read (XRead.load tabOk (t := 3) rfl rfl (ad := ⟨b2, 0, none⟩) (k := 0) (L := [.int .i64 t]) (Sees.box 1 (by simp)) rfl rfl ?_)
    conv => whnf
    refine ⟨⟨[(b5, 0)], [c1, [.int .i64 t], c3, c4], [_], _, rfl, rfl, rfl, Ent.refl _, ?_⟩⟩
    conv => whnf
    rw [idx_drop hlt'] at hi2
    refine XIf.split (fun hc => ?_) (fun hc => ?_)
    · conv => whnf
      rw [if_pos hc] at hi2
      refine ⟨⟨[], [c1, [.int .i64 t], c3, c4], [], _, rfl, rfl, rfl, Ent.refl _, ?_⟩⟩
      rw [hi2]
      exact h
    · conv => whnf
      rw [if_neg (by simp [hc])] at hi2
      refine ⟨i + 1, ⟨⟨hlt', hi2⟩, by dsimp only; omega⟩, ?_, ?_, Ent.refl _⟩
      · conv => whnf
        refine ⟨?_, rfl⟩
        repeat (first | exact FLe.nil | refine FLe.any ?_ | refine FLe.cons ?_ | refine FLe.eq (by rw [wrap_i64 (by omega)]; rfl) ?_)
      · conv => whnf
        exact ⟨⟨rfl, rfl⟩, ⟨rfl, rfl⟩, ⟨rfl, rfl⟩, ⟨rfl, rfl⟩, trivial⟩
  · conv => whnf
    have hge' : l.length ≤ i := by
      have : ¬ (i : Int) < l.length := by simpa [iLt_eq] using hge
      omega
    rw [List.drop_of_length_le hge'] at hi2
    refine ⟨⟨[], [c1, [.int .i64 t], c3, c4], [], _, rfl, rfl, rfl, Ent.refl _, ?_⟩⟩
    have : (-1 : Int) = idx (fun q : Req × Hd => iEq q.1.task t) l 0 := hi2
    rw [this]
    exact h

theorem delfunc_call {w0 : World} {R : Nat → Nat → Prop} {av : Nat → Prop} {x1 x3 x4 : Nat × Nat} {c1 c3 c4 : List Value} {b2 : Nat} {t : Int} {D : World → Prop} {r1 r2 : List (Nat × Row)} {wb cap : Nat} {C : List Value} {l : List (Req × Hd)} {k : Nat} {K : KV}
    (hO : Own 4 l.length (some ⟨wb, 0, none⟩) cap C (reqCells l)) (hl : l.length ≤ 100000) (hk : k < l.length) (hidx : idx (fun q : Req × Hd => iEq q.1.task t) l 0 = (k : Int))
    (h : ∀ C', Own 4 (l.filter (keeps t)).length (some ⟨wb, 0, none⟩) cap C' (reqCells (l.filter (keeps t))) → K (.slice (some ⟨wb, 0, none⟩) (l.filter (keeps t)).length cap) [x1, (b2, 0), x3, x4] [c1, [.int .i64 t], c3, c4] ⟨D, r1 ++ [(wb, Row.c C')] ++ r2⟩) :
    XCall Try.prog w0 R av 30 [.slice (some ⟨wb, 0, none⟩) l.length cap, .func (.func 31) ⟨[]⟩ ⟨[.pointer (some ⟨b2, 0 + 0, none⟩)]⟩] [x1, (b2, 0), x3, x4] [c1, [.int .i64 t], c3, c4] ⟨D, r1 ++ [(wb, Row.c C)] ++ r2⟩ K := by
  refine XCall.inlineD tabOk Try.func30 rfl (by decide) (n := Try.f30.ntmps - 2) [.v _, .v _] rfl (by exact ⟨rfl, rfl, trivial⟩) ?_
  conv => whnf
  refine indexfunc_call hO hl ?_
  rw [hidx]
  conv => whnf
  refine XIf.no (by simp [iEq_eq]) ?_
  conv => whnf
  rw [wrap_i64 (n := (k : Int) + 1) (by omega)]
  have hfit := hO.fit
  have hfirst : l.take k = (l.take (k + 1)).filter (keeps t) := by
    rcases idx_range (fun q : Req × Hd => iEq q.1.task t) l 0 with e | ⟨k2, hk2, e, h3, h4⟩
    · rw [e] at hidx
      omega
    · rw [e] at hidx
      have : k2 = k := by omega
      subst this
      rw [List.take_succ_eq_append_getElem hk, List.filter_append]
      have e1 : [l[k2]].filter (keeps t) = [] := by simp [keeps, h3]
      have e2 : (l.take k2).filter (keeps t) = l.take k2 := by
        rw [List.filter_eq_self]
        intro q hq
        obtain ⟨j, hj, rfl⟩ := List.getElem_of_mem hq
        have hj' : j < k2 := by simpa using (Nat.lt_of_lt_of_le hj (by simp; omega))
        have := h4 j hj'
        simp only [List.getElem_take]
        simp [keeps, this]
      rw [e1, e2, List.append_nil]
  refine XStop.loop tabOk (ι := Nat × Nat × List (Req × Hd) × List Value) [5, 6, 7, 16, 17, 18, 19, 20, 21, 22, 23, 24, 25, 26, 27, 28, 29, 30, 31, 32, 33, 34, 35]
    (fun x => x.1 ≤ l.length ∧ x.2.1 < x.1 ∧ x.2.2.1.length = l.length ∧ x.2.2.1.take x.2.1 = (l.take x.1).filter (keeps t) ∧ x.2.2.1.drop x.1 = l.drop x.1 ∧ Own 4 l.length (some ⟨wb, 0, none⟩) cap x.2.2.2 (reqCells x.2.2.1))
    (fun x => [(5, .v (.int .i64 (x.2.1 : Int))), (6, .v (.int .i64 (x.1 : Int)))]) (fun _ => [c1, [.int .i64 t], c3, c4]) (fun x => ⟨D, r1 ++ [(wb, Row.c x.2.2.2)] ++ r2⟩)
    (fun x => l.length - x.1) (k + 1, k, l, C) ⟨hk, Nat.lt_succ_self _, rfl, hfirst, rfl, hO⟩ ?_ rfl (Ent.refl _) fun x hx => ?_
  · conv => whnf
    repeat (first | exact FLe.nil | refine FLe.any ?_ | refine FLe.cons ?_)
  obtain ⟨j, i, m, C2⟩ := x
  obtain ⟨hj, hij, hml, hmt, hmd, hO2⟩ := hx
  dsimp only at hj hij hml hmt hmd hO2 ⊢
  conv => whnf
  refine XIf.split (fun hlt => ?_) (fun hge => ?_)
  · conv => whnf
    have hlt' : j < l.length := by
      have : (j : Int) < l.length := by simpa [iLt_eq] using hlt
      omega
    have hjm : j < m.length := by omega
    have hmj : m[j] = l[j] := by
      have : (m.drop j)[0]? = (l.drop j)[0]? := by rw [hmd]
      simpa [hlt', hjm] using this
    have hmd' : m.drop (j + 1) = l.drop (j + 1) := by
      have : (m.drop j).drop 1 = (l.drop j).drop 1 := by rw [hmd]
      simpa [List.drop_drop] using this
    refine XVal.of_read (XRead.index tabOk (t := 26) rfl rfl rfl (by omega) (by omega) (fun h => by cases h) fun ad had => ?_)
    cases had
    conv => whnf
    refine XVal.of_read (XRead.loads tabOk (t := 51) rfl rfl (ad := ⟨wb, 0, none⟩) (k := j * 4) (L := reqCells m) (fun w hst => hO2.at (r1 := r1) (r2 := r2) hst) rfl (reqCells_get m hjm) rfl ?_)
    conv => whnf
    intro b5
    conv => whnf
    refine XCall.inlineD tabOk Try.func31 rfl (by decide) (n := Try.f31.ntmps - 2) [.v _, .v _] rfl (by exact ⟨rfl, rfl, trivial⟩) ?_
    conv => whnf
    intro b6
    conv => whnf
    refine XVal.of_read (XRead.load tabOk (t := 3) rfl rfl (ad := ⟨b2, 0, none⟩) (k := 0) (L := [.int .i64 t]) (Sees.box 1 (by simp)) rfl rfl ?_)
    conv => whnf
    refine ⟨⟨[(b6, 0)], [c1, [.int .i64 t], c3, c4, _], [_], _, rfl, rfl, rfl, Ent.refl _, ?_⟩⟩
    conv => whnf
    refine XIf.split (fun hc => ?_) (fun hc => ?_)
    · conv => whnf
      have him : i < m.length := by omega
      have hC2 : C2.length = cap * 4 := by
        rcases hO2.alt with ⟨h1, _⟩ | ⟨b', _, h2, _⟩
        · cases h1
        · exact h2
      have hkp : keeps t m[j] = true := by simpa [keeps] using hc
      refine XVal.of_read (XRead.index tabOk (t := 26) rfl rfl rfl (by omega) (by omega) (fun h => by cases h) fun ad had => ?_)
      cases had
      conv => whnf
      refine XUnit.storeIn tabOk (t := 51) rfl (r1 := r1) (r2 := r2) (b := wb) (k := i * 4) (by rw [Addr.add_none]; simp) rfl (by simp [Value.cells, oneCell]) (by rw [hC2]; dsimp only; omega) ?_
      conv => whnf
      have hO3 : Own 4 l.length (some ⟨wb, 0, none⟩) cap (laid C2 (i * 4) (m[j].1.cells m[j].2)) (reqCells (m.set i m[j])) := by
        rcases hO2.alt with ⟨h1, _⟩ | ⟨b', h1, h2, h3⟩
        · cases h1
        · refine ⟨by rw [reqCells_len]; simp [hml], hfit, .inr ⟨b', h1, ?_, ?_⟩⟩
          · rw [laid_len (by simp [Req.cells]; omega), h2]
          · rw [laid_take (by simp [Req.cells]; omega) (by omega), h3, reqCells_put m him m[j]]
      refine ⟨(j + 1, i + 1, m.set i m[j], laid C2 (i * 4) (m[j].1.cells m[j].2)), ⟨⟨by dsimp only; omega, by dsimp only; omega, by simp [hml], ?_, ?_, hO3⟩, by dsimp only; omega⟩, ?_, ?_, Ent.refl _⟩
      · dsimp only
        rw [List.take_succ_eq_append_getElem (by simpa using him), List.take_set, List.set_eq_of_length_le (by simp; omega), hmt, List.getElem_set_self, List.take_succ_eq_append_getElem hlt', List.filter_append, ← hmj]
        simp [hkp]
      · dsimp only
        rw [List.drop_set_of_lt (by omega)]
        exact hmd'
      · conv => whnf
        refine ⟨?_, rfl⟩
        repeat (first | exact FLe.nil | refine FLe.any ?_ | refine FLe.cons ?_ | refine FLe.eq (by rw [wrap_i64 (by omega)]; rfl) ?_)
      · conv => whnf
        exact ⟨⟨rfl, rfl⟩, ⟨rfl, rfl⟩, ⟨rfl, rfl⟩, ⟨rfl, rfl⟩, trivial⟩
    · conv => whnf
      have hkp : keeps t l[j] = false := by
        rw [← hmj]
        simpa [keeps] using hc
      refine ⟨(j + 1, i, m, C2), ⟨⟨by dsimp only; omega, by dsimp only; omega, hml, ?_, hmd', hO2⟩, by dsimp only; omega⟩, ?_, ?_, Ent.refl _⟩
      · dsimp only
        rw [hmt, List.take_succ_eq_append_getElem hlt', List.filter_append]
        simp [hkp]
      · conv => whnf
        refine ⟨?_, rfl⟩
        repeat (first | exact FLe.nil | refine FLe.any ?_ | refine FLe.cons ?_ | refine FLe.eq (by rw [wrap_i64 (by omega)]; rfl) ?_)
      · conv => whnf
        exact ⟨⟨rfl, rfl⟩, ⟨rfl, rfl⟩, ⟨rfl, rfl⟩, ⟨rfl, rfl⟩, trivial⟩
  · conv => whnf
    have hge' : j = l.length := by
      have : ¬ (j : Int) < l.length := by simpa [iLt_eq] using hge
      omega
    subst hge'
    rw [List.take_of_length_le (Nat.le_refl _)] at hmt
    have hC2 : C2.length = cap * 4 := by
      rcases hO2.alt with ⟨h1, _⟩ | ⟨b', _, h2, _⟩
      · cases h1
      · exact h2
    have hCt : C2.take (l.length * 4) = reqCells m := by
      rcases hO2.alt with ⟨h1, _⟩ | ⟨b', _, _, h3⟩
      · cases h1
      · exact h3
    have ecut : cutA (some ⟨wb, 0, none⟩) i cap 4 = some ⟨wb, i * 4, none⟩ := by
      unfold cutA
      rw [if_neg (by omega)]
      simp [Addr.add_none]
    have e1 : l.length - i = (l.length - i - 1) + 1 := by omega
    have S3 : ∀ (F : Fx) (K : Value → Prop), K (.slice (some ⟨wb, i * 4, none⟩) ((l.length - i - 1) + 1) (cap - i)) → XRead Try.prog w0 R av (Instr.sliceAt 26 (.slice (some ⟨wb, 0, none⟩) l.length cap) (some (.int .i64 (i : Int))) none none) [x1, (b2, 0), x3, x4] [c1, [.int .i64 t], c3, c4] F K := fun F K hK => by
      refine XRead.slice tabOk (t := 26) rfl rfl rfl (lo := some (i : Int)) (hi := none) (mx := none) (k2 := .i64) (k3 := .i64) i l.length cap rfl rfl rfl (by omega) hfit (Nat.le_refl _) (fun h => by cases h) ?_
      rw [e1]
      show K (.slice (cutA (some ⟨wb, 0, none⟩) i cap 4) ((l.length - i - 1) + 1) (cap - i))
      rw [ecut]
      exact hK
    refine XVal.of_read (S3 _ _ ?_)
    conv => whnf
    refine XVal.clearIn tabOk (t := 26) rfl rfl rfl rfl (by simp [oneCell]) (r1 := r1) (r2 := r2) (n := l.length - i - 1) (k := i * 4) (C := C2) rfl (by rw [hC2]; dsimp only; omega) fun Z hZ => ?_
    conv => whnf
    refine XVal.of_read (XRead.slice tabOk (t := 26) rfl rfl rfl (lo := none) (hi := some (i : Int)) (mx := none) (k1 := .i64) (k3 := .i64) 0 i cap rfl rfl rfl (by omega) (by omega) (Nat.le_refl _) (fun h => by cases h) ?_)
    simp only [cutA_zero, Nat.sub_zero]
    conv => whnf
    have hil : (l.filter (keeps t)).length = i := by
      rw [← hmt]
      simp
      omega
    refine ⟨⟨[], [c1, [.int .i64 t], c3, c4], [], _, rfl, rfl, rfl, Ent.refl _, ?_⟩⟩
    rw [← hil]
    refine h _ ⟨by rw [reqCells_len], by omega, .inr ⟨wb, rfl, ?_, ?_⟩⟩
    · rw [hil, laid_len (by rw [hZ, hC2]; dsimp only; omega), hC2]
    · rw [hil, laid_take_eq (by rw [hC2]; omega), ← hmt, ← reqCells_take, ← hCt, List.take_take, Nat.min_eq_left (by omega)]

end Go.Proofs.Ytpnnadojhacjiaa
