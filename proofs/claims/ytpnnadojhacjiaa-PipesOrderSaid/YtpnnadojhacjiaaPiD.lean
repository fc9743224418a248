/- Pipes, part D: Delete. -/
import Derived.Test.YtpnnadojhacjiaaPiC
import Derived.Test.YtpnnadojhacjiaaSyB
namespace Go.Proofs.Ytpnnadojhacjiaa
open Go Go.Sx
set_option maxRecDepth 100000
set_option maxHeartbeats 2000000
set_option linter.unusedVariables false
set_option linter.unusedSimpArgs false

theorem laid_take_eq {X Z : List Value} {k : Nat} (h : k ≤ X.length) : (laid X k Z).take k = X.take k := by
  unfold laid
  rw [List.append_assoc, List.take_append_of_le_length (by simp; omega), List.take_take]
  simp

theorem delete_call {w0 : World} {R : Nat → Nat → Prop} {av : Nat → Prop} {bs : List (Nat × Nat)} {cs : List (List Value)} {D : World → Prop} {r1 r2 : List (Nat × Row)} {wb cap : Nat} {C : List Value} {l : List (Req × Hd)} {i : Nat} {K : KV}
    (hbc : bs.length = cs.length) (hO : Own 4 l.length (some ⟨wb, 0, none⟩) cap C (reqCells l)) (hi : i < l.length) (hl : l.length ≤ 100000)
    (h : ∀ C', Own 4 (l.eraseIdx i).length (some ⟨wb, 0, none⟩) cap C' (reqCells (l.eraseIdx i)) → K (.slice (some ⟨wb, 0, none⟩) (l.eraseIdx i).length cap) bs cs ⟨D, r1 ++ [(wb, Row.c C')] ++ r2⟩) :
    XCall Try.prog w0 R av 53 [.slice (some ⟨wb, 0, none⟩) l.length cap, .int .i64 (i : Int), .int .i64 ((i : Int) + 1)] bs cs ⟨D, r1 ++ [(wb, Row.c C)] ++ r2⟩ K := by
  have hfit := hO.fit
  have hCl : C.length = cap * 4 := by
    rcases hO.alt with ⟨h1, _⟩ | ⟨b', _, h2, _⟩
    · cases h1
    · exact h2
  have hCt : C.take (l.length * 4) = reqCells l := by
    rcases hO.alt with ⟨h1, _⟩ | ⟨b', _, _, h3⟩
    · cases h1
    · exact h3
  refine XCall.inlineV tabOk Try.func53 rfl (by decide) (n := Try.f53.ntmps - 3) rfl rfl ?_
  conv => whnf
  refine XVal.of_read (XRead.slice tabOk (t := 26) rfl rfl rfl (lo := some (i : Int)) (hi := some ((i : Int) + 1)) (mx := some (l.length : Int)) i (i + 1) l.length rfl rfl rfl (by omega) (by omega) hfit (fun _ => rfl) ?_)
  conv => whnf
  refine XIf.no (by simp [iEq_eq]; omega) ?_
  conv => whnf
  refine XStop.draw tabOk mixed rfl rfl ?_
  conv => whnf
  have S1 : ∀ K : Value → Prop, K (.slice (some ⟨wb, 0, none⟩) i cap) → XRead Try.prog w0 R av (Instr.sliceAt 26 (.slice (some ⟨wb, 0, none⟩) l.length cap) none (some (.int .i64 (i : Int))) none) bs cs ⟨D, r1 ++ [(wb, Row.c C)] ++ r2⟩ K := fun K hK => by
    refine XRead.slice tabOk (t := 26) rfl rfl rfl (lo := none) (hi := some (i : Int)) (mx := none) (k1 := .i64) (k3 := .i64) 0 i cap rfl rfl rfl (by omega) (by omega) (Nat.le_refl _) (fun h => by cases h) ?_
    rw [cutA_zero]
    exact hK
  have S2 : ∀ K : Value → Prop, K (.slice (cutA (some ⟨wb, 0, none⟩) (i + 1) cap 4) (l.length - (i + 1)) (cap - (i + 1))) → XRead Try.prog w0 R av (Instr.sliceAt 26 (.slice (some ⟨wb, 0, none⟩) l.length cap) (some (.int .i64 ((i : Int) + 1))) none none) bs cs ⟨D, r1 ++ [(wb, Row.c C)] ++ r2⟩ K := fun K hK => by
    exact XRead.slice tabOk (t := 26) rfl rfl rfl (lo := some ((i : Int) + 1)) (hi := none) (mx := none) (k2 := .i64) (k3 := .i64) (i + 1) l.length cap rfl rfl rfl (by omega) (by omega) (Nat.le_refl _) (fun h => by cases h) hK
  have hsee : Sees w0 R av bs cs ⟨D, r1 ++ [(wb, Row.c C)] ++ r2⟩ (cutA (some ⟨wb, 0, none⟩) (i + 1) cap 4) (reqCells (l.drop (i + 1))) := fun w hst => by
    have h1 := (hO.at (r1 := r1) (r2 := r2) hst).cut (l := i + 1) (hi := l.length) (m := cap) (size := 4) (by omega)
    rw [reqCells_drop, List.take_of_length_le (by rw [reqCells_len]; simp)] at h1
    exact h1
  have en : i + (l.length - (i + 1)) = l.length - 1 := by omega
  have e1 : l.length - (l.length - 1) = 0 + 1 := by omega
  have ecut : cutA (some ⟨wb, 0, none⟩) (l.length - 1) cap 4 = some ⟨wb, (l.length - 1) * 4, none⟩ := by
    unfold cutA
    rw [if_neg (by omega)]
    simp [Addr.add_none]
  have hlen1 : (reqCells (l.drop (i + 1))).length = (l.length - (i + 1)) * 4 := by rw [reqCells_len]; simp
  have hlaid : (laid C (i * 4) (reqCells (l.drop (i + 1)))).length = C.length := laid_len (by rw [hlen1, hCl]; omega)
  have S3 : ∀ (F : Fx) (K : Value → Prop), K (.slice (some ⟨wb, (l.length - 1) * 4, none⟩) (0 + 1) (cap - (l.length - 1))) → XRead Try.prog w0 R av (Instr.sliceAt 26 (.slice (some ⟨wb, 0, none⟩) (l.length - 1) cap) (some (.int .i64 ((l.length - 1 : Nat) : Int))) (some (.int .i64 (l.length : Int))) none) bs cs F K := fun F K hK => by
    refine XRead.slice tabOk (t := 26) rfl rfl rfl (lo := some ((l.length - 1 : Nat) : Int)) (hi := some (l.length : Int)) (mx := none) (k3 := .i64) (l.length - 1) l.length cap rfl rfl rfl (by omega) hfit (Nat.le_refl _) (fun h => by cases h) ?_
    rw [e1]
    show K (.slice (cutA (some ⟨wb, 0, none⟩) (l.length - 1) cap 4) (0 + 1) (cap - (l.length - 1)))
    rw [ecut]
    exact hK
  repeat' (first
    | (refine And.intro ?_ ?_ <;> conv => whnf)
    | (refine XHeld.same hbc ?_; conv => whnf)
    | (refine S1 _ ?_; conv => whnf)
    | (refine S2 _ ?_; conv => whnf)
    | (refine XVal.of_read (S1 _ ?_); conv => whnf)
    | (refine XVal.of_read (S2 _ ?_); conv => whnf))
  all_goals
    refine XVal.appendIn tabOk (t := 26) (xt := 26) rfl rfl rfl rfl rfl (r1 := r1) (r2 := r2) (M := reqCells (l.drop (i + 1))) (by omega) hCl hsee (by rw [reqCells_len]; simp) (reqCells_one _) ?_
    conv => whnf
    rw [en]
    refine XVal.of_read (S3 _ _ ?_)
    conv => whnf
    refine XVal.clearIn tabOk (t := 26) rfl rfl rfl rfl (by simp [oneCell]) (r1 := r1) (r2 := r2) (n := 0) (k := (l.length - 1) * 4) (C := laid C (i * 4) (reqCells (l.drop (i + 1)))) rfl (by rw [hlaid, hCl]; dsimp only; omega) fun Z hZ => ?_
    conv => whnf
    refine ⟨⟨[], by simp⟩, ?_⟩
    have hel : (l.eraseIdx i).length = l.length - 1 := by rw [List.length_eraseIdx, if_pos hi]
    rw [← hel]
    refine h _ ⟨by rw [reqCells_len], by omega, .inr ⟨wb, rfl, ?_, ?_⟩⟩
    · rw [laid_len (by rw [hZ, hlaid, hCl]; dsimp only; omega), hlaid, hCl]
    · have h1 := laid_take_eq (Z := Z) (k := (l.length - 1) * 4) (X := laid C (i * 4) (reqCells (l.drop (i + 1)))) (by rw [hlaid, hCl]; omega)
      rw [hel, h1]
      unfold laid
      rw [List.take_append_of_le_length (by simp only [List.length_append, List.length_take, hlen1]; omega), List.take_of_length_le (by simp only [List.length_append, List.length_take, hlen1]; omega)]
      rw [List.eraseIdx_eq_take_drop_succ, reqCells_append, ← reqCells_take, ← hCt, List.take_take, Nat.min_eq_left (by omega)]

end Go.Proofs.Ytpnnadojhacjiaa
