/- Serial, part Q: the reference's SameAnswers and Bytes. -/
import Derived.Test.YtcmgioaggmaclaaSerP
namespace Go.Proofs.Ytcmgioaggmaclaa
open Go Go.Sx
set_option maxRecDepth 100000
set_option maxHeartbeats 2000000
set_option linter.unusedVariables false
set_option linter.unusedSimpArgs false

theorem Ans.same_self (a : Ans) : a.same a = true := by simp [Ans.same, iEq_eq]

theorem map_get {l m : List (Ans × Hd)} (h : l.map (·.1) = m.map (·.1)) {i : Nat} (h1 : i < l.length) (h2 : i < m.length) : l[i].1 = m[i].1 := by
  have : (l.map (·.1))[i]? = (m.map (·.1))[i]? := by rw [h]
  simpa [h1, h2] using this

theorem sameAnswers_spec (ka kb : Hd) (l m : List (Ans × Hd)) (hk : ka.Ok l.length) (hkb : kb.Ok m.length) (hl : l.length ≤ 1000) (hok : AnsOk l) (hokb : AnsOk m) (he : l.map (·.1) = m.map (·.1)) (hd : ∀ p ∈ l, p.1.data.length ≤ 1000000) :
    PureSpec Try.prog 18 [ka.v l.length, kb.v m.length] (fun w => AnsAt w ka l ∧ AnsAt w kb m) (fun v F => v = .bool true) := by
  have hlen : l.length = m.length := by simpa using congrArg List.length he
  refine PureSpec.of_xc tabOk Try.func18 rfl (by decide) (n := Try.f18.ntmps - 2) rfl rfl fun w0 av => ?_
  conv => whnf
  refine XIf.split (fun hc => ?_) (fun hc => ?_)
  · exfalso
    simp [iNe_eq] at hc
    omega
  · conv => whnf
    refine XStop.loop tabOk (ι := Nat) [4, 5, 11, 12, 13, 14, 15, 16, 17, 18, 19, 20, 21, 22, 23, 24, 25, 26] (fun x => x ≤ l.length)
      (fun x => [(5, .v (.int .i64 (x : Int)))]) (fun _ => []) (fun x => ⟨fun w => AnsAt w ka l ∧ AnsAt w kb m, []⟩)
      (fun x => l.length - x) 0 (Nat.zero_le _) ?_ rfl (Ent.refl _) fun i hi => ?_
    · conv => whnf
      repeat (first | exact FLe.nil | refine FLe.any ?_ | refine FLe.cons ?_)
    · conv => whnf
      refine XIf.split (fun hlt => ?_) (fun hge => ?_)
      · conv => whnf
        have hlt' : i < l.length := by
          have : (i : Int) < l.length := by simpa [iLt_eq] using hlt
          omega
        have hlt2 : i < m.length := by omega
        refine XStop.draw tabOk mixed rfl rfl ?_
        conv => whnf
        refine XRead.index tabOk (t := 48) rfl rfl rfl (by omega) (by omega) hk.nil fun ad had => ?_
        conv => whnf
        refine XRead.loads tabOk (t := 26) rfl rfl (ad := ad) (k := i * 3) (L := ansCells l) (fun w hst => had ▸ hst.now.1.1) rfl (ansCells_get l hlt') rfl ?_
        conv => whnf
        refine XRead.index tabOk (t := 48) rfl rfl rfl (by omega) (by omega) hkb.nil fun ad2 had2 => ?_
        conv => whnf
        refine XRead.loads tabOk (t := 26) rfl rfl (ad := ad2) (k := i * 3) (L := ansCells m) (fun w hst => had2 ▸ hst.now.2.1) rfl (ansCells_get m hlt2) rfl ?_
        conv => whnf
        refine XCall.val (sameAnswer_spec l[i].1 m[i].1 l[i].2 m[i].2 (hok _ (List.getElem_mem _)) (hokb _ (List.getElem_mem _)) (hd _ (List.getElem_mem _))) (fun w h => ⟨h.1.2 _ (List.getElem_mem _), h.2.2 _ (List.getElem_mem _)⟩) (fun v D hv => ?_)
        subst hv
        conv => whnf
        refine XHeld.same rfl ?_
        conv => whnf
        refine XIf.split (fun hc => ?_) (fun hc => ?_)
        · exfalso
          rw [map_get he hlt' hlt2, Ans.same_self] at hc
          simp at hc
        · conv => whnf
          refine ⟨i + 1, ⟨hlt', by dsimp only; omega⟩, ?_, trivial, ?_⟩
          · conv => whnf
            refine ⟨?_, rfl⟩
            repeat (first | exact FLe.nil | refine FLe.any ?_ | refine FLe.cons ?_ | refine FLe.eq (by rw [wrap_i64 (by omega)]; rfl) ?_)
          · first | exact Ent.refl _ | exact Ent.bare fun w h => h | exact Ent.of_le ⟨by simp, fun _ h => h.1⟩
      · conv => whnf
        exact ⟨_, Ent.refl _, rfl⟩

/-- The bytes that arrive for a script, and the number of ticks. -/
def sBytes (l : List UInt8) : List UInt8 := l.filter (fun x => iLt (x.toNat : Int) 128)
def sTicks (l : List UInt8) : Int := (l.map fun x => if iLt (x.toNat : Int) 128 then (1 : Int) else (x.toNat : Int) - 127).sum

def RelBn (r : List UInt8) (n : Int) (v : Value) (F : Fx) : Prop := ∃ k : Hd, v = .tuple #[k.v r.length, .int .i64 n] ∧ k.Ok r.length ∧ F = ⟨fun w => By w k r, []⟩

theorem sTicks_le (l : List UInt8) : 0 ≤ sTicks l ∧ sTicks l ≤ 128 * l.length := by
  induction l with
  | nil => simp [sTicks]
  | cons x l ih =>
    have hx : x.toNat < 256 := x.toNat_lt
    simp only [sTicks, List.map_cons, List.sum_cons, List.length_cons] at ih ⊢
    split
    · omega
    · rename_i h
      simp [iLt_eq] at h
      omega

theorem sBytes_lo (l : List UInt8) {x : UInt8} (h : iLt (x.toNat : Int) 128 = true) : sBytes (l ++ [x]) = sBytes l ++ [x] := by simp [sBytes, h]
theorem sBytes_hi (l : List UInt8) {x : UInt8} (h : iLt (x.toNat : Int) 128 = false) : sBytes (l ++ [x]) = sBytes l := by simp [sBytes, h]
theorem sTicks_lo (l : List UInt8) {x : UInt8} (h : iLt (x.toNat : Int) 128 = true) : sTicks (l ++ [x]) = sTicks l + 1 := by simp [sTicks, h]
theorem sTicks_hi (l : List UInt8) {x : UInt8} (h : iLt (x.toNat : Int) 128 = false) : sTicks (l ++ [x]) = sTicks l + 1 + ((x.toNat : Int) - 128) := by
  simp [sTicks, h]
  omega

theorem bytes_spec (h : Hd) (l : List UInt8) (hh : h.Ok l.length) (hl : l.length ≤ 1000000) : PureSpec Try.prog 25 [h.v l.length] (fun w => By w h l) (RelBn (sBytes l) (sTicks l)) := by
  refine PureSpec.of_xc tabOk Try.func25 rfl (by decide) (n := Try.f25.ntmps - 1) rfl rfl fun w0 av => ?_
  conv => whnf
  refine XStop.loop tabOk (ι := Nat × Option Addr × Nat × List Value) [4, 5, 6, 7, 8, 9, 10, 11, 12, 13, 14, 15, 16, 17, 18, 19, 20, 21, 22, 23, 24, 25, 26, 27, 28, 29, 30, 31, 32, 33, 34]
    (fun x => x.1 ≤ l.length ∧ Own 1 (sBytes (l.take x.1)).length x.2.1 x.2.2.1 x.2.2.2 ((sBytes (l.take x.1)).map byteV))
    (fun x => [(4, .v (.slice x.2.1 (sBytes (l.take x.1)).length x.2.2.1)), (5, .v (.int .i64 (sTicks (l.take x.1)))), (6, .v (.int .i64 (x.1 : Int)))]) (fun _ => []) (fun x => ⟨fun w => By w h l, orow x.2.1 x.2.2.2⟩)
    (fun x => l.length - x.1) (0, none, 0, []) ⟨by simp, Own.nil 1⟩ ?_ rfl (Ent.refl _) fun x hi => ?_
  · conv => whnf
    repeat (first | exact FLe.nil | refine FLe.any ?_ | refine FLe.cons ?_)
  · obtain ⟨i, a, cap, C⟩ := x
    obtain ⟨hi1, hO⟩ := hi
    conv => whnf
    dsimp only at hO hi1 ⊢
    refine XIf.split (fun hlt => ?_) (fun hge => ?_)
    · conv => whnf
      have hlt' : i < l.length := by
        have : (i : Int) < l.length := by simpa [iLt_eq] using hlt
        omega
      have hb := sTicks_le (l.take i)
      have hlb : (l.take i).length = i := by simp; omega
      have hfl : (sBytes (l.take i)).length ≤ i := by
        have := List.length_filter_le (fun x : UInt8 => iLt (x.toNat : Int) 128) (l.take i)
        simp only [sBytes]
        omega
      have htk : l.take (i + 1) = l.take i ++ [l[i]] := List.take_succ_eq_append_getElem hlt'
      have hx : l[i].toNat < 256 := l[i].toNat_lt
      rw [wrap_i64 (by omega)]
      refine XVal.of_read (XRead.byteAt tabOk (t := 22) rfl rfl rfl rfl i rfl hlt' hh fun ad had => ?_)
      conv => whnf
      refine XVal.of_read (XRead.byteLd tabOk (t := 5) rfl rfl had (Sees.fact fun w hw => hw) hlt' ?_)
      conv => whnf
      refine XIf.split (fun hc => ?_) (fun hc => ?_)
      · conv => whnf
        refine XVal.of_read (XRead.byteAt tabOk (t := 22) rfl rfl rfl rfl i rfl hlt' hh fun ad had => ?_)
        conv => whnf
        refine XVal.of_read (XRead.byteLd tabOk (t := 5) rfl rfl had (Sees.fact fun w hw => hw) hlt' ?_)
        conv => whnf
        refine XVal.build tabOk (t := 22) rfl rfl rfl [byteV l[i]] rfl rfl (by simp [byteV, Value.cells]) (by decide) fun b => ?_
        conv => whnf
        refine XVal.append tabOk (t := 22) (xt := 22) rfl rfl rfl rfl rfl rfl (r1 := []) (r2 := [(b, [byteV l[i]])]) (M := [byteV l[i]]) hO (Sees.row (by simp)) rfl (by simp [byteV, oneCell]) (by omega) (by simp; omega) fun a' cap' C' hO' => ?_
        conv => whnf
        have e1 : sBytes (l.take (i + 1)) = sBytes (l.take i) ++ [l[i]] := by rw [htk]; exact sBytes_lo _ hc
        have e2 : sTicks (l.take (i + 1)) = sTicks (l.take i) + 1 := by rw [htk]; exact sTicks_lo _ hc
        have e3 : (sBytes (l.take (i + 1))).length = (sBytes (l.take i)).length + 1 := by rw [e1]; simp
        refine ⟨(i + 1, a', cap', C'), ⟨⟨hlt', by dsimp only; rw [e3, e1, List.map_append]; exact hO'⟩, by dsimp only; omega⟩, ?_, trivial, ?_⟩
        · conv => whnf
          refine ⟨?_, rfl⟩
          repeat (first | exact FLe.nil | refine FLe.any ?_ | refine FLe.cons ?_ | refine FLe.eq (by rw [wrap_i64 (by omega)]; rfl) ?_ | refine FLe.eq (by dsimp only; rw [e3]) ?_ | refine FLe.eq (by dsimp only; rw [e2]) ?_)
        · exact Ent.of_le ⟨by simp, fun _ h => h⟩
      · conv => whnf
        refine XVal.of_read (XRead.byteAt tabOk (t := 22) rfl rfl rfl rfl i rfl hlt' hh fun ad had => ?_)
        conv => whnf
        refine XVal.of_read (XRead.byteLd tabOk (t := 5) rfl rfl had (Sees.fact fun w hw => hw) hlt' ?_)
        conv => whnf
        have e1 : sBytes (l.take (i + 1)) = sBytes (l.take i) := by rw [htk]; exact sBytes_hi _ hc
        have e2 : sTicks (l.take (i + 1)) = sTicks (l.take i) + 1 + ((l[i].toNat : Int) - 128) := by rw [htk]; exact sTicks_hi _ hc
        refine ⟨(i + 1, a, cap, C), ⟨⟨hlt', by dsimp only; rw [e1]; exact hO⟩, by dsimp only; omega⟩, ?_, trivial, ?_⟩
        · conv => whnf
          refine ⟨?_, rfl⟩
          repeat (first | exact FLe.nil | refine FLe.any ?_ | refine FLe.cons ?_ | refine FLe.eq (by dsimp only; rw [e1]) ?_ | refine FLe.eq (by dsimp only; rw [e2, wrap_i64 (n := (l[i].toNat : Int)) (by omega), wrap_i64 (n := (l[i].toNat : Int) - 128) (by omega), wrap_i64 (by omega)]) ?_ | refine FLe.eq (by rw [wrap_i64 (by omega)]; rfl) ?_)
          all_goals trace_state
        · exact Ent.of_le ⟨by simp, fun _ h => h⟩
    · conv => whnf
      have hge' : l.length ≤ i := by
        have : ¬ (i : Int) < l.length := by simpa [iLt_eq] using hge
        omega
      rw [List.take_of_length_le hge'] at hO ⊢
      refine ⟨⟨fun w => By w ⟨a, cap⟩ (sBytes l), []⟩, ?_, ⟨a, cap⟩, rfl, ⟨hO.none_nil, hO.fit⟩, rfl⟩
      have := Own.share (r1 := []) (r2 := []) hO (D := fun w => By w h l)
      simp only [List.nil_append, List.append_nil] at this
      exact this.trans (Ent.imp fun w hw => hw.2)

end Go.Proofs.Ytcmgioaggmaclaa
