/- Names, part F: DirsNames. -/
import Derived.Test.YtbfpgfopppfhoaaGreatDoorNaE
import Derived.Test.YtbfpgfopppfhoaaGreatDoorYtC38
namespace Go.Proofs.YtbfpgfopppfhoaaGreatDoor
open Go Go.Sx
set_option maxRecDepth 100000
set_option maxHeartbeats 4000000
set_option linter.unusedVariables false
set_option linter.unusedSimpArgs false

theorem same_spec (h k : Hd) (l : List (List UInt8)) (hh : h.Ok l.length) (hk : k.Ok l.length) (hl : l.length ≤ 1000000) :
    PureSpec Tryz.prog 17 [h.v l.length, k.v l.length] (fun w => StrAt w h l ∧ StrAt w k l) (fun v F => v = .bool true) := by
  refine PureSpec.of_xc tabOk Tryz.func17 rfl (by decide) (n := Tryz.f17.ntmps - 2) rfl rfl fun w0 av => ?_
  conv => whnf
  refine XIf.no (by simp [iNe_eq]) ?_
  conv => whnf
  refine XStop.loop tabOk (ι := Nat) ([5] ++ List.range' 11 15) (fun x => x ≤ l.length)
    (fun x => [(5, .v (.int .i64 (x : Int)))]) (fun _ => []) (fun _ => ⟨fun w => StrAt w h l ∧ StrAt w k l, []⟩)
    (fun x => l.length - x) 0 (Nat.zero_le _) ?_ rfl (Ent.refl _) fun i hi => ?_
  · conv => whnf
    repeat (first | exact FLe.nil | refine FLe.any ?_ | refine FLe.cons ?_)
  conv => whnf
  refine XIf.split (fun hlt => ?_) (fun hlt => ?_)
  · conv => whnf
    have hlt' : i < l.length := by
      have h := hlt
      simp [iLt_eq] at h
      omega
    refine XStop.draw tabOk mixed rfl rfl ?_
    conv => whnf
    repeat' (first
      | (refine And.intro ?_ ?_ <;> conv => whnf)
      | (refine XHeld.same rfl ?_; conv => whnf)
      | (refine XHeld.row rfl ?_; conv => whnf)
      | (refine XHeld.call rfl ?_; conv => whnf)
      | (refine XKeep.of ?_; conv => whnf)
      | (refine XSame.of ?_; conv => whnf)
      | (refine XRead.index tabOk (t := 23) rfl rfl rfl (by omega) (by omega) hh.nil fun ad1 had1 => ?_; conv => whnf)
      | (refine XRead.index tabOk (t := 23) rfl rfl rfl (by omega) (by omega) hk.nil fun ad2 had2 => ?_; conv => whnf)
      | (refine XRead.load tabOk (t := 9) rfl rfl (ad := ad1) (k := i * 1) (L := l.map strV) (v := strV l[i]) (fun w hst => had1 ▸ hst.now.1) rfl (by simp [hlt']) ?_; conv => whnf)
      | (refine XRead.load tabOk (t := 9) rfl rfl (ad := ad2) (k := i * 1) (L := l.map strV) (v := strV l[i]) (fun w hst => had2 ▸ hst.now.2) rfl (by simp [hlt']) ?_; conv => whnf)
      | (refine XRead.strNe (l := l[i]) (m := l[i]) ?_; conv => whnf)
      | (refine XHeld.mk ?_ ?_ ?_; (focus ((conv => whnf); (first | exact trivial | exact ⟨⟨rfl, rfl⟩, trivial⟩ | exact ⟨⟨rfl, rfl⟩, ⟨rfl, rfl⟩, trivial⟩ | exact ⟨⟨rfl, rfl⟩, ⟨rfl, rfl⟩, ⟨rfl, rfl⟩, trivial⟩ | exact ⟨⟨rfl, rfl⟩, ⟨rfl, rfl⟩, ⟨rfl, rfl⟩, ⟨rfl, rfl⟩, trivial⟩ | exact ⟨⟨rfl, rfl⟩, ⟨rfl, rfl⟩, ⟨rfl, rfl⟩, ⟨rfl, rfl⟩, ⟨rfl, rfl⟩, trivial⟩ | exact ⟨⟨rfl, rfl⟩, ⟨rfl, rfl⟩, ⟨rfl, rfl⟩, ⟨rfl, rfl⟩, ⟨rfl, rfl⟩, ⟨rfl, rfl⟩, trivial⟩ | exact ⟨⟨rfl, rfl⟩, ⟨rfl, rfl⟩, ⟨rfl, rfl⟩, ⟨rfl, rfl⟩, ⟨rfl, rfl⟩, ⟨rfl, rfl⟩, ⟨rfl, rfl⟩, trivial⟩ | exact ⟨⟨rfl, rfl⟩, ⟨rfl, rfl⟩, ⟨rfl, rfl⟩, ⟨rfl, rfl⟩, ⟨rfl, rfl⟩, ⟨rfl, rfl⟩, ⟨rfl, rfl⟩, ⟨rfl, rfl⟩, trivial⟩))); (focus (first | exact Ent.refl _ | exact Ent.left _ _ | exact Ent.of_le ⟨List.sublist_append_left _ _, fun w h => h⟩ | exact Ent.of_le ⟨List.Sublist.refl _, fun w h => h.1⟩)); conv => whnf))
    refine XIf.no (by simp) ?_
    conv => whnf
    refine ⟨i + 1, ⟨hlt', by dsimp only; omega⟩, ?_, ?_, Ent.refl _⟩
    · conv => whnf
      refine ⟨?_, rfl⟩
      repeat (first | exact FLe.nil | refine FLe.any ?_ | refine FLe.cons ?_ | refine FLe.eq (by rw [wrap_i64 (by omega)]; rfl) ?_)
    · conv => whnf
      exact trivial
  · conv => whnf
    exact ⟨_, Ent.refl _, rfl⟩

theorem splitR_small (p : List UInt8) (hp : p.length ≤ 200) : (splitR p).1.length ≤ 1000000 := by
  unfold splitR
  split
  · split
    · simp
    · split
      · simp only [splitOn_len]
        have h1 : (p.drop 1).count 47 ≤ (p.drop 1).length := List.count_le_length
        have h2 : (p.drop 1).length ≤ 200 := by simp; omega
        omega
      · simp
  · simp

theorem dirsNames_spec (p : List UInt8) : PureSpec Tryz.prog 3 [strV p] (fun w => True) (fun v F => v = .bool true) := by
  have hsz : (ByteArray.mk ⟨p⟩).size = p.length := rfl
  refine PureSpec.of_xc tabOk Tryz.func3 rfl (by decide) (n := Tryz.f3.ntmps - 1) rfl rfl fun w0 av => ?_
  conv => whnf
  refine XCall.val awake_spec (fun w hw => trivial) (fun v D hv => ?_)
  obtain ⟨tr, htr⟩ : ∃ tr, true = tr := ⟨_, rfl⟩
  rw [htr] at hv
  subst hv
  conv => whnf
  refine XIf.no (by rw [← htr]; rfl) ?_
  conv => whnf
  refine XIf.split (fun hlt => ?_) (fun hlt => ?_)
  · conv => whnf
    exact ⟨_, Ent.refl _, rfl⟩
  conv => whnf
  have hp : p.length ≤ 200 := by
    have h := hlt
    simp [iGt_eq, hsz] at h
    omega
  refine XCall.pure (dirsSplit_spec p hp) (fun w hw => trivial) (fun v D hv => ?_)
  obtain ⟨h, rfl, hh, rfl⟩ := hv
  conv => whnf
  refine XCall.pure (refSplit_spec p hp) (fun w hw => trivial) (fun v D hv => ?_)
  obtain ⟨k, rfl, hk, rfl⟩ := hv
  conv => whnf
  refine XCall.val (valid_spec p (by omega)) (fun w hw => trivial) (fun v D hv => ?_)
  generalize hv1 : vname p = b1 at hv
  subst hv
  conv => whnf
  refine XCall.val (validR_spec p (by omega)) (fun w hw => trivial) (fun v D hv => ?_)
  rw [hv1] at hv
  subst hv
  conv => whnf
  obtain ⟨tr2, htr2⟩ : ∃ tr2, (b1 == b1) = tr2 := ⟨_, rfl⟩
  have htr2' : tr2 = true := by rw [← htr2]; cases b1 <;> rfl
  rw [htr2]
  clear htr2
  subst htr2'
  conv => whnf
  refine XCall.val (same_spec h k (splitR p).1 hh hk (splitR_small p hp)) (fun w hw => ⟨hw.1.2, hw.2⟩) (fun v D hv => ?_)
  obtain ⟨tr3, htr3⟩ : ∃ tr3, true = tr3 := ⟨_, rfl⟩
  rw [htr3] at hv
  subst hv
  conv => whnf
  subst htr3
  conv => whnf
  repeat' (first
    | (refine XSame.of ?_; conv => whnf))
  refine ⟨_, Ent.refl _, ?_⟩
  simp [iEq_eq]

end Go.Proofs.YtbfpgfopppfhoaaGreatDoor
