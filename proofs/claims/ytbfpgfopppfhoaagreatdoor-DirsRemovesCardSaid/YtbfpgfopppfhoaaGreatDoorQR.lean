/- Parts of the proof: NxD. -/
import Derived.Test.YtbfpgfopppfhoaaGreatDoorQO
namespace Go.Proofs.YtbfpgfopppfhoaaGreatDoor
open Go Go.Sx
set_option maxRecDepth 100000
set_option maxHeartbeats 4000000
set_option linter.unusedVariables false
set_option linter.unusedSimpArgs false

theorem freeR_len {d : List UInt8} {n : Nat} (h : (freeR d n).2 = 0) : (freeR d n).1.length = 12288 := by
  unfold freeR at h ⊢
  by_cases hg : gete d n ≠ 0
  · rw [if_pos hg] at h
    exact absurd h hg
  rw [if_neg hg] at h ⊢
  obtain ⟨hd, hok, m, hm, hm32, hrk⟩ := gete_zero (show gete d n = 0 by omega)
  have hm : n = m := by omega
  subst hm
  by_cases h0 : n = 0
  · rw [if_pos h0] at h
    cases h
  · rw [if_neg h0]
    exact putI_len (relAll_len hd _ _) hm32 _ _ _

theorem wt_len {b : Nat → Nat} {d : List UInt8} (hd : d.length = 12288) : ∀ {i : Nat} {o : List UInt8} {b' : Nat → Nat}, wt d b i = some (o, b') → o.length = 12288
  | 0, o, b', h => by
    cases h
    exact hd
  | i + 1, o, b', h => by
    unfold wt at h
    cases hw : wt d b i with
    | none => rw [hw] at h; cases h
    | some r =>
      obtain ⟨o2, b2⟩ := r
      have hl := wt_len hd hw
      rw [hw] at h
      dsimp only at h
      split at h
      · cases hf : freeB (bmp o2) with
        | none => rw [hf] at h; cases h
        | some x =>
          rw [hf] at h
          cases h
          exact takeD_len hl (freeB_lt hf).2
      · cases h
        exact hl

theorem writeR_len2 {d : List UInt8} {n : Nat} {data : List UInt8} (h : (writeR d n data).2 = 0) : (writeR d n data).1.length = 12288 := by
  unfold writeR at h ⊢
  by_cases hg : gete d n ≠ 0
  · rw [if_pos hg] at h
    exact absurd h hg
  rw [if_neg hg] at h ⊢
  obtain ⟨hd, hok, m, hm, hm32, hrk⟩ := gete_zero (show gete d n = 0 by omega)
  have hm : n = m := by omega
  subst hm
  by_cases h1 : data.length = 0
  · rw [if_pos h1]
    exact hd
  rw [if_neg h1] at h ⊢
  by_cases h2 : (if rk d n = 2 then 128 else 1536) < data.length
  · rw [if_pos h2] at h
    cases h
  rw [if_neg h2] at h ⊢
  cases hw : wt d (rb d n) ((data.length + 127) / 128) with
  | none => rw [hw] at h; cases h
  | some r =>
    obtain ⟨o, b⟩ := r
    exact putI_len ((wd_len o b data data.length).trans (wt_len hd hw)) hm32 _ _ _

theorem makeR_len {d p : List UInt8} {kind : Int} (h : (makeR d p kind).2.2 = 0) : (makeR d p kind).2.1.length = 12288 := by
  rw [← make_eq] at h ⊢
  unfold pmakeR at h ⊢
  by_cases h38 : chk38 d ≠ 0
  · rw [if_pos h38] at h
    exact absurd h h38
  rw [if_neg h38] at h ⊢
  have h38 : chk38 d = 0 := by omega
  obtain ⟨h0, hG, hE⟩ := tree_facts h38
  by_cases h1 : (splitR p).2 ≠ 0
  · rw [if_pos h1] at h; cases h
  rw [if_neg h1] at h ⊢
  by_cases h2 : kind ≠ 1 ∧ kind ≠ 2
  · rw [if_pos h2] at h; cases h
  rw [if_neg h2] at h ⊢
  by_cases h3 : (splitR p).1 = []
  · rw [if_pos h3] at h; cases h
  rw [if_neg h3] at h ⊢
  by_cases h4 : ((T0 d).walk (splitR p).1.dropLast 0).2 ≠ 0
  · rw [if_pos h4] at h; exact absurd h h4
  rw [if_neg h4] at h ⊢
  generalize ((T0 d).walk (splitR p).1.dropLast 0).1 = at0 at *
  have hlv : vname ((splitR p).1.getLastD []) = true := splitR_names p _ (List.mem_of_getElem? (getLast_eq h3))
  generalize (splitR p).1.getLastD [] = last at *
  by_cases h5 : ((T0 d).find at0 last).2 = 0
  · rw [if_pos h5] at h; cases h
  rw [if_neg h5] at h ⊢
  by_cases h6 : at0 ∉ (T0 d).dl
  · rw [if_pos h6] at h; cases h
  rw [if_neg h6] at h ⊢
  have h6 : at0 ∈ (T0 d).dl := Classical.byContradiction h6
  cases h7 : fidx ((T0 d).E at0) [] with
  | none => rw [h7] at h; cases h
  | some k =>
    rw [h7] at h
    dsimp only at h ⊢
    have hk := fidx_lt h7
    rw [(T0_ok d).len] at hk
    by_cases h8 : (allocR d kind.toNat).2.2 ≠ 0
    · rw [if_pos h8] at h
      exact absurd h h8
    rw [if_neg h8] at h ⊢
    obtain ⟨g1, g2, n', x', g3, g4, g5, g6, g7, g8⟩ := alloc_ok h0 (kind := kind.toNat) (by omega) (by omega)
    obtain ⟨hat1, hat2⟩ := mem_dl.1 h6
    have hne2 : at0 ≠ n' := fun e => by
      rw [e, g6] at hat2
      cases hat2
    exact wr16_len g2 (chk_zero g1).2 hat1 (by rw [(slot_all (g8 at0 hat1 hne2).1).1]; exact hat2) hk (enB_len (vname_len hlv).2)

theorem unlinkR_len {d p : List UInt8} (h : (unlinkR d p).2 = 0) : (unlinkR d p).1.length = 12288 := by
  unfold unlinkR at h ⊢
  by_cases h1 : chk38 d ≠ 0
  · rw [if_pos h1] at h; exact absurd h h1
  rw [if_neg h1] at h ⊢
  by_cases h2 : (splitR p).2 ≠ 0
  · rw [if_pos h2] at h; cases h
  rw [if_neg h2] at h ⊢
  by_cases h3 : (splitR p).1 = []
  · rw [if_pos h3] at h; cases h
  rw [if_neg h3] at h ⊢
  by_cases h4 : (followR d (splitR p).1 0).2 ≠ 0
  · rw [if_pos h4] at h; exact absurd h h4
  rw [if_neg h4] at h ⊢
  by_cases h5 : (dirR d (followR d (splitR p).1 0).1).2 = 0 ∧ ∃ e ∈ (dirR d (followR d (splitR p).1 0).1).1, e.1 ≠ []
  · rw [if_pos h5] at h; cases h
  rw [if_neg h5] at h ⊢
  exact freeR_len h

theorem doR_len {d : List UInt8} (hd : d.length = 12288) (kind : Int) (p data : List UInt8) : (doR d kind p data).length = 12288 := by
  unfold doR
  split
  · split
    · exact hd
    · exact makeR_len (by omega)
  · split
    · split
      · exact hd
      · exact unlinkR_len (by omega)
    · split
      · split
        · split
          · exact hd
          · exact writeR_len2 (by omega)
        · exact hd
      · exact hd

theorem diskR_len {fd : List UInt8} (hfd : fd.length = 12288) (l : List Opx) : (diskR fd l).length = 12288 := by
  unfold diskR
  have : ∀ (l : List Opx) (d : List UInt8), d.length = 12288 → (l.foldl (fun d x => doR d x.kind x.path x.data) d).length = 12288 := by
    intro l
    induction l with
    | nil => exact fun d h => h
    | cons x l ih => exact fun d h => ih _ (doR_len h x.kind x.path x.data)
  exact this l fd hfd

theorem chk_short {d : List UInt8} (h : d.length ≠ 12288) : chk38 d = 1 := by
  have h1 : chk d = 1 := by
    unfold chk
    rw [if_neg h]
  unfold chk38
  rw [h1]
  rfl

theorem dirsUnlink_spec (l : List Opx) (k : Hd) (hk : k.Ok l.length) (hl : l.length ≤ 4000000000000000000) (hx : ∀ x ∈ l, x.h.Ok x.data.length) (p : List UInt8) :
    PureSpec Tryz.prog 5 [k.v l.length, strV p] (fun w => OpsAt w k.a l) (fun v F => v = .bool true) := by
  have hsz : (ByteArray.mk ⟨p⟩).size = p.length := rfl
  refine PureSpec.of_xc tabOk Tryz.func5 rfl (by decide) (n := Tryz.f5.ntmps - 2) rfl rfl fun w0 av => ?_
  conv => whnf
  refine XCall.val awake_spec (fun w hw => trivial) (fun v D hv => ?_)
  obtain ⟨tr, htr⟩ : ∃ tr, true = tr := ⟨_, rfl⟩
  rw [htr] at hv
  subst hv
  conv => whnf
  repeat (refine XSame.of ?_; conv => whnf)
  refine XIf.no (by rw [← htr]; rfl) ?_
  conv => whnf
  repeat (refine XSame.of ?_; conv => whnf)
  refine XCall.val (few_spec l k hk hl) (fun w hw => hw) (fun v D hv => ?_)
  generalize hfw : fewR l = fw at hv
  subst hv
  conv => whnf
  repeat (refine XSame.of ?_; conv => whnf)
  cases fw
  · conv => whnf
    repeat (refine XSame.of ?_; conv => whnf)
    repeat' (first
      | (refine XIf.yes rfl ?_; conv => whnf))
    exact ⟨_, Ent.refl _, rfl⟩
  obtain ⟨hl20, hall⟩ := few_all hfw
  conv => whnf
  repeat (refine XSame.of ?_; conv => whnf)
  repeat' (first
    | (refine XIf.no rfl ?_; conv => whnf))
  refine XIf.split (fun hlt => ?_) (fun hlt => ?_)
  · conv => whnf
    repeat (refine XSame.of ?_; conv => whnf)
    exact ⟨_, Ent.refl _, rfl⟩
  have hp : p.length ≤ 100 := by
    have h := hlt
    simp [iGt_eq, hsz] at h
    omega
  conv => whnf
  repeat (refine XSame.of ?_; conv => whnf)
  refine XCall.pure (disk_spec l k hk hl20 fun x hxm => ⟨by have := (hall x hxm).1; omega, by have := (hall x hxm).2; omega, hx x hxm⟩) (fun w hw => hw) (fun v D hv => ?_)
  obtain ⟨fd, hF, hd, rfl, hdo, rfl⟩ := hv
  have hle := diskR_len hF.len l
  generalize diskR fd l = d at *
  have hpm := punlink_spec d hd hdo (by omega) p (by omega)
  have hrm := unlink38_spec d hd hdo (by omega) p (by omega)
  generalize unlinkR d p = M at *
  obtain ⟨dd, e⟩ := M
  dsimp only at hpm hrm
  have hcl : (cut d 1 (d.length - 1)).length = d.length - 1 := cut_len (by omega)
  have hcs := hdo.cap
  have hp3 := punlink_spec (cut d 1 (d.length - 1)) (Hd.sub hd 1) (by rw [hcl]; exact Hd.sub_ok hdo (by omega)) (by omega) p (by omega)
  obtain ⟨e3, he3⟩ : ∃ e3 : Nat, e3 = 1 := ⟨_, rfl⟩
  obtain ⟨e4, he4⟩ : ∃ e4 : Nat, e4 = 1 := ⟨_, rfl⟩
  have hu3 : unlinkR (cut d 1 (d.length - 1)) p = ([], e3) := by
    unfold unlinkR
    rw [chk_short (by omega), he3]
    rfl
  rw [hu3, hcl] at hp3
  have hp4 := pmake_spec [] Hd.nil Hd.nil_ok (by decide) p (by omega) 1
  have hu4 : pmakeR [] p 1 = (0, [], e4) := by
    unfold pmakeR
    rw [chk_short (by decide), he4]
    rfl
  rw [hu4] at hp4
  conv => whnf
  repeat (refine XSame.of ?_; conv => whnf)
  refine XCall.pure hpm (fun w hw => hw.2) (fun v D hv => ?_)
  obtain ⟨h1, rfl, ho1, rfl⟩ := hv
  conv => whnf
  repeat (refine XSame.of ?_; conv => whnf)
  refine XCall.pure hrm (fun w hw => hw.1.2) (fun v D hv => ?_)
  obtain ⟨h2, rfl, ho2, rfl⟩ := hv
  conv => whnf
  repeat (refine XSame.of ?_; conv => whnf)
  refine XVal.of_read (XRead.subFrom tabOk (t := 31) rfl rfl rfl rfl 1 rfl (by omega) hcs ?_)
  conv => whnf
  repeat (refine XSame.of ?_; conv => whnf)
  refine XCall.pure hp3 (fun w hw => By.sub hw.1.1.2 (by omega)) (fun v D hv => ?_)
  obtain ⟨h3, rfl, ho3, rfl⟩ := hv
  conv => whnf
  repeat (refine XSame.of ?_; conv => whnf)
  refine XCall.pure hp4 (fun w hw => By.nil w) (fun v D hv => ?_)
  obtain ⟨h4, rfl, ho4, rfl⟩ := hv
  conv => whnf
  repeat (refine XSame.of ?_; conv => whnf)
  refine XVal.of_read (XRead.bytes tabOk (t := 31) (u := 9) rfl rfl rfl rfl rfl rfl (l := dd) (.fact fun w hw => hw.1.1.1.2) rfl ?_)
  conv => whnf
  repeat (refine XSame.of ?_; conv => whnf)
  refine XVal.of_read (XRead.bytes tabOk (t := 31) (u := 9) rfl rfl rfl rfl rfl rfl (l := dd) (.fact fun w hw => hw.1.1.2) rfl ?_)
  conv => whnf
  repeat (refine XSame.of ?_; conv => whnf)
  refine XVal.of_read (XRead.strEq (l := dd) (m := dd) ?_)
  obtain ⟨q, hq⟩ : ∃ q, q = (dd == dd) := ⟨_, rfl⟩
  rw [← hq]
  have hq : q = true := by rw [hq]; simp
  conv => whnf
  repeat (refine XSame.of ?_; conv => whnf)
  refine ⟨_, Ent.refl _, ?_⟩
  subst he3 he4
  simp [hq, iEq_eq]

end Go.Proofs.YtbfpgfopppfhoaaGreatDoor
