/- Parts of the proof: NyW. -/
import Derived.Test.YtbfpgfopppfhoaaGreatDoorQS
import Derived.Test.YtbfpgfopppfhoaaGreatDoorQT
namespace Go.Proofs.YtbfpgfopppfhoaaGreatDoor
open Go Go.Sx
set_option maxRecDepth 100000
set_option maxHeartbeats 4000000
set_option linter.unusedVariables false
set_option linter.unusedSimpArgs false

theorem dirsRemoves_spec (l : List Opx) (k : Hd) (hk : k.Ok l.length) (hl : l.length ≤ 4000000000000000000) (hx : ∀ x ∈ l, x.h.Ok x.data.length) (p : List UInt8) :
    PureSpec Tryz.prog 8 [k.v l.length, strV p] (fun w => OpsAt w k.a l) (fun v F => v = .bool true) := by
  have hsz : (ByteArray.mk ⟨p⟩).size = p.length := rfl
  refine PureSpec.of_xc tabOk Tryz.func8 rfl (by decide) (n := Tryz.f8.ntmps - 2) rfl rfl fun w0 av => ?_
  conv => whnf
  refine XCall.val awake_spec (fun w hw => trivial) (fun v D hv => ?_)
  obtain ⟨tr, htr⟩ : ∃ tr, true = tr := ⟨_, rfl⟩
  rw [htr] at hv
  subst hv
  conv => whnf
  repeat (refine XSame.of ?_; conv => whnf)
  refine XIf.no (by rw [← htr]; rfl) ?_
  conv => whnf
  repeat (refine XSame.of ?_; conv => whnf)
  refine XCall.val (few_spec l k hk hl) (fun w hw => hw) (fun v D hv => ?_)
  generalize hfw : fewR l = fw at hv
  subst hv
  conv => whnf
  repeat (refine XSame.of ?_; conv => whnf)
  cases fw
  · conv => whnf
    repeat (refine XSame.of ?_; conv => whnf)
    repeat' (first
      | (refine XIf.yes rfl ?_; conv => whnf))
    exact ⟨_, Ent.refl _, rfl⟩
  obtain ⟨hl20, hall⟩ := few_all hfw
  conv => whnf
  repeat (refine XSame.of ?_; conv => whnf)
  repeat' (first
    | (refine XIf.no rfl ?_; conv => whnf))
  refine XIf.split (fun hlt => ?_) (fun hlt => ?_)
  · conv => whnf
    repeat (refine XSame.of ?_; conv => whnf)
    exact ⟨_, Ent.refl _, rfl⟩
  have hp : p.length ≤ 100 := by
    have h := hlt
    simp [iGt_eq, hsz] at h
    omega
  conv => whnf
  repeat (refine XSame.of ?_; conv => whnf)
  refine XCall.pure (disk_spec l k hk hl20 fun x hxm => ⟨by have := (hall x hxm).1; omega, by have := (hall x hxm).2; omega, hx x hxm⟩) (fun w hw => hw) (fun v D hv => ?_)
  obtain ⟨fd, hF, hd, rfl, hdo, rfl⟩ := hv
  have hle := diskR_le hF.len l
  have h38 := diskR_ok hF l
  generalize diskR fd l = d at *
  have hdl := chk38_len h38
  have hpd := ppaths_spec d hd hdo hle
  have hpm := punlink_spec d hd hdo hle p (by omega)
  have hrem := removes_all (d := d) (p := p)
  have herr := unlinkR_err (d := d) (p := p)
  generalize unlinkR d p = M at *
  obtain ⟨e, er⟩ := M
  dsimp only at hpm hrem herr
  conv => whnf
  repeat (refine XSame.of ?_; conv => whnf)
  refine XCall.pure hpd (fun w hw => hw.2) (fun v D hv => ?_)
  obtain ⟨ba, ca, Ca, hOa, rfl, rfl⟩ := relPaths_ok h38 hv
  conv => whnf
  repeat (refine XSame.of ?_; conv => whnf)
  refine XCall.pure hpm (fun w hw => hw.1.2) (fun v D hv => ?_)
  obtain ⟨h1, rfl, ho1, rfl⟩ := hv
  dsimp only at ho1 ⊢
  conv => whnf
  repeat (refine XSame.of ?_; conv => whnf)
  refine XIf.split (fun hq => ?_) (fun hq => ?_)
  · have hq' : er ≠ 0 := by
      simp [iNe_eq] at hq
      omega
    rw [herr hq']
    conv => whnf
    repeat (refine XSame.of ?_; conv => whnf)
    refine ⟨_, Ent.refl _, ?_⟩
    simp [iEq_eq]
  have hq' : er = 0 := by
    simp [iNe_eq] at hq
    omega
  clear herr
  obtain ⟨-, t2, t3, t4, t5, t6, t7⟩ := hrem hq'
  have hel := chk38_len t2
  have hpe := ppaths_spec e h1 ho1 (by omega)
  have hwe := dwalk_spec e h1 ho1 (by omega) p (by omega)
  have hch := changes_spec d e hd h1 hdo ho1 hdl hel
  have hck := pcheck38_spec e h1 ho1 (by omega)
  rw [t2] at hck
  conv => whnf
  repeat (refine XSame.of ?_; conv => whnf)
  refine XCall.pure hpe (fun w hw => hw.2) (fun v D hv => ?_)
  obtain ⟨be, ce, Ce, hOe, rfl, rfl⟩ := relPaths_ok t2 hv
  have hpl := pathsP_len h38
  have hple := pathsP_len t2
  have hpsh := fun a (ha : a ∈ pathsP e) => pathsP_short t2 ha
  generalize pathsP d = L at *
  generalize pathsP e = Le at *
  generalize changedN d e 96 = cn at *
  generalize walkR e p = we at *
  obtain ⟨wn, we⟩ := we
  dsimp only at hwe t3
  conv => whnf
  repeat (refine XSame.of ?_; conv => whnf)
  refine XCall.val hch (fun w hw => ⟨hw.1.1.1.2, hw.1.2⟩) (fun v D hv => ?_)
  obtain ⟨ac, cc, rfl⟩ := hv
  conv => whnf
  repeat (refine XSame.of ?_; conv => whnf)
  refine XCall.val hwe (fun w hw => hw.1.2) (fun v D hv => ?_)
  unfold RelII at hv
  subst hv
  conv => whnf
  repeat (refine XSame.of ?_; conv => whnf)
  generalize hcc : (_ && iLe (cn : Int) 4) = c
  have hc : c = true := by
    rw [← hcc]
    simp [iEq_eq, iLe_eq, t3]
    omega
  cases c
  · cases hc
  clear hcc hc
  conv => whnf
  repeat (refine XSame.of ?_; conv => whnf)
  refine XCall.val hck (fun w hw => hw.1.2) (fun v D hv => ?_)
  subst hv
  conv => whnf
  repeat (refine XSame.of ?_; conv => whnf)
  have hw1 : IntKind.i64.wrap ((L.length : Int) - 1) = (Le.length : Int) := by rw [wrap_i64 (by omega)]; omega
  generalize hcc : (_ && iEq (Le.length : Int) _) = c
  have hc : c = true := by
    rw [← hcc, hw1]
    simp [iEq_eq]
  cases c
  · cases hc
  clear hcc hc
  have hws := without_spec ⟨some ⟨ba, 0, none⟩, ca⟩ L ⟨fun h => (by cases h), hOa.fit⟩ (by omega) p
  rw [t6] at hws
  have hks := kept_spec d e hd h1 ⟨some ⟨be, 0, none⟩, ce⟩ Le p hdo ho1 ⟨fun h => (by cases h), hOe.fit⟩ hle (by omega) (by omega) (fun a ha => by have := (hpsh a ha).1; omega) (fun a ha _ => t7 a ha)
  conv => whnf
  repeat (refine XSame.of ?_; conv => whnf)
  refine XCall.ent (F' := ⟨fun w => (By w hd d ∧ By w h1 e) ∧ StrAt w ⟨some ⟨ba, 0, none⟩, ca⟩ L ∧ StrAt w ⟨some ⟨be, 0, none⟩, ce⟩ Le, []⟩) (Ent.shareAll.trans (Ent.imp fun w hw => ?_)) ?_
  · obtain ⟨hD, hr1, hr2, -⟩ := hw
    exact ⟨⟨hD.1.1.1.2, hD.1.2⟩, Own.row hOa hr1, Own.row hOe hr2⟩
  refine XCall.pure hws (fun w hw => hw.2.1) (fun v D hv => ?_)
  obtain ⟨kw, rfl, hkw, rfl⟩ := hv
  have hsame := sameG_spec ⟨some ⟨be, 0, none⟩, ce⟩ kw Le Le ⟨fun h => (by cases h), hOe.fit⟩ hkw (by omega) (by omega)
  obtain ⟨q, hq⟩ : ∃ q, q = (Le == Le) := ⟨_, rfl⟩
  rw [← hq] at hsame
  have hq : q = true := by rw [hq]; simp
  conv => whnf
  repeat (refine XSame.of ?_; conv => whnf)
  refine XCall.val hsame (fun w hw => ⟨hw.1.2.2, hw.2⟩) (fun v D hv => ?_)
  subst hv
  subst hq
  conv => whnf
  repeat (refine XSame.of ?_; conv => whnf)
  refine XCall.val hks (fun w hw => ⟨hw.1.1, hw.1.2.2⟩) (fun v D hv => ?_)
  subst hv
  conv => whnf
  repeat (refine XSame.of ?_; conv => whnf)
  exact ⟨_, Ent.refl _, rfl⟩

end Go.Proofs.YtbfpgfopppfhoaaGreatDoor
