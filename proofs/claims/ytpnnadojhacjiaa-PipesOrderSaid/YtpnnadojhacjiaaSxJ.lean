/- Sx, part J: rows of operations, code, functions: what the executor asks is enough. -/
import Derived.Test.YtpnnadojhacjiaaSxI
namespace Go.Sx
set_option linter.unusedVariables false

section
variable {P : Program} {tab : Tab} {w0 : World} {R : Nat → Nat → Prop} {av : Nat → Prop}

/-- What is known of the group that is being walked. -/
def GI (ops : List Oper) (g : Option Grp) (tm : List SV) (a : Array Value) : Prop :=
  ∀ G, g = some G → (∃ oj, ops[G.j]? = some oj ∧ oj.dst = some G.t) ∧ a[G.t]? = some (.bool G.c) ∧ ∀ s, memN G.as s = true → ∃ x, nth .any tm s = .g G.c G.pol x

theorem GI.none (ops : List Oper) (tm : List SV) (a : Array Value) : GI ops none tm a := fun G h => by cases h

theorem yield_at {ops : Array Oper} {j t : Nat} {oj : Oper} (hj : ops.toList[j]? = some oj) (ht : oj.dst = some t) {a : Array Value} {c : Bool} (ha : a[t]? = some (.bool c)) : yielded ops a j = some c := by
  rw [yielded_of (by rw [← Array.getElem?_toList]; exact hj) ht, ha]

theorem yield_not {ops : Array Oper} {j t : Nat} {oj : Oper} (hj : ops.toList[j]? = some oj) (ht : oj.dst = some t) {a : Array Value} {x : Array Value} (ha : a[t]? = some (.tuple x)) : yielded ops a j = none := by
  rw [yielded_of (by rw [← Array.getElem?_toList]; exact hj) ht, ha]

theorem wpOps_step {ops : Array Oper} {Q : Exit → Act → World → Prop} {k : Nat} {rest : List Nat} {o : Oper} {act : Act} {w : World} (ho : ops[k]? = some o)
    (hw : Region.wanted o (yielded ops act.tmps) = true) (h : o.wp P act w (wpOps P ops Q rest) Q) : wpOps P ops Q (k :: rest) act w := by
  simp only [wpOps, ho, hw, if_true]
  exact .inl h

theorem wpOps_pass {ops : Array Oper} {Q : Exit → Act → World → Prop} {k : Nat} {rest : List Nat} {o : Oper} {act : Act} {w : World} (ho : ops[k]? = some o)
    (hw : Region.wanted o (yielded ops act.tmps) = false) (h : wpOps P ops Q rest (act.put o.dst undef) w) : wpOps P ops Q (k :: rest) act w := by
  simp only [wpOps, ho, hw, Bool.false_eq_true, if_false]
  exact h

theorem FrameOk.same {bs : List (Nat × Nat)} {tm : List SV} {a : Array Value} (h : FrameOk bs tm a) {t : Nat} {s : SV} (hs : SVok bs s (a.getD t undef)) : FrameOk bs (tm.set t s) a := by
  refine ⟨by simp [h.len], fun k => ?_⟩
  by_cases hk : t = k
  · subst hk
    by_cases hlt : t < tm.length
    · rw [nth_set_self _ hlt]; exact hs
    · rw [nth_eq, List.getElem?_eq_none (by simp; omega)]; exact trivial
  · rw [nth_set_ne _ hk]; exact h.ok k

theorem put_get {a : Array Value} {d t : Nat} {v x : Value} (h : a[t]? = some x) (hd : d ≠ t) : (Act.put ⟨a, []⟩ (some d) v).tmps[t]? = some x := by
  show (a.setIfInBounds d v)[t]? = _
  rw [Array.getElem?_setIfInBounds_ne hd, h]

theorem act_eta {act : Act} (h : act.defers = []) : act = ⟨act.tmps, []⟩ := by
  cases act
  simp at h
  subst h
  rfl

theorem xops_sound (hT : TabOk P tab) {ops : Array Oper} {Q : Exit → Act → World → Prop} : ∀ (r : List Oper) (k : Nat), ops.toList.drop k = r → ∀ (g : Option Grp) (tm : List SV) (bs : List (Nat × Nat))
    (cs : List (List Value)) (D : Fx) (K : KT) (a : Array Value) (w : World), (∀ act w, LiftN w0 R av K act w → Q .normal act w) → xops P tab w0 R av ops.toList r g tm bs cs D K →
    FrameOk bs tm a → St w0 R av w bs cs D → GI ops.toList g tm a → wpOps P ops Q (List.range' k r.length) ⟨a, []⟩ w
  | [], k, hd, g, tm, bs, cs, D, K, a, w, hQ, h, hf, hst, hg => by
    simp only [List.length_nil, List.range'_zero, wpOps]
    exact hQ _ _ ⟨rfl, tm, bs, cs, D, hf, hst, h⟩
  | o :: r, k, hd, g, tm, bs, cs, D, K, a, w, hQ, h, hf, hst, hg => by
    have ho : ops[k]? = some o := by
      rw [← Array.getElem?_toList]
      have := List.getElem?_drop (xs := ops.toList) (i := k) (j := 0)
      rw [hd] at this
      simpa using this.symm
    have hd' : ops.toList.drop (k + 1) = r := by
      rw [← List.drop_drop, hd]; rfl
    have hrec := xops_sound hT (ops := ops) (Q := Q) r (k + 1) hd'
    simp only [List.length_cons, List.range'_succ]
    have hnext : ∀ act w', LiftN w0 R av (fun tm bs cs D => xops P tab w0 R av ops.toList r none tm bs cs D K) act w' → wpOps P ops Q (List.range' (k + 1) r.length) act w' := by
      intro act w' ⟨hdf, tm', bs', cs', D', h1, h2, h3⟩
      rw [act_eta hdf]
      exact hrec none tm' bs' cs' D' K act.tmps w' hQ h3 h1 h2 (GI.none _ _ _)
    simp only [xops] at h
    cases hgd : o.guard with
    | none =>
      rw [hgd] at h
      refine wpOps_step ho (by unfold Region.wanted; rw [hgd]) ?_
      exact Oper.wp_mono hnext (xop_sound hT hf hst h Q)
    | some jp =>
      obtain ⟨j, pol⟩ := jp
      rw [hgd] at h
      simp only at h
      have hskip : ∀ {tm : List SV}, FrameOk bs tm a → Region.wanted o (yielded ops a) = false → (fin o.dst tm (.v undef) fun tm => xops P tab w0 R av ops.toList r none tm bs cs D K) →
          wpOps P ops Q (k :: List.range' (k + 1) r.length) ⟨a, []⟩ w := by
        intro tm hf hw h
        refine wpOps_pass ho hw (hnext _ _ ?_)
        exact lift_put (s := .v undef) hf rfl hst h
      have hdo : ∀ {tm : List SV}, FrameOk bs tm a → Region.wanted o (yielded ops a) = true → (xop P tab w0 R av o tm bs cs D fun tm bs cs D => xops P tab w0 R av ops.toList r none tm bs cs D K) →
          wpOps P ops Q (k :: List.range' (k + 1) r.length) ⟨a, []⟩ w := by
        intro tm hf hw h
        exact wpOps_step ho hw (Oper.wp_mono hnext (xop_sound hT hf hst h Q))
      -- one more operation of a group
      have hgrp : ∀ (G : Grp) (E : Prop), guardIs o G.j G.pol = true → (∃ oj, ops.toList[G.j]? = some oj ∧ oj.dst = some G.t) → a[G.t]? = some (.bool G.c) →
          (∀ s, memN G.as s = true → ∃ x, nth .any tm s = .g G.c G.pol x) →
          grpK tab o G tm bs cs D (fun G tm bs cs D => xops P tab w0 R av ops.toList r (some G) tm bs cs D K) E →
          E ∨ wpOps P ops Q (k :: List.range' (k + 1) r.length) ⟨a, []⟩ w := by
        intro G E hgo hoj hat hsl h
        obtain ⟨oj, hoj1, hoj2⟩ := hoj
        have hgd' := guardIs_eq hgo
        have hwt : Region.wanted o (yielded ops a) = (some G.c == some G.pol) := by
          rw [wanted_of hgd', yield_at hoj1 hoj2 hat]
        have hlay : ∀ (s : SV) (d : Nat), o.dst = some d → Nat.beq d G.t = false →
            (setK tm d (.g G.c G.pol s) fun tm' => xops P tab w0 R av ops.toList r (some ⟨G.j, G.pol, G.c, d :: G.as, G.t⟩) tm' bs cs D K) →
            ∀ y, SVok bs (.g G.c G.pol s) y → wpOps P ops Q (List.range' (k + 1) r.length) (Act.put ⟨a, []⟩ o.dst y) w := by
          intro s d hdst hne h y hy
          obtain ⟨hlt, h⟩ := setK_iff h
          have hdne : d ≠ G.t := fun e => by subst e; rw [Nat.beq_refl] at hne; cases hne
          rw [hdst]
          refine hrec _ _ _ _ _ K _ w hQ h (hf.set d hy) hst ?_
          intro G' hG'
          cases hG'
          refine ⟨⟨oj, hoj1, hoj2⟩, put_get hat hdne, fun t ht => ?_⟩
          rcases memN_cons ht with rfl | ht
          · exact ⟨s, nth_set_self _ hlt⟩
          · by_cases hdt : d = t
            · subst hdt; exact ⟨s, nth_set_self _ hlt⟩
            · rw [nth_set_ne _ hdt]; exact hsl t ht
        unfold grpK at h
        by_cases hcp : G.c = G.pol
        · rcases xpure_sound hT hf (c := G.c) (pol := G.pol) ⟨hsl, fun _ => hcp⟩ h with h | ⟨v, s, h1, h2, h3⟩
          · exact .inl h
          · cases hdo' : o.dst with
            | none => rw [hdo'] at h3; exact h3.elim
            | some d =>
              rw [hdo'] at h3
              simp only at h3
              split at h3
              · exact h3.elim
              · rename_i hbq
                refine .inr (wpOps_step ho (by show Region.wanted o (yielded ops a) = true; rw [hwt, hcp]; simp) ?_)
                exact wp_of_value (h1 w fun _ => hst.box) (hlay s d hdo' hbq h3 v (fun _ => h2))
        · rcases xpure_K h with h | ⟨s, h3⟩
          · exact .inl h
          · cases hdo' : o.dst with
            | none => rw [hdo'] at h3; exact h3.elim
            | some d =>
              rw [hdo'] at h3
              simp only at h3
              split at h3
              · exact h3.elim
              · rename_i hbq
                refine .inr (wpOps_pass ho (by show Region.wanted o (yielded ops a) = false; rw [hwt]; simpa using hcp) ?_)
                exact hlay s d hdo' hbq h3 undef (fun e => absurd e hcp)
      have hfresh : freshK P tab w0 R av ops.toList o r j pol tm bs cs D (fun tm bs cs D => xops P tab w0 R av ops.toList r none tm bs cs D K)
          (fun G tm bs cs D => xops P tab w0 R av ops.toList r (some G) tm bs cs D K) → wpOps P ops Q (k :: List.range' (k + 1) r.length) ⟨a, []⟩ w := by
        intro h
        unfold freshK guardK at h
        obtain ⟨hjl, h⟩ := nthK_iff o h
        have hj : ops.toList[j]? = some (nth o ops.toList j) := by rw [nth_eq, List.getElem?_eq_getElem hjl]; rfl
        generalize nth o ops.toList j = oj at h hj
        cases hdj : oj.dst with
        | none => rw [hdj] at h; exact h.elim
        | some t =>
          rw [hdj] at h
          simp only at h
          obtain ⟨htl, h⟩ := nthK_iff SV.any h
          have hta : t < a.size := by rw [← hf.len]; exact htl
          have hok := hf.ok t
          split at h
          · rename_i c hsv
            rw [hsv] at hok
            have hat : a[t]? = some (.bool c) := getD_of hta hok
            have hwt : Region.wanted o (yielded ops a) = (some c == some pol) := by rw [wanted_of hgd, yield_at hj hdj hat]
            have hcut : cutK P tab w0 R av o pol c t tm bs cs D (fun tm bs cs D => xops P tab w0 R av ops.toList r none tm bs cs D K) →
                wpOps P ops Q (k :: List.range' (k + 1) r.length) ⟨a, []⟩ w := by
              intro h
              unfold cutK at h
              cases pol <;> cases c
              · obtain ⟨_, h⟩ := setK_iff h
                exact hdo (hf.same hok) (by rw [hwt]; rfl) h
              · obtain ⟨_, h⟩ := setK_iff h
                exact hskip (hf.same hok) (by rw [hwt]; rfl) h
              · obtain ⟨_, h⟩ := setK_iff h
                exact hskip (hf.same hok) (by rw [hwt]; rfl) h
              · obtain ⟨_, h⟩ := setK_iff h
                exact hdo (hf.same hok) (by rw [hwt]; rfl) h
            split at h
            · rcases hgrp ⟨j, pol, c, [], t⟩ _ (by unfold guardIs; rw [hgd]; simp only [Nat.beq_refl]; cases pol <;> rfl) ⟨oj, hj, hdj⟩ hat (fun s hs => by simp [memN] at hs) h with h | h
              · exact hcut h
              · exact h
            · exact hcut h
          · rename_i x hsv
            rw [hsv] at hok
            have hat : a[t]? = some (.tuple x) := getD_of hta hok
            exact hskip hf (by rw [wanted_of hgd, yield_not hj hdj hat]; rfl) h
          · exact h.elim
      cases hgg : g with
      | none => rw [hgg] at h; exact hfresh h
      | some G =>
        rw [hgg] at h
        simp only at h
        split at h
        · rename_i hgi
          obtain ⟨hoj, hat, hsl⟩ := hg G hgg
          rcases hgrp G _ hgi hoj hat hsl h with h | h
          · exact h.elim
          · exact h
        · exact hfresh h

/-! ### code -/

theorem xc_sound (hT : TabOk P tab) : ∀ (c : Code) (tm : List SV) (bs : List (Nat × Nat)) (cs : List (List Value)) (D : Fx) (K : Exit → KT) (a : Array Value) (w : World),
    xc P tab w0 R av c tm bs cs D K → FrameOk bs tm a → St w0 R av w bs cs D → c.wp P (Lift w0 R av K) ⟨a, []⟩ w := by
  intro c
  induction c with
  | skip => exact fun tm bs cs D K a w h hf hst => wp_skip ⟨rfl, tm, bs, cs, D, hf, hst, h⟩
  | region id ops draw =>
    intro tm bs cs D K a w h hf hst
    cases draw with
    | true =>
      simp only [xc] at h
      exact XStop_iff.1 h a w hf hst
    | false =>
      refine wp_region ?_
      rw [List.range_eq_range']
      have h' : xops P tab w0 R av ops.toList ops.toList none tm bs cs D (K .normal) := by
        obtain ⟨l⟩ := ops
        simpa only [xc] using h
      have := xops_sound hT (ops := ops) (Q := Lift w0 R av K) ops.toList 0 rfl none tm bs cs D (K .normal) a w (fun act w h => h) h' hf hst (GI.none _ _ _)
      rwa [Array.length_toList] at this
  | seq x y ihx ihy =>
    intro tm bs cs D K a w h hf hst
    simp only [xc] at h
    refine wp_seq (wp_mono (ihx _ _ _ _ _ _ _ h hf hst) ?_)
    rintro e act w' ⟨hd, tm', bs', cs', D', h1, h2, h3⟩
    rw [act_eta hd]
    cases e with
    | normal => exact ihy _ _ _ _ _ _ _ h3 h1 h2
    | _ => exact ⟨rfl, tm', bs', cs', D', h1, h2, h3⟩
  | cond c x y ihx ihy =>
    intro tm bs cs D K a w h hf hst
    simp only [xc] at h
    obtain ⟨s, hs, h⟩ := evG_sound hf (GOk.nil tm) h
    split at h
    · rename_i t
      cases t
      · exact wp_cond_false hs (ihy _ _ _ _ _ _ _ h hf hst)
      · exact wp_cond_true hs (ihx _ _ _ _ _ _ _ h hf hst)
    · exact h.elim
  | block id c ih =>
    intro tm bs cs D K a w h hf hst
    simp only [xc] at h
    refine wp_block (wp_mono (ih _ _ _ _ _ _ _ h hf hst) ?_)
    rintro e act w' ⟨hd, tm', bs', cs', D', h1, h2, h3⟩
    cases e with
    | exit i =>
      simp only at h3
      unfold Exit.inBlock
      simp only
      split at h3
      · rename_i hb
        rw [if_pos (Nat.eq_of_beq_eq_true hb)]
        exact ⟨hd, tm', bs', cs', D', h1, h2, h3⟩
      · rename_i hb
        rw [if_neg (fun e => by subst e; rw [Nat.beq_refl] at hb; cases hb)]
        exact ⟨hd, tm', bs', cs', D', h1, h2, h3⟩
    | _ => exact ⟨hd, tm', bs', cs', D', h1, h2, h3⟩
  | ret => exact fun tm bs cs D K a w h hf hst => wp_ret ⟨rfl, tm, bs, cs, D, hf, hst, h⟩
  | exit id => exact fun tm bs cs D K a w h hf hst => wp_exit ⟨rfl, tm, bs, cs, D, hf, hst, h⟩
  | loop c _ => exact fun tm bs cs D K a w h hf hst => by simp only [xc] at h; exact XStop_iff.1 h a w hf hst
  | rangeFunc f ps x y _ _ => exact fun tm bs cs D K a w h hf hst => by simp only [xc] at h; exact XStop_iff.1 h a w hf hst
  | scope c _ => exact fun tm bs cs D K a w h hf hst => by simp only [xc] at h; exact XStop_iff.1 h a w hf hst
  | label l => exact fun tm bs cs D K a w h hf hst => by simp only [xc] at h; exact XStop_iff.1 h a w hf hst
  | goto l => exact fun tm bs cs D K a w h hf hst => by simp only [xc] at h; exact XStop_iff.1 h a w hf hst
  | refuse s => exact fun tm bs cs D K a w h hf hst => by simp only [xc] at h; exact XStop_iff.1 h a w hf hst

end
end Go.Sx
