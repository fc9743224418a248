/- Parts of the proof: NyS, NyT, NyU. -/
import Derived.Test.YtbfpgfopppfhoaaGreatDoorQS
import Derived.Test.YtbfpgfopppfhoaaGreatDoorQN
namespace Go.Proofs.YtbfpgfopppfhoaaGreatDoor
open Go Go.Sx
set_option maxRecDepth 100000
set_option linter.unusedVariables false
set_option linter.unusedSimpArgs false

/-- What has been taken for an inode. -/
structure Wt (d : List UInt8) (n : Nat) (i : Nat) (o : List UInt8) (b : Nat → Nat) : Prop where
  len : o.length = 12288
  has : ∀ q, q < i → b q ≠ 0
  old : ∀ q, rb d n q ≠ 0 → b q = rb d n q
  rest : ∀ q, i ≤ q → b q = rb d n q
  new : ∀ q, q < 12 → b q ≠ 0 → rb d n q = 0 → 18 ≤ b q ∧ b q < 96 ∧ getB (bmp d) (b q) = false ∧ ∀ r, r < 128 → byt o (128 * b q + r) = 0
  inj : ∀ q q', q < 12 → q' < 12 → b q ≠ 0 → b q = b q' → q = q'
  bits : ∀ j, getB (bmp o) j = true ↔ getB (bmp d) j = true ∨ ∃ q, q < 12 ∧ b q ≠ 0 ∧ b q = j
  byts : ∀ m, ¬ (1664 ≤ m ∧ m < 1676) → (∀ q, q < 12 → b q ≠ 0 → rb d n q = 0 → m / 128 ≠ b q) → byt o m = byt d m

theorem wt_inv {d : List UInt8} (hok : Ok37 d) (hd : d.length = 12288) {n : Nat} (hn : n < 32) : ∀ {i : Nat} {o : List UInt8} {b : Nat → Nat}, i ≤ 12 → wt d (rb d n) i = some (o, b) → Wt d n i o b
  | 0, o, b, _, h => by
    cases h
    refine ⟨hd, fun q hq => by omega, fun q _ => rfl, fun q _ => rfl, fun q hq h1 h2 => absurd h2 h1, fun q q' hq hq' h1 h2 => ?_, fun j => ?_, fun m _ _ => rfl⟩
    · have hnd := (ok_parts hok).1 n hn
      refine Classical.byContradiction fun hne => ?_
      have key : ∀ a c : Nat, a < c → c < 12 → rb d n a ≠ 0 → rb d n a = rb d n c → False := fun a c hac hc ha he => by
        unfold part at hnd
        have h3 : List.Pairwise (fun x y : Nat => x ≠ y) (((List.range 12).map (rb d n)).filter (· ≠ 0)) := hnd
        rw [List.filter_map] at h3
        have h4 := List.pairwise_map.1 h3
        have h5 : (List.range 12).Pairwise fun x y => rb d n x ≠ 0 → rb d n y ≠ 0 → rb d n x ≠ rb d n y := by
          have := List.pairwise_filter.1 h4
          refine this.imp fun {x y} hxy hx hy => hxy (by simpa using hx) (by simpa using hy)
        rw [List.pairwise_iff_getElem] at h5
        have := h5 a c (by simp; omega) (by simp; omega) hac
        simp only [List.getElem_range] at this
        exact this ha (by rw [← he]; exact ha) he
      rcases Nat.lt_or_gt_of_ne hne with h5 | h5
      · exact key q q' h5 hq' h1 h2
      · exact key q' q h5 hq (by rw [← h2]; exact h1) h2.symm
    · constructor
      · exact .inl
      · rintro (h | ⟨q, hq, h1, h2⟩)
        · exact h
        · exact (ok_bit hok j).2 (.inr ⟨n, hn, mem_part.2 ⟨by rw [← h2]; exact h1, q, hq, h2⟩⟩)
  | i + 1, o, b, hi, h => by
    unfold wt at h
    cases hw : wt d (rb d n) i with
    | none => rw [hw] at h; cases h
    | some r =>
      obtain ⟨o1, b1⟩ := r
      have W := wt_inv hok hd hn (by omega) hw
      rw [hw] at h
      try dsimp only at h
      by_cases hb : b1 i = 0
      · rw [if_pos hb] at h
        cases hx : freeB (bmp o1) with
        | none => rw [hx] at h; cases h
        | some x =>
          rw [hx] at h
          cases h
          obtain ⟨hx1, hx2⟩ := freeB_lt hx
          have hxc := freeB_clear hx
          have hbl := bmp_len W.len
          have hpb : (putB (bmp o1) x true).length = 12 := by rw [putB_len, hbl]
          have hz : (List.replicate 128 (0 : UInt8)).length = 128 := List.length_replicate
          have htl := takeD_len W.len hx2
          have hsl := setBmp_len W.len hpb
          have htb : ∀ m, byt (takeD o1 x) m = if 128 * x ≤ m ∧ m < 128 * x + 128 then byt (List.replicate 128 0) (m - 128 * x) else if 1664 ≤ m ∧ m < 1676 then byt (putB (bmp o1) x true) (m - 1664) else byt o1 m := fun m => by
            unfold takeD
            rw [byt_lay (by rw [hz]; omega), hz, byt_setBmp W.len hpb]
          have hzz : ∀ r, byt (List.replicate 128 (0 : UInt8)) r = 0 := fun r => by
            unfold byt
            rw [List.getD_eq_getElem?_getD, List.getElem?_replicate]
            split <;> rfl
          have hri : rb d n i = 0 := by rw [← W.rest i (Nat.le_refl _)]; exact hb
          have hxn : ∀ q, q < 12 → b1 q ≠ 0 → b1 q ≠ x := fun q hq h1 h2 => by
            have := (W.bits x).2 (.inr ⟨q, hq, h1, h2⟩)
            rw [hxc] at this
            cases this
          have hxd : getB (bmp d) x = false := by
            cases hg : getB (bmp d) x with
            | false => rfl
            | true =>
              have := (W.bits x).2 (.inl hg)
              rw [hxc] at this
              cases this
          have hbe : bmp (takeD o1 x) = putB (bmp o1) x true := by
            refine byt_ext (by rw [bmp_len htl, hpb]) fun r hr => ?_
            rw [bmp_len htl] at hr
            unfold bmp
            rw [byt_cut (by omega) hr, htb, if_neg (by omega), if_pos (by omega)]
            congr 1
            omega
          refine ⟨htl, fun q hq => ?_, fun q h1 => ?_, fun q hq => ?_, fun q hq h1 h2 => ?_, fun q q' hq hq' h1 h2 => ?_, fun j => ?_, fun m h1 h2 => ?_⟩
          · try dsimp only
            by_cases h5 : q = i
            · rw [if_pos h5]; omega
            · rw [if_neg h5]; exact W.has q (by omega)
          · try dsimp only
            rw [if_neg (fun h => by rw [h] at h1; exact h1 hri)]
            exact W.old q h1
          · try dsimp only
            rw [if_neg (by omega)]
            exact W.rest q (by omega)
          · try dsimp only at h1 ⊢
            by_cases h5 : q = i
            · rw [if_pos h5]
              exact ⟨hx1, hx2, hxd, fun r hr => by rw [htb, if_pos (by omega)]; exact hzz _⟩
            · rw [if_neg h5] at h1 ⊢
              obtain ⟨a1, a2, a3, a4⟩ := W.new q hq h1 h2
              have := hxn q hq h1
              exact ⟨a1, a2, a3, fun r hr => by rw [htb, if_neg (by omega), if_neg (by omega)]; exact a4 r hr⟩
          · try dsimp only at h1 h2
            by_cases h5 : q = i
            · rw [if_pos h5] at h1 h2
              by_cases h6 : q' = i
              · rw [h5, h6]
              · rw [if_neg h6] at h2
                exact absurd h2.symm (hxn q' hq' (by omega))
            · rw [if_neg h5] at h1 h2
              by_cases h6 : q' = i
              · rw [if_pos h6] at h2
                exact absurd h2 (hxn q hq h1)
              · rw [if_neg h6] at h2
                exact W.inj q q' hq hq' h1 h2
          · rw [hbe, getB_put true (by rw [hbl]; omega)]
            by_cases hj : j = x
            · rw [if_pos hj]
              exact ⟨fun _ => .inr ⟨i, by omega, by (try dsimp only); rw [if_pos rfl]; omega, by (try dsimp only); rw [if_pos rfl]; exact hj.symm⟩, fun _ => rfl⟩
            · rw [if_neg hj, W.bits]
              constructor
              · rintro (h | ⟨q, hq, h1, h2⟩)
                · exact .inl h
                · have : q ≠ i := fun h => by rw [h] at h1; exact h1 hb
                  exact .inr ⟨q, hq, by (try dsimp only); rw [if_neg this]; exact h1, by (try dsimp only); rw [if_neg this]; exact h2⟩
              · rintro (h | ⟨q, hq, h1, h2⟩)
                · exact .inl h
                · try dsimp only at h1 h2
                  by_cases h5 : q = i
                  · rw [if_pos h5] at h2
                    exact absurd h2.symm hj
                  · rw [if_neg h5] at h1 h2
                    exact .inr ⟨q, hq, h1, h2⟩
          · have hmx : m / 128 ≠ x := by
              have := h2 i (by omega) (by (try dsimp only); rw [if_pos rfl]; omega) hri
              try dsimp only at this
              rwa [if_pos rfl] at this
            rw [htb, if_neg (by omega), if_neg h1]
            refine W.byts m h1 fun q hq h3 h4 => ?_
            have h5 : q ≠ i := fun h => by rw [h] at h3; exact h3 hb
            have := h2 q hq (by (try dsimp only); rw [if_neg h5]; exact h3) h4
            try dsimp only at this
            rwa [if_neg h5] at this
      · rw [if_neg hb] at h
        cases h
        exact ⟨W.len, fun q hq => by
          by_cases h5 : q = i
          · rw [h5]; exact hb
          · exact W.has q (by omega), W.old, fun q hq => W.rest q (by omega), W.new, W.inj, W.bits, W.byts⟩

theorem wd_bytes {o data : List UInt8} {b : Nat → Nat} (ho : o.length = 12288) (hb : ∀ q, q < 12 → b q < 96) (hinj : ∀ q q', q < 12 → q' < 12 → b q ≠ 0 → b q = b q' → q = q') (hhas : ∀ q, 128 * q < data.length → b q ≠ 0) (hl : data.length ≤ 1536) : ∀ k, k ≤ data.length →
    (∀ q r, q < 12 → r < 128 → b q ≠ 0 → k ≤ 128 * q + r → byt (wd o b data k) (128 * b q + r) = byt o (128 * b q + r)) ∧ (∀ m, (∀ q, q < 12 → b q ≠ 0 → m / 128 ≠ b q) → byt (wd o b data k) m = byt o m)
  | 0, _ => ⟨fun q r _ _ _ _ => rfl, fun m _ => rfl⟩
  | k + 1, hk => by
    obtain ⟨ih1, ih2⟩ := wd_bytes ho hb hinj hhas hl k (by omega)
    have hkb := hb (k / 128) (by omega)
    have hk0 := hhas (k / 128) (by omega)
    have hput : ∀ m, byt (wd o b data (k + 1)) m = if m = 128 * b (k / 128) + k % 128 then byt data k else byt (wd o b data k) m := fun m => by
      show byt (bput (wd o b data k) _ _) m = _
      rw [byt_bput (by rw [wd_len]; omega) (byt_lt _ _)]
    refine ⟨fun q r hq hr h0 hkr => ?_, fun m hm => ?_⟩
    · rw [hput, if_neg fun h => ?_, ih1 q r hq hr h0 (by omega)]
      have h5 : b q = b (k / 128) := by omega
      have := hinj q (k / 128) hq (by omega) h0 h5
      omega
    · have := hm (k / 128) (by omega) hk0
      rw [hput, if_neg (by omega), ih2 m hm]

/-- Writing to a file leaves a tree. -/
theorem write_ok {d : List UInt8} (h38 : chk38 d = 0) {n : Nat} (hg : gete d n = 0) (hk : rk d n = 1) {data : List UInt8} (he : (writeR d n data).2 = 0) : chk38 (writeR d n data).1 = 0 := by
  obtain ⟨h0, hG, hE⟩ := tree_facts h38
  obtain ⟨hd, hok⟩ := chk_zero h0
  obtain ⟨hn, -⟩ := (gete_iff h0).1 hg
  obtain ⟨p1, p2⟩ := ok_parts hok
  have hn0 : n ≠ 0 := fun h => by
    have := (mem_dl.1 (root_in h0)).2
    rw [h] at hk
    omega
  unfold writeR at he ⊢
  rw [if_neg (by rw [hg]; simp)] at he ⊢
  by_cases hdl : data.length = 0
  · rw [if_pos hdl]
    exact h38
  rw [if_neg hdl, if_neg (show ¬ rk d n = 2 by omega)] at he ⊢
  by_cases hbig : 1536 < data.length
  · rw [if_pos hbig] at he; cases he
  rw [if_neg hbig] at he ⊢
  cases hw : wt d (rb d n) ((data.length + 127) / 128) with
  | none => rw [hw] at he; cases he
  | some r =>
    obtain ⟨o, b⟩ := r
    dsimp only
    have W := wt_inv hok hd hn (by omega) hw
    have hsz := form_size (hok.form n hn)
    have hb96 : ∀ q, q < 12 → b q < 96 := fun q hq => by
      by_cases h1 : b q = 0
      · omega
      · by_cases h2 : rb d n q = 0
        · exact (W.new q hq h1 h2).2.1
        · rw [W.old q h2]
          exact ok_blocks hok hn hq
    have hb18 : ∀ q, q < 12 → b q ≠ 0 → 18 ≤ b q := fun q hq h1 => by
      by_cases h2 : rb d n q = 0
      · exact (W.new q hq h1 h2).1
      · rw [W.old q h2]
        exact (form_blocks (hok.form n hn) q hq h2).1
    have hD := wd_bytes (data := data) W.len hb96 W.inj (fun q hq => W.has q (by omega)) (by omega) data.length (Nat.le_refl _)
    obtain ⟨D1, D2⟩ := hD
    have hwl : (wd o b data data.length).length = 12288 := by rw [wd_len, W.len]
    generalize wd o b data data.length = w at *
    obtain ⟨s, hs⟩ : ∃ s, s = max (rs d n) data.length := ⟨_, rfl⟩
    rw [← hs, hk]
    have hs1 : rs d n ≤ s ∧ data.length ≤ s ∧ s ≤ 1536 := by omega
    have hpl := putI_len hwl hn 1 s b
    obtain ⟨f1, f2, f3, f4⟩ := putI_fields hwl hn 1 s b (by decide) (by omega) (fun i hi => by have := hb96 i hi; omega)
    have hpb := byt_putI hwl hn 1 s b
    generalize putI w n 1 s b = e at *
    have hby : ∀ m, ¬ (1792 + 16 * n ≤ m ∧ m < 1792 + 16 * n + 16) → ¬ (1664 ≤ m ∧ m < 1676) → (∀ q, q < 12 → b q ≠ 0 → m / 128 ≠ b q) → byt e m = byt d m := fun m h1 h2 h3 => by
      rw [hpb, if_neg h1, D2 m h3, W.byts m h2 fun q hq h4 _ => h3 q hq h4]
    have hlow : ∀ m, m / 128 < 18 → ∀ q, q < 12 → b q ≠ 0 → m / 128 ≠ b q := fun m hm q hq h => by have := hb18 q hq h; omega
    have hbe : bmp e = bmp o := by
      refine byt_ext (by rw [bmp_len hpl, bmp_len W.len]) fun r hr => ?_
      rw [bmp_len hpl] at hr
      have hol := W.len
      unfold bmp
      rw [byt_cut (by omega) hr, byt_cut (by omega) hr, hpb, if_neg (by omega), D2 _ (hlow _ (by omega))]
    have hpe : ∀ x, x ∈ part e n 12 ↔ x ≠ 0 ∧ ∃ q, q < 12 ∧ b q = x := fun x => by
      rw [mem_part]
      constructor
      · rintro ⟨h1, q, hq, h2⟩; exact ⟨h1, q, hq, by rw [← f3 q hq]; exact h2⟩
      · rintro ⟨h1, q, hq, h2⟩; exact ⟨h1, q, hq, by rw [f3 q hq]; exact h2⟩
    have hoth : ∀ m, m < 32 → m ≠ n → ∀ y ∈ part d m 12, ∀ q, q < 12 → b q ≠ 0 → y ≠ b q := fun m hm hmn y hy q hq h1 h2 => by
      by_cases h3 : rb d n q = 0
      · have h4 := (W.new q hq h1 h3).2.2.1
        have := (ok_bit hok y).2 (.inr ⟨m, hm, hy⟩)
        rw [h2, h4] at this
        cases this
      · have h5 := W.old q h3
        exact p2 m n hm hn hmn y hy (mem_part.2 ⟨by rw [h2]; exact h1, q, hq, by rw [h2, h5]⟩)
    have hslot : ∀ m, m < 32 → m ≠ n → SlotSame d e m := fun m hm hmn r hr => hby _ (by omega) (by omega) (hlow _ (by omega))
    have hblk : ∀ m, m < 32 → m ≠ n → ∀ y ∈ part d m 12, ∀ i, 128 * y ≤ i → i < 128 * y + 128 → byt e i = byt d i := fun m hm hmn y hy i a c => by
      have := (part_rng hok hm hy).1
      have h5 : i / 128 = y := by omega
      exact hby i (by omega) (by omega) fun q hq h1 => by rw [h5]; exact hoth m hm hmn y hy q hq h1
    have hOk : Ok37 e := by
      refine ok_change hok hd hpl hn (fun m hm => hby m (by omega) (by omega) (hlow m (by omega))) (fun m a c => hby m (by omega) (by omega) (hlow m (by omega))) hslot ?_ hblk ?_ (fun m hm hmn x hx hx' => ?_) (fun j hj => ?_)
      · unfold formB
        rw [f4, Bool.and_eq_true]
        refine ⟨by simp, ?_⟩
        have hnz : ¬ inoZ (rk e n) (rs e n) (rb e n) = true := fun h => by
          have := (inoZ_iff.1 h).1
          omega
        rw [if_neg hnz, decide_eq_true_eq]
        refine ⟨.inl f1, by rw [f2]; exact hs1.2.2, fun h => absurd h hn0, fun i hi h => ?_, ?_, .inl f1⟩
        · rw [f3 i hi] at h ⊢
          rw [f2]
          refine ⟨hb18 i hi h, hb96 i hi, ?_⟩
          by_cases h2 : rb d n i = 0
          · by_cases h3 : i < (data.length + 127) / 128
            · omega
            · have := W.rest i (by omega)
              rw [this] at h
              exact absurd h2 h
          · have := (form_blocks (hok.form n hn) i hi h2).2.2
            omega
        · unfold tailZ
          rw [f2]
          by_cases q1 : s % 128 = 0
          · rw [decide_eq_true q1]; rfl
          have hq12 : s / 128 < 12 := by omega
          rw [decide_eq_false q1, Bool.false_or, f3 _ hq12]
          by_cases q2 : b (s / 128) = 0
          · rw [decide_eq_true q2]; rfl
          rw [decide_eq_false q2, Bool.false_or, allZ_iff]
          have h96 := hb96 _ hq12
          have h18 := hb18 _ hq12 q2
          intro r hr
          rw [cut_len (by omega)] at hr
          rw [byt_cut (by omega) hr, hpb, if_neg (by omega), Nat.add_assoc, D1 (s / 128) (s % 128 + r) hq12 (by omega) q2 (by omega)]
          by_cases h2 : rb d n (s / 128) = 0
          · exact (W.new _ hq12 q2 h2).2.2.2 _ (by omega)
          · have hro := W.old _ h2
            have hlt := (form_blocks (hok.form n hn) _ hq12 h2).2.2
            rw [W.byts _ (by omega) fun q hq h3 h4 h5 => ?_]
            · have hf := hok.form n hn
              unfold formB at hf
              rw [Bool.and_eq_true] at hf
              have hf2 := hf.2
              have hnz2 : ¬ inoZ (rk d n) (rs d n) (rb d n) = true := fun h => by
                have := (inoZ_iff.1 h).1
                omega
              rw [if_neg hnz2, decide_eq_true_eq] at hf2
              have ht := hf2.2.2.2.2.1
              unfold tailZ at ht
              have hrq : rs d n / 128 = s / 128 := by omega
              rw [decide_eq_false (by omega), Bool.false_or, hrq, decide_eq_false h2, Bool.false_or, allZ_iff] at ht
              have hro2 : rb d n (s / 128) = b (s / 128) := hro.symm
              rw [hro2] at ht
              have hcl : (cut d (128 * b (s / 128) + rs d n % 128) (128 - rs d n % 128)).length = 128 - rs d n % 128 := cut_len (by omega)
              have := ht (s % 128 + r - rs d n % 128) (by rw [hcl]; omega)
              rw [byt_cut (by omega) (by omega)] at this
              rw [← this]
              congr 1
              omega
            · have h6 : b (s / 128) = b q := by omega
              have := W.inj _ _ hq12 hq q2 h6
              rw [← this] at h4
              exact h2 h4
      · unfold part
        have hnd : List.Pairwise (fun x y : Nat => x ≠ y) (((List.range 12).map (rb e n)).filter (· ≠ 0)) := by
          rw [List.filter_map]
          refine List.pairwise_map.2 (List.pairwise_filter.2 ?_)
          have hr : (List.range 12).Pairwise fun x y => x ≠ y := List.nodup_range
          refine hr.imp_of_mem fun {x y} hx hy hxy hx0 hy0 he => hxy ?_
          have hx := List.mem_range.1 hx
          have hy := List.mem_range.1 hy
          rw [f3 x hx, f3 y hy] at he
          have hx0 : rb e n x ≠ 0 := by simpa using hx0
          rw [f3 x hx] at hx0
          exact W.inj x y hx hy hx0 he
        exact hnd
      · obtain ⟨h1, q, hq, h2⟩ := (hpe x).1 hx
        exact hoth m hm hmn x hx' q hq (by rw [h2]; exact h1) h2.symm
      · rw [hbe, W.bits, ok_bit hok]
        constructor
        · rintro ((h | ⟨m, hm, h⟩) | ⟨q, hq, h1, h2⟩)
          · exact .inl h
          · by_cases hmn : m = n
            · subst hmn
              obtain ⟨h3, q, hq, h4⟩ := mem_part.1 h
              exact .inr (.inl ((hpe j).2 ⟨h3, q, hq, by rw [W.old q (by rw [h4]; exact h3)]; exact h4⟩))
            · exact .inr (.inr ⟨m, hm, hmn, h⟩)
          · exact .inr (.inl ((hpe j).2 ⟨by rw [← h2]; exact h1, q, hq, h2⟩))
        · rintro (h | h | ⟨m, hm, _, h⟩)
          · exact .inl (.inl h)
          · obtain ⟨h1, q, hq, h2⟩ := (hpe j).1 h
            exact .inr ⟨q, hq, by rw [h2]; exact h1, h2⟩
          · exact .inl (.inr ⟨m, hm, h⟩)
    have g0 := chk_ok hpl hOk
    have hkinds : ∀ m, m < 32 → rk e m = rk d m := fun m hm => by
      by_cases hmn : m = n
      · rw [hmn, f1, hk]
      · exact (slot_all (hslot m hm hmn)).1
    have hdle : ∀ m, m ∈ (T0 e).dl ↔ m ∈ (T0 d).dl := fun m => by
      rw [mem_dl, mem_dl]
      constructor
      · rintro ⟨a, c⟩; exact ⟨a, by rw [← hkinds m a]; exact c⟩
      · rintro ⟨a, c⟩; exact ⟨a, by rw [hkinds m a]; exact c⟩
    have hcont : ∀ m ∈ (T0 d).dl, contentR e m = contentR d m := fun m hm => by
      obtain ⟨a, c⟩ := mem_dl.1 hm
      have hmn : m ≠ n := fun h => by rw [h] at c; omega
      exact content_same h0 g0 a (by omega) ⟨hslot m a hmn, hblk m a hmn⟩
    have hch : (T0 e).ch = (T0 d).ch := funext fun m => by
      by_cases hm : m ∈ (T0 d).dl
      · rw [(T0 e).ch_es ((hdle m).2 hm), (T0 d).ch_es hm, T0_E, T0_E, hcont m hm]
      · rw [(T0 e).ch_no fun h => hm ((hdle m).1 h), (T0 d).ch_no hm]
    refine chk38_of g0 (fun m hm => ?_) ⟨fun m hm x hx => ?_, fun m hm => ?_, fun m hm m' hm' x hx hx' => ?_⟩ fun m hm hmk => ?_
    · rw [hcont m ((hdle m).1 hm)]
      exact hE m ((hdle m).1 hm)
    · rw [hch] at hx
      obtain ⟨q1, q2, q3⟩ := hG.fine.ok m ((hdle m).1 hm) x hx
      exact ⟨q1, q2, by show rk e x ≠ 0; rw [hkinds x q2]; exact q3⟩
    · rw [hch]
      exact hG.fine.nd m ((hdle m).1 hm)
    · rw [hch] at hx hx'
      exact hG.fine.one m ((hdle m).1 hm) m' ((hdle m').1 hm') x hx hx'
    · rw [hch]
      exact tree_rch h38 hm (by rw [← hkinds m hm]; exact hmk)

theorem doR_ok {d : List UInt8} (h38 : chk38 d = 0) (kind : Int) (p data : List UInt8) : chk38 (doR d kind p data) = 0 := by
  unfold doR
  split
  · split
    · exact h38
    · exact (make_made (by omega)).2.2.choose_spec.choose_spec.choose_spec.2.2.2.2.2.ok
  · split
    · split
      · exact h38
      · exact (unlink_gone (by omega)).2.choose_spec.choose_spec.choose_spec.choose_spec.2.2.2.2.ok
    · split
      · split
        · rename_i hc
          split
          · exact h38
          · exact write_ok h38 hc.2.1 hc.2.2 (by omega)
        · exact h38
      · exact h38

theorem diskR_ok {fd : List UInt8} (hF : FmtBytes fd) (l : List Opx) : chk38 (diskR fd l) = 0 := by
  have : ∀ (l : List Opx) (d : List UInt8), chk38 d = 0 → chk38 (l.foldl (fun d x => doR d x.kind x.path x.data) d) = 0 := by
    intro l
    induction l with
    | nil => exact fun d h => h
    | cons x l ih => exact fun d h => ih _ (doR_ok h _ _ _)
  exact this l fd (fresh_of hF).ok

end Go.Proofs.YtbfpgfopppfhoaaGreatDoor
namespace Go.Proofs.YtbfpgfopppfhoaaGreatDoor
open Go Go.Sx
set_option maxRecDepth 100000
set_option linter.unusedVariables false
set_option linter.unusedSimpArgs false

theorem nodup_sub : ∀ (m l : List Nat), l.Nodup → (∀ x ∈ l, x ∈ m) → l.length ≤ m.length
  | [], l, _, h => by
    cases l with
    | nil => exact Nat.le_refl _
    | cons x l => exact absurd (h x (List.mem_cons_self ..)) (by simp)
  | a :: m, l, hn, h => by
    have h1 := nodup_sub m (l.filter (· ≠ a)) (hn.sublist List.filter_sublist) fun x hx => by
      obtain ⟨h2, h3⟩ := List.mem_filter.1 hx
      have h3 : x ≠ a := by simpa using h3
      exact (List.mem_cons.1 (h x h2)).resolve_left h3
    have h2 : ∀ (l : List Nat), l.Nodup → l.length ≤ (l.filter (· ≠ a)).length + 1 := by
      intro l
      induction l with
      | nil => intro _; simp
      | cons b l ih =>
        intro hl
        obtain ⟨hb, hl⟩ := List.nodup_cons.1 hl
        by_cases hq : b = a
        · subst hq
          have : l.filter (· ≠ b) = l := List.filter_eq_self.2 fun x hx => by
            have : x ≠ b := fun e => hb (e ▸ hx)
            simpa using this
          rw [List.filter_cons_of_neg (by simp), this]
          simp
        · rw [List.filter_cons_of_pos (by simpa using hq)]
          have := ih hl
          simp only [List.length_cons]
          omega
    have := h2 l hn
    simp only [List.length_cons]
    omega

theorem changed_le {d e : List UInt8} (hd : d.length = 12288) (he : e.length = 12288) {m : List Nat} (h : ∀ i, i / 128 ∉ m → byt e i = byt d i) : changedN d e 96 ≤ m.length := by
  unfold changedN
  refine nodup_sub m _ (List.nodup_range.sublist List.filter_sublist) fun x hx => Classical.byContradiction fun hno => ?_
  obtain ⟨h1, h2⟩ := List.mem_filter.1 hx
  have hx96 := List.mem_range.1 h1
  unfold differs at h2
  rw [Bool.and_eq_true] at h2
  have h3 : cut d (128 * x) 128 = cut e (128 * x) 128 := by
    refine (cut_same (by omega) (by omega) fun i a b => h i ?_).symm
    rw [show i / 128 = x by omega]
    exact hno
  rw [h3] at h2
  simp at h2

theorem walk_snoc {T : Tree} {s : List UInt8} : ∀ {l : List (List UInt8)} {n m : Nat}, T.walk l n = (m, 0) → T.walk (l ++ [s]) n = if (T.find m s).2 ≠ 0 then (0, (T.find m s).2) else ((T.find m s).1, 0)
  | [], n, m, h => by
    have h : (n, 0) = (m, 0) := h
    have := (Prod.mk.inj h).1
    subst this
    rfl
  | t :: l, n, m, h => by
    show (if (T.find n t).2 ≠ 0 then _ else _) = _
    have h : (if (T.find n t).2 ≠ 0 then (0, (T.find n t).2) else T.walk l (T.find n t).1) = (m, 0) := h
    by_cases hf : (T.find n t).2 ≠ 0
    · rw [if_pos hf] at h
      exact absurd (Prod.mk.inj h).2 hf
    · rw [if_neg hf] at h
      rw [if_neg hf]
      exact walk_snoc h

theorem tree_all {d p : List UInt8} {kind : Int} (h : (makeR d p kind).2.2 = 0) : chk38 d = 0 ∧ chk38 (makeR d p kind).2.1 = 0 ∧ walkR (makeR d p kind).2.1 p = ((makeR d p kind).1, 0) ∧ gete (makeR d p kind).2.1 (makeR d p kind).1 = 0 ∧
    ((rk (makeR d p kind).2.1 (makeR d p kind).1 : Nat) : Int) = kind ∧ changedN d (makeR d p kind).2.1 96 ≤ 4 ∧ (walkR d p).2 = 8 ∧
    (pathsP (makeR d p kind).2.1).length = (pathsP d).length + 1 ∧ ((pathsP (makeR d p kind).2.1).filter fun x => !(x == p)) = pathsP d ∧ ∀ a ∈ pathsP d, SameAt d (makeR d p kind).2.1 a := by
  obtain ⟨h38, hk, names, at0, k, hs, hn, hfo, hfe, hfi, M⟩ := make_made h
  have hkk : kind.toNat = 1 ∨ kind.toNat = 2 := by omega
  have hsn := splitR_names p
  rw [hs] at hsn
  dsimp only at hsn
  have hdn := (follow_dn h38 fun s hs => hsn s (List.dropLast_subset _ hs)).1 hfo
  generalize (makeR d p kind).1 = n at *
  generalize (makeR d p kind).2.1 = e at *
  obtain ⟨-, hpj, hpl⟩ := (splitR_inv hs).resolve_left fun h => hn h.1
  have hnew := made_new M hkk h38 hn rfl hdn
  have hmp := made_paths M hkk h38 hn rfl hdn (by rw [← hpj]; exact hpl)
  rw [← hpj] at hmp
  have hin : p ∈ pathsL e := (mem_pathsL M.ok).2 (.inr ⟨names, n, hn, hpj, hpl, hnew⟩)
  have hsw := sortL_without (nodup_pathsL h38) (nodup_pathsL M.ok) hmp hin
  rw [← pathsP_L, ← pathsP_L] at hsw
  have hkd := M.kd
  refine ⟨h38, M.ok, ?_, (gete_iff (tree_facts M.ok).1).2 ⟨M.n32, by omega⟩, by omega, ?_, ?_, hsw.2, hsw.1, fun a ha => made_same M hkk h38 hn rfl hdn (mem_pathsP.1 ha)⟩
  · rw [hpj]
    exact (walkR_dn M.ok hn hsn (by rw [← hpj]; exact hpl)).2 hnew
  · obtain ⟨x, y, hxy⟩ := M.diff
    refine changed_le (m := [13, 14 + n / 8, x, y]) (chk38_len h38) (chk38_len M.ok) fun i hi => ?_
    simp only [List.mem_cons, List.not_mem_nil, or_false, not_or] at hi
    exact hxy i hi.1 hi.2.1 hi.2.2.1 hi.2.2.2
  · have hlast := getLast_eq hn
    have hne : names.getLastD [] ≠ [] := fun e => by
      have := hsn _ (List.mem_of_getElem? hlast)
      rw [e] at this
      cases this
    have hw := (walk_dn h38 (vn_ne fun s hs => hsn s (List.dropLast_subset _ hs))).2 hdn
    have := walk_snoc (s := names.getLastD []) hw
    rw [← dropLast_snoc hn] at this
    have hf : (T0 d).find at0 (names.getLastD []) = (0, 8) := by
      unfold Tree.find
      rw [if_pos M.dir, M.new]
    rw [walkR_P h38, hs, if_neg (show ¬ ((0 : Int) ≠ 0) by decide)]
    show ((T0 d).walk names 0).2 = 8
    rw [this, hf]
    rfl

theorem unlinkR_err {d p : List UInt8} (h : (unlinkR d p).2 ≠ 0) : (unlinkR d p).1 = [] := by
  have hr : ∀ {d' : List UInt8} {n : Nat}, (freeR d' n).2 ≠ 0 → (freeR d' n).1 = [] := fun {d' n} h => by
    unfold freeR at h ⊢
    by_cases h1 : gete d' n ≠ 0
    · rw [if_pos h1]
    rw [if_neg h1] at h ⊢
    by_cases h2 : n = 0
    · rw [if_pos h2]
    · rw [if_neg h2] at h
      exact absurd rfl h
  unfold unlinkR at h ⊢
  by_cases h1 : chk38 d ≠ 0
  · rw [if_pos h1]
  rw [if_neg h1] at h ⊢
  by_cases h2 : (splitR p).2 ≠ 0
  · rw [if_pos h2]
  rw [if_neg h2] at h ⊢
  by_cases h4 : (splitR p).1 = []
  · rw [if_pos h4]
  rw [if_neg h4] at h ⊢
  by_cases h5 : (followR d (splitR p).1 0).2 ≠ 0
  · rw [if_pos h5]
  rw [if_neg h5] at h ⊢
  by_cases h6 : (dirR d (followR d (splitR p).1 0).1).2 = 0 ∧ ∃ e ∈ (dirR d (followR d (splitR p).1 0).1).1, e.1 ≠ []
  · rw [if_pos h6]
  rw [if_neg h6] at h ⊢
  exact hr h

theorem removes_all {d p : List UInt8} (h : (unlinkR d p).2 = 0) : chk38 d = 0 ∧ chk38 (unlinkR d p).1 = 0 ∧ (walkR (unlinkR d p).1 p).2 = 8 ∧ changedN d (unlinkR d p).1 96 ≤ 4 ∧
    (pathsP d).length = (pathsP (unlinkR d p).1).length + 1 ∧ ((pathsP d).filter fun x => !(x == p)) = pathsP (unlinkR d p).1 ∧ ∀ a ∈ pathsP (unlinkR d p).1, SameAt d (unlinkR d p).1 a := by
  obtain ⟨h38, names, at0, k, m, hs, hn, hfo, hfo2, G⟩ := unlink_gone h
  have hsn := splitR_names p
  rw [hs] at hsn
  dsimp only at hsn
  have hdn := (follow_dn h38 hsn).1 hfo
  have hdn2 := (follow_dn h38 fun s hs => hsn s (List.dropLast_subset _ hs)).1 hfo2
  generalize (unlinkR d p).1 = e at *
  obtain ⟨-, hpj, hpl⟩ := (splitR_inv hs).resolve_left fun h => hn h.1
  have hgp := gone_paths G h38 G.leaf hn hdn
  rw [← hpj] at hgp
  have hin : p ∈ pathsL d := (mem_pathsL h38).2 (.inr ⟨names, m, hn, hpj, hpl, hdn⟩)
  have hsw := sortL_without (nodup_pathsL G.ok) (nodup_pathsL h38) hgp hin
  rw [← pathsP_L, ← pathsP_L] at hsw
  refine ⟨h38, G.ok, ?_, ?_, hsw.2, hsw.1, fun a ha => gone_same G h38 G.leaf hdn (mem_pathsP.1 ha)⟩
  · have hlast := getLast_eq hn
    have hne : names.getLastD [] ≠ [] := fun e => by
      have := hsn _ (List.mem_of_getElem? hlast)
      rw [e] at this
      cases this
    have ham : at0 ≠ m := fun h => by
      have h1 := mem_ch G.ent G.name
      rw [h, G.leaf] at h1
      cases h1
    have hdn3 := (gone_dn G h38 G.leaf _ rfl).2 ⟨hdn2, ham⟩
    have hw := (walk_dn G.ok (vn_ne fun s hs => hsn s (List.dropLast_subset _ hs))).2 hdn3
    have := walk_snoc (s := names.getLastD []) hw
    rw [← dropLast_snoc hn] at this
    have hdl : at0 ∈ (T0 e).dl := by
      obtain ⟨a, b⟩ := mem_dl.1 G.dir
      exact mem_dl.2 ⟨a, by rw [G.kinds at0 a ham]; exact b⟩
    have hf : (T0 e).find at0 (names.getLastD []) = (0, 8) := by
      unfold Tree.find
      rw [if_pos hdl]
      cases hq : fidx ((T0 e).E at0) (names.getLastD []) with
      | none => rfl
      | some q =>
        exfalso
        obtain ⟨hq1, hq2⟩ := fidx_some hq
        have hmem : (names.getLastD [], ((T0 e).E at0)[q].2) ∈ (T0 e).es at0 := by
          unfold Tree.es
          rw [if_pos hdl]
          have := List.getElem_mem hq1
          rwa [show ((T0 e).E at0)[q] = (names.getLastD [], ((T0 e).E at0)[q].2) from Prod.ext hq2 rfl] at this
        obtain ⟨g1, g2, g3⟩ := (G.ents at0 _ _).1 ⟨hmem, hne⟩
        exact g3 ((T0_nm h38).one at0 _ _ _ g1 G.ent hne)
    rw [walkR_P G.ok, hs, if_neg (show ¬ ((0 : Int) ≠ 0) by decide)]
    show ((T0 e).walk names 0).2 = 8
    rw [this, hf]
    rfl
  · obtain ⟨x, hx⟩ := G.diff
    refine Nat.le_trans (changed_le (m := [13, 14 + m / 8, x]) (chk38_len h38) (chk38_len G.ok) fun i hi => ?_) (show 3 ≤ 4 by decide)
    simp only [List.mem_cons, List.not_mem_nil, or_false, not_or] at hi
    exact hx i hi.1 hi.2.1 hi.2.2

end Go.Proofs.YtbfpgfopppfhoaaGreatDoor
namespace Go.Proofs.YtbfpgfopppfhoaaGreatDoor
open Go Go.Sx
set_option maxRecDepth 100000
set_option maxHeartbeats 4000000
set_option linter.unusedVariables false
set_option linter.unusedSimpArgs false

theorem dirsTree_spec (l : List Opx) (k : Hd) (hk : k.Ok l.length) (hl : l.length ≤ 4000000000000000000) (hx : ∀ x ∈ l, x.h.Ok x.data.length) (p : List UInt8) (kind : Int) :
    PureSpec Tryz.prog 7 [k.v l.length, strV p, .int .i64 kind] (fun w => OpsAt w k.a l) (fun v F => v = .bool true) := by
  have hsz : (ByteArray.mk ⟨p⟩).size = p.length := rfl
  refine PureSpec.of_xc tabOk Tryz.func7 rfl (by decide) (n := Tryz.f7.ntmps - 3) rfl rfl fun w0 av => ?_
  conv => whnf
  refine XCall.val awake_spec (fun w hw => trivial) (fun v D hv => ?_)
  obtain ⟨tr, htr⟩ : ∃ tr, true = tr := ⟨_, rfl⟩
  rw [htr] at hv
  subst hv
  conv => whnf
  repeat (refine XSame.of ?_; conv => whnf)
  refine XIf.no (by rw [← htr]; rfl) ?_
  conv => whnf
  repeat (refine XSame.of ?_; conv => whnf)
  refine XCall.val (few_spec l k hk hl) (fun w hw => hw) (fun v D hv => ?_)
  generalize hfw : fewR l = fw at hv
  subst hv
  conv => whnf
  repeat (refine XSame.of ?_; conv => whnf)
  cases fw
  · conv => whnf
    repeat (refine XSame.of ?_; conv => whnf)
    repeat' (first
      | (refine XIf.yes rfl ?_; conv => whnf))
    exact ⟨_, Ent.refl _, rfl⟩
  obtain ⟨hl20, hall⟩ := few_all hfw
  conv => whnf
  repeat (refine XSame.of ?_; conv => whnf)
  repeat' (first
    | (refine XIf.no rfl ?_; conv => whnf))
  refine XIf.split (fun hlt => ?_) (fun hlt => ?_)
  · conv => whnf
    repeat (refine XSame.of ?_; conv => whnf)
    exact ⟨_, Ent.refl _, rfl⟩
  have hp : p.length ≤ 100 := by
    have h := hlt
    simp [iGt_eq, hsz] at h
    omega
  conv => whnf
  repeat (refine XSame.of ?_; conv => whnf)
  refine XCall.pure (disk_spec l k hk hl20 fun x hxm => ⟨by have := (hall x hxm).1; omega, by have := (hall x hxm).2; omega, hx x hxm⟩) (fun w hw => hw) (fun v D hv => ?_)
  obtain ⟨fd, hF, hd, rfl, hdo, rfl⟩ := hv
  have hle := diskR_le hF.len l
  have h38 := diskR_ok hF l
  generalize diskR fd l = d at *
  have hdl := chk38_len h38
  have hpd := ppaths_spec d hd hdo hle
  have hpm := pmake_spec d hd hdo hle p (by omega) kind
  rw [make_eq] at hpm
  have htree := tree_all (d := d) (p := p) (kind := kind)
  have herr := makeR_err (d := d) (p := p) (kind := kind)
  generalize makeR d p kind = M at *
  obtain ⟨n, e, er⟩ := M
  dsimp only at hpm htree herr
  conv => whnf
  repeat (refine XSame.of ?_; conv => whnf)
  refine XCall.pure hpd (fun w hw => hw.2) (fun v D hv => ?_)
  obtain ⟨ba, ca, Ca, hOa, rfl, rfl⟩ := relPaths_ok h38 hv
  conv => whnf
  repeat (refine XSame.of ?_; conv => whnf)
  refine XCall.pure hpm (fun w hw => hw.1.2) (fun v D hv => ?_)
  obtain ⟨h1, rfl, ho1, rfl⟩ := hv
  dsimp only at ho1 ⊢
  obtain ⟨z0, hz0⟩ : ∃ z : Int, z = 0 := ⟨_, rfl⟩
  conv => whnf
  repeat (refine XSame.of ?_; conv => whnf)
  refine XIf.split (fun hq => ?_) (fun hq => ?_)
  · have hq' : er ≠ 0 := by
      simp [iNe_eq] at hq
      omega
    rw [herr hq']
    conv => whnf
    repeat (refine XSame.of ?_; conv => whnf)
    refine ⟨_, Ent.refl _, ?_⟩
    simp [iEq_eq]
  have hq' : er = 0 := by
    simp [iNe_eq] at hq
    omega
  clear herr
  obtain ⟨-, t2, t3, t4, t5, t6, t7, t8, t9, t10⟩ := htree hq'
  have hel := chk38_len t2
  have hpe := ppaths_spec e h1 ho1 (by omega)
  have hwe := dwalk_spec e h1 ho1 (by omega) p (by omega)
  have hge := pGet_spec e h1 ho1 (by omega) n
  have hch := changes_spec d e hd h1 hdo ho1 hdl hel
  have hck := pcheck38_spec e h1 ho1 (by omega)
  have hwd := dwalk_spec d hd hdo hle p (by omega)
  have hL1 : getL e n = inoL (rk e n) (rs e n) (rb e n) := by
    unfold getL
    rw [if_pos t4]
    rfl
  rw [hL1, t4] at hge
  rw [t3] at hwe
  rw [t2] at hck
  conv => whnf
  repeat (refine XSame.of ?_; conv => whnf)
  refine XCall.pure hpe (fun w hw => hw.2) (fun v D hv => ?_)
  obtain ⟨be, ce, Ce, hOe, rfl, rfl⟩ := relPaths_ok t2 hv
  have hpl := pathsP_len h38
  have hple := pathsP_len t2
  have hpsh := fun a (ha : a ∈ pathsP d) => pathsP_short h38 ha
  generalize pathsP d = L at *
  generalize pathsP e = Le at *
  generalize rk e n = kd at *
  generalize rs e n = s1 at *
  generalize rb e n = b1 at *
  generalize changedN d e 96 = cn at *
  generalize walkR d p = wd at *
  obtain ⟨wn, we⟩ := wd
  dsimp only at hwe t7 hwd
  conv => whnf
  repeat (refine XSame.of ?_; conv => whnf)
  refine XCall.val hwe (fun w hw => hw.1.2) (fun v D hv => ?_)
  unfold RelII at hv
  subst hv
  conv => whnf
  repeat (refine XSame.of ?_; conv => whnf)
  refine XCall.val hge (fun w hw => hw.1.2) (fun v D hv => ?_)
  subst hv
  conv => whnf
  repeat (refine XSame.of ?_; conv => whnf)
  intro b17
  conv => whnf
  repeat (refine XSame.of ?_; conv => whnf)
  refine XCall.val hch (fun w hw => ⟨hw.1.1.1.2, hw.1.2⟩) (fun v D hv => ?_)
  obtain ⟨ac, cc, rfl⟩ := hv
  conv => whnf
  repeat (refine XSame.of ?_; conv => whnf)
  generalize hcc : (_ || iGt (cn : Int) 4) = c
  have hc : c = false := by
    rw [← hcc]
    simp [iNe_eq, iGt_eq, t5]
    omega
  cases c
  rotate_left
  · cases hc
  clear hcc hc
  conv => whnf
  repeat (refine XSame.of ?_; conv => whnf)
  refine XCall.val hck (fun w hw => hw.1.2) (fun v D hv => ?_)
  subst hv
  conv => whnf
  repeat (refine XSame.of ?_; conv => whnf)
  refine XIf.no (by simp [iNe_eq]) ?_
  conv => whnf
  repeat (refine XSame.of ?_; conv => whnf)
  refine XCall.val hwd (fun w hw => hw.1.1.1.2) (fun v D hv => ?_)
  unfold RelII at hv
  subst hv
  have hws := without_spec ⟨some ⟨be, 0, none⟩, ce⟩ Le ⟨fun h => (by cases h), hOe.fit⟩ (by omega) p
  rw [t9] at hws
  have hks := kept_spec d e hd h1 ⟨some ⟨ba, 0, none⟩, ca⟩ L p hdo ho1 ⟨fun h => (by cases h), hOa.fit⟩ hle (by omega) (by omega) (fun a ha => by have := (hpsh a ha).1; omega) (fun a ha _ => t10 a ha)
  conv => whnf
  repeat (refine XSame.of ?_; conv => whnf)
  generalize hcc : (iEq (we : Int) 8 && _) = c
  have hc : c = true := by
    rw [← hcc, wrap_i64 (by omega)]
    simp [iEq_eq, t7, t8]
  cases c
  · cases hc
  clear hcc hc
  conv => whnf
  repeat (refine XSame.of ?_; conv => whnf)
  refine XCall.ent (F' := ⟨fun w => (By w hd d ∧ By w h1 e) ∧ StrAt w ⟨some ⟨ba, 0, none⟩, ca⟩ L ∧ StrAt w ⟨some ⟨be, 0, none⟩, ce⟩ Le, []⟩) (Ent.shareAll.trans (Ent.imp fun w hw => ?_)) ?_
  · obtain ⟨hD, hr1, hr2, -⟩ := hw
    exact ⟨⟨hD.1.1.1.2, hD.1.2⟩, Own.row hOa hr1, Own.row hOe hr2⟩
  refine XCall.pure hws (fun w hw => hw.2.2) (fun v D hv => ?_)
  obtain ⟨kw, rfl, hkw, rfl⟩ := hv
  have hsame := sameG_spec kw ⟨some ⟨ba, 0, none⟩, ca⟩ L L hkw ⟨fun h => (by cases h), hOa.fit⟩ (by omega) (by omega)
  obtain ⟨q, hq⟩ : ∃ q, q = (L == L) := ⟨_, rfl⟩
  rw [← hq] at hsame
  have hq : q = true := by rw [hq]; simp
  conv => whnf
  repeat (refine XSame.of ?_; conv => whnf)
  refine XCall.val hsame (fun w hw => ⟨hw.2, hw.1.2.1⟩) (fun v D hv => ?_)
  subst hv
  conv => whnf
  repeat (refine XSame.of ?_; conv => whnf)
  subst hq
  conv => whnf
  repeat (refine XSame.of ?_; conv => whnf)
  refine XCall.val hks (fun w hw => ⟨hw.1.1, hw.1.2.1⟩) (fun v D hv => ?_)
  subst hv
  conv => whnf
  repeat (refine XSame.of ?_; conv => whnf)
  exact ⟨_, Ent.refl _, rfl⟩

end Go.Proofs.YtbfpgfopppfhoaaGreatDoor
