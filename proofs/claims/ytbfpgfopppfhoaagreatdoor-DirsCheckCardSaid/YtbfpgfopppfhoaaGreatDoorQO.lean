/- Parts of the proof: NyA, NyB, NxF, ShA, NxG, NyC, NxH, NvY, NyF, NxA. -/
import Derived.Test.YtbfpgfopppfhoaaGreatDoorQN
import Derived.Shelf.Sort.Plain
import Derived.Shelf.Slices.In.SortNone
import Derived.Test.YtbfpgfopppfhoaaGreatDoorProg
import Derived.Test.YtbfpgfopppfhoaaGreatDoorQM
namespace Go.Proofs.YtbfpgfopppfhoaaGreatDoor
open Go Go.Sx
set_option maxRecDepth 100000
set_option linter.unusedVariables false
set_option linter.unusedSimpArgs false

inductive Rch (ch : Nat → List Nat) : Nat → Prop
  | root : Rch ch 0
  | step {n x : Nat} : Rch ch n → x ∈ ch n → Rch ch x

theorem rch_pre {ch : Nat → List Nat} (hu : Uniq ch) {x : Nat} : x ∈ preo ch 33 0 ↔ Rch ch x := by
  constructor
  · intro h
    obtain ⟨k, hk⟩ := pre_lev 33 h
    clear h
    induction k generalizing x with
    | zero =>
      have : x = 0 := by simpa [lev] using hk
      subst this
      exact .root
    | succ k ih =>
      obtain ⟨y, hy, hx⟩ := lev_last k hk
      exact .step (ih hy) hx
  · intro h
    have hp := pre_perm 33 (low_root hu)
    induction h with
    | root => exact hp.mem_iff.2 (List.mem_cons_self ..)
    | step _ hx ih => exact hp.mem_iff.2 (List.mem_cons_of_mem _ (List.mem_flatMap.2 ⟨_, ih, hx⟩))

theorem chk38_of {e : List UInt8} (h0 : chk e = 0) (hE : ∀ n ∈ (T0 e).dl, entsOk (contentR e n) = true) (hf : (T0 e).Fine) (hr : ∀ n, n < 32 → rk e n ≠ 0 → Rch (T0 e).ch n) : chk38 e = 0 := by
  rw [← openE_eq]
  unfold openE
  rw [if_neg (show ¬ chk e ≠ 0 by rw [h0]; simp), if_pos (show PentsAll e from fun n hn => (pents_of_ents.1 (hE n hn)).1)]
  unfold Tree.res
  exact if_pos ⟨hf, fun n hn hk => (V_pre (T0 e) 33 0 [] n).2 ((rch_pre hf.uniq).2 (hr n hn hk))⟩

theorem tree_rch {d : List UInt8} (h : chk38 d = 0) {n : Nat} (hn : n < 32) (hk : rk d n ≠ 0) : Rch (T0 d).ch n := by
  obtain ⟨-, hG, -⟩ := tree_facts h
  exact (rch_pre hG.fine.uniq).1 ((V_pre (T0 d) 33 0 [] n).1 (hG.all n hn hk))

/-- An inode is the same on two disks, with its blocks. -/
structure SameIno (d e : List UInt8) (m : Nat) : Prop where
  slot : SlotSame d e m
  blk : ∀ y ∈ part d m 12, ∀ i, 128 * y ≤ i → i < 128 * y + 128 → byt e i = byt d i

theorem contB_same {d e : List UInt8} {b b' : Nat → Nat} (hd : d.length = 12288) (he : e.length = 12288) (hb : ∀ i, i < 12 → b' i = b i) (h9 : ∀ i, i < 12 → b i < 96)
    (hs : ∀ i, i < 12 → b i ≠ 0 → ∀ m, 128 * b i ≤ m → m < 128 * b i + 128 → byt e m = byt d m) : ∀ k, k ≤ 12 → contB e b' k = contB d b k
  | 0, _ => rfl
  | k + 1, hk => by
    show contB e b' k ++ blockOf e (b' k) = contB d b k ++ blockOf d (b k)
    rw [contB_same hd he hb h9 hs k (by omega), hb k (by omega)]
    congr 1
    unfold blockOf
    have := h9 k (by omega)
    split
    · rfl
    · rename_i h
      exact cut_same (by omega) (by omega) (hs k (by omega) h)

theorem content_same {d e : List UInt8} (h0 : chk d = 0) (g0 : chk e = 0) {m : Nat} (hm : m < 32) (hk : rk d m ≠ 0) (h : SameIno d e m) : contentR e m = contentR d m := by
  obtain ⟨hd, hok⟩ := chk_zero h0
  obtain ⟨he, _⟩ := chk_zero g0
  obtain ⟨q1, q2, q3, _⟩ := slot_all h.slot
  have e1 : gete d m = 0 := (gete_iff h0).2 ⟨hm, hk⟩
  have e2 : gete e m = 0 := (gete_iff g0).2 ⟨hm, by rw [q1]; exact hk⟩
  unfold contentR
  rw [e1, e2, if_neg (by decide), if_neg (by decide), q2, contB_same hd he q3 (fun i hi => ok_blocks hok hm hi) (fun i hi hn m a b => h.blk _ (mem_part.2 ⟨hn, i, hi, rfl⟩) m a b) 12 (Nat.le_refl _)]

theorem nlen_same {c c' : List UInt8} : ∀ (m o : Nat), (∀ j, j < m → byt c' (o + j) = byt c (o + j)) → nlen c' o m = nlen c o m
  | 0, _, _ => rfl
  | m + 1, o, h => by
    have e0 : byt c' o = byt c o := h 0 (by omega)
    have h2 : ∀ j, j < m → byt c' (o + 1 + j) = byt c (o + 1 + j) := fun j hj => by
      rw [show o + 1 + j = o + (j + 1) by omega]
      exact h (j + 1) (by omega)
    unfold nlen
    rw [e0, nlen_same m (o + 1) h2]

section
variable {c c' : List UInt8} (hc : c.length = 128) (hc' : c'.length = 128)

include hc' in
theorem enR_new {i : Nat} (hi : i < 8) {x : En} (hx : x.1.length ≤ 14) (hz : ∀ j, j < x.1.length → byt x.1 j ≠ 0) (h2 : x.2 < 256) (h : ∀ r, r < 16 → byt c' (16 * i + r) = byt (enB x) r) :
    enR c' i = x ∧ nlen c' (16 * i) 14 = x.1.length ∧ (∀ k, k < 14 → x.1.length ≤ k → byt c' (16 * i + k) = 0) ∧ byt c' (16 * i + 15) = 0 := by
  have hb : ∀ r, r < 16 → byt c' (16 * i + r) = if r = 14 then x.2 % 256 else if r < x.1.length then byt x.1 r else 0 := fun r hr => by rw [h r hr, byt_enB hx hr]
  have hn : nlen c' (16 * i) 14 = x.1.length := nlen_eq c' 14 (16 * i) _ hx (fun j hj => by rw [hb j (by omega), if_neg (by omega), if_pos hj]; exact hz j hj) (by
    by_cases h14 : x.1.length = 14
    · exact .inl h14
    · refine .inr ?_
      rw [hb _ (by omega), if_neg h14, if_neg (by omega)])
  refine ⟨?_, hn, fun k hk hk2 => by rw [hb k (by omega), if_neg (by omega), if_neg (by omega)], by rw [hb 15 (by decide), if_neg (by decide), if_neg (by omega)]⟩
  unfold enR
  rw [hn, hb 14 (by decide), if_pos rfl, Nat.mod_eq_of_lt h2]
  refine Prod.ext ?_ rfl
  dsimp only
  refine byt_ext (by rw [cut_len (by omega)]) fun j hj => ?_
  rw [cut_len (by omega)] at hj
  rw [byt_cut (by omega) hj, hb j (by omega), if_neg (by omega), if_pos hj]

include hc hc'
theorem enR_same {i : Nat} (hi : i < 8) (h : ∀ r, r < 16 → byt c' (16 * i + r) = byt c (16 * i + r)) : enR c' i = enR c i := by
  unfold enR
  rw [nlen_same 14 (16 * i) fun j hj => h j (by omega), h 14 (by decide)]
  have := nlen_le c 14 (16 * i)
  rw [cut_same (d := c) (by omega) (by omega) fun m a b => by have := h (m - 16 * i) (by omega); rwa [show 16 * i + (m - 16 * i) = m by omega] at this]

variable {k : Nat} (hk : k < 8) {x : En} (hx : x.1.length ≤ 14) (hz : ∀ j, j < x.1.length → byt x.1 j ≠ 0) (h2 : x.2 < 256) (hnew : ∀ r, r < 16 → byt c' (16 * k + r) = byt (enB x) r)
  (hold : ∀ i, i < 8 → i ≠ k → ∀ r, r < 16 → byt c' (16 * i + r) = byt c (16 * i + r))
include hk hx hz h2 hnew hold

theorem ens_set : ens c' 8 = (ens c 8).set k x := by
  refine List.ext_getElem (by simp [ens]) fun i h3 h4 => ?_
  have hi : i < 8 := by simpa [ens] using h3
  rw [List.getElem_set]
  by_cases hik : k = i
  · subst hik
    rw [if_pos rfl]
    simp only [ens, List.getElem_map, List.getElem_range]
    exact (enR_new hc' hk hx hz h2 hnew).1
  · rw [if_neg hik]
    simp only [ens, List.getElem_map, List.getElem_range]
    exact enR_same hc hc' hi (hold i hi (Ne.symm hik))

theorem ents_set (hok : entsOk c = true) (hname : x = ([], 0) ∨ (vname x.1 = true ∧ x.2 ≠ 0)) (honly : x.1 = [] ∨ ∀ i, i < 8 → i ≠ k → (enR c i).1 ≠ x.1) : entsOk c' = true := by
  rw [entsOk_iff] at hok ⊢
  obtain ⟨e1, e2, e3, e4⟩ := enR_new hc' hk hx hz h2 hnew
  intro i hi
  by_cases hik : i = k
  · subst hik
    refine ⟨fun q hq hq2 => e3 q hq (by omega), e4, by rw [e1]; exact hname, ?_⟩
    rw [e1]
    rcases honly with h | h
    · exact .inl h
    · exact .inr fun q hq => by
        rw [enR_same hc hc' (by omega) (hold q (by omega) (by omega))]
        exact h q (by omega) (by omega)
  · have e := enR_same hc hc' hi (hold i hi hik)
    have o := hok i hi
    have hn := nlen_same (c := c) (c' := c') 14 (16 * i) fun j hj => hold i hi hik j (by omega)
    refine ⟨fun q hq hq2 => ?_, ?_, by rw [e]; exact o.name, ?_⟩
    · rw [hold i hi hik q (by omega)]
      exact o.tail q hq (by omega)
    · rw [hold i hi hik 15 (by decide)]
      exact o.pad
    · rw [e]
      by_cases h6 : (enR c i).1 = []
      · exact .inl h6
      · refine .inr fun q hq => ?_
        have h7 := o.only.resolve_left h6
        by_cases hqk : q = k
        · subst hqk
          rw [e1]
          intro heq
          rcases honly with h | h
          · exact h6 (by rw [← heq, h])
          · exact h i hi hik heq.symm
        · rw [enR_same hc hc' (by omega) (hold q (by omega) hqk)]
          exact h7 q hq
end

theorem nodes_append (a b : List En) : nodes (a ++ b) = nodes a ++ nodes b := by unfold nodes; rw [List.filter_append, List.map_append]

theorem nodes_cons2 (e : En) (l : List En) : nodes (e :: l) = (if e.1 = [] then [] else [e.2]) ++ nodes l := by
  rw [nodes_cons]
  split <;> rfl

theorem nodes_set {l : List En} {k : Nat} (hk : k < l.length) (x : En) : nodes (l.set k x) = nodes (l.take k) ++ ((if x.1 = [] then [] else [x.2]) ++ nodes (l.drop (k + 1))) := by
  rw [List.set_eq_take_append_cons_drop, if_pos hk, nodes_append, nodes_cons2]

theorem nodes_part {l : List En} {k : Nat} (hk : k < l.length) : nodes l = nodes (l.take k) ++ ((if l[k].1 = [] then [] else [l[k].2]) ++ nodes (l.drop (k + 1))) := by
  rw [← nodes_cons2, ← List.drop_eq_getElem_cons hk, ← nodes_append, List.take_append_drop]

theorem nodes_add {l : List En} {k : Nat} (hk : k < l.length) (h0 : l[k].1 = []) {x : En} (hx : x.1 ≠ []) : (nodes (l.set k x)).Perm (x.2 :: nodes l) := by
  rw [nodes_set hk, nodes_part hk, if_pos h0, if_neg hx, List.nil_append]
  exact List.perm_middle

theorem nodes_del {l : List En} {k : Nat} (hk : k < l.length) (h0 : l[k].1 ≠ []) : (nodes l).Perm (l[k].2 :: nodes (l.set k ([], 0))) := by
  rw [nodes_set hk, nodes_part hk, if_neg h0, if_pos rfl, List.nil_append]
  exact List.perm_middle

/-- What Alloc leaves, more of it. -/
theorem alloc_more {d : List UInt8} (h0 : chk d = 0) {kind : Nat} (hk : kind = 1 ∨ kind = 2) (he : (allocR d kind).2.2 = 0) :
    freeI d = some (allocR d kind).1 ∧ (∃ x, ∀ i, i / 128 ≠ 13 → i / 128 ≠ 14 + (allocR d kind).1 / 8 → i / 128 ≠ x → byt (allocR d kind).2.1 i = byt d i) ∧
      (kind = 2 → ∀ i, i < 128 → byt (allocR d kind).2.1 (128 * rb (allocR d kind).2.1 (allocR d kind).1 0 + i) = 0) := by
  obtain ⟨hd, hok⟩ := chk_zero h0
  unfold allocR at he ⊢
  have hne : ¬ chk d ≠ 0 := by rw [h0]; simp
  rw [if_neg hne] at he ⊢
  cases hf : freeI d with
  | none => rw [hf] at he; cases he
  | some n =>
    rw [hf] at he
    obtain ⟨hn, hkn⟩ := freeI_lt hf
    dsimp only at he ⊢
    by_cases h2 : kind = 2
    · subst h2
      rw [if_pos rfl] at he ⊢
      cases hx : freeB (bmp d) with
      | none => rw [hx] at he; cases he
      | some x =>
        dsimp only
        obtain ⟨hx1, hx2⟩ := freeB_lt hx
        have hbl := bmp_len hd
        have hpb : (putB (bmp d) x true).length = 12 := by rw [putB_len, hbl]
        have hsl := setBmp_len hd hpb
        have hz : (List.replicate 128 (0 : UInt8)).length = 128 := List.length_replicate
        have htl := takeD_len hd hx2
        have htb : ∀ m, byt (takeD d x) m = if 128 * x ≤ m ∧ m < 128 * x + 128 then byt (List.replicate 128 0) (m - 128 * x) else if 1664 ≤ m ∧ m < 1676 then byt (putB (bmp d) x true) (m - 1664) else byt d m := fun m => by
          unfold takeD
          rw [byt_lay (by rw [hz]; omega), hz, byt_setBmp hd hpb]
        obtain ⟨f1, f2, f3, f4⟩ := putI_fields htl hn 2 128 (fun i => if i = 0 then x else 0) (by decide) (by decide) (fun i _ => by split <;> omega)
        have hpb2 := byt_putI htl hn 2 128 (fun i => if i = 0 then x else 0)
        have f30 := f3 0 (by decide)
        rw [if_pos rfl] at f30
        refine ⟨rfl, ⟨x, fun i a b c => ?_⟩, fun _ i hi => ?_⟩
        · rw [hpb2, if_neg (by omega), htb, if_neg (by omega), if_neg (by omega)]
        · rw [f30, hpb2, if_neg (by omega), htb, if_pos (by omega)]
          unfold byt
          rw [List.getD_eq_getElem?_getD, List.getElem?_replicate]
          split <;> rfl
    · rw [if_neg h2] at he ⊢
      dsimp only
      have hpb2 := byt_putI hd hn 1 0 (fun _ => 0)
      refine ⟨rfl, ⟨0, fun i a b c => ?_⟩, fun h => absurd h h2⟩
      rw [hpb2, if_neg (by omega)]

theorem dir_bytes {d : List UInt8} (h0 : chk d = 0) {n : Nat} (hn : n < 32) (hk : rk d n = 2) : (contentR d n).length = 128 ∧ (∀ i, i < 128 → byt (contentR d n) i = byt d (128 * rb d n 0 + i)) ∧ 18 ≤ rb d n 0 ∧ rb d n 0 < 96 ∧ rb d n 0 ∈ part d n 12 ∧ rs d n = 128 := by
  obtain ⟨hd, hok⟩ := chk_zero h0
  obtain ⟨hcc, hb96⟩ := contentR_cut h0 hn hk
  obtain ⟨h1, h2, h3⟩ := dir_form hok hn hk
  rw [hcc]
  exact ⟨cut_len (by omega), fun i hi => byt_cut (by omega) hi, h2, h3, mem_part.2 ⟨by omega, 0, by decide, rfl⟩, h1⟩

theorem enB_two {x : En} (hx : x.1.length ≤ 14) : (enB x).length = 16 := enB_len hx

/-- An entry of a directory is written. -/
theorem wr16_ok {e : List UInt8} (h0 : chk e = 0) {n : Nat} (hn : n < 32) (hk : rk e n = 2) {k : Nat} (hk8 : k < 8) {x : En} (hx : x.1.length ≤ 14) (hz : ∀ j, j < x.1.length → byt x.1 j ≠ 0) (h2 : x.2 < 256) :
    chk (wr16 e n k (enB x)) = 0 ∧ (∀ m, m < 32 → SlotSame e (wr16 e n k (enB x)) m) ∧ (∀ m, m < 32 → m ≠ n → SameIno e (wr16 e n k (enB x)) m) ∧ (∀ i, i / 128 ≠ rb e n 0 → byt (wr16 e n k (enB x)) i = byt e i) ∧
      ens (contentR (wr16 e n k (enB x)) n) 8 = (ens (contentR e n) 8).set k x ∧
      (entsOk (contentR e n) = true → (x = ([], 0) ∨ (vname x.1 = true ∧ x.2 ≠ 0)) → (x.1 = [] ∨ ∀ i, i < 8 → i ≠ k → (enR (contentR e n) i).1 ≠ x.1) → entsOk (contentR (wr16 e n k (enB x)) n) = true) := by
  obtain ⟨hd, hok⟩ := chk_zero h0
  obtain ⟨c1, c2, c3, c4, c5, c6⟩ := dir_bytes h0 hn hk
  obtain ⟨p1, p2⟩ := ok_parts hok
  have hxl := enB_len hx
  have hwl := wr16_len hd hok hn hk hk8 hxl
  have hby : ∀ m, byt (wr16 e n k (enB x)) m = if 128 * rb e n 0 + 16 * k ≤ m ∧ m < 128 * rb e n 0 + 16 * k + 16 then byt (enB x) (m - (128 * rb e n 0 + 16 * k)) else byt e m := fun m => by
    unfold wr16
    rw [byt_lay (by omega), hxl]
  generalize wr16 e n k (enB x) = f at *
  have hslot : ∀ m, m < 32 → SlotSame e f m := fun m hm r hr => by rw [hby, if_neg (by omega)]
  have hblk : ∀ m, m < 32 → m ≠ n → ∀ y ∈ part e m 12, ∀ i, 128 * y ≤ i → i < 128 * y + 128 → byt f i = byt e i := fun m hm hmn y hy i a b => by
    have hne : y ≠ rb e n 0 := fun h => p2 m n hm hn hmn y hy (h ▸ c5)
    rw [hby, if_neg (by omega)]
  have hpf : part f n 12 = part e n 12 := slot_part (hslot n hn)
  obtain ⟨q1, q2, q3, q4⟩ := slot_all (hslot n hn)
  have hOk : Ok37 f := by
    refine ok_change hok hd hwl hn (fun m hm => by rw [hby, if_neg (by omega)]) (fun m a b => by rw [hby, if_neg (by omega)]) (fun m hm _ => hslot m hm) ?_ hblk (by rw [hpf]; exact p1 n hn) (fun m hm hmn y hy => ?_) (fun j hj => ?_)
    · have hf := hok.form n hn
      unfold formB at hf ⊢
      rw [q4, q1, q2]
      have hnz : ∀ b : Nat → Nat, ¬ inoZ (rk e n) (rs e n) b = true := fun b h => by
        have := (inoZ_iff.1 h).1
        omega
      rw [if_neg (hnz _)] at hf ⊢
      rw [Bool.and_eq_true, decide_eq_true_eq, decide_eq_true_eq] at hf ⊢
      obtain ⟨g0, g1, g2, g3, g4, g5, g6⟩ := hf
      refine ⟨g0, by rw [q1]; exact g1, by rw [q2]; exact g2, fun h => by rw [q1]; exact g3 h, fun i hi h => by rw [q3 i hi, q2] at *; exact g4 i hi h, ?_, by rw [q1, q2, q3 0 (by decide)]; exact g6⟩
      unfold tailZ
      rw [q2, c6]
      rfl
    · rw [hpf] at hy
      exact fun h => p2 n m hn hm (Ne.symm hmn) y hy h
    · rw [bmp_of_same hd hwl fun m a b => by rw [hby, if_neg (by omega)], ok_bit hok j, hpf]
      constructor
      · rintro (h | ⟨m, hm, h⟩)
        · exact .inl h
        · by_cases hmn : m = n
          · subst hmn
            exact .inr (.inl h)
          · exact .inr (.inr ⟨m, hm, hmn, h⟩)
      · rintro (h | h | ⟨m, hm, _, h⟩)
        · exact .inl h
        · exact .inr ⟨n, hn, h⟩
        · exact .inr ⟨m, hm, h⟩
  have hf0 := chk_ok hwl hOk
  obtain ⟨d1, d2, d3, d4, d5, d6⟩ := dir_bytes hf0 hn (by rw [q1]; exact hk)
  have hcont : ∀ i, i < 128 → byt (contentR f n) i = if 16 * k ≤ i ∧ i < 16 * k + 16 then byt (enB x) (i - 16 * k) else byt (contentR e n) i := fun i hi => by
    rw [d2 i hi, q3 0 (by decide), hby, c2 i hi]
    by_cases h : 16 * k ≤ i ∧ i < 16 * k + 16
    · rw [if_pos h, if_pos (by omega)]
      congr 1
      omega
    · rw [if_neg h, if_neg (by omega)]
  have hnew : ∀ r, r < 16 → byt (contentR f n) (16 * k + r) = byt (enB x) r := fun r hr => by
    rw [hcont _ (by omega), if_pos (by omega)]
    congr 1
    omega
  have hold : ∀ i, i < 8 → i ≠ k → ∀ r, r < 16 → byt (contentR f n) (16 * i + r) = byt (contentR e n) (16 * i + r) := fun i hi hik r hr => by
    rw [hcont _ (by omega), if_neg (by omega)]
  exact ⟨hf0, hslot, fun m hm hmn => ⟨hslot m hm, hblk m hm hmn⟩, fun i hi => by rw [hby, if_neg (by omega)], ens_set c1 d1 hk8 hx hz h2 hnew hold, fun a b c => ents_set c1 d1 hk8 hx hz h2 hnew hold a b c⟩

end Go.Proofs.YtbfpgfopppfhoaaGreatDoor
namespace Go.Proofs.YtbfpgfopppfhoaaGreatDoor
open Go Go.Sx
set_option maxRecDepth 100000
set_option linter.unusedVariables false
set_option linter.unusedSimpArgs false

structure Made (d e : List UInt8) (at0 k n kind : Nat) (last : List UInt8) : Prop where
  ok : chk38 e = 0
  dir : at0 ∈ (T0 d).dl
  k8 : k < 8
  was : ∀ h : k < ((T0 d).E at0).length, ((T0 d).E at0)[k].1 = []
  name : vname last = true
  new : fidx ((T0 d).E at0) last = none
  n32 : n < 32
  n0 : n ≠ 0
  free : rk d n = 0
  kd : rk e n = kind
  kinds : ∀ m, m < 32 → m ≠ n → rk e m = rk d m
  slots : ∀ m, m < 32 → m ≠ n → SlotSame d e m
  es : ∀ m ∈ (T0 d).dl, m ≠ at0 → (T0 e).E m = (T0 d).E m
  esAt : (T0 e).E at0 = ((T0 d).E at0).set k (last, n)
  esN : kind = 2 → (T0 e).E n = List.replicate 8 ([], 0)
  cont : ∀ m, m < 32 → rk d m ≠ 0 → m ≠ at0 → contentR e m = contentR d m
  diff : ∃ x y, ∀ i, i / 128 ≠ 13 → i / 128 ≠ 14 + n / 8 → i / 128 ≠ x → i / 128 ≠ y → byt e i = byt d i

theorem fidx_some {l : List En} {s : List UInt8} {k : Nat} (h : fidx l s = some k) : ∃ hk : k < l.length, l[k].1 = s := by
  have hk := fidx_lt h
  unfold fidx at h
  rw [List.findIdx?_eq_some_iff_getElem] at h
  obtain ⟨h1, h2, _⟩ := h
  exact ⟨h1, by simpa using h2⟩

theorem fidx_none {l : List En} {s : List UInt8} : fidx l s = none ↔ ∀ e ∈ l, e.1 ≠ s := by
  unfold fidx
  rw [List.findIdx?_eq_none_iff]
  simp

theorem enR_zero {c : List UInt8} (hc : c.length = 128) (h : ∀ i, i < 128 → byt c i = 0) {i : Nat} (hi : i < 8) : enR c i = ([], 0) :=
  (enR_new (c' := c) hc hi (x := ([], 0)) (by decide) (fun j hj => absurd hj (by simp)) (by decide) fun r hr => by
    rw [byt_enB (by decide) hr, h _ (by omega)]
    split
    · rfl
    · rw [if_neg (by simp)]).1

theorem ens_zero {c : List UInt8} (hc : c.length = 128) (h : ∀ i, i < 128 → byt c i = 0) : ens c 8 = List.replicate 8 ([], 0) := by
  refine List.ext_getElem (by simp [ens]) fun i h1 h2 => ?_
  have hi : i < 8 := by simpa [ens] using h1
  simp only [ens, List.getElem_map, List.getElem_range, List.getElem_replicate]
  exact enR_zero hc h hi

theorem entsOk_zero {c : List UInt8} (hc : c.length = 128) (h : ∀ i, i < 128 → byt c i = 0) : entsOk c = true := by
  rw [entsOk_iff]
  have he : ∀ i, i < 8 → enR c i = ([], 0) := fun i hi => enR_zero hc h hi
  intro i hi
  exact ⟨fun k hk _ => h _ (by omega), h _ (by omega), .inl (he i hi), .inl (by rw [he i hi])⟩

theorem T0_E (d : List UInt8) (n : Nat) : (T0 d).E n = ens (contentR d n) 8 := rfl

theorem made_of {d : List UInt8} (h38 : chk38 d = 0) {kind : Nat} (hk : kind = 1 ∨ kind = 2) (he : (allocR d kind).2.2 = 0) {at0 k : Nat} {last : List UInt8} (hdl : at0 ∈ (T0 d).dl) (hv : vname last = true)
    (hnew : fidx ((T0 d).E at0) last = none) (hfk : fidx ((T0 d).E at0) [] = some k) :
    Made d (wr16 (allocR d kind).2.1 at0 k (enB (last, (allocR d kind).1))) at0 k (allocR d kind).1 kind last := by
  obtain ⟨h0, hG, hE⟩ := tree_facts h38
  obtain ⟨g1, g2, n', x', g3, g4, g5, g6, g7, g8⟩ := alloc_ok h0 hk he
  obtain ⟨f1, ⟨x, f2⟩, f3⟩ := alloc_more h0 hk he
  obtain ⟨hat1, hat2⟩ := mem_dl.1 hdl
  obtain ⟨hk8, hkn⟩ := fidx_some hfk
  rw [(T0_ok d).len] at hk8
  rw [g3] at f2 f3 ⊢
  generalize (allocR d kind).2.1 = e1 at *
  generalize (allocR d kind).1 = n1 at *
  subst g3
  have hne : at0 ≠ n1 := fun e => by rw [e, g6] at hat2; cases hat2
  have hs1 : ∀ m, m < 32 → m ≠ n1 → SameIno d e1 m := fun m hm hmn => ⟨(g8 m hm hmn).1, fun y hy => ((g8 m hm hmn).2 y hy).2⟩
  obtain ⟨q1, q2, q3, q4⟩ := slot_all (hs1 at0 hat1 hne).slot
  have hc1 := content_same h0 g1 hat1 (by omega) (hs1 at0 hat1 hne)
  have hnm : fidx ((T0 d).E at0) last = none := hnew
  rw [fidx_none] at hnew
  have hnm2 : ∀ i, i < 8 → (enR (contentR d at0) i).1 ≠ last := fun i hi => hnew _ (List.mem_map.2 ⟨i, List.mem_range.2 hi, rfl⟩)
  obtain ⟨w1, w2, w3, w4, w5, w6⟩ := wr16_ok g1 hat1 (by rw [q1]; exact hat2) hk8 (x := (last, n1)) (vname_len hv).2 (vname_nz hv) (by show n1 < 256; omega)
  rw [hc1] at w5 w6
  have hw6 := w6 (hE at0 hdl) (.inr ⟨hv, g5⟩) (.inr fun i hi _ => hnm2 i hi)
  generalize wr16 e1 at0 k (enB (last, n1)) = e at *
  have hkinds : ∀ m, m < 32 → m ≠ n1 → rk e m = rk d m := fun m hm hmn => by
    rw [(slot_all (w2 m hm)).1, (slot_all (hs1 m hm hmn).slot).1]
  have hkn1 : rk e n1 = kind := by rw [(slot_all (w2 n1 g4)).1, g7]
  have hcont : ∀ m, m < 32 → rk d m ≠ 0 → m ≠ at0 → contentR e m = contentR d m := fun m hm hmk hma => by
    have hmn : m ≠ n1 := fun h => by rw [h] at hmk; exact hmk g6
    rw [content_same g1 w1 hm (by rw [(slot_all (hs1 m hm hmn).slot).1]; exact hmk) (w3 m hm hma), content_same h0 g1 hm hmk (hs1 m hm hmn)]
  have hzero : kind = 2 → (contentR e n1).length = 128 ∧ ∀ i, i < 128 → byt (contentR e n1) i = 0 := fun h2 => by
    obtain ⟨d1, d2, _⟩ := dir_bytes g1 g4 (by rw [g7]; exact h2)
    rw [content_same g1 w1 g4 (by omega) (w3 n1 g4 (Ne.symm hne))]
    exact ⟨d1, fun i hi => by rw [d2 i hi]; exact f3 h2 i hi⟩
  have hes : ∀ m ∈ (T0 d).dl, m ≠ at0 → (T0 e).E m = (T0 d).E m := fun m hm hma => by
    obtain ⟨m1, m2⟩ := mem_dl.1 hm
    rw [T0_E, T0_E, hcont m m1 (by omega) hma]
  have hesN : kind = 2 → (T0 e).E n1 = List.replicate 8 ([], 0) := fun h2 => ens_zero (hzero h2).1 (hzero h2).2
  have hdle : ∀ m, m ∈ (T0 e).dl ↔ m ∈ (T0 d).dl ∨ (m = n1 ∧ kind = 2) := fun m => by
    rw [mem_dl, mem_dl]
    by_cases hm : m = n1
    · subst hm
      rw [hkn1]
      constructor
      · rintro ⟨_, h⟩; exact .inr ⟨rfl, h⟩
      · rintro (⟨_, h⟩ | ⟨_, h⟩)
        · omega
        · exact ⟨g4, h⟩
    · constructor
      · rintro ⟨a, b⟩
        exact .inl ⟨a, by rw [← hkinds m a hm]; exact b⟩
      · rintro (⟨a, b⟩ | ⟨a, _⟩)
        · exact ⟨a, by rw [hkinds m a hm]; exact b⟩
        · exact absurd a hm
  have hlast : last ≠ [] := fun h => by rw [h] at hv; cases hv
  have hEl : k < ((T0 d).E at0).length := by rw [(T0_ok d).len]; exact hk8
  have hchAt : ((T0 e).ch at0).Perm (n1 :: (T0 d).ch at0) := by
    rw [T0_ch ((hdle at0).2 (.inl hdl)), T0_ch hdl, w5]
    exact nodes_add (l := ens (contentR d at0) 8) hEl hkn (x := (last, n1)) hlast
  have hch : ∀ m ∈ (T0 d).dl, m ≠ at0 → (T0 e).ch m = (T0 d).ch m := fun m hm hma => by
    rw [(T0 e).ch_es ((hdle m).2 (.inl hm)), (T0 d).ch_es hm, hes m hm hma]
  have hchN : (T0 e).ch n1 = [] := by
    by_cases h2 : kind = 2
    · rw [(T0 e).ch_es ((hdle n1).2 (.inr ⟨rfl, h2⟩)), hesN h2]
      rfl
    · exact (T0 e).ch_no fun h => by
        rcases (hdle n1).1 h with h | h
        · have := (mem_dl.1 h).2; omega
        · exact h2 h.2
  have hmem : ∀ m x, x ∈ (T0 e).ch m ↔ x ∈ (T0 d).ch m ∨ (m = at0 ∧ x = n1) := fun m x => by
    by_cases hma : m = at0
    · subst hma
      rw [hchAt.mem_iff, List.mem_cons]
      constructor
      · rintro (h | h)
        · exact .inr ⟨rfl, h⟩
        · exact .inl h
      · rintro (h | ⟨_, h⟩)
        · exact .inr h
        · exact .inl h
    · by_cases hmd : m ∈ (T0 d).dl
      · rw [hch m hmd hma]
        simp [hma]
      · rw [(T0 d).ch_no hmd]
        have : (T0 e).ch m = [] := by
          by_cases hmn : m = n1
          · rw [hmn]; exact hchN
          · exact (T0 e).ch_no fun h => by
              rcases (hdle m).1 h with h | h
              · exact hmd h
              · exact hmn h.1
        rw [this]
        simp [hma]
  have hin : ∀ m x, x ∈ (T0 d).ch m → x ≠ 0 ∧ x < 32 ∧ rk d x ≠ 0 ∧ x ≠ n1 := fun m x hx => by
    by_cases hmd : m ∈ (T0 d).dl
    · obtain ⟨a, b, c⟩ := hG.fine.ok m hmd x hx
      exact ⟨a, b, c, fun h => by rw [h] at c; exact c g6⟩
    · rw [(T0 d).ch_no hmd] at hx
      cases hx
  have hfine : (T0 e).Fine := by
    refine ⟨fun m hm x hx => ?_, fun m hm => ?_, fun m hm m' hm' x hx hx' => ?_⟩
    · rcases (hmem m x).1 hx with h | ⟨_, h⟩
      · obtain ⟨a, b, c, e'⟩ := hin m x h
        exact ⟨a, b, by show rk e x ≠ 0; rw [hkinds x b e']; exact c⟩
      · subst h
        exact ⟨g5, g4, by show rk e x ≠ 0; rw [hkn1]; omega⟩
    · by_cases hma : m = at0
      · subst hma
        refine hchAt.nodup_iff.2 (List.nodup_cons.2 ⟨fun h => (hin _ _ h).2.2.2 rfl, hG.fine.nd m hdl⟩)
      · by_cases hmd : m ∈ (T0 d).dl
        · rw [hch m hmd hma]
          exact hG.fine.nd m hmd
        · rcases (hdle m).1 hm with h | h
          · exact absurd h hmd
          · rw [h.1, hchN]
            exact List.nodup_nil
    · have hdd : ∀ m y, y ∈ (T0 d).ch m → m ∈ (T0 d).dl := fun m y hy => Classical.byContradiction fun h => by
        rw [(T0 d).ch_no h] at hy
        cases hy
      rcases (hmem m x).1 hx with h | ⟨h, h'⟩
      · rcases (hmem m' x).1 hx' with h2 | ⟨_, h2⟩
        · exact hG.fine.one m (hdd m x h) m' (hdd m' x h2) x h h2
        · exact absurd h2 (hin m x h).2.2.2
      · rcases (hmem m' x).1 hx' with h2 | ⟨h2, _⟩
        · exact absurd h' (hin m' x h2).2.2.2
        · rw [h, h2]
  have hrch : ∀ m, Rch (T0 d).ch m → Rch (T0 e).ch m := fun m h => by
    induction h with
    | root => exact .root
    | step _ hx ih => exact .step ih ((hmem _ _).2 (.inl hx))
  have hok : chk38 e = 0 := by
    refine chk38_of w1 (fun m hm => ?_) hfine fun m hm hmk => ?_
    · rcases (hdle m).1 hm with h | ⟨h, h2⟩
      · by_cases hma : m = at0
        · rw [hma]; exact hw6
        · obtain ⟨m1, m2⟩ := mem_dl.1 h
          rw [hcont m m1 (by omega) hma]
          exact hE m h
      · rw [h]
        exact entsOk_zero (hzero h2).1 (hzero h2).2
    · by_cases hmn : m = n1
      · rw [hmn]
        exact .step (hrch at0 (tree_rch h38 hat1 (by omega))) ((hmem _ _).2 (.inr ⟨rfl, rfl⟩))
      · exact hrch m (tree_rch h38 hm (by rw [← hkinds m hm hmn]; exact hmk))
  exact ⟨hok, hdl, hk8, fun h => hkn, hv, hnm, g4, g5, g6, hkn1, hkinds, fun m hm hmn r hr => by rw [w2 m hm r hr, (hs1 m hm hmn).slot r hr], hes, w5, hesN, hcont, ⟨x, rb e1 at0 0, fun i a b c c' => by rw [w4 i c', f2 i a b c]⟩⟩

/-- Make writes one entry. -/
theorem make_write {d : List UInt8} (h38 : chk38 d = 0) {kind : Nat} (hk : kind = 1 ∨ kind = 2) (he : (allocR d kind).2.2 = 0) {at0 k : Nat} {last : List UInt8} (hdl : at0 ∈ (T0 d).dl) (hv : vname last = true)
    (hfe : fidx ((T0 d).E at0) [] = some k) : (writeR (allocR d kind).2.1 at0 (encB (((T0 d).E at0).set k (last, (allocR d kind).1)))).1 = wr16 (allocR d kind).2.1 at0 k (enB (last, (allocR d kind).1)) := by
  obtain ⟨h0, hG, hE⟩ := tree_facts h38
  have hkl := fidx_lt hfe
  rw [(T0_ok d).len] at hkl
  obtain ⟨g1, g2, n', x', g3, g4, g5, g6, g7, g8⟩ := alloc_ok h0 hk he
  obtain ⟨hat1, hat2⟩ := mem_dl.1 hdl
  have hne2 : at0 ≠ n' := fun e => by
    rw [e, g6] at hat2
    cases hat2
  obtain ⟨hss, hbb⟩ := g8 at0 hat1 hne2
  obtain ⟨q1, q2, q3, q4⟩ := slot_all hss
  obtain ⟨c1, c2, c3, c4, c5, c6⟩ := dir_bytes h0 hat1 hat2
  have hw := writeR_entry g1 hat1 (by rw [q1]; exact hat2) c1 (entsOk_iff.1 (hE at0 hdl)) (fun i hi => by
    rw [q3 0 (by decide), (hbb (rb d at0 0) c5).2 _ (by omega) (by omega), c2 i hi]) hkl (x := (last, (allocR d kind).1)) (vname_len hv).2
  rw [T0_E, hw]

/-- When Make answers OK, and what it leaves then. -/
theorem make_made {d p : List UInt8} {kind : Int} (h : (makeR d p kind).2.2 = 0) : chk38 d = 0 ∧ (kind = 1 ∨ kind = 2) ∧ ∃ names at0 k, splitR p = (names, 0) ∧ names ≠ [] ∧ followR d names.dropLast 0 = (at0, 0) ∧
    fidx ((T0 d).E at0) [] = some k ∧ freeI d = some (makeR d p kind).1 ∧ Made d (makeR d p kind).2.1 at0 k (makeR d p kind).1 kind.toNat (names.getLastD []) := by
  have hsn := splitR_names p
  have hes := splitR_err p
  unfold makeR at h ⊢
  by_cases h38 : chk38 d = 0
  rotate_left
  · rw [if_pos h38] at h
    exact absurd h h38
  have hne : ¬ chk38 d ≠ 0 := by rw [h38]; simp
  rw [if_neg hne] at h ⊢
  obtain ⟨h0, hG, hE⟩ := tree_facts h38
  generalize splitR p = sp at *
  obtain ⟨names, se⟩ := sp
  dsimp only at hsn hes h ⊢
  by_cases hs : se ≠ 0
  · rw [if_pos hs] at h; cases h
  rw [if_neg hs] at h ⊢
  by_cases hk : kind ≠ 1 ∧ kind ≠ 2
  · rw [if_pos hk] at h; cases h
  rw [if_neg hk] at h ⊢
  by_cases hn : names = []
  · rw [if_pos hn] at h; cases h
  rw [if_neg hn] at h ⊢
  have hvn : ∀ s ∈ names, s ≠ [] := fun s hs h => by
    have := hsn s hs
    rw [h] at this
    cases this
  obtain ⟨hr1, hr2⟩ := mem_dl.1 (root_in h0)
  obtain ⟨hw1, hw2⟩ := walk_follow h38 names.dropLast 0 hr1 (by omega) fun s hs => hvn s (List.dropLast_subset _ hs)
  have hlast := getLast_eq hn
  have hlv : vname (names.getLastD []) = true := hsn _ (List.mem_of_getElem? hlast)
  generalize hfo : followR d names.dropLast 0 = fr at *
  obtain ⟨at0, fe⟩ := fr
  dsimp only at hw2 h ⊢
  by_cases hf : fe ≠ 0
  · rw [if_pos hf] at h; exact absurd h hf
  rw [if_neg hf] at h ⊢
  obtain ⟨ha1, ha2⟩ := hw2 (by omega)
  by_cases hdl : at0 ∈ (T0 d).dl
  rotate_left
  · rw [dirR_file h38 ha1 ha2 hdl] at h
    cases h
  rw [dirR_dir h38 hdl] at h ⊢
  dsimp only at h ⊢
  rw [if_neg (show ¬ ((0 : Nat) ≠ 0) by decide)] at h ⊢
  by_cases hq : fidx ((T0 d).E at0) (names.getLastD []) ≠ none
  · rw [if_pos hq] at h; cases h
  rw [if_neg hq] at h ⊢
  cases hfe : fidx ((T0 d).E at0) [] with
  | none => rw [hfe] at h; cases h
  | some k =>
    rw [hfe] at h
    dsimp only at h ⊢
    by_cases ha : (allocR d kind.toNat).2.2 ≠ 0
    · rw [if_pos ha] at h; exact absurd h ha
    rw [if_neg ha]
    have hkk : kind.toNat = 1 ∨ kind.toNat = 2 := by omega
    have hm := made_of h38 hkk (by omega) hdl hlv (by simpa using hq) hfe
    obtain ⟨f1, -, -⟩ := alloc_more h0 hkk (by omega)
    obtain ⟨g1, g2, n', x', g3, g4, g5, g6, g7, g8⟩ := alloc_ok h0 hkk (by omega)
    have hw := make_write h38 hkk (by omega) hdl hlv hfe
    rw [hw]
    exact ⟨h38, by omega, names, at0, k, by rw [show se = 0 by omega], hn, by rw [hfo, show fe = 0 by omega], hfe, f1, hm⟩

end Go.Proofs.YtbfpgfopppfhoaaGreatDoor
namespace Go.Proofs.YtbfpgfopppfhoaaGreatDoor
open Go Go.Sx
set_option maxRecDepth 100000
set_option maxHeartbeats 4000000
set_option linter.unusedVariables false
set_option linter.unusedSimpArgs false

/-- A list of strings of one's own. -/
structure Out where
  b : Nat
  cap : Nat
  C : List Value
  l : List (List UInt8)

def Out.rows (bo : Nat) (s : Out) : List (Nat × Row) := [(bo, Row.c [.slice (some ⟨s.b, 0, none⟩) s.l.length s.cap]), (s.b, Row.c s.C)]
def Out.Ok (s : Out) : Prop := Own 1 s.l.length (some ⟨s.b, 0, none⟩) s.cap s.C (s.l.map strV) ∧ s.l.length ≤ 1000000000
def addP (l : List (List UInt8)) (p : List UInt8) (n : Nat) : List (List UInt8) := if n ≠ 0 ∧ p.length ≤ 60 then l ++ [p] else l

theorem paths_cb (bo : Nat) (Pre : World → Prop) (s : Out) (hs : s.Ok) (hl : s.l.length < 1000000000) (p : List UInt8) (n : Nat) :
    RowsSpec Tryz.prog 64 [strV p, .int .i64 (n : Int), .pointer (some ⟨bo, 0, none⟩)] (s.rows bo) Pre (fun v F => ∃ s' : Out, s'.Ok ∧ s'.l = addP s.l p n ∧ F = ⟨fun _ => True, s'.rows bo⟩) := by
  have hsz : (ByteArray.mk ⟨p⟩).size = p.length := rfl
  obtain ⟨b, cap, C, l⟩ := s
  obtain ⟨hO, hlb⟩ := hs
  dsimp only at hO hl
  unfold Out.rows
  refine RowsSpec.of_xc tabOk Tryz.func64 rfl (by decide) (n := Tryz.f64.ntmps - 3) rfl rfl (by simp) fun w0 av => ?_
  have hno : addP l p n = l → ∃ F', Ent ⟨Pre, [(bo, Row.c [.slice (some ⟨b, 0, none⟩) l.length cap]), (b, Row.c C)]⟩ F' ∧ ∃ s' : Out, s'.Ok ∧ s'.l = addP l p n ∧ F' = ⟨fun _ => True, s'.rows bo⟩ := fun h =>
    ⟨_, Ent.imp fun w _ => trivial, ⟨b, cap, C, l⟩, ⟨hO, hlb⟩, h.symm, rfl⟩
  dsimp only
  conv => whnf
  repeat (refine XSame.of ?_; conv => whnf)
  refine XIf.split (fun h1 => ?_) (fun h1 => ?_)
  · have h1' : n ≠ 0 ∧ p.length ≤ 60 := by
      have h := h1
      simp [iNe_eq, iLe_eq, hsz] at h
      omega
    focus
      have ha : addP l p n = l ++ [p] := if_pos h1'
      conv => whnf
      repeat (refine XSame.of ?_; conv => whnf)
      refine XVal.of_read (XRead.loadF tabOk (t := 23) rfl rfl (ad := ⟨bo, 0, none⟩) (k := 0) (L := [.slice (some ⟨b, 0, none⟩) l.length cap]) (v := .slice (some ⟨b, 0, none⟩) l.length cap) (Sees.row (by simp)) (fun _ => rfl) rfl ?_)
      conv => whnf
      repeat (refine XSame.of ?_; conv => whnf)
      refine XVal.build tabOk (t := 23) rfl rfl rfl [strV p] rfl rfl (by simp [Value.cells, strV]) (by decide) fun b0 => ?_
      conv => whnf
      repeat (refine XSame.of ?_; conv => whnf)
      refine XVal.ent (F' := ⟨Pre, [(bo, Row.c [.slice (some ⟨b, 0, none⟩) l.length cap])] ++ orow (some ⟨b, 0, none⟩) C ++ [(b0, Row.c [strV p])]⟩) (Ent.of_le ⟨by simp [Value.cells, orow, strV], fun w hw => hw⟩) ?_
      refine XVal.append tabOk (t := 23) (xt := 23) rfl rfl rfl rfl rfl rfl (r1 := [(bo, Row.c [.slice (some ⟨b, 0, none⟩) l.length cap])]) (r2 := [(b0, Row.c [strV p])]) (M := [strV p]) hO (Sees.row (by simp)) rfl (by simp [strV, oneCell]) (by omega) (by simp; omega) fun a' c' C' hO' => ?_
      obtain ⟨b', rfl⟩ := own_some hO' (by omega)
      conv => whnf
      repeat (refine XSame.of ?_; conv => whnf)
      refine XUnit.storeIn tabOk (t := 23) rfl (r1 := []) (r2 := [(b', Row.c C'), (b0, Row.c [strV p])]) (b := bo) (k := 0) (C := [.slice (some ⟨b, 0, none⟩) l.length cap]) (v := .slice (some ⟨b', 0, none⟩) (l.length + 1) c') rfl rfl (by simp [Value.cells, oneCell]) (Nat.le_refl 1) ?_
      rw [show laid [Value.slice (some ⟨b, 0, none⟩) l.length cap] 0 (Value.slice (some ⟨b', 0, none⟩) (l.length + 1) c').cells.toList = [.slice (some ⟨b', 0, none⟩) (l.length + 1) c'] from rfl]
      conv => whnf
      repeat (refine XSame.of ?_; conv => whnf)
      refine ⟨⟨fun _ => True, (Out.mk b' c' C' (l ++ [p])).rows bo⟩, ?_, ⟨b', c', C', l ++ [p]⟩, ⟨?_, ?_⟩, ha.symm, rfl⟩
      · refine Ent.of_le ⟨?_, fun w _ => trivial⟩
        unfold Out.rows
        simp only [List.length_append, List.length_singleton]
        exact .cons_cons _ (.cons_cons _ (List.nil_sublist _))
      · simpa using hO'
      · simp; omega
  · have h1' : ¬ (n ≠ 0 ∧ p.length ≤ 60) := by
      have h := h1
      simp [iNe_eq, iLe_eq, hsz] at h
      omega
    conv => whnf
    repeat (refine XSame.of ?_; conv => whnf)
    exact hno (if_neg h1')

end Go.Proofs.YtbfpgfopppfhoaaGreatDoor
namespace Go.Proofs
open Go.Shelf
def Tryz.lays190_ren : Go.Shelf.Ren := ⟨fun | 190 => 65 | 125 => 106 | 258 => 105 | 128 => 144 | 129 => 145 | 302 => 135 | 303 => 136 | 304 => 137 | 305 => 138 | 306 => 139 | 307 => 140 | 308 => 141 | 309 => 142 | 310 => 143 | 333 => 164 | 329 => 165 | 330 => 166 | 334 => 167 | 335 => 168 | 336 => 169 | 344 => 181 | n => n, fun | 31 => 23 | 9 => 9 | 3 => 3 | 46 => 151 | 0 => 0 | 51 => 181 | 53 => 183 | 4 => 4 | 183 => 174 | 182 => 173 | 131 => 178 | 5 => 5 | 218 => 205 | 222 => 209 | 228 => 216 | 229 => 217 | n => n, fun | n => n⟩
theorem Tryz.lays190 : Go.Proofs.Lays.n190 Tryz.prog Tryz.lays190_ren := {
  mixed := by kernel_rfl
  f125 := Tryz.func106.trans (congrArg some (by kernel_rfl))
  f128 := Tryz.func144.trans (congrArg some (by kernel_rfl))
  f129 := Tryz.func145.trans (congrArg some (by kernel_rfl))
  f190 := Tryz.func65.trans (congrArg some (by kernel_rfl))
  f258 := Tryz.func105.trans (congrArg some (by kernel_rfl))
  f302 := Tryz.func135.trans (congrArg some (by kernel_rfl))
  f303 := Tryz.func136.trans (congrArg some (by kernel_rfl))
  f304 := Tryz.func137.trans (congrArg some (by kernel_rfl))
  f305 := Tryz.func138.trans (congrArg some (by kernel_rfl))
  f306 := Tryz.func139.trans (congrArg some (by kernel_rfl))
  f307 := Tryz.func140.trans (congrArg some (by kernel_rfl))
  f308 := Tryz.func141.trans (congrArg some (by kernel_rfl))
  f309 := Tryz.func142.trans (congrArg some (by kernel_rfl))
  f310 := Tryz.func143.trans (congrArg some (by kernel_rfl))
  f329 := Tryz.func165.trans (congrArg some (by kernel_rfl))
  f330 := Tryz.func166.trans (congrArg some (by kernel_rfl))
  f333 := Tryz.func164.trans (congrArg some (by kernel_rfl))
  f334 := Tryz.func167.trans (congrArg some (by kernel_rfl))
  f335 := Tryz.func168.trans (congrArg some (by kernel_rfl))
  f336 := Tryz.func169.trans (congrArg some (by kernel_rfl))
  f344 := Tryz.func181.trans (congrArg some (by kernel_rfl))
  t0 := Tryz.underlying0
  a0 := Tryz.isAgg0
  z0 := Tryz.sizeOf0
  v0 := Tryz.zeroValue0
  t3 := Tryz.underlying3
  a3 := Tryz.isAgg3
  z3 := Tryz.sizeOf3
  v3 := Tryz.zeroValue3
  t4 := Tryz.underlying4
  a4 := Tryz.isAgg4
  z4 := Tryz.sizeOf4
  v4 := Tryz.zeroValue4
  t5 := Tryz.underlying5
  a5 := Tryz.isAgg5
  z5 := Tryz.sizeOf5
  v5 := Tryz.zeroValue5
  t9 := Tryz.underlying9
  a9 := Tryz.isAgg9
  z9 := Tryz.sizeOf9
  v9 := Tryz.zeroValue9
  t31 := Tryz.underlying23
  a31 := Tryz.isAgg23
  z31 := Tryz.sizeOf23
  v31 := Tryz.zeroValue23
  t46 := Tryz.underlying151
  a46 := Tryz.isAgg151
  z46 := Tryz.sizeOf151
  v46 := Tryz.zeroValue151
  t51 := Tryz.underlying181
  a51 := Tryz.isAgg181
  z51 := Tryz.sizeOf181
  v51 := Tryz.zeroValue181
  t53 := Tryz.underlying183
  a53 := Tryz.isAgg183
  z53 := Tryz.sizeOf183
  v53 := Tryz.zeroValue183
  t131 := Tryz.underlying178
  a131 := Tryz.isAgg178
  z131 := Tryz.sizeOf178
  v131 := Tryz.zeroValue178
  t182 := Tryz.underlying173
  a182 := Tryz.isAgg173
  z182 := Tryz.sizeOf173
  v182 := Tryz.zeroValue173
  t183 := Tryz.underlying174
  a183 := Tryz.isAgg174
  z183 := Tryz.sizeOf174
  v183 := Tryz.zeroValue174
  t218 := Tryz.underlying205
  a218 := Tryz.isAgg205
  z218 := Tryz.sizeOf205
  v218 := Tryz.zeroValue205
  t222 := Tryz.underlying209
  a222 := Tryz.isAgg209
  z222 := Tryz.sizeOf209
  v222 := Tryz.zeroValue209
  t228 := Tryz.underlying216
  a228 := Tryz.isAgg216
  z228 := Tryz.sizeOf216
  v228 := Tryz.zeroValue216
  t229 := Tryz.underlying217
  a229 := Tryz.isAgg217
  z229 := Tryz.sizeOf217
  v229 := Tryz.zeroValue217 }
open Go.Sort Go.RowKit in
theorem Tryz.slices_Sort_string (blk off cap : Nat) (ss : List (List UInt8)) (w : World) (hH : Holds encStr w blk off ss.toArray) (hblk : blk < w.heap.size) (hsz : ss.length < 4611686018427387904) :
    Calls Tryz.prog 65 #[.slice (some ⟨blk, off, none⟩) ss.length cap] w fun e w' =>
      e = .returned (.tuple #[]) ∧ ∃ n os, w' = grow (putRow encStr (Sort.ahead w n) blk off (ss.mergeSort fun x y => decide (x ≤ y)).toArray) os := Any.slices_Sort_string Tryz.lays190 blk off cap ss w hH hblk hsz
open Go.RowKit Go.Sort in
/-- .. and plain. (LAID: no walk: one application.) -/
theorem Tryz.slices_Sort_string_none (p : Option Addr) (cap : Nat) (w : World) :
    Calls Tryz.prog 65 #[.slice p 0 cap] w fun e w' => e = .returned (.tuple #[]) ∧ w' = w := Any.slices_Sort_string_none Tryz.lays190 p cap w
end Go.Proofs
namespace Go.Proofs.YtbfpgfopppfhoaaGreatDoor
open Go Go.Sx
set_option maxRecDepth 100000
set_option maxHeartbeats 4000000
set_option linter.unusedVariables false
set_option linter.unusedSimpArgs false

noncomputable def sortL (l : List (List UInt8)) : List (List UInt8) := l.mergeSort fun x y => decide (x ≤ y)

theorem sortL_len (l : List (List UInt8)) : (sortL l).length = l.length := List.length_mergeSort l

theorem putCells_list (s : List (List UInt8)) (C : List Value) (hs : s.length ≤ C.length) :
    Go.Sort.putCells encStr 0 s.toArray C.toArray = (s.map strV ++ C.drop s.length).toArray := by
  apply Array.ext_getElem?
  intro k
  unfold Go.Sort.putCells
  rw [Array.getElem?_mapIdx]
  simp only [List.getElem?_toArray, List.size_toArray, Nat.zero_le, true_and, Nat.zero_add, Nat.sub_zero]
  by_cases hk : k < s.length
  · have hkC : k < C.length := by omega
    rw [List.getElem?_append_left (by simpa using hk), List.getElem?_eq_getElem hkC]
    simp [hk, strV]
  · rw [List.getElem?_append_right (by simpa using Nat.le_of_not_lt hk), List.length_map, List.getElem?_drop, show s.length + (k - s.length) = k by omega]
    cases C[k]? with
    | none => rfl
    | some x => simp [hk]

theorem sort_spec (b cap : Nat) (C : List Value) (l : List (List UInt8)) (hO : Own 1 l.length (some ⟨b, 0, none⟩) cap C (l.map strV)) (hl : l.length ≤ 1000000000) (Pre : World → Prop) :
    RowsSpec Tryz.prog 65 [.slice (some ⟨b, 0, none⟩) l.length cap] [(b, Row.c C)] Pre
      (fun v F => v = .tuple #[] ∧ ∃ C', Own 1 l.length (some ⟨b, 0, none⟩) cap C' ((sortL l).map strV) ∧ F = ⟨fun _ => True, [(b, Row.c C')]⟩) := by
  obtain ⟨hCl, hCt⟩ : C.length = cap ∧ C.take l.length = l.map strV := by
    rcases hO.alt with ⟨h, _⟩ | ⟨b', h, h1, h2⟩
    · cases h
    · exact ⟨by simpa using h1, by simpa using h2⟩
  have hfit := hO.fit
  unfold RowsSpec
  refine ⟨⟨_, Tryz.func65, by decide, by decide⟩, fun av w hav hrows hnd hpre => ?_⟩
  obtain ⟨⟨e, hb⟩, hnav⟩ := hrows (b, Row.c C) (by simp)
  dsimp only at hb hnav
  have hblk : b < w.heap.size := lt_of_some hb
  have hcell : ∀ j (hj : j < l.length), C[j]? = some (strV l[j]) := fun j hj => by
    have h := congrArg (fun x => x[j]?) hCt
    simp only [List.getElem?_take, hj, if_true, List.getElem?_map, List.getElem?_eq_getElem, Option.map_some] at h
    exact h
  have hH : Go.Sort.Holds encStr w b 0 l.toArray := by
    intro j hj
    have hj' : j < l.length := by simpa using hj
    constructor
    · have h1 := hcell j hj'
      simp only [World.cell?, hb, Nat.zero_add]
      simp [h1, hj', strV]
    · simp [World.frozen?, hb]
  refine (Tryz.slices_Sort_string b 0 cap l w hH hblk (by omega)).mono ?_
  rintro r w' ⟨rfl, n, os, hw⟩
  replace hw : w' = Go.Sort.grow (Go.Sort.putRow encStr (Go.Sort.ahead w n) b 0 (sortL l).toArray) os := hw
  subst hw
  have hsz : (sortL l).length ≤ C.length := by rw [sortL_len]; omega
  have hnew : (Go.Sort.grow (Go.Sort.putRow encStr (Go.Sort.ahead w n) b 0 (sortL l).toArray) os).heap[b]? = some (.cells ((sortL l).map strV ++ C.drop (sortL l).length).toArray e (0, 0)) := by
    show ((w.heap.modify b (Go.Sort.onCells (Go.Sort.putCells encStr 0 (sortL l).toArray))) ++ os)[b]? = _
    rw [Array.getElem?_append_left (by simpa using hblk), Array.getElem?_modify, if_pos rfl, hb]
    simp only [Option.map_some, Go.Sort.onCells]
    rw [putCells_list _ _ hsz]
  have hold : ∀ k, k < w.heap.size → k ≠ b → (Go.Sort.grow (Go.Sort.putRow encStr (Go.Sort.ahead w n) b 0 (sortL l).toArray) os).heap[k]? = w.heap[k]? := fun k hk hne => by
    show ((w.heap.modify b (Go.Sort.onCells (Go.Sort.putCells encStr 0 (sortL l).toArray))) ++ os)[k]? = _
    rw [Array.getElem?_append_left (by simpa using hk), Array.getElem?_modify, if_neg (Ne.symm hne)]
  have hC'l : ((sortL l).map strV ++ C.drop (sortL l).length).length = C.length := by
    rw [List.length_append, List.length_map, List.length_drop]
    omega
  refine ⟨_, ⟨fun _ => True, [(b, Row.c ((sortL l).map strV ++ C.drop (sortL l).length))]⟩, rfl, ⟨rfl, rfl, rfl, ?_, fun k o ho => ?_⟩, ?_, by simp, .pure trivial, rfl, _, ⟨?_, hfit, .inr ⟨b, rfl, ?_, ?_⟩⟩, rfl⟩
  · show w.heap.size ≤ ((w.heap.modify b (Go.Sort.onCells (Go.Sort.putCells encStr 0 (sortL l).toArray))) ++ os).size
    simp
  · by_cases hk : k = b
    · subst hk
      rw [hb] at ho
      cases ho
      refine ⟨_, hnew, .inr (.inl ⟨_, _, _, _, rfl, rfl, ?_, fun i hi => absurd ⟨_, List.mem_singleton.2 rfl, rfl⟩ hi⟩)⟩
      simpa using hC'l
    · exact ⟨o, by rw [hold k (lt_of_some ho) hk, ho], .refl _ _⟩
  · intro r hr
    simp at hr
    subst hr
    exact ⟨⟨e, hnew⟩, .inr ⟨⟨_, List.mem_singleton.2 rfl, rfl⟩, by simp⟩⟩
  · rw [List.length_map, sortL_len]; simp
  · rw [hC'l, hCl]; simp
  · rw [Nat.mul_one, List.take_append_of_le_length (by simp [sortL_len]), List.take_of_length_le (by simp [sortL_len])]

end Go.Proofs.YtbfpgfopppfhoaaGreatDoor
namespace Go.Proofs.YtbfpgfopppfhoaaGreatDoor
open Go Go.Sx
set_option maxRecDepth 100000
set_option linter.unusedVariables false
set_option linter.unusedSimpArgs false

structure Fresh (d : List UInt8) : Prop where
  ok : chk38 d = 0
  k0 : rk d 0 = 2
  ks : ∀ m, 1 ≤ m → m < 32 → rk d m = 0
  es : (T0 d).E 0 = List.replicate 8 ([], 0)
  bit : ∃ x, freeB (bmp d) = some x

theorem fresh_of {d : List UInt8} (h : FmtBytes d) : Fresh d := by
  obtain ⟨hd, h1, h2, h3, h4⟩ := h
  have hk0 : rk d 0 = 2 := h1 1792 (by decide) (by decide)
  have hs0 : rs d 0 = 128 := by
    unfold rs
    rw [h1 _ (by decide) (by decide), h1 _ (by decide) (by decide)]
    rfl
  have hb0 : ∀ i, i < 12 → rb d 0 i = if i = 0 then 18 else 0 := fun i hi => by
    show byt d (1792 + 16 * 0 + (3 + i)) = _
    rw [h1 _ (by omega) (by omega), show 1792 + 16 * 0 + (3 + i) - 1792 = 3 + i by omega, byt_inoB _ _ _ hi]
    split <;> rfl
  have hp0 : rp d 0 = 0 := h1 1807 (by decide) (by decide)
  have hz : ∀ n, 1 ≤ n → n < 32 → ∀ r, r < 16 → byt d (1792 + 16 * n + r) = 0 := fun n hn1 hn r hr => h4 _ (by omega) (by omega) (by omega) (by omega)
  have hkz : ∀ n, 1 ≤ n → n < 32 → rk d n = 0 := fun n a b => hz n a b 0 (by decide)
  have hbz : ∀ n, 1 ≤ n → n < 32 → ∀ i, i < 12 → rb d n i = 0 := fun n a b i hi => hz n a b (3 + i) (by omega)
  have hpt0 : part d 0 12 = [18] := by
    have hfm : (List.range 12).map (rb d 0) = (List.range 12).map fun i => if i = 0 then 18 else 0 := List.map_congr_left fun i hi => hb0 i (List.mem_range.1 hi)
    unfold part
    rw [hfm]
    decide
  have hptz : ∀ n, 1 ≤ n → n < 32 → part d n 12 = [] := fun n a b => by
    rw [List.eq_nil_iff_forall_not_mem]
    intro y hy
    obtain ⟨h0, i, hi, rfl⟩ := mem_part.1 hy
    exact h0 (hbz n a b i hi)
  have hbmp : bmp d = wantB (List.range 19) := by
    refine byt_ext (by rw [bmp_len hd, wantB_len]) fun i hi => ?_
    rw [bmp_len hd] at hi
    unfold bmp
    rw [byt_cut (by omega) hi, h2 _ (by omega) (by omega)]
    congr 1
    omega
  have hOk : Ok37 d := by
    refine ok_of hd ?_ ?_ ?_ (fun n hn => ?_) (fun n hn => ?_) (fun n m hn hm hne x hx hy => ?_) (fun j hj => ?_)
    · refine byt_ext (by rw [cut_len (by omega)]; rfl) fun i hi => ?_
      rw [cut_len (by omega)] at hi
      rw [byt_cut (by omega) hi, h3 _ (by omega), Nat.zero_add]
    · rw [allZ_iff]
      intro i hi
      rw [cut_len (by omega)] at hi
      rw [byt_cut (by omega) hi]
      exact h4 _ (by omega) (by omega) (by omega) (by omega)
    · rw [allZ_iff]
      intro i hi
      rw [cut_len (by omega)] at hi
      rw [byt_cut (by omega) hi]
      exact h4 _ (by omega) (by omega) (by omega) (by omega)
    · unfold formB
      by_cases hn0 : n = 0
      · subst hn0
        have hnz : ¬ inoZ (rk d 0) (rs d 0) (rb d 0) = true := fun h => by
          have := (inoZ_iff.1 h).1
          omega
        rw [hp0, Bool.and_eq_true]
        refine ⟨by decide, ?_⟩
        rw [if_neg hnz, decide_eq_true_eq]
        refine ⟨.inr hk0, by rw [hs0]; decide, fun _ => hk0, fun i hi h => ?_, ?_, .inr ⟨hs0, by rw [hb0 0 (by decide)]; decide⟩⟩
        · rw [hb0 i hi] at h ⊢
          by_cases hi0 : i = 0
          · rw [if_pos hi0, hs0]
            omega
          · rw [if_neg hi0] at h
            exact absurd rfl h
        · unfold tailZ
          rw [hs0]
          rfl
      · have hrp : rp d n = 0 := hz n (by omega) hn 15 (by decide)
        have hrs : rs d n = 0 := by
          unfold rs
          rw [hz n (by omega) hn 1 (by decide), hz n (by omega) hn 2 (by decide)]
        have hiz : inoZ (rk d n) (rs d n) (rb d n) = true := inoZ_iff.2 ⟨hkz n (by omega) hn, hrs, hbz n (by omega) hn⟩
        rw [hrp, if_pos hiz, Bool.and_eq_true]
        exact ⟨by decide, by simpa using hn0⟩
    · by_cases hn0 : n = 0
      · rw [hn0, hpt0]; simp
      · rw [hptz n (by omega) hn]; simp
    · by_cases hn0 : n = 0
      · rw [hptz m (by omega) hm] at hy
        cases hy
      · rw [hptz n (by omega) hn] at hx
        cases hx
    · rw [hbmp, getB_want (fun i hi => by have := List.mem_range.1 hi; omega), decide_eq_true_iff, List.mem_range]
      constructor
      · intro h
        by_cases hj2 : j < 18
        · exact .inl hj2
        · exact .inr ⟨0, by decide, by rw [hpt0, show j = 18 by omega]; simp⟩
      · rintro (h | ⟨n, hn, h⟩)
        · omega
        · by_cases hn0 : n = 0
          · rw [hn0, hpt0] at h
            have : j = 18 := by simpa using h
            omega
          · rw [hptz n (by omega) hn] at h
            cases h
  have h0 := chk_ok hd hOk
  obtain ⟨c1, c2, c3, c4, c5, c6⟩ := dir_bytes h0 (show 0 < 32 by decide) hk0
  have hcz : ∀ i, i < 128 → byt (contentR d 0) i = 0 := fun i hi => by
    rw [c2 i hi, hb0 0 (by decide), if_pos rfl]
    exact h4 _ (by omega) (by omega) (by omega) (by omega)
  have hE0 : (T0 d).E 0 = List.replicate 8 ([], 0) := ens_zero c1 hcz
  have hdl : ∀ m ∈ (T0 d).dl, m = 0 := fun m hm => by
    obtain ⟨a, b⟩ := mem_dl.1 hm
    refine Classical.byContradiction fun hne => ?_
    rw [hkz m (by omega) a] at b
    cases b
  have hch : ∀ m ∈ (T0 d).dl, (T0 d).ch m = [] := fun m hm => by
    rw [(T0 d).ch_es hm, hdl m hm, hE0]
    rfl
  refine ⟨chk38_of h0 (fun m hm => ?_) ⟨fun m hm x hx => ?_, fun m hm => ?_, fun m hm m' hm' x hx hx' => ?_⟩ fun m hm hmk => ?_, hk0, fun m a b => hkz m a b, hE0, ?_⟩
  · rw [hdl m hm]
    exact entsOk_zero c1 hcz
  · rw [hch m hm] at hx
    cases hx
  · rw [hch m hm]
    exact List.nodup_nil
  · rw [hch m hm] at hx
    cases hx
  · by_cases hm0 : m = 0
    · rw [hm0]; exact .root
    · exact absurd (hkz m (by omega) hm) hmk
  · cases hx : freeB (bmp d) with
    | some x => exact ⟨x, rfl⟩
    | none =>
      exfalso
      unfold freeB at hx
      rw [List.find?_eq_none] at hx
      have := hx 19 (by rw [List.mem_range'_1]; omega)
      rw [hbmp, getB_want (fun i hi => by have := List.mem_range.1 hi; omega)] at this
      simp at this

theorem make_fwd {d p : List UInt8} {kind : Int} {names : List (List UInt8)} {at0 k : Nat} (h38 : chk38 d = 0) (hs : splitR p = (names, 0)) (hk : kind = 1 ∨ kind = 2) (hn : names ≠ []) (hf : followR d names.dropLast 0 = (at0, 0))
    (hdl : at0 ∈ (T0 d).dl) (hnew : fidx ((T0 d).E at0) (names.getLastD []) = none) (hfe : fidx ((T0 d).E at0) [] = some k) (ha : (allocR d kind.toNat).2.2 = 0) : (makeR d p kind).2.2 = 0 := by
  unfold makeR
  rw [if_neg (show ¬ chk38 d ≠ 0 by rw [h38]; simp), hs]
  dsimp only
  rw [if_neg (by decide), if_neg (by omega), if_neg hn, hf]
  dsimp only
  rw [if_neg (by decide), dirR_dir h38 hdl]
  dsimp only
  rw [if_neg (by decide), if_neg (by rw [hnew]; simp), hfe]
  dsimp only
  rw [if_neg (by rw [ha]; simp)]

theorem made_at {d p : List UInt8} {kind : Int} {names : List (List UInt8)} {at0 k n : Nat} (h38 : chk38 d = 0) (hs : splitR p = (names, 0)) (hk : kind = 1 ∨ kind = 2) (hn : names ≠ []) (hf : followR d names.dropLast 0 = (at0, 0))
    (hdl : at0 ∈ (T0 d).dl) (hnew : fidx ((T0 d).E at0) (names.getLastD []) = none) (hfe : fidx ((T0 d).E at0) [] = some k) (hfr : freeI d = some n) (hb : kind = 2 → ∃ x, freeB (bmp d) = some x) :
    makeR d p kind = (n, (makeR d p kind).2.1, 0) ∧ Made d (makeR d p kind).2.1 at0 k n kind.toNat (names.getLastD []) := by
  have ha : (allocR d kind.toNat).2.2 = 0 := by
    obtain ⟨h0, -, -⟩ := tree_facts h38
    unfold allocR
    rw [if_neg (show ¬ chk d ≠ 0 by rw [h0]; simp), hfr]
    dsimp only
    by_cases h2 : kind.toNat = 2
    · obtain ⟨x, hx⟩ := hb (by omega)
      rw [if_pos h2, hx]
    · rw [if_neg h2]
  have h := make_fwd h38 hs hk hn hf hdl hnew hfe ha
  obtain ⟨-, -, names', at', k', a1, a2, a3, a4, a5, a6⟩ := make_made h
  rw [hs] at a1
  cases a1
  rw [hf] at a3
  cases a3
  rw [hfe] at a4
  cases a4
  rw [hfr] at a5
  have a5 : n = (makeR d p kind).1 := Option.some.inj a5
  rw [← a5] at a6
  exact ⟨Prod.ext a5.symm (Prod.ext rfl h), a6⟩

theorem sortL_sorted {l : List (List UInt8)} (h : l.Pairwise fun x y => decide (x ≤ y) = true) : sortL l = l := List.mergeSort_of_pairwise h

noncomputable def pathsL (d : List UInt8) : List (List UInt8) := ((T0 d).V 33 0 []).foldl (fun l x => addP l x.1 x.2) [[47]]

theorem awake_math {d : List UInt8} (hF : Fresh d) : ∃ d1 d2, makeR d [47, 97] 2 = (1, d1, 0) ∧ makeR d1 [47, 97, 47, 98] 1 = (2, d2, 0) ∧ chk38 d1 = 0 ∧ chk38 d2 = 0 ∧ pathsL d2 = [[47], [47, 97], [47, 97, 47, 98]] ∧ (unlinkR d2 [47, 97]).2 = 12 := by
  obtain ⟨h38, k0, ks, es0, hb⟩ := hF
  have hs1 : splitR [47, 97] = ([[97]], 0) := by decide
  have hs2 : splitR [47, 97, 47, 98] = ([[97], [98]], 0) := by decide
  have hdl0 : 0 ∈ (T0 d).dl := mem_dl.2 ⟨by decide, k0⟩
  obtain ⟨e1, M1⟩ := made_at (p := [47, 97]) (kind := 2) (names := [[97]]) (at0 := 0) (k := 0) (n := 1) h38 hs1 (.inr rfl) (by simp) rfl hdl0 (by rw [es0]; decide) (by rw [es0]; decide)
    (freeI_some (by decide) (fun j hj => by rw [show j = 0 by omega, k0]; decide) (ks 1 (by decide) (by decide))) (fun _ => hb)
  generalize (makeR d [47, 97] 2).2.1 = d1 at *
  have kd1 : rk d1 1 = 2 := M1.kd
  have k10 : rk d1 0 = 2 := by rw [M1.kinds 0 (by decide) (by decide)]; exact k0
  have k12 : ∀ m, 2 ≤ m → m < 32 → rk d1 m = 0 := fun m a b => by rw [M1.kinds m b (by omega)]; exact ks m (by omega) b
  have hE0 : (T0 d1).E 0 = (List.replicate 8 ([], 0)).set 0 ([97], 1) := by have := M1.esAt; rwa [es0] at this
  have hE1 : (T0 d1).E 1 = List.replicate 8 ([], 0) := M1.esN rfl
  have hd0 : 0 ∈ (T0 d1).dl := mem_dl.2 ⟨by decide, k10⟩
  have hd1 : 1 ∈ (T0 d1).dl := mem_dl.2 ⟨by decide, kd1⟩
  have hfo : followR d1 [[97]] 0 = (1, 0) := by
    have hdr := dirR_dir M1.ok hd0
    unfold followR
    rw [show ((0 : Nat) : Int) = 0 from rfl] at hdr
    rw [show ((0 : Nat) : Int) = 0 from rfl, hdr, hE0]
    rfl
  obtain ⟨e2, M2⟩ := made_at (p := [47, 97, 47, 98]) (kind := 1) (names := [[97], [98]]) (at0 := 1) (k := 0) (n := 2) M1.ok hs2 (.inl rfl) (by simp) hfo hd1 (by rw [hE1]; decide) (by rw [hE1]; decide)
    (freeI_some (by decide) (fun j hj => by
      by_cases h : j = 0
      · rw [h, k10]; decide
      · rw [show j = 1 by omega, kd1]; decide) (k12 2 (by decide) (by decide))) (fun h => by cases h)
  generalize (makeR d1 [47, 97, 47, 98] 1).2.1 = d2 at *
  have kd2 : rk d2 2 = 1 := M2.kd
  have k20 : rk d2 0 = 2 := by rw [M2.kinds 0 (by decide) (by decide)]; exact k10
  have k21 : rk d2 1 = 2 := by rw [M2.kinds 1 (by decide) (by decide)]; exact kd1
  have hF0 : (T0 d2).E 0 = (List.replicate 8 ([], 0)).set 0 ([97], 1) := by rw [M2.es 0 hd0 (by decide)]; exact hE0
  have hF1 : (T0 d2).E 1 = (List.replicate 8 ([], 0)).set 0 ([98], 2) := by have := M2.esAt; rwa [hE1] at this
  have hg0 : 0 ∈ (T0 d2).dl := mem_dl.2 ⟨by decide, k20⟩
  have hg1 : 1 ∈ (T0 d2).dl := mem_dl.2 ⟨by decide, k21⟩
  have hg2 : 2 ∉ (T0 d2).dl := fun h => by have := (mem_dl.1 h).2; omega
  have s0 : (T0 d2).es 0 = (List.replicate 8 ([], 0)).set 0 ([97], 1) := by unfold Tree.es; rw [if_pos hg0, hF0]
  have s1 : (T0 d2).es 1 = (List.replicate 8 ([], 0)).set 0 ([98], 2) := by unfold Tree.es; rw [if_pos hg1, hF1]
  have s2 : (T0 d2).es 2 = [] := by unfold Tree.es; rw [if_neg hg2]
  refine ⟨d1, d2, e1, e2, M1.ok, M2.ok, ?_, ?_⟩
  · unfold pathsL
    have hV : (T0 d2).V 33 0 [] = [([], 0), ([47, 97], 1), ([47, 97, 47, 98], 2)] := by
      generalize T0 d2 = T at *
      have v2 : ∀ f p, T.V (f + 1) 2 p = [(p, 2)] := fun f p => by
        unfold Tree.V
        rw [s2]
        rfl
      have v1 : ∀ f p, T.V (f + 1 + 1) 1 p = [(p, 1), (p ++ [47] ++ [98], 2)] := fun f p => by
        unfold Tree.V
        rw [s1]
        simp [List.replicate, v2]
      have v0 : ∀ f p, T.V (f + 1 + 1 + 1) 0 p = [(p, 0), (p ++ [47] ++ [97], 1), (p ++ [47] ++ [97] ++ [47] ++ [98], 2)] := fun f p => by
        unfold Tree.V
        rw [s0]
        simp [List.replicate, v1]
      exact v0 30 []
    rw [hV]
    decide
  · have hdr := dirR_dir M2.ok hg0
    have hdr1 := dirR_dir M2.ok hg1
    have hfo2 : followR d2 [[97]] 0 = (1, 0) := by
      unfold followR
      rw [hdr, hF0]
      rfl
    unfold unlinkR
    rw [if_neg (show ¬ chk38 d2 ≠ 0 by rw [M2.ok]; simp), hs1]
    dsimp only
    rw [if_neg (by decide), if_neg (by simp), hfo2]
    dsimp only
    rw [if_neg (by decide), hdr1, hF1, if_pos]
    exact ⟨rfl, ([98], 2), by simp [List.replicate], by simp⟩

end Go.Proofs.YtbfpgfopppfhoaaGreatDoor
namespace Go.Proofs.YtbfpgfopppfhoaaGreatDoor
open Go Go.Sx
set_option maxRecDepth 100000
set_option maxHeartbeats 4000000
set_option linter.unusedVariables false
set_option linter.unusedSimpArgs false

theorem V_nodes (T : Tree) : ∀ (f n : Nat) (p : List UInt8), (T.V f n p).map (·.2) = preo T.ch f n
  | 0, _, _ => rfl
  | f + 1, n, p => by
    unfold Tree.V preo
    rw [List.map_cons]
    congr 1
    unfold Tree.ch
    induction T.es n with
    | nil => rfl
    | cons e l ih =>
      rw [List.flatMap_cons, List.map_append, ih, nodes_cons]
      by_cases h : e.1 = []
      · rw [if_pos h, if_pos h]
        rfl
      · rw [if_neg h, if_neg h, List.flatMap_cons, V_nodes T f]
        rfl

theorem V_len {T : Tree} (hG : T.Good) : (T.V 33 0 []).length ≤ 32 := by
  have hu := hG.fine.uniq
  have h1 : (preo T.ch 33 0).Nodup := pre_nodup hu 33 .root
  have h2 : (T.V 33 0 []).length = (preo T.ch 33 0).length := by rw [← V_nodes T 33 0 [], List.length_map]
  rw [h2]
  refine nodup_small 32 _ h1 fun x hx => ?_
  rcases pre_up 33 hx with h | ⟨y, _, h⟩
  · omega
  · exact hu.lt _ _ h

theorem V_same (d : List UInt8) (H : Nat → Hd) : ∀ (f n : Nat) (p : List UInt8), (theTree d H).V f n p = (T0 d).V f n p
  | 0, _, _ => rfl
  | f + 1, n, p => by
    unfold Tree.V
    have h : (theTree d H).es n = (T0 d).es n := rfl
    rw [h]
    congr 1
    refine congrArg List.flatten (List.map_congr_left fun e he => ?_)
    by_cases h : e.1 = []
    · rw [if_pos h, if_pos h]
    · rw [if_neg h, if_neg h, V_same d H f]

/-- The paths of a disk: as the program lists them, sorted. -/
noncomputable def pathsP (d : List UInt8) : List (List UInt8) := sortL (((T0 d).V 33 0 []).foldl (fun l x => addP l x.1 x.2) [[47]])

def RelPaths (e : Nat) (l : List (List UInt8)) (v : Value) (F : Fx) : Prop :=
  if e = 0 then ∃ b cap C, Own 1 l.length (some ⟨b, 0, none⟩) cap C (l.map strV) ∧ v = .tuple #[.slice (some ⟨b, 0, none⟩) l.length cap, .int .i64 0] ∧ F = ⟨fun _ => True, [(b, Row.c C)]⟩
  else v = .tuple #[.slice none 0 0, .int .i64 (e : Int)] ∧ F = ⟨fun _ => True, []⟩

theorem rowsSpec_post {P : Program} {f : FuncId} {vs : List Value} {rows : List (Nat × Row)} {Pre : World → Prop} {Rel Rel' : Value → Fx → Prop} (h : RowsSpec P f vs rows Pre Rel) (hr : ∀ v F, Rel v F → Rel' v F) : RowsSpec P f vs rows Pre Rel' := by
  unfold RowsSpec at h ⊢
  exact ⟨h.1, fun av w a b c d => (h.2 av w a b c d).mono fun e w' ⟨v, F, h1, h2, h3, h4, h5, h6⟩ => ⟨v, F, h1, h2, h3, h4, h5, hr v F h6⟩⟩

theorem steps_paths {V : List (List UInt8 × Nat)} {s s' : Out} (h : Steps (fun (s : Out) p n s' => s'.l = addP s.l p n) V s s') : s'.l = V.foldl (fun l x => addP l x.1 x.2) s.l := by
  induction V generalizing s with
  | nil => cases h; rfl
  | cons x V ih =>
    obtain ⟨s1, h1, h2⟩ := h
    rw [ih h2, List.foldl_cons, h1]

theorem addP_len (l : List (List UInt8)) (p : List UInt8) (n : Nat) : (addP l p n).length ≤ l.length + 1 := by
  unfold addP
  split
  · simp
  · omega

theorem ppaths_spec (d : List UInt8) (h : Hd) (hh : h.Ok d.length) (hl : d.length ≤ 1000000) : PureSpec Tryz.prog 24 [h.v d.length] (fun w => By w h d) (RelPaths (openE d) (pathsP d)) := by
  refine PureSpec.of_xc tabOk Tryz.func24 rfl (by decide) (n := Tryz.f24.ntmps - 1) rfl rfl fun w0 av => ?_
  conv => whnf
  repeat (refine XSame.of ?_; conv => whnf)
  refine XCall.pure (openT_spec d h hh hl) (fun w hw => hw) (fun v D hv => ?_)
  by_cases h0 : openE d = 0
  rotate_left
  · unfold RelTr at hv
    rw [if_neg h0] at hv
    obtain ⟨p, rfl, rfl⟩ := hv
    have hR : RelPaths (openE d) (pathsP d) (.tuple #[.slice none 0 0, .int .i64 (openE d : Int)]) ⟨fun _ => True, []⟩ := by
      unfold RelPaths
      rw [if_neg h0]
      exact ⟨rfl, rfl⟩
    generalize openE d = e at *
    conv => whnf
    repeat (refine XSame.of ?_; conv => whnf)
    refine XIf.yes (by simp [iNe_eq]; omega) ?_
    conv => whnf
    repeat (refine XSame.of ?_; conv => whnf)
    exact ⟨_, Ent.bare fun _ _ => trivial, hR⟩
  have h38 : chk38 d = 0 := by rw [← openE_eq]; exact h0
  obtain ⟨-, hG, -⟩ := tree_facts h38
  unfold RelTr at hv
  rw [if_pos h0] at hv
  obtain ⟨bt, bm, H, hH, rfl, rfl⟩ := hv
  have hT := theTree_ok d hH
  have hname := theTree_name d H
  have hVe : (theTree d H).V 33 0 [] = (T0 d).V 33 0 [] := V_same d H _ _ _
  have hVl := V_len hG
  have hlow : (theTree d H).low 33 0 := Tree.low_of (low_root (ch := (theTree d H).ch) hG.fine.uniq)
  have hR : ∀ (b cap : Nat) (C : List Value) (l : List (List UInt8)), l = ((theTree d H).V 33 0 []).foldl (fun l x => addP l x.1 x.2) [[47]] → Own 1 l.length (some ⟨b, 0, none⟩) cap C ((sortL l).map strV) →
      RelPaths (openE d) (pathsP d) (.tuple #[.slice (some ⟨b, 0, none⟩) l.length cap, .int .i64 0]) ⟨fun _ => True, [(b, Row.c C)]⟩ := by
    intro b cap C l hl' hO
    rw [hVe] at hl'
    have hp : pathsP d = sortL l := by rw [hl']; rfl
    unfold RelPaths
    rw [if_pos h0, hp]
    refine ⟨b, cap, C, ?_, ?_, rfl⟩
    · rw [sortL_len]; exact hO
    · rw [sortL_len]
  rw [← hVe] at hVl
  generalize theTree d H = T at *
  generalize openE d = e at *
  subst h0
  conv => whnf
  repeat (refine XSame.of ?_; conv => whnf)
  refine XIf.no (by simp [iNe_eq]) ?_
  conv => whnf
  repeat (refine XSame.of ?_; conv => whnf)
  refine XVal.build tabOk (t := 23) rfl rfl rfl [strV [47]] rfl rfl (by simp [Value.cells, strV]) (by decide) fun b0 => ?_
  conv => whnf
  repeat (refine XSame.of ?_; conv => whnf)
  refine XVal.allocRow tabOk (e := 23) rfl (z := [.slice none 0 0]) rfl fun bo => ?_
  conv => whnf
  repeat (refine XSame.of ?_; conv => whnf)
  refine XUnit.storeIn tabOk (t := 23) rfl (r1 := [(b0, Row.c [strV [47]])]) (r2 := []) (b := bo) (k := 0) (C := [.slice none 0 0]) (v := .slice (some ⟨b0, 0, none⟩) 1 1) rfl rfl (by simp [Value.cells, oneCell]) (by decide) ?_
  rw [show laid [Value.slice none 0 0] 0 (Value.slice (some ⟨b0, 0, none⟩) 1 1).cells.toList = [.slice (some ⟨b0, 0, none⟩) 1 1] from rfl]
  conv => whnf
  repeat (refine XSame.of ?_; conv => whnf)
  have hvs := visit_spec T hT hname (h.v d.length) bt bm 64 (.pointer (some ⟨bo, 0, none⟩)) (Out.rows bo) (fun s => by simp [Out.rows]) (fun k s => s.Ok ∧ s.l.length + k ≤ 1000000000) (TreeAt T (h.v d.length) bt bm) (fun w h => h) (fun s p n s' => s'.l = addP s.l p n)
    (fun k s p n hI _ _ => rowsSpec_post (paths_cb bo _ s hI.1 (by have := hI.2; omega) p n) fun v F hv => by
      obtain ⟨s', h1, h2, h3⟩ := hv
      have := addP_len s.l p n
      rw [← h2] at this
      exact ⟨s', ⟨h1, by have := hI.2; omega⟩, h2, h3⟩) 33 0 [] ⟨b0, 1, [strV [47]], [[47]]⟩ 0 hlow ⟨⟨Own.full rfl, by simp⟩, by simp; omega⟩ (by decide) (by decide)
  refine XCall.ent (F' := ⟨TreeAt T (h.v d.length) bt bm, [(b0, Row.c [strV [47]]), (bo, Row.c [.slice (some ⟨b0, 0, none⟩) 1 1])]⟩) (Ent.of_le ⟨by simp [Fx.and], fun w hw => hw.2⟩) ?_
  refine XCall.ent (F' := ⟨TreeAt T (h.v d.length) bt bm, [] ++ Out.rows bo ⟨b0, 1, [strV [47]], [[47]]⟩ ++ []⟩) (Ent.perm (by
    simp only [Out.rows, List.nil_append, List.append_nil]
    exact List.Perm.swap _ _ _)) ?_
  refine XCall.rows hvs (fun w hw => hw) (fun v F hv => ?_)
  obtain ⟨s', ⟨hO', hlb⟩, hst, rfl⟩ := hv
  have hsl := steps_paths hst
  dsimp only at hsl
  obtain ⟨b', cap', C', l'⟩ := s'
  obtain ⟨hO', -⟩ := hO'
  dsimp only at hO' hsl hlb
  have hRr := fun C2 hO2 => hR b' cap' C2 l' hsl hO2
  clear hvs hst hR hsl
  conv => whnf
  repeat (refine XSame.of ?_; conv => whnf)
  refine XVal.ent (F' := ⟨fun w => True, [(bo, Row.c [.slice (some ⟨b', 0, none⟩) l'.length cap'])] ++ [(b', Row.c C')] ++ []⟩) (Ent.of_le ⟨by simp [Out.rows], fun w hw => trivial⟩) ?_
  refine XVal.of_read (XRead.loadF tabOk (t := 23) rfl rfl (ad := ⟨bo, 0, none⟩) (k := 0) (L := [.slice (some ⟨b', 0, none⟩) l'.length cap']) (v := .slice (some ⟨b', 0, none⟩) l'.length cap') (Sees.row (by simp)) (fun _ => rfl) rfl ?_)
  conv => whnf
  repeat (refine XSame.of ?_; conv => whnf)
  refine XCall.rows (sort_spec b' cap' C' l' hO' (by omega) (fun _ => True)) (fun w hw => trivial) (fun v F hv => ?_)
  obtain ⟨rfl, C2, hO2, rfl⟩ := hv
  conv => whnf
  repeat (refine XSame.of ?_; conv => whnf)
  refine XVal.of_read (XRead.loadF tabOk (t := 23) rfl rfl (ad := ⟨bo, 0, none⟩) (k := 0) (L := [.slice (some ⟨b', 0, none⟩) l'.length cap']) (v := .slice (some ⟨b', 0, none⟩) l'.length cap') (Sees.row (by simp)) (fun _ => rfl) rfl ?_)
  conv => whnf
  repeat (refine XSame.of ?_; conv => whnf)
  exact ⟨_, Ent.of_le ⟨by simp, fun w hw => trivial⟩, hRr C2 hO2⟩

end Go.Proofs.YtbfpgfopppfhoaaGreatDoor
namespace Go.Proofs.YtbfpgfopppfhoaaGreatDoor
open Go Go.Sx
set_option maxRecDepth 100000
set_option maxHeartbeats 4000000
set_option linter.unusedVariables false
set_option linter.unusedSimpArgs false

theorem someName_spec (e : En) : PureSpec Tryz.prog 59 [.agg ⟨enC e⟩] (fun w => True) (fun v F => v = .bool (!(e.1 == []))) := by
  refine PureSpec.of_xc tabOk Tryz.func59 rfl (by decide) (n := Tryz.f59.ntmps - 1) rfl rfl fun w0 av => ?_
  conv => whnf
  intro b1
  conv => whnf
  repeat (refine XSame.of ?_; conv => whnf)
  refine XVal.of_read (XRead.strNe (l := e.1) (m := []) ?_)
  conv => whnf
  repeat (refine XSame.of ?_; conv => whnf)
  exact ⟨_, Ent.refl _, rfl⟩

theorem containsEn0_spec (f : FuncId) (p : En → Bool) (l : List En) (h : Hd) (hh : h.Ok l.length) (hl : l.length ≤ 1000000) (hf : ∀ e ∈ l, PureSpec Tryz.prog f [.agg ⟨enC e⟩] (fun w => True) (fun v F => v = .bool (p e))) :
    PureSpec Tryz.prog 58 [h.v l.length, .func (.func f) #[] #[]] (fun w => RowAt w h.a (enCs l)) (fun v F => v = .bool (l.any p)) := by
  refine PureSpec.of_xc tabOk Tryz.func58 rfl (by decide) (n := Tryz.f58.ntmps - 2) rfl rfl fun w0 av => ?_
  conv => whnf
  refine XCall.val (indexEn0_spec f p l h hh hl hf) (fun w hw => hw) (fun v D hv => ?_)
  obtain ⟨j, hj⟩ : ∃ j, j = fint (l.findIdx? p) := ⟨_, rfl⟩
  rw [← hj] at hv
  subst hv
  conv => whnf
  repeat (refine XSame.of ?_; conv => whnf)
  refine ⟨_, Ent.refl _, ?_⟩
  show Value.bool (iGe j 0) = _
  congr 1
  rw [iGe_eq, hj]
  cases hq : l.findIdx? p with
  | none =>
    rw [List.findIdx?_eq_none_iff] at hq
    have : l.any p = false := by
      rw [List.any_eq_false]
      exact fun x hx => by simp [hq x hx]
    rw [this]
    rfl
  | some k =>
    rw [List.findIdx?_eq_some_iff_getElem] at hq
    obtain ⟨hk, h1, h2⟩ := hq
    have : l.any p = true := List.any_eq_true.2 ⟨l[k], List.getElem_mem hk, h1⟩
    rw [this]
    show decide ((k : Int) ≥ 0) = true
    simp

theorem lastName_spec (e : En) (b : Nat) (kn : Hd) (names : List (List UInt8)) (hkn : kn.Ok names.length) (hl : names.length ≤ 1000000) (last : List UInt8) (h0 : 0 < names.length) (hlast : names[names.length - 1]? = some last) :
    PureSpec Tryz.prog 60 [.agg ⟨enC e⟩, .pointer (some ⟨b, 0, none⟩)] (fun w => RowAt w (some ⟨b, 0, none⟩) [kn.v names.length] ∧ StrAt w kn names) (fun v F => v = .bool (e.1 == last)) := by
  have hw1 : IntKind.i64.wrap ((names.length : Int) - 1) = ((names.length - 1 : Nat) : Int) := by
    rw [wrap_i64 (by omega)]
    omega
  obtain ⟨nm, nd⟩ := e
  rw [show enC (nm, nd) = [strV nm, intV nd] from rfl]
  refine PureSpec.of_xc tabOk Tryz.func60 rfl (by decide) (n := Tryz.f60.ntmps - 2) rfl rfl fun w0 av => ?_
  conv => whnf
  intro b2
  conv => whnf
  repeat (refine XSame.of ?_; conv => whnf)
  refine XStop.draw tabOk mixed rfl rfl ?_
  conv => whnf
  repeat' (first
    | (refine And.intro ?_ ?_ <;> conv => whnf)
    | (refine XHeld.same rfl ?_; conv => whnf)
    | (refine XHeld.row rfl ?_; conv => whnf)
    | (refine XHeld.call rfl ?_; conv => whnf)
    | (refine XKeep.of ?_; conv => whnf)
    | (refine XSame.of ?_; conv => whnf)
    | (refine XRead.loadF tabOk (t := 23) rfl rfl (ad := ⟨b, 0, none⟩) (k := 0) (L := [kn.v names.length]) (v := kn.v names.length) (.fact fun w hw => hw.1) (fun _ => rfl) rfl ?_; conv => whnf)
    | (refine XRead.index tabOk (t := 23) rfl rfl rfl (by rw [hw1]; omega) (by rw [hw1]; omega) hkn.nil fun ad had => ?_; conv => whnf)
    | (refine XRead.load tabOk (t := 9) rfl rfl (ad := ad) (k := names.length - 1) (L := names.map strV) (v := strV last) (.fact fun w hw => had ▸ hw.2) (by rw [hw1]; simp) (by rw [List.getElem?_map, hlast]; rfl) ?_; conv => whnf)
    | (refine XRead.strEq (l := nm) (m := last) ?_; conv => whnf)
    | (refine XHeld.mk ?_ ?_; (focus (first | exact Ent.refl _ | exact Ent.left _ _ | exact Ent.of_le ⟨List.sublist_append_left _ _, fun w h => h⟩ | exact Ent.of_le ⟨List.Sublist.refl _, fun w h => h.1⟩)); conv => whnf))
  all_goals exact ⟨_, Ent.refl _, rfl⟩

theorem dropLast_snoc {l : List (List UInt8)} (h : l ≠ []) : l = l.dropLast ++ [l.getLastD []] := by
  have h1 := List.dropLast_concat_getLast h
  have h3 : l.getLast? = some (l.getLastD []) := by
    rw [List.getLast?_eq_getElem?]
    exact getLast_eq h
  have h2 : l.getLastD [] = l.getLast h := by
    have h4 : l.getLast? = some (l.getLast h) := List.getLast?_eq_some_getLast h
    rw [h4] at h3
    exact (Option.some.inj h3).symm
  rw [h2]
  exact h1.symm

/-- What Unlink does on a tree, when the path leads to an inode. -/
theorem unlink_facts {d : List UInt8} (h38 : chk38 d = 0) {names : List (List UInt8)} (hn : names ≠ []) (hv : ∀ s ∈ names, vname s = true) {m : Nat} (hm : followR d names 0 = (m, 0)) :
    ∃ at0 k, (T0 d).walk names.dropLast 0 = (at0, 0) ∧ at0 ∈ (T0 d).dl ∧ fidx ((T0 d).E at0) (names.getLastD []) = some k ∧ k < 8 ∧ m < 32 ∧ rk d m ≠ 0 ∧
      followR d names.dropLast 0 = (at0, 0) := by
  obtain ⟨h0, hG, hE⟩ := tree_facts h38
  have hroot := root_in h0
  obtain ⟨hr1, hr2⟩ := mem_dl.1 hroot
  have hvn : ∀ s ∈ names, s ≠ [] := fun s hs h => by
    have := hv s hs
    rw [h] at this
    cases this
  have hs := dropLast_snoc hn
  have hm' := hm
  rw [hs] at hm
  obtain ⟨at0, k, f1, f2, f3, f4⟩ := follow_snoc _ _ hm
  obtain ⟨w1, w2⟩ := walk_follow h38 names.dropLast 0 hr1 (by omega) fun s hs => hvn s (List.dropLast_subset _ hs)
  obtain ⟨v1, v2⟩ := walk_follow h38 names 0 hr1 (by omega) hvn
  rw [f1] at w1 w2
  rw [hm'] at v2
  obtain ⟨q1, q2⟩ := w2 rfl
  obtain ⟨q3, q4⟩ := v2 rfl
  have hd : at0 ∈ (T0 d).dl := Classical.byContradiction fun h => by
    rw [dirR_file h38 q1 q2 h] at f2
    cases f2
  rw [dirR_dir h38 hd] at f3
  have hk := fidx_lt f3
  rw [(T0_ok d).len] at hk
  exact ⟨at0, k, w1, hd, f3, hk, q3, q4, f1⟩

theorem unlinkR_eq {d : List UInt8} (h38 : chk38 d = 0) {at0 k : Nat} (hd : at0 ∈ (T0 d).dl) (hk : k < 8) :
    (writeR d at0 (encB (((T0 d).E at0).set k ([], 0)))).1 = wr16 d at0 k (enB ([], 0)) := by
  obtain ⟨h0, hG, hE⟩ := tree_facts h38
  obtain ⟨hat1, hat2⟩ := mem_dl.1 hd
  obtain ⟨hdl, hok⟩ := chk_zero h0
  obtain ⟨hcc, hb96⟩ := contentR_cut h0 hat1 hat2
  have hcl : (contentR d at0).length = 128 := by rw [hcc]; exact cut_len (by omega)
  have hw := writeR_entry h0 hat1 hat2 hcl (entsOk_iff.1 (hE at0 hd)) (fun i hi => by rw [hcc, byt_cut (by omega) hi]) hk (x := ([], 0)) (by decide)
  rw [show (T0 d).E at0 = ens (contentR d at0) 8 from rfl, hw]

theorem punlink_spec (d : List UInt8) (h : Hd) (hh : h.Ok d.length) (hl : d.length ≤ 1000000) (p : List UInt8) (hp : p.length ≤ 200) :
    PureSpec Tryz.prog 22 [h.v d.length, strV p] (fun w => By w h d) (RelDE (unlinkR d p).1 (unlinkR d p).2) := by
  obtain ⟨M, hM⟩ : ∃ x, x = unlinkR d p := ⟨_, rfl⟩
  rw [← hM]
  unfold unlinkR at hM
  refine PureSpec.of_xc tabOk Tryz.func22 rfl (by decide) (n := Tryz.f22.ntmps - 2) rfl rfl fun w0 av => ?_
  conv => whnf
  have hos := openT_spec d h hh hl
  rw [openE_eq] at hos
  refine XCall.pure hos (fun w hw => hw) (fun v D hv => ?_)
  unfold RelTr at hv
  split at hv
  rotate_left
  · rename_i he
    rw [if_pos he] at hM
    rw [hM]
    obtain ⟨q, rfl, rfl⟩ := hv
    generalize chk38 d = e at *
    conv => whnf
    repeat (refine XSame.of ?_; conv => whnf)
    refine XIf.yes (by simp [iNe_eq]; omega) ?_
    conv => whnf
    repeat (refine XSame.of ?_; conv => whnf)
    exact relDE_nil
  rename_i h38
  rw [if_neg (by rw [h38]; simp)] at hM
  have hc0 := chk_of38 h38
  obtain ⟨bt, bm, H, hH, rfl, rfl⟩ := hv
  have hTok := theTree_ok d hH
  have hwc := walk_congr d H fun _ => hd0
  obtain ⟨e0, he0⟩ : ∃ e : Nat, e = chk38 d := ⟨_, rfl⟩
  rw [← he0]
  have he0' := he0
  rw [h38] at he0
  have hm1 : (treeC (h.v d.length) bm (theTree d H).K 32)[1]? = some (.map (some bm)) := rfl
  have hsm := splitR_small p hp
  have hsn := splitR_names p
  have hse := splitR_err p
  have hsp := dirsSplit_spec p hp
  generalize splitR p = sp at *
  obtain ⟨names, se⟩ := sp
  dsimp only at hM hsm hsn hse
  conv => whnf
  repeat (refine XSame.of ?_; conv => whnf)
  refine XIf.no (by subst he0; simp [iNe_eq]) ?_
  conv => whnf
  repeat (refine XSame.of ?_; conv => whnf)
  refine XCall.pure hsp (fun w hw => trivial) (fun v D hv => ?_)
  obtain ⟨kn, rfl, hkn, rfl⟩ := hv
  dsimp only at hkn ⊢
  conv => whnf
  repeat (refine XSame.of ?_; conv => whnf)
  refine XVal.allocRow tabOk (e := 23) rfl (z := [.slice none 0 0]) rfl fun b8 => ?_
  conv => whnf
  repeat (refine XSame.of ?_; conv => whnf)
  have hTA : ∀ w, TreeAt (theTree d H) (h.v d.length) bt bm w → RowAt w (some ⟨bt, 0, none⟩) (treeC (h.v d.length) bm (theTree d H).K 32) := fun w hw => hw.1
  have hTM : ∀ w, TreeAt (theTree d H) (h.v d.length) bt bm w → MapAt w bm ((theTree d H).kv (theTree d H).dl) := fun w hw => hw.2.1
  have hTE : ∀ w, TreeAt (theTree d H) (h.v d.length) bt bm w → ∀ n ∈ (T0 d).dl, RowAt w (H n).a (enCs ((T0 d).E n)) := fun w hw => hw.2.2
  have hkvk := (theTree d H).kv_key (theTree d H).dl
  have hkvv : ∀ n (i : Nat) u, ((theTree d H).kv (theTree d H).dl)[i]? = some (intV n, u) → u = .slice (H n).a 8 (H n).c := fun n => (theTree d H).kv_val
  have hkvi : ∀ n, n ∈ (T0 d).dl → ∃ p ∈ (theTree d H).kv (theTree d H).dl, p.1 = intV n := fun n hn => (theTree d H).kv_in hn
  have hkvn : ∀ n, n ∉ (T0 d).dl → ∀ p ∈ (theTree d H).kv (theTree d H).dl, p.1 ≠ intV n := fun n hn => (theTree d H).kv_no hn
  have htw := fun k l hk hll => twalk_spec (theTree d H) hTok (h.v d.length) bt bm k l hk hll
  simp only [hwc] at htw
  have hT0 : (theTree d fun _ => hd0) = T0 d := rfl
  rw [hT0] at htw
  have hEl : ∀ n, ((T0 d).E n).length = 8 := (T0_ok d).len
  generalize TreeAt (theTree d H) (h.v d.length) bt bm = TA at *
  generalize (theTree d H).kv (theTree d H).dl = KV at *
  generalize treeC (h.v d.length) bm (theTree d H).K 32 = TC at *
  refine XUnit.ent (F' := ⟨fun w => By w h d ∧ TA w ∧ StrAt w kn names, [] ++ [(b8, Row.c [.slice none 0 0])] ++ []⟩) (Ent.of_le ⟨by simp [Fx.and], fun w hw => ⟨hw.1.1, hw.1.2, hw.2⟩⟩) ?_
  refine XUnit.storeIn tabOk (t := 23) rfl (r1 := []) (r2 := []) (b := b8) (k := 0) (C := [.slice none 0 0]) (v := kn.v names.length) rfl rfl (by simp [Value.cells, oneCell, Hd.v]) (by decide) ?_
  rw [show laid [Value.slice none 0 0] 0 (kn.v names.length).cells.toList = [kn.v names.length] from rfl]
  have hld : ∀ {K : Value → Prop} {F : Fx} {bs cs}, (b8, Row.c [kn.v names.length]) ∈ F.rs → K (kn.v names.length) → XRead Tryz.prog w0 (fun _ _ => False) av (Instr.loadAt 23 (.pointer (some ⟨b8, 0, none⟩))) bs cs F K := fun {K F bs cs} hm hK =>
    XRead.loadF tabOk (t := 23) rfl rfl (ad := ⟨b8, 0, none⟩) (k := 0) (L := [kn.v names.length]) (v := kn.v names.length) (Sees.row hm) (fun _ => rfl) rfl hK
  conv => whnf
  repeat (refine XSame.of ?_; conv => whnf)
  refine XIf.split (fun hs => ?_) (fun hs => ?_)
  · have hs' : se ≠ 0 := by
      simpa [iNe_eq] using hs
    rw [if_pos hs'] at hM
    rw [hM]
    have : se = 15 := (hse.resolve_left hs').1
    subst this
    conv => whnf
    repeat (refine XSame.of ?_; conv => whnf)
    exact relDE_nil
  have hs' : se = 0 := by
    simpa [iNe_eq] using hs
  rw [if_neg (by omega)] at hM
  conv => whnf
  repeat (refine XSame.of ?_; conv => whnf)
  refine XVal.of_read (hld (by simp) ?_)
  conv => whnf
  repeat (refine XSame.of ?_; conv => whnf)
  refine XIf.split (fun hn => ?_) (fun hn => ?_)
  · have hn' : names = [] := by
      simp [iEq_eq] at hn
      exact hn
    rw [if_pos hn'] at hM
    rw [hM]
    conv => whnf
    repeat (refine XSame.of ?_; conv => whnf)
    exact relDE_nil
  have hn' : names ≠ [] := by
    simp [iEq_eq] at hn
    exact hn
  rw [if_neg hn'] at hM
  have hlen : 0 < names.length := List.length_pos_iff.2 hn'
  have hw1 : IntKind.i64.wrap ((names.length : Int) - 1) = ((names.length - 1 : Nat) : Int) := by
    rw [wrap_i64 (by omega)]
    omega
  have hvn : ∀ s ∈ names, s ≠ [] := fun s hs h => by
    have := hsn s hs
    rw [h] at this
    cases this
  obtain ⟨hr1, hr2⟩ := mem_dl.1 (root_in hc0)
  obtain ⟨hwf, hwv⟩ := walk_follow h38 names 0 hr1 (by omega) hvn
  have hw0 := htw kn names hkn hsm
  rw [hwf] at hw0
  have huf := @unlink_facts d h38 names hn' hsn
  have hueq := @unlinkR_eq d h38
  have hfil : ∀ n, n < 32 → rk d n ≠ 0 → n ∉ (T0 d).dl → dirR d n = ([], 14) := fun n h1 h2 h3 => dirR_file h38 h1 h2 h3
  have hdir : ∀ n : Nat, n ∈ (T0 d).dl → dirR d n = ((T0 d).E n, 0) := fun n h1 => dirR_dir h38 h1
  generalize hfo : followR d names 0 = fr at *
  obtain ⟨m, fe⟩ := fr
  dsimp only at hM hw0 hwv
  conv => whnf
  repeat (refine XSame.of ?_; conv => whnf)
  refine XVal.of_read (hld (by simp) ?_)
  conv => whnf
  repeat (refine XSame.of ?_; conv => whnf)
  refine XCall.val hw0 (fun w hw => ⟨hw.2.1, hw.2.2⟩) (fun v D hv => ?_)
  unfold RelII at hv
  subst hv
  conv => whnf
  repeat (refine XSame.of ?_; conv => whnf)
  refine XIf.split (fun hf => ?_) (fun hf => ?_)
  · have hf' : fe ≠ 0 := by
      simp [iNe_eq] at hf
      omega
    rw [if_pos hf'] at hM
    rw [hM]
    conv => whnf
    repeat (refine XSame.of ?_; conv => whnf)
    exact relDE_nil
  have hf' : fe = 0 := by
    simp [iNe_eq] at hf
    omega
  rw [if_neg (by omega)] at hM
  subst hf'
  obtain ⟨at0, k, u1, u2, u3, u4, u5, u6, u7⟩ := huf rfl
  rw [u7] at hM
  dsimp only at hM
  rw [hdir at0 u2] at hM
  dsimp only at hM
  rw [u3] at hM
  dsimp only [Option.getD] at hM
  rw [hueq u2 u4] at hM
  have hss := set_spec d h hh hc0 at0 (mem_dl.1 u2).1 (mem_dl.1 u2).2 k u4 ([], 0) (by decide) (by decide)
  have hfs := fun k2 hk2 hl2 => pfree_spec (wr16 d at0 k (enB ([], 0))) k2 hk2 hl2 m
  have hwl := wr16_len (chk_zero hc0).1 (chk_zero hc0).2 (mem_dl.1 u2).1 (mem_dl.1 u2).2 u4 (enB_len (e := (([], 0) : En)) (by decide))
  generalize wr16 d at0 k (enB ([], 0)) = d2 at *
  -- the inode's own entries
  obtain ⟨es, hes⟩ : ∃ es, es = (T0 d).es m := ⟨_, rfl⟩
  have hM2 : M = if es.any (fun e => !(e.1 == [])) then ([], 12) else freeR d2 m := by
    rw [hM]
    by_cases hmd : m ∈ (T0 d).dl
    · have he : es = (T0 d).E m := by rw [hes]; exact if_pos hmd
      rw [hdir m hmd, he]
      by_cases hq : ∃ e ∈ (T0 d).E m, e.1 ≠ []
      · rw [if_pos ⟨rfl, hq⟩, if_pos]
        obtain ⟨e, he1, he2⟩ := hq
        exact List.any_eq_true.2 ⟨e, he1, by simpa using he2⟩
      · rw [if_neg fun h => hq h.2, if_neg]
        rw [List.any_eq_true]
        rintro ⟨e, he1, he2⟩
        exact hq ⟨e, he1, by simpa using he2⟩
    · have he : es = [] := by rw [hes]; exact if_neg hmd
      rw [hfil m u5 u6 hmd, he]
      rw [if_neg (fun h => by cases h.1), if_neg (by simp)]
  clear hM
  obtain ⟨hE, hEo, hrow, hval⟩ : ∃ hE : Hd, hE.Ok es.length ∧ (∀ w, TA w → RowAt w hE.a (enCs es)) ∧ ((m ∈ (T0 d).dl ∧ hE.v es.length = .slice (H m).a 8 (H m).c) ∨ (m ∉ (T0 d).dl ∧ hE.v es.length = .slice none 0 0)) := by
    by_cases hmem : m ∈ (T0 d).dl
    · have he : es = (T0 d).E m := by rw [hes]; exact if_pos hmem
      refine ⟨H m, by rw [he, hEl]; exact hH m, fun w hw => by rw [he]; exact hTE w hw m hmem, .inl ⟨hmem, by rw [he, hEl]⟩⟩
    · have he : es = [] := by rw [hes]; exact if_neg hmem
      exact ⟨Hd.nil, by rw [he]; exact Hd.nil_ok, fun w hw => by rw [he]; exact RowAt.nilA, .inr ⟨hmem, by rw [he]; rfl⟩⟩
  have hes8 : es.length ≤ 8 := by
    rw [hes]
    unfold Tree.es
    split
    · rw [hEl]; exact Nat.le_refl _
    · exact Nat.zero_le _
  have hlook : ∀ {K : Value → Prop} {F : Fx} {bs cs}, (∀ w, F.D w → TA w) → K (hE.v es.length) → XRead Tryz.prog w0 (fun _ _ => False) av (Instr.lookup 81 (.map (some bm)) (.int .i64 (m : Int)) false) bs cs F K := by
    intro K F bs cs hF hK
    rcases hval with ⟨hmem, hval⟩ | ⟨hmem, hval⟩
    · rw [hval] at hK
      exact XRead.lookupIn tabOk (t := 81) rfl rfl rfl rfl (SeesM.fact fun w hw => hTM w (hF w hw)) rfl hkvk (v := .slice (H m).a 8 (H m).c) (hkvv m) (hkvi m hmem) hK
    · rw [hval] at hK
      exact XRead.lookupNo tabOk (t := 81) rfl rfl rfl rfl (SeesM.fact fun w hw => hTM w (hF w hw)) rfl hkvk (hkvn m hmem) (z := .slice none 0 0) rfl hK
  have hcn := containsEn0_spec 59 (fun e => !(e.1 == [])) es hE hEo (by omega) (fun e _ => someName_spec e)
  generalize hany : es.any (fun e => !(e.1 == [])) = an at *
  have hlast := getLast_eq hn'
  generalize names.getLastD [] = last at *
  have hdlt : names.dropLast = names.take (names.length - 1) := List.dropLast_eq_take
  rw [hdlt] at u1
  have hw2 := htw kn (names.take (names.length - 1)) ⟨fun h0 => by have := hkn.nil h0; omega, by have := hkn.cap; rw [List.length_take]; omega⟩ (by rw [List.length_take]; omega)
  rw [u1, List.length_take, Nat.min_eq_left (by omega)] at hw2
  obtain ⟨z0, hz0⟩ : ∃ z0 : Nat, z0 = 0 := ⟨_, rfl⟩
  have hix := indexEn_spec 60 (fun w => RowAt w (some ⟨b8, 0, none⟩) [kn.v names.length] ∧ StrAt w kn names) (fun e => e.1 == last) (.pointer (some ⟨b8, 0, none⟩)) ((T0 d).E at0) (H at0) (by rw [hEl]; exact hH at0) (by rw [hEl]; decide) (fun e _ => lastName_spec e b8 kn names hkn hsm last hlen hlast)
  rw [hEl, show ((T0 d).E at0).findIdx? (fun e => e.1 == last) = fidx ((T0 d).E at0) last from rfl, u3] at hix
  have hkf : fint (some k) = (k : Int) := rfl
  rw [hkf] at hix
  have hTEa : ∀ w, TA w → RowAt w (H at0).a (enCs ((T0 d).E at0)) := fun w hw => hTE w hw at0 u2
  generalize (T0 d).E at0 = Ea at *
  conv => whnf
  repeat (refine XSame.of ?_; conv => whnf)
  refine XVal.of_read (XRead.loadF tabOk (t := 81) rfl rfl (ad := ⟨bt, 0, none⟩) (k := 1) (L := TC) (v := .map (some bm)) (.fact fun w hw => hTA w hw.2.1) (fun _ => rfl) hm1 ?_)
  conv => whnf
  repeat (refine XSame.of ?_; conv => whnf)
  refine XVal.of_read (hlook (fun w hw => hw.2.1) ?_)
  conv => whnf
  repeat (refine XSame.of ?_; conv => whnf)
  refine XCall.val hcn (fun w hw => hrow w hw.2.1) (fun v D hv => ?_)
  subst hv
  cases an
  rotate_left
  · rw [if_pos rfl] at hM2
    rw [hM2]
    conv => whnf
    repeat (refine XSame.of ?_; conv => whnf)
    exact relDE_nil
  rw [if_neg (by simp)] at hM2
  conv => whnf
  repeat (refine XSame.of ?_; conv => whnf)
  refine XVal.of_read (hld (by simp) ?_)
  conv => whnf
  repeat (refine XSame.of ?_; conv => whnf)
  refine XVal.of_read (hld (by simp) ?_)
  conv => whnf
  repeat (refine XSame.of ?_; conv => whnf)
  refine XVal.of_read (XRead.subTo tabOk (t := 23) rfl rfl rfl (names.length - 1) hw1 (Nat.le_trans (by omega) hkn.cap) ?_)
  conv => whnf
  repeat (refine XSame.of ?_; conv => whnf)
  refine XCall.val hw2 (fun w hw => ⟨hw.2.1, ?_⟩) (fun v D hv => ?_)
  · have := RowAt.take hw.2.2 (names.length - 1)
    unfold StrAt
    rw [List.map_take]
    exact this
  unfold RelII at hv
  subst hv
  conv => whnf
  repeat (refine XSame.of ?_; conv => whnf)
  refine XVal.of_read (XRead.loadF tabOk (t := 81) rfl rfl (ad := ⟨bt, 0, none⟩) (k := 1) (L := TC) (v := .map (some bm)) (.fact fun w hw => hTA w hw.2.1) (fun _ => rfl) hm1 ?_)
  conv => whnf
  repeat (refine XSame.of ?_; conv => whnf)
  refine XVal.of_read (XRead.lookupIn tabOk (t := 81) rfl rfl rfl rfl (SeesM.fact fun w hw => hTM w hw.2.1) rfl hkvk (v := .slice (H at0).a 8 (H at0).c) (hkvv at0) (hkvi at0 u2) ?_)
  conv => whnf
  repeat (refine XSame.of ?_; conv => whnf)
  refine XCall.look hix (Loc.and (Loc.row _ _) (Loc.and (Loc.row _ _) (Loc.row _ _))) (fun w hst => ⟨hTEa w hst.now.2.1, Sees.row (by simp) w hst, hst.now.2.2⟩) ?_
  conv => whnf
  repeat (refine XSame.of ?_; conv => whnf)
  refine XCall.pure hss (fun w hw => hw.1) (fun v D hv => ?_)
  obtain ⟨k2, rfl, hk2, rfl⟩ := hv
  have hfs2 := hfs k2 hk2 (by omega)
  rw [hM2]
  generalize freeR d2 m = FR at *
  conv => whnf
  repeat (refine XSame.of ?_; conv => whnf)
  refine XCall.pure hfs2 (fun w hw => hw.2) (fun v D hv => ?_)
  obtain ⟨k3, rfl, hk3, rfl⟩ := hv
  conv => whnf
  repeat (refine XSame.of ?_; conv => whnf)
  exact ⟨⟨fun w => By w k3 FR.1, []⟩, Ent.bare fun w hw => hw.2, k3, rfl, hk3, rfl⟩

end Go.Proofs.YtbfpgfopppfhoaaGreatDoor
namespace Go.Proofs.YtbfpgfopppfhoaaGreatDoor
open Go Go.Sx
set_option maxRecDepth 100000
set_option maxHeartbeats 4000000
set_option linter.unusedVariables false
set_option linter.unusedSimpArgs false

theorem chk38_len {d : List UInt8} (h : chk38 d = 0) : d.length = 12288 := (chk_zero (tree_facts h).1).1

theorem pathsP_L (d : List UInt8) : pathsP d = sortL (pathsL d) := rfl

theorem awake_spec : PureSpec Tryz.prog 12 [] (fun _ => True) (fun v _ => v = .bool true) := by
  refine PureSpec.of_xc tabOk Tryz.func12 rfl (by decide) (n := Tryz.f12.ntmps) rfl rfl fun w0 av => ?_
  conv => whnf
  repeat (refine XSame.of ?_; conv => whnf)
  refine XCall.pure format_spec (fun w hw => trivial) (fun v D hv => ?_)
  obtain ⟨d, hF, k, rfl, hk, rfl⟩ := hv
  obtain ⟨d1, d2, e1, e2, h1, h2, hp, hu⟩ := awake_math (fresh_of hF)
  have hdl := hF.len
  have hl1 := chk38_len h1
  have hl2 := chk38_len h2
  obtain ⟨n1, q1, hn1, hq1, e1⟩ : ∃ n q, n = 1 ∧ q = 0 ∧ makeR d [47, 97] 2 = (n, d1, q) := ⟨1, 0, rfl, rfl, e1⟩
  obtain ⟨n2, q2, hn2, hq2, e2⟩ : ∃ n q, n = 2 ∧ q = 0 ∧ makeR d1 [47, 97, 47, 98] 1 = (n, d2, q) := ⟨2, 0, rfl, rfl, e2⟩
  have hm1 := pmake_spec d k hk (by omega) [47, 97] (by decide) 2
  rw [make_eq, e1] at hm1
  have hpp : pathsP d2 = [[47], [47, 97], [47, 97, 47, 98]] := by
    rw [pathsP_L, hp]
    exact sortL_sorted (by decide)
  clear e1 hp hF
  conv => whnf
  repeat (refine XSame.of ?_; conv => whnf)
  refine XCall.pure hm1 (fun w hw => hw.2) (fun v D hv => ?_)
  obtain ⟨k1, rfl, hk1, rfl⟩ := hv
  dsimp only at hk1 ⊢
  have hm2 := pmake_spec d1 k1 hk1 (by omega) [47, 97, 47, 98] (by decide) 1
  rw [make_eq, e2] at hm2
  conv => whnf
  repeat (refine XSame.of ?_; conv => whnf)
  refine XCall.pure hm2 (fun w hw => hw.2) (fun v D hv => ?_)
  obtain ⟨k2, rfl, hk2, rfl⟩ := hv
  dsimp only at hk2 ⊢
  have hps := ppaths_spec d2 k2 hk2 (by omega)
  have hus := punlink_spec d2 k2 hk2 (by omega) [47, 97] (by decide)
  generalize unlinkR d2 [47, 97] = ur at *
  obtain ⟨du, eu⟩ := ur
  rw [openE_eq, h2] at hps
  generalize pathsP d2 = l at *
  conv => whnf
  repeat (refine XSame.of ?_; conv => whnf)
  refine XCall.pure hps (fun w hw => hw.2) (fun v D hv => ?_)
  unfold RelPaths at hv
  rw [if_pos rfl] at hv
  obtain ⟨b, cap, C, hO, rfl, rfl⟩ := hv
  conv => whnf
  repeat (refine XSame.of ?_; conv => whnf)
  refine XCall.pure hus (fun w hw => hw.1.2) (fun v D hv => ?_)
  obtain ⟨k3, rfl, hk3, rfl⟩ := hv
  dsimp only at hu ⊢
  conv => whnf
  repeat (refine XSame.of ?_; conv => whnf)
  have hc : (iEq (q1 : Int) 0 && iEq (q2 : Int) 0 && iEq 0 0 && iEq (eu : Int) 12 && iEq (n1 : Int) 1 && iEq (n2 : Int) 2) = true := by simp [iEq_eq, hq1, hq2, hu, hn1, hn2]
  generalize hcc : (iEq (q1 : Int) 0 && iEq (q2 : Int) 0 && iEq 0 0 && iEq (eu : Int) 12 && iEq (n1 : Int) 1 && iEq (n2 : Int) 2) = c
  cases c
  · rw [hcc] at hc
    cases hc
  clear hcc hc
  conv => whnf
  repeat (refine XSame.of ?_; conv => whnf)
  have hl3 : l.length = 3 := by rw [hpp]; rfl
  refine XVal.build tabOk (t := 23) rfl rfl rfl (l.map strV) (by rw [hpp]; rfl) (by rw [hpp]; rfl) (by rw [hpp]; decide) (by decide) fun b3 => ?_
  have hfm : (l.map strV).flatMap (fun v => v.cells.toList) = l.map strV := by rw [hpp]; rfl
  rw [hfm]
  have hsame := same_spec ⟨some ⟨b, 0, none⟩, cap⟩ ⟨some ⟨b3, 0, none⟩, 3⟩ l ⟨fun h => (by cases h), hO.fit⟩ ⟨fun h => (by cases h), by dsimp only; omega⟩ (by omega)
  rw [show Hd.v ⟨some ⟨b3, 0, none⟩, 3⟩ l.length = Value.slice (some ⟨b3, 0, none⟩) 3 3 by rw [hl3]] at hsame
  clear hpp
  conv => whnf
  repeat (refine XSame.of ?_; conv => whnf)
  refine XCall.ent (F' := ⟨fun w => True, [] ++ orow (some ⟨b, 0, none⟩) C ++ [(b3, Row.c (l.map strV))]⟩) (Ent.of_le ⟨by simp [Fx.and, orow], fun w hw => trivial⟩) ?_
  refine XCall.look hsame (Loc.and (Loc.row _ _) (Loc.row _ _)) (fun w hst => ⟨hO.sees w hst, Sees.row (by simp) w hst⟩) ?_
  conv => whnf
  repeat (refine XSame.of ?_; conv => whnf)
  exact ⟨_, Ent.refl _, rfl⟩

end Go.Proofs.YtbfpgfopppfhoaaGreatDoor
namespace Go.Proofs.YtbfpgfopppfhoaaGreatDoor
open Go Go.Sx
set_option maxRecDepth 100000
set_option maxHeartbeats 4000000
set_option linter.unusedVariables false
set_option linter.unusedSimpArgs false

theorem diskR_le {fd : List UInt8} (hfd : fd.length = 12288) (l : List Opx) : (diskR fd l).length ≤ 1000000 := by
  unfold diskR
  have : ∀ (l : List Opx) (d : List UInt8), d.length ≤ 1000000 → (l.foldl (fun d x => doR d x.kind x.path x.data) d).length ≤ 1000000 := by
    intro l
    induction l with
    | nil => exact fun d h => h
    | cons x l ih => exact fun d h => ih _ (doR_le h x.kind x.path x.data)
  exact this l fd (by omega)

theorem few_all {l : List Opx} (h : fewR l = true) : l.length ≤ 20 ∧ ∀ x ∈ l, x.path.length ≤ 100 ∧ x.data.length ≤ 400 := by
  unfold fewR at h
  rw [Bool.and_eq_true, List.all_eq_true] at h
  exact ⟨by simpa using h.2, fun x hx => by simpa using h.1 x hx⟩

theorem dirsMake_spec (l : List Opx) (k : Hd) (hk : k.Ok l.length) (hl : l.length ≤ 4000000000000000000) (hx : ∀ x ∈ l, x.h.Ok x.data.length) (p : List UInt8) (kind : Int) :
    PureSpec Tryz.prog 4 [k.v l.length, strV p, .int .i64 kind] (fun w => OpsAt w k.a l) (fun v F => v = .bool true) := by
  have hsz : (ByteArray.mk ⟨p⟩).size = p.length := rfl
  refine PureSpec.of_xc tabOk Tryz.func4 rfl (by decide) (n := Tryz.f4.ntmps - 3) rfl rfl fun w0 av => ?_
  conv => whnf
  refine XCall.val awake_spec (fun w hw => trivial) (fun v D hv => ?_)
  obtain ⟨tr, htr⟩ : ∃ tr, true = tr := ⟨_, rfl⟩
  rw [htr] at hv
  subst hv
  conv => whnf
  repeat (refine XSame.of ?_; conv => whnf)
  refine XIf.no (by rw [← htr]; rfl) ?_
  conv => whnf
  repeat (refine XSame.of ?_; conv => whnf)
  refine XCall.val (few_spec l k hk hl) (fun w hw => hw) (fun v D hv => ?_)
  generalize hfw : fewR l = fw at hv
  subst hv
  conv => whnf
  repeat (refine XSame.of ?_; conv => whnf)
  cases fw
  · conv => whnf
    repeat (refine XSame.of ?_; conv => whnf)
    repeat' (first
      | (refine XIf.yes rfl ?_; conv => whnf))
    exact ⟨_, Ent.refl _, rfl⟩
  obtain ⟨hl20, hall⟩ := few_all hfw
  conv => whnf
  repeat (refine XSame.of ?_; conv => whnf)
  repeat' (first
    | (refine XIf.no rfl ?_; conv => whnf))
  refine XIf.split (fun hlt => ?_) (fun hlt => ?_)
  · conv => whnf
    repeat (refine XSame.of ?_; conv => whnf)
    exact ⟨_, Ent.refl _, rfl⟩
  have hp : p.length ≤ 100 := by
    have h := hlt
    simp [iGt_eq, hsz] at h
    omega
  conv => whnf
  repeat (refine XSame.of ?_; conv => whnf)
  refine XCall.pure (disk_spec l k hk hl20 fun x hxm => ⟨by have := (hall x hxm).1; omega, by have := (hall x hxm).2; omega, hx x hxm⟩) (fun w hw => hw) (fun v D hv => ?_)
  obtain ⟨fd, hF, hd, rfl, hdo, rfl⟩ := hv
  have hle := diskR_le hF.len l
  generalize diskR fd l = d at *
  have hpm := pmake_spec d hd hdo hle p (by omega) kind
  have hrm := make38_spec d hd hdo hle p (by omega) kind
  rw [make_eq] at hpm
  generalize makeR d p kind = M at *
  obtain ⟨n, dd, e⟩ := M
  dsimp only at hpm hrm
  conv => whnf
  repeat (refine XSame.of ?_; conv => whnf)
  refine XCall.pure hpm (fun w hw => hw.2) (fun v D hv => ?_)
  obtain ⟨h1, rfl, ho1, rfl⟩ := hv
  conv => whnf
  repeat (refine XSame.of ?_; conv => whnf)
  refine XCall.pure hrm (fun w hw => hw.1.2) (fun v D hv => ?_)
  obtain ⟨h2, rfl, ho2, rfl⟩ := hv
  have hnn : iEq (n : Int) (n : Int) = true := by rw [iEq_eq]; simp
  have hee : iEq (e : Int) (e : Int) = true := by rw [iEq_eq]; simp
  conv => whnf
  repeat (refine XSame.of ?_; conv => whnf)
  refine XIf.yes hnn ?_
  conv => whnf
  repeat (refine XSame.of ?_; conv => whnf)
  refine XVal.of_read (XRead.bytes tabOk (t := 31) (u := 9) rfl rfl rfl rfl rfl rfl (l := dd) (.fact fun w hw => hw.1.2) rfl ?_)
  conv => whnf
  repeat (refine XSame.of ?_; conv => whnf)
  refine XVal.of_read (XRead.bytes tabOk (t := 31) (u := 9) rfl rfl rfl rfl rfl rfl (l := dd) (.fact fun w hw => hw.2) rfl ?_)
  conv => whnf
  repeat (refine XSame.of ?_; conv => whnf)
  refine XVal.of_read (XRead.strEq (l := dd) (m := dd) ?_)
  obtain ⟨q, hq⟩ : ∃ q, q = (dd == dd) := ⟨_, rfl⟩
  rw [← hq]
  have hq : q = true := by rw [hq]; simp
  conv => whnf
  repeat (refine XSame.of ?_; conv => whnf)
  refine ⟨_, Ent.refl _, ?_⟩
  simp [hq, iEq_eq]

end Go.Proofs.YtbfpgfopppfhoaaGreatDoor
