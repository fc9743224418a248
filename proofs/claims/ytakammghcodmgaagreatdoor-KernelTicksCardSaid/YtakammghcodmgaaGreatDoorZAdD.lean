/- slices.Collect of slices.Chunk, disk.cut. -/
import Derived.Test.YtakammghcodmgaaGreatDoorZAdA
import Derived.Test.YtakammghcodmgaaGreatDoorQI
namespace Go.Proofs.YtakammghcodmgaaGreatDoor
open Go Go.Proofs Go.RowKit Go.Shelf

attribute [local go_sem] Oper.semAt_some

theorem chunk_stops (F : Fence) (n : Nat) (hf : F.fn 179) (hro : F.round = none) (hn : 1 ≤ n) (Bs Bn n₀ b m : Nat) (hm : m ≤ 1000) (w : World) (hB1 : Bs < n₀) (hB2 : Bn < n₀) (hn₀ : n₀ ≤ w.heap.size)
 (hBs : w.cell? ⟨Bs, 0, none⟩ = some (.slice (some ⟨b, 0, none⟩) (128 * m) (128 * m))) (hBn : w.cell? ⟨Bn, 0, none⟩ = some (.int .i64 128)) :
 SeqStopsK F n Tryz.prog 179 #[.pointer (some ⟨Bs, 0, none⟩), .pointer (some ⟨Bn, 0, none⟩)] (fun x : Nat => #[chV b x]) (Below n₀) (fun ys => ys = List.range m) (fun _ => True) m w :=
 fun l J Jx W hW hJa _ hY h0 => chunk1_in F n hf hro hn l Bs Bn n₀ W.heap.size b m hm hB1 hB2 J Jx hJa hY W ((hW.cell (p := ⟨Bs, 0, none⟩) (Nat.lt_of_lt_of_le hB1 hn₀)).trans hBs) ((hW.cell (p := ⟨Bn, 0, none⟩) (Nat.lt_of_lt_of_le hB2 hn₀)).trans hBn) h0

theorem infoBs : (Tryz.prog.info? 22).map (fun i => (i.zero, i.size, i.bytes)) = some (some (.slice none 0 0), 1, 24) := by kernel_rfl

set_option maxRecDepth 100000 in
set_option maxHeartbeats 2000000 in
theorem appendSeq_in (F : Fence) (n : Nat) (h1 : F.fn 178) (h2 : F.fn 179) (hro : F.round = none) (hn : 3 ≤ n) (Bs Bn b m : Nat) (hm : m ≤ 1000) (w : World) (hB1 : Bs < w.heap.size) (hB2 : Bn < w.heap.size)
 (hBs : w.cell? ⟨Bs, 0, none⟩ = some (.slice (some ⟨b, 0, none⟩) (128 * m) (128 * m))) (hBn : w.cell? ⟨Bn, 0, none⟩ = some (.int .i64 128)) :
 CallsIn F n Tryz.prog 178 #[.slice none 0 0, .func (.func 179) #[] #[.pointer (some ⟨Bs, 0, none⟩), .pointer (some ⟨Bn, 0, none⟩)]] w fun e W' => ∃ v, e = .returned v ∧ W'.ownsRow w.heap.size 22 1 v m ((List.range m).map (chV b)) ∧ Below w.heap.size w W' := by
 have hn1 : 1 ≤ n := by omega
 obtain ⟨i0, hi, hz0, hz1, hz2⟩ := info_parts infoBs
 refine callsIn_of_wp_marks Tryz.func178 rfl h1 ?_ hro
 simp only [Tryz.ntmps178, List.size_toArray, List.length_cons, List.length_nil, Nat.reduceAdd, Nat.reduceSub, Array.replicate_succ, Array.replicate_zero, List.push_toArray, List.append_toArray, List.nil_append, List.cons_append]
 gi_wp2
 have bO := Boxed.new w 66 (.slice none 0 0)
 have hB0 : Below w.heap.size w (w.alloc (.cells #[.slice none 0 0] 66)) := (Below.refl _ w).alloc (Nat.le_refl _) _
 refine wpIn_rangeFunc_ownG hro hn1 (gf := 179) (lb := #[.pointer (some ⟨Bs, 0, none⟩), .pointer (some ⟨Bn, 0, none⟩)]) rfl h2 (enters_of Tryz.func179 (by kernel_rfl) rfl)
  (chunk_stops F (n - 1) h2 hro (by omega) Bs Bn w.heap.size b m hm _ hB1 hB2 (by simp) ((hB0.cell (p := ⟨Bs, 0, none⟩) hB1).trans hBs) ((hB0.cell (p := ⟨Bn, 0, none⟩) hB2).trans hBn)) belowK_t (belowK_b (by simp)) (Below.refl _ _) (fun _ => rfl)
  (fun pre W => (∃ v, Boxed W w.heap.size 66 v ∧ W.ownsRow w.heap.size 22 1 v pre.length (pre.map (chV b)) ∧ (v = .slice none 0 0 ↔ pre = [])) ∧ Below w.heap.size w W)
  (fun _ _ _ => False)
  (OwnFrom.and (Own.from (holdsRow_own w.heap.size w.heap.size 66 22 1 (fun pre => pre.length) (fun pre => pre.map (chV b)) (fun pre v => v = .slice none 0 0 ↔ pre = [])) _) (ownFrom_below (Nat.le_refl _) (by simp)))
  (fun _ _ _ _ _ hs _ _ => hs)
  ⟨⟨_, bO, World.ownsRow_nil _ _ _ _, by simp⟩, hB0⟩
  (fun x => { tmps := #[.slice none 0 0, .func (.func 179) #[] #[.pointer (some ⟨Bs, 0, none⟩), .pointer (some ⟨Bn, 0, none⟩)], .pointer (some ⟨w.heap.size, 0, none⟩), undef, .slice none 0 0, chV b x, .func (.func 179) #[] #[.pointer (some ⟨Bs, 0, none⟩), .pointer (some ⟨Bn, 0, none⟩)], chV b x, undef, undef, undef, undef, undef], defers := [] }) ?assign ?body ?done ?stop
 case assign =>
  intro l x W K hK
  gi_wp2
  exact hK
 case body =>
  rintro l pre x W ⟨⟨v, hv, hrow, hnil⟩, hB⟩ hlt
  have hc := hv.cell
  have hml : 1000 ≤ maxLen := by decide
  gi_wp2_with (gi_at_builtin; refine wpListIn_append_own _ rfl _ _ 66 rfl w.heap.size 22 i0 (.slice none 0 0) 1 24 Tryz.underlying66 hi hz0 hz1 hz2 rfl (by decide) _ _ _ rfl (hrow.alloc _) ⟨W.heap.size, 0, none⟩ 1 1 [chV b x] rfl rfl (cell_one_new _ _ _) (by simp [Value.oneCell', chV]) (by omega) (by omega) (by have := hB.size; simp; omega) ?_; intro v' w1 hown' hgrow _; obtain ⟨g', cap', rfl⟩ := ownsRow_succ hown'; obtain ⟨hv1, hv2, hr2, hk2, hb2⟩ := hv.appended (by decide) hrow hB.size (Nat.le_refl _) hown' hgrow; have hc1 := hv1.cell; have hf1 := hv1.frozen)
  exact ⟨hk2.from _, hb2, ⟨_, hv2, by simpa using hr2, by simp⟩, hB.trans hb2⟩
 case done =>
  rintro D ys W hD rfl ⟨⟨v, hv, hrow, hnil⟩, hB⟩ hK
  have hc := hv.cell
  gi_wp2
  refine ⟨by simp, .inl ⟨_, _, rfl, run_takeDeferred hK, ?_⟩⟩
  exact ⟨_, results_tmp rfl _ _ _, v, rfl, by simpa using ownsRow_putObj hrow _ hK rfl, hB.trans (belowK_b (w := w) (Nat.le_refl _) W D _ _ (by simp at hD; omega) hK rfl rfl)⟩
 case stop =>
  rintro D c pre W _ _ h _
  exact h.elim

set_option maxHeartbeats 1000000 in
theorem chunk_in (F : Fence) (n : Nat) (hf : F.fn 102) (hro : F.round = none) (a : Option Addr) (len cap : Nat) (w : World) :
 CallsIn F n Tryz.prog 102 #[.slice a len cap, .int .i64 128] w fun e w' => e = .returned (.func (.func 179) #[] #[.pointer (some ⟨w.heap.size, 0, none⟩), .pointer (some ⟨w.heap.size + 1, 0, none⟩)]) ∧ w' = (w.alloc (.cells #[.slice a len cap] 22)).alloc (.cells #[.int .i64 128] 3) := by
 refine callsIn_of_wp Tryz.func102 rfl hf ?_ hro
 simp only [Tryz.ntmps102, List.size_toArray, List.length_cons, List.length_nil, Nat.reduceAdd, Nat.reduceSub, Array.replicate_succ, Array.replicate_zero, List.push_toArray, List.append_toArray, List.nil_append, List.cons_append]
 have bS := Boxed.new w 22 (.slice a len cap)
 have bN := Boxed.new (w.alloc (.cells #[.slice a len cap] 22)) 3 (.int .i64 128)
 rw [World.size_alloc] at bN
 have cN := bN.cell
 gi_wp2
 go_ret
 exact ⟨rfl, rfl⟩

set_option maxHeartbeats 1000000 in
theorem collect_in (F : Fence) (n : Nat) (h0 : F.fn 101) (h1 : F.fn 178) (h2 : F.fn 179) (hro : F.round = none) (hn : 4 ≤ n) (Bs Bn b m : Nat) (hm : m ≤ 1000) (w : World) (hB1 : Bs < w.heap.size) (hB2 : Bn < w.heap.size)
 (hBs : w.cell? ⟨Bs, 0, none⟩ = some (.slice (some ⟨b, 0, none⟩) (128 * m) (128 * m))) (hBn : w.cell? ⟨Bn, 0, none⟩ = some (.int .i64 128)) :
 CallsIn F n Tryz.prog 101 #[.func (.func 179) #[] #[.pointer (some ⟨Bs, 0, none⟩), .pointer (some ⟨Bn, 0, none⟩)]] w fun e W' => ∃ v, e = .returned v ∧ W'.ownsRow w.heap.size 22 1 v m ((List.range m).map (chV b)) ∧ Below w.heap.size w W' := by
 have hn1 : 1 ≤ n := by omega
 refine callsIn_of_wp Tryz.func101 rfl h0 ?_ hro
 simp only [Tryz.ntmps101, List.size_toArray, List.length_cons, List.length_nil, Nat.reduceAdd, Nat.reduceSub, Array.replicate_succ, Array.replicate_zero, List.push_toArray, List.append_toArray, List.nil_append, List.cons_append]
 gi_wp2_with (gi_at_call 178; refine (appendSeq_in F (n - 1) h1 h2 hro (by omega) Bs Bn b m hm w hB1 hB2 hBs hBn).mono ?_; rintro e w' ⟨v, rfl, hrow, hbel⟩)
 go_ret
 exact ⟨v, rfl, hrow, hbel⟩

set_option maxHeartbeats 1000000 in
theorem cut_in (F : Fence) (n : Nat) (hc : F.fn 51) (hk : F.fn 102) (h0 : F.fn 101) (h1 : F.fn 178) (h2 : F.fn 179) (hro : F.round = none) (hn : 5 ≤ n) (b m : Nat) (hm : m ≤ 1000) (w : World) :
 CallsIn F n Tryz.prog 51 #[.slice (some ⟨b, 0, none⟩) (128 * m) (128 * m)] w fun e W' => ∃ v, e = .returned v ∧ W'.ownsRow w.heap.size 22 1 v m ((List.range m).map (chV b)) ∧ Below w.heap.size w W' := by
 have hn1 : 1 ≤ n := by omega
 refine callsIn_of_wp Tryz.func51 rfl hc ?_ hro
 simp only [Tryz.ntmps51, List.size_toArray, List.length_cons, List.length_nil, Nat.reduceAdd, Nat.reduceSub, Array.replicate_succ, Array.replicate_zero, List.push_toArray, List.append_toArray, List.nil_append, List.cons_append]
 obtain ⟨W0, hW0⟩ : ∃ W0, (w.alloc (.cells #[.slice (some ⟨b, 0, none⟩) (128 * m) (128 * m)] 22)).alloc (.cells #[.int .i64 128] 3) = W0 := ⟨_, rfl⟩
 have bS := (Boxed.new w 22 (.slice (some ⟨b, 0, none⟩) (128 * m) (128 * m))).alloc (.cells #[.int .i64 128] 3)
 have bN := Boxed.new (w.alloc (.cells #[.slice (some ⟨b, 0, none⟩) (128 * m) (128 * m)] 22)) 3 (.int .i64 128)
 rw [World.size_alloc, hW0] at bN
 rw [hW0] at bS
 have hsz : W0.heap.size = w.heap.size + 2 := by rw [← hW0]; simp
 have hB0 : Below w.heap.size w W0 := by
  rw [← hW0]
  exact ((Below.refl _ w).alloc (Nat.le_refl _) _).alloc (by simp) _
 gi_wp2_with (first
  | (gi_at_call 102; refine (chunk_in F (n - 1) hk hro _ _ _ _).mono ?_; rintro e w' ⟨rfl, rfl⟩; rw [hW0])
  | (gi_at_call 101; refine (collect_in F (n - 1) h0 h1 h2 hro (by omega) w.heap.size (w.heap.size + 1) b m hm W0 (by omega) (by omega) bS.cell bN.cell).mono ?_; rintro e w' ⟨v, rfl, hrow, hbel⟩))
 go_ret
 refine ⟨v, rfl, ?_, hB0.trans (hbel.mono (by omega))⟩
 rw [hsz] at hrow
 rcases hrow with ⟨hl, h | ⟨g, cap, cur, rfl, hg, hrest⟩⟩
 · exact ⟨hl, .inl h⟩
 · exact ⟨hl, .inr ⟨g, cap, cur, rfl, by omega, hrest⟩⟩

end Go.Proofs.YtakammghcodmgaaGreatDoor
