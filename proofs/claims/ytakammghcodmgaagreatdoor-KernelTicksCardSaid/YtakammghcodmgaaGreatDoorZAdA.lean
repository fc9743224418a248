/- slices.Chunk over bytes, and what slices.Collect makes of it: the blocks of a new disk. -/
import Derived.RangeFuncBox
import Derived.RangeFuncLeaves
import Derived.Shelf.Abstract
import Derived.WalkKit
import Derived.OwnWalkIn
import Derived.TacticsInMore
import Derived.LoopNIn
import Derived.LoopIn
import Derived.Maps.AppendAt
import Derived.Test.YtakammghcodmgaaGreatDoorProg
namespace Go.Proofs.YtakammghcodmgaaGreatDoor
open Go Go.Proofs Go.RowKit Go.Shelf

attribute [local go_sem] Oper.semAt_some

/-- A block of 128 bytes of a row. -/
abbrev chV (b i : Nat) : Value := .slice (some ⟨b, 128 * i, none⟩) 128 128

set_option maxRecDepth 100000 in
set_option maxHeartbeats 2000000 in
theorem chunk1_in (F : Fence) (n : Nat) (hf : F.fn 179) (hro : F.round = none) (hn : 1 ≤ n) (l Bs Bn n₀ n₁ b m : Nat) (hm : m ≤ 1000) (hB1 : Bs < n₀) (hB2 : Bn < n₀) (J Jx : List Nat → World → Prop)
 (hJa : AbidesFrom n₁ J)
 (hY : ∀ pre x W, J pre W → pre.length < m → YieldAt F (n - 1) Tryz.prog l #[chV b x] W fun e W' =>
  (e = .returned (.bool true) ∧ J (pre ++ [x]) W' ∧ Below n₀ W W') ∨ (e = .returned (.bool false) ∧ Jx (pre ++ [x]) W'))
 (W : World) (hBs : W.cell? ⟨Bs, 0, none⟩ = some (.slice (some ⟨b, 0, none⟩) (128 * m) (128 * m))) (hBn : W.cell? ⟨Bn, 0, none⟩ = some (.int .i64 128)) (h0 : J [] W) :
 CallsIn F n Tryz.prog 179 #[.func (.yield l) #[] #[], .pointer (some ⟨Bs, 0, none⟩), .pointer (some ⟨Bn, 0, none⟩)] W fun e W' => (∃ v, e = .returned v) ∧
  ((∃ ys, ys = List.range m ∧ J ys W') ∨ (∃ pre, True ∧ Jx pre W')) := by
 refine callsIn_of_wp Tryz.func179 rfl hf ?_ hro
 simp only [Tryz.ntmps179, List.size_toArray, List.length_cons, List.length_nil, Nat.reduceAdd, Nat.reduceSub, Array.replicate_succ, Array.replicate_zero, List.push_toArray, List.append_toArray, List.nil_append, List.cons_append]
 gi_wp2
 gi_loopw [4] (fun i wr => ∃ k : Nat, k ≤ m ∧ i = .int .i64 ((128 * k : Nat) : Int) ∧ J (List.range k) wr ∧ Below n₀ W wr)
  (fun i _ => 128 * m - (intOf i).toNat)
 case atStart => exact ⟨0, Nat.zero_le _, rfl, h0, Below.refl _ _⟩
 case round =>
  obtain ⟨k, hk, rfl, hJs, hnx⟩ := hrel
  have c1 := (hnx.cell (p := ⟨Bs, 0, none⟩) hB1).trans hBs
  have c2 := (hnx.cell (p := ⟨Bn, 0, none⟩) hB2).trans hBn
  by_cases hlt : k < m
  · have hJd : J (List.range k) wr.drew := hJa _ wr wr.drew none hJs ⟨rfl, rfl, rfl, Nat.le_refl _, fun _ _ _ => rfl⟩ (fun r e => by cases e)
    obtain ⟨fn, tmps, assign, body, hy, hR⟩ := hY _ k wr.drew hJd (by rw [List.length_range]; exact hlt)
    dsimp only [chV] at hy
    have c2d : wr.drew.cell? ⟨Bn, 0, none⟩ = some (.int .i64 128) := c2
    have h1 : ((128 * k : Nat) : Int) < ((128 * m : Nat) : Int) := by omega
    have mixed : Tryz.prog.follows .mixedOrders = true := by kernel_rfl

    have c1d : wr.drew.cell? ⟨Bs, 0, none⟩ = some (.slice (some ⟨b, 0, none⟩) (128 * m) (128 * m)) := c1
    gi_wp2
    gi_region
    all_goals
     rw [if_neg (show ¬ ((128 * m - 128 * k : Nat) : Int) < 128 by omega)]
     gi_wp2
     refine hR.mono ?_
     rintro e W3 h
     rcases h with ⟨rfl, hJ3, hk3⟩ | ⟨rfl, hJx3⟩
     · have c2e := (hk3.cell (p := ⟨Bn, 0, none⟩) hB2).trans c2d
       gi_wp2
       go_roundw
       case rel => exact ⟨k + 1, by omega, by simp; omega, by rw [List.range_succ]; exact hJ3, hnx.trans (((Below.refl n₀ wr).drew).trans hk3)⟩
       case measure => simp [intOf]; omega
     · gi_wp2
       refine bodyPost_ret (results_none rfl _ _ _) rfl ?_
       exact ⟨⟨_, rfl⟩, .inr ⟨_, trivial, hJx3⟩⟩
  · obtain rfl : k = m := by omega
    gi_wp2
    go_end0
    exact ⟨⟨_, rfl⟩, .inl ⟨_, rfl, hJs⟩⟩

end Go.Proofs.YtakammghcodmgaaGreatDoor
