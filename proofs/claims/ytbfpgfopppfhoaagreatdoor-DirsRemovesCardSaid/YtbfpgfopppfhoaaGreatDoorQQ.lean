/- Parts of the proof: NxB. -/
import Derived.Test.YtbfpgfopppfhoaaGreatDoorQO
import Derived.Test.YtbfpgfopppfhoaaGreatDoorQP
import Derived.Test.YtbfpgfopppfhoaaGreatDoorRows
import Derived.SizedLaws
namespace Go.Proofs.YtbfpgfopppfhoaaGreatDoor
open Go Go.Sx Go.ChangeShapes Go.WideShapes
set_option maxRecDepth 100000
set_option maxHeartbeats 2000000
set_option linter.unusedVariables false
set_option linter.unusedSimpArgs false

theorem OpsAt.agree {W w' : World} {a : Option Addr} {l : List Opx} (hs : OpsAt W a l) (hw : ∀ b, b < W.heap.size → w'.heap[b]? = W.heap[b]?) : OpsAt w' a l :=
  ⟨RowAt.agree hs.1 hw, fun p hp => Sx.By.agree (hs.2 p hp) hw⟩

section
variable {H : Type} {enc : TypeId × Value → H} {w : World} {base : Nat} {spare : Nat → Bool} {held : Bool} {r : Reach} {b0 : Nat}

theorem c3 : Tryz.prog.cellsOf 3 = 1 := cellsOf_tab tabOk (t := 3) rfl
theorem c5 : Tryz.prog.cellsOf 5 = 1 := cellsOf_tab tabOk (t := 5) rfl
theorem c9 : Tryz.prog.cellsOf 9 = 1 := cellsOf_tab tabOk (t := 9) rfl
theorem c31 : Tryz.prog.cellsOf 31 = 1 := cellsOf_tab tabOk (t := 31) rfl
theorem c70 : Tryz.prog.cellsOf 70 = 3 := cellsOf_tab tabOk (t := 70) rfl

theorem int_cell {n : Nat} {v : Value} {x : DataW H × List MemPlace} (h : DataW.trod enc Tryz.prog w base spare held n 3 [v] = some x) : ∃ z : Int, v = .int .i64 z ∧ -9223372036854775808 ≤ z ∧ z ≤ 9223372036854775807 := by
  obtain ⟨z, h1, _, hw⟩ := DataW.trod_int Tryz.underlying3 h
  cases h1
  exact ⟨z, rfl, bounds_i64 hw⟩

theorem str_cell {n : Nat} {v : Value} {x : DataW H × List MemPlace} (h : DataW.trod enc Tryz.prog w base spare held n 9 [v] = some x) : ∃ s : List UInt8, v = strV s := by
  obtain ⟨z, h1, _⟩ := DataW.trod_string Tryz.underlying9 h
  cases h1
  exact ⟨z.data.toList, rfl⟩

theorem op_cells {n : Nat} {cs : List Value} (hl : cs.length = 3) {x : DataW H × List MemPlace} (h : DataW.trod enc Tryz.prog w base spare held n 70 cs = some x) :
    ∃ p : Opx, cs = opC p ∧ p.h.Ok p.data.length ∧ By w p.h p.data := by
  obtain ⟨x0, x1, x2, rfl⟩ : ∃ a b c, cs = [a, b, c] := by
    rcases cs with _ | ⟨a, _ | ⟨b, _ | ⟨c, _ | ⟨d, l⟩⟩⟩⟩ <;> simp at hl
    exact ⟨a, b, c, rfl⟩
  obtain ⟨_, _, h0⟩ := trod_at Tryz.underlying70 h 0 (u := 3) (o := 0) rfl c3
  obtain ⟨_, _, h1⟩ := trod_at Tryz.underlying70 h 1 (u := 9) (o := 1) rfl c9
  obtain ⟨_, _, h2⟩ := trod_at Tryz.underlying70 h 2 (u := 31) (o := 2) rfl c31
  obtain ⟨t, rfl, _⟩ := int_cell h0
  obtain ⟨s, rfl⟩ := str_cell h1
  obtain ⟨k, l, rfl, hk, hb⟩ := bytes_open Tryz.underlying31 Tryz.underlying5 c5 h2
  exact ⟨⟨t, s, k, l⟩, rfl, hk, hb⟩

theorem one_of_slice {t e : TypeId} (ht : Tryz.prog.underlying t = some (.slice e)) {v : Value} (hv : Value.okWide Tryz.prog w r b0 t v) : v.cells.toList = [v] := by
  have hc : Cell.okWide Tryz.prog w r b0 t v := by simpa only [Value.okWide, ht] using hv
  cases v <;> first | rfl | (simp [Cell.okWide, Cell.ok, ht] at hc)

theorem open_ops {v : Value} {d : DataW H} {p : List MemPlace} (hv : Value.okWide Tryz.prog w r b0 29 v) (h : DataW.Trod enc Tryz.prog w base spare held 29 v d p) :
    ∃ (k : Hd) (l : List Opx), v = k.v l.length ∧ k.Ok l.length ∧ (∀ x ∈ l, x.h.Ok x.data.length) ∧ OpsAt w k.a l ∧ (l = [] ∨ ∃ el sp, d = .slice el sp ∧ el.length = l.length) := by
  obtain ⟨n, hn⟩ := h
  rw [one_of_slice Tryz.underlying29 hv] at hn
  obtain ⟨k, L, rfl, hk, hr, hc, hsz⟩ := slice_open Tryz.underlying29 c70 (by decide) hn
  obtain ⟨l, rfl, hg⟩ := each_of (f := opC) (good := fun p => p.h.Ok p.data.length ∧ By w p.h p.data) (L := L) fun c hcm => by
    obtain ⟨hl, m, y, hy⟩ := hc c hcm
    exact op_cells hl hy
  refine ⟨k, l, by simp, by simpa using hk, fun p hp => (hg p hp).1, ⟨?_, fun p hp => (hg p hp).2⟩, ?_⟩
  · show RowAt w k.a (opCs l)
    rw [opCs, List.flatMap_def]
    exact hr
  · rcases hsz with h | ⟨el, sp, h1, h2⟩
    · exact .inl (by simpa using h)
    · exact .inr ⟨el, sp, h1, by simpa using h2⟩

theorem ops_size {vars : List String} {ts : List TypeId} {ds gs : List (DataW H)} {j : Nat} {d : DataW H} (hz : (DataW.weightsEach Tryz.prog ts ds).all (· ≤ reachBytes) = true) (ht : ts[j]? = some 29) (hd : ds[j]? = some d)
    {l : List Opx} (h : l = [] ∨ ∃ el sp, d = .slice el sp ∧ el.length = l.length) : l.length ≤ 4000000000000000000 := by
  rcases h with rfl | ⟨el, sp, rfl, hl⟩
  · simp
  · have := sized_slice hz ht hd Tryz.underlying29
    have e : Tryz.prog.bytesOf 70 = 48 := by kernel_rfl
    rw [e] at this
    unfold reachBytes at this
    omega

end
end Go.Proofs.YtbfpgfopppfhoaaGreatDoor
