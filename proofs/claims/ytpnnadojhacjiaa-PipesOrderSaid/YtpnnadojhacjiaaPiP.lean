/- Pipes, part P: arguments opened. -/
import Derived.Test.YtpnnadojhacjiaaPiM
import Derived.Test.YtpnnadojhacjiaaSxZ
import Derived.Test.YtpnnadojhacjiaaRows
import Derived.SizedLaws
namespace Go.Proofs.Ytpnnadojhacjiaa
open Go Go.Sx Go.ChangeShapes Go.WideShapes
set_option maxRecDepth 100000
set_option maxHeartbeats 2000000
set_option linter.unusedVariables false
set_option linter.unusedSimpArgs false

theorem Tryown : ownKnob Try.prog.godebug = none := by kernel_rfl
theorem TrylaidOut : laidOutB Try.prog = true := by kernel_rfl
theorem TrymapsRowed : mapsRowed Try.prog = true := by kernel_rfl
theorem Tryfull : ((List.range Try.prog.types.size).all fun t => match Try.prog.underlying t with | some (.slice e) => decide (0 < Try.prog.cellsOf e) | _ => true) = true := by kernel_rfl

theorem StpAt.agree {W w' : World} {h : Hd} {l : List (Stp × Hd)} (hs : StpAt W h l) (hw : ∀ b, b < W.heap.size → w'.heap[b]? = W.heap[b]?) : StpAt w' h l :=
  ⟨RowAt.agree hs.1 hw, fun p hp => Sx.By.agree (hs.2 p hp) hw⟩

section
variable {H : Type} {enc : TypeId × Value → H} {w : World} {base : Nat} {spare : Nat → Bool} {held : Bool} {r : Reach} {b0 : Nat}

theorem c3 : Try.prog.cellsOf 3 = 1 := cellsOf_tab tabOk (t := 3) rfl
theorem c4 : Try.prog.cellsOf 4 = 1 := cellsOf_tab tabOk (t := 4) rfl
theorem c5 : Try.prog.cellsOf 5 = 1 := cellsOf_tab tabOk (t := 5) rfl
theorem c25 : Try.prog.cellsOf 25 = 1 := cellsOf_tab tabOk (t := 25) rfl
theorem c37 : Try.prog.cellsOf 37 = 4 := cellsOf_tab tabOk (t := 37) rfl
theorem c39 : Try.prog.cellsOf 39 = 5 := cellsOf_tab tabOk (t := 39) rfl

theorem int_cell {n : Nat} {v : Value} {x : DataW H × List MemPlace} (h : DataW.trod enc Try.prog w base spare held n 3 [v] = some x) : ∃ z : Int, v = .int .i64 z ∧ -9223372036854775808 ≤ z ∧ z ≤ 9223372036854775807 := by
  obtain ⟨z, h1, _, hw⟩ := DataW.trod_int Try.underlying3 h
  cases h1
  exact ⟨z, rfl, bounds_i64 hw⟩

theorem bool_cell {n : Nat} {v : Value} {x : DataW H × List MemPlace} (h : DataW.trod enc Try.prog w base spare held n 4 [v] = some x) : ∃ z : Bool, v = .bool z := by
  obtain ⟨z, h1, _⟩ := DataW.trod_bool Try.underlying4 h
  cases h1
  exact ⟨z, rfl⟩

theorem len4 {α : Type} {l : List α} (h : l.length = 4) : ∃ a b c d, l = [a, b, c, d] := by
  rcases l with _ | ⟨a, _ | ⟨b, _ | ⟨c, _ | ⟨d, _ | ⟨e, l⟩⟩⟩⟩⟩ <;> simp at h
  exact ⟨a, b, c, d, rfl⟩

theorem req_cells {n : Nat} {cs : List Value} (hl : cs.length = 4) {x : DataW H × List MemPlace} (h : DataW.trod enc Try.prog w base spare held n 37 cs = some x) :
    ∃ (c : Req) (k : Hd), cs = c.cells k ∧ k.Ok c.data.length ∧ By w k c.data := by
  obtain ⟨x0, x1, x2, x3, rfl⟩ := len4 hl
  obtain ⟨_, _, h0⟩ := trod_at Try.underlying37 h 0 (u := 3) (o := 0) rfl c3
  obtain ⟨_, _, h1⟩ := trod_at Try.underlying37 h 1 (u := 4) (o := 1) rfl c4
  obtain ⟨_, _, h2⟩ := trod_at Try.underlying37 h 2 (u := 3) (o := 2) rfl c3
  obtain ⟨_, _, h3⟩ := trod_at Try.underlying37 h 3 (u := 25) (o := 3) rfl c25
  obtain ⟨t, rfl, _⟩ := int_cell h0
  obtain ⟨o, rfl⟩ := bool_cell h1
  obtain ⟨p, rfl, _⟩ := int_cell h2
  obtain ⟨k, l, rfl, hk, hb⟩ := bytes_open Try.underlying25 Try.underlying5 c5 h3
  exact ⟨⟨t, o, p, l⟩, k, rfl, hk, hb⟩

theorem stp_cells {n : Nat} {cs : List Value} (hl : cs.length = 5) {x : DataW H × List MemPlace} (h : DataW.trod enc Try.prog w base spare held n 39 cs = some x) :
    ∃ p : Stp × Hd, cs = p.1.cells p.2 ∧ p.2.Ok p.1.req.data.length ∧ By w p.2 p.1.req.data := by
  rcases cs with _ | ⟨x0, cs⟩
  · simp at hl
  obtain ⟨_, _, h0⟩ := trod_at Try.underlying39 h 0 (u := 3) (o := 0) rfl c3
  obtain ⟨_, _, h1⟩ := trod_at Try.underlying39 h 1 (u := 37) (o := 1) rfl c37
  have h4 : cs.length = 4 := by simpa using hl
  have e1 : ((x0 :: cs).drop 1).take 4 = cs := by simp [← h4]
  rw [e1] at h1
  obtain ⟨t, rfl, _⟩ := int_cell h0
  obtain ⟨c, k, rfl, hk, hb⟩ := req_cells h4 h1
  exact ⟨(⟨t, c⟩, k), rfl, hk, hb⟩

theorem open_req {v : Value} {d : DataW H} {p : List MemPlace} (hv : Value.okWide Try.prog w r b0 37 v) (h : DataW.Trod enc Try.prog w base spare held 37 v d p) :
    ∃ (c : Req) (k : Hd), v = .agg ⟨c.cells k⟩ ∧ k.Ok c.data.length ∧ By w k c.data := by
  obtain ⟨n, hn⟩ := h
  simp only [Value.okWide, Try.underlying37] at hv
  obtain ⟨⟨cs⟩, rfl, hsz, hr⟩ := hv
  rw [c37] at hsz
  obtain ⟨c, k, e, h1, h2⟩ := req_cells hsz hn
  have e' : cs = c.cells k := e
  exact ⟨c, k, by rw [e'], h1, h2⟩

theorem one_of_slice {t e : TypeId} (ht : Try.prog.underlying t = some (.slice e)) {v : Value} (hv : Value.okWide Try.prog w r b0 t v) : v.cells.toList = [v] := by
  have hc : Cell.okWide Try.prog w r b0 t v := by simpa only [Value.okWide, ht] using hv
  cases v <;> first | rfl | (simp [Cell.okWide, Cell.ok, ht] at hc)

theorem open_steps {v : Value} {d : DataW H} {p : List MemPlace} (hv : Value.okWide Try.prog w r b0 22 v) (h : DataW.Trod enc Try.prog w base spare held 22 v d p) :
    ∃ (k : Hd) (l : List (Stp × Hd)), v = k.v l.length ∧ k.Ok l.length ∧ StpOk l ∧ StpAt w k l ∧ (l = [] ∨ ∃ el sp, d = .slice el sp ∧ el.length = l.length) := by
  obtain ⟨n, hn⟩ := h
  rw [one_of_slice Try.underlying22 hv] at hn
  obtain ⟨k, L, rfl, hk, hr, hc, hsz⟩ := slice_open Try.underlying22 c39 (by decide) hn
  obtain ⟨l, rfl, hg⟩ := each_of (f := fun p : Stp × Hd => p.1.cells p.2) (good := fun p => p.2.Ok p.1.req.data.length ∧ By w p.2 p.1.req.data) (L := L) fun c hcm => by
    obtain ⟨hl, m, y, hy⟩ := hc c hcm
    exact stp_cells hl hy
  refine ⟨k, l, by simp, by simpa using hk, fun p hp => (hg p hp).1, ⟨?_, fun p hp => (hg p hp).2⟩, ?_⟩
  · show RowAt w k.a (stpCells l)
    rw [stpCells, List.flatMap_def]
    exact hr
  · rcases hsz with h | ⟨el, sp, h1, h2⟩
    · exact .inl (by simpa using h)
    · exact .inr ⟨el, sp, h1, by simpa using h2⟩

theorem steps_size {vars : List String} {ts : List TypeId} {ds gs : List (DataW H)} {j : Nat} {d : DataW H} (hz : (DataW.weightsEach Try.prog ts ds).all (· ≤ reachBytes) = true) (ht : ts[j]? = some 22) (hd : ds[j]? = some d)
    {l : List (Stp × Hd)} (h : l = [] ∨ ∃ el sp, d = .slice el sp ∧ el.length = l.length) : l.length * 56 ≤ 140737488351232 := by
  rcases h with rfl | ⟨el, sp, rfl, hl⟩
  · simp
  · have := sized_slice hz ht hd Try.underlying22
    have e : Try.prog.bytesOf 39 = 56 := by kernel_rfl
    rw [e] at this
    unfold reachBytes at this
    omega

end
end Go.Proofs.Ytpnnadojhacjiaa
