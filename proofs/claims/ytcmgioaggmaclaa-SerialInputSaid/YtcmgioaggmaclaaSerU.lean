/- Serial, part U: arguments opened. -/
import Derived.Test.YtcmgioaggmaclaaSerB
import Derived.Test.YtcmgioaggmaclaaSerJ
import Derived.Test.YtcmgioaggmaclaaSxZ
import Derived.Test.YtcmgioaggmaclaaRows
namespace Go.Proofs.Ytcmgioaggmaclaa
open Go Go.Sx Go.ChangeShapes Go.WideShapes
set_option maxRecDepth 100000
set_option maxHeartbeats 2000000
set_option linter.unusedVariables false
set_option linter.unusedSimpArgs false

theorem Tryown : ownKnob Try.prog.godebug = none := by kernel_rfl
theorem TrylaidOut : laidOutB Try.prog = true := by kernel_rfl
theorem TrymapsRowed : mapsRowed Try.prog = true := by kernel_rfl
theorem Tryfull : ((List.range Try.prog.types.size).all fun t => match Try.prog.underlying t with | some (.slice e) => decide (0 < Try.prog.cellsOf e) | _ => true) = true := by kernel_rfl

theorem SH.By.agree {W w' : World} {k : SH} {s : S} (h : k.By s W) (hw : ∀ b, b < W.heap.size → w'.heap[b]? = W.heap[b]?) : k.By s w' :=
  ⟨Sx.By.agree h.inp hw, Sx.By.agree h.got hw, Sx.By.agree h.out hw, ⟨Sx.By.agree h.o.d hw, Sx.By.agree h.o.l hw⟩, ⟨Sx.By.agree h.i.d hw, Sx.By.agree h.i.l hw⟩⟩

section
variable {H : Type} {enc : TypeId × Value → H} {w : World} {base : Nat} {spare : Nat → Bool} {held : Bool} {r : Reach} {b0 : Nat}

theorem c3 : Try.prog.cellsOf 3 = 1 := cellsOf_tab tabOk (t := 3) rfl
theorem c4 : Try.prog.cellsOf 4 = 1 := cellsOf_tab tabOk (t := 4) rfl
theorem c5 : Try.prog.cellsOf 5 = 1 := cellsOf_tab tabOk (t := 5) rfl
theorem c22 : Try.prog.cellsOf 22 = 1 := cellsOf_tab tabOk (t := 22) rfl
theorem c24 : Try.prog.cellsOf 24 = 4 := cellsOf_tab tabOk (t := 24) rfl
theorem c26 : Try.prog.cellsOf 26 = 3 := cellsOf_tab tabOk (t := 26) rfl
theorem c28 : Try.prog.cellsOf 28 = 9 := cellsOf_tab tabOk (t := 28) rfl
theorem c30 : Try.prog.cellsOf 30 = 23 := cellsOf_tab tabOk (t := 30) rfl

theorem open_bytes {v : Value} {d : DataW H} {p : List MemPlace} (hv : Value.okWide Try.prog w r b0 22 v) (h : DataW.Trod enc Try.prog w base spare held 22 v d p) :
    ∃ (k : Hd) (l : List UInt8), v = k.v l.length ∧ k.Ok l.length ∧ By w k l := by
  obtain ⟨n, hn⟩ := h
  have hc : Cell.okWide Try.prog w r b0 22 v := by simpa only [Value.okWide, Try.underlying22] using hv
  have h1 : v.cells.toList = [v] := by
    cases v <;> first | rfl | (simp [Cell.okWide, Cell.ok, Try.underlying22] at hc)
  rw [h1] at hn
  exact bytes_of Try.underlying22 Try.underlying5 c5 hc hn

theorem int_cell {n : Nat} {v : Value} {x : DataW H × List MemPlace} (h : DataW.trod enc Try.prog w base spare held n 3 [v] = some x) : ∃ z : Int, v = .int .i64 z ∧ -9223372036854775808 ≤ z ∧ z ≤ 9223372036854775807 := by
  obtain ⟨z, h1, _, hw⟩ := DataW.trod_int Try.underlying3 h
  cases h1
  exact ⟨z, rfl, bounds_i64 hw⟩

theorem bool_cell {n : Nat} {v : Value} {x : DataW H × List MemPlace} (h : DataW.trod enc Try.prog w base spare held n 4 [v] = some x) : ∃ z : Bool, v = .bool z := by
  obtain ⟨z, h1, _⟩ := DataW.trod_bool Try.underlying4 h
  cases h1
  exact ⟨z, rfl⟩

/-- Numbers that fit. -/
def Fit (z : Int) : Prop := -9223372036854775808 ≤ z ∧ z ≤ 9223372036854775807

def Cmd.Fit (c : Cmd) : Prop := Ytcmgioaggmaclaa.Fit c.tag ∧ Ytcmgioaggmaclaa.Fit c.op ∧ Ytcmgioaggmaclaa.Fit c.place
def Ans.Fit (c : Ans) : Prop := Ytcmgioaggmaclaa.Fit c.tag ∧ Ytcmgioaggmaclaa.Fit c.ans

theorem cmd_cells {n : Nat} {x0 x1 x2 x3 : Value} {x : DataW H × List MemPlace} (h : DataW.trod enc Try.prog w base spare held n 24 [x0, x1, x2, x3] = some x) (hc : Cell.okWide Try.prog w r b0 22 x3) :
    ∃ (c : Cmd) (k : Hd), [x0, x1, x2, x3] = c.cells k ∧ k.Ok c.data.length ∧ By w k c.data ∧ c.Fit := by
  obtain ⟨_, _, h0⟩ := trod_at Try.underlying24 h 0 (u := 3) (o := 0) rfl c3
  obtain ⟨_, _, h1⟩ := trod_at Try.underlying24 h 1 (u := 3) (o := 1) rfl c3
  obtain ⟨_, _, h2⟩ := trod_at Try.underlying24 h 2 (u := 3) (o := 2) rfl c3
  obtain ⟨_, _, h3⟩ := trod_at Try.underlying24 h 3 (u := 22) (o := 3) rfl c22
  obtain ⟨t, rfl, f0⟩ := int_cell h0
  obtain ⟨o, rfl, f1⟩ := int_cell h1
  obtain ⟨p, rfl, f2⟩ := int_cell h2
  obtain ⟨k, l, rfl, hk, hb⟩ := bytes_of Try.underlying22 Try.underlying5 c5 hc h3
  exact ⟨⟨t, o, p, l⟩, k, rfl, hk, hb, f0, f1, f2⟩

theorem ans_cells {n : Nat} {x0 x1 x2 : Value} {x : DataW H × List MemPlace} (h : DataW.trod enc Try.prog w base spare held n 26 [x0, x1, x2] = some x) (hc : Cell.okWide Try.prog w r b0 22 x2) :
    ∃ (c : Ans) (k : Hd), [x0, x1, x2] = c.cells k ∧ k.Ok c.data.length ∧ By w k c.data ∧ c.Fit := by
  obtain ⟨_, _, h0⟩ := trod_at Try.underlying26 h 0 (u := 3) (o := 0) rfl c3
  obtain ⟨_, _, h1⟩ := trod_at Try.underlying26 h 1 (u := 3) (o := 1) rfl c3
  obtain ⟨_, _, h2⟩ := trod_at Try.underlying26 h 2 (u := 22) (o := 2) rfl c22
  obtain ⟨t, rfl, f0⟩ := int_cell h0
  obtain ⟨o, rfl, f1⟩ := int_cell h1
  obtain ⟨k, l, rfl, hk, hb⟩ := bytes_of Try.underlying22 Try.underlying5 c5 hc h2
  exact ⟨⟨t, o, l⟩, k, rfl, hk, hb, f0, f1⟩

theorem chan_cells {n : Nat} {x0 x1 x2 x3 x4 x5 x6 x7 x8 : Value} {x : DataW H × List MemPlace} (h : DataW.trod enc Try.prog w base spare held n 28 [x0, x1, x2, x3, x4, x5, x6, x7, x8] = some x)
    (hc4 : Cell.okWide Try.prog w r b0 22 x4) (hc8 : Cell.okWide Try.prog w r b0 22 x8) :
    ∃ (c : Chan) (l : Int) (k : CH), [x0, x1, x2, x3, x4, x5, x6, x7, x8] = c.rcells l k ∧ k.Ok c ∧ k.By c w ∧ c.cmd.Fit ∧ c.last.Fit := by
  obtain ⟨_, _, h0⟩ := trod_at Try.underlying28 h 0 (u := 4) (o := 0) rfl c4
  obtain ⟨_, _, h1⟩ := trod_at Try.underlying28 h 1 (u := 24) (o := 1) rfl c24
  obtain ⟨_, _, h2⟩ := trod_at Try.underlying28 h 2 (u := 3) (o := 5) rfl c3
  obtain ⟨_, _, h3⟩ := trod_at Try.underlying28 h 3 (u := 26) (o := 6) rfl c26
  obtain ⟨o, rfl⟩ := bool_cell h0
  obtain ⟨c, k, e1, hk, hb, f1⟩ := cmd_cells h1 hc4
  obtain ⟨l, rfl, _⟩ := int_cell h2
  obtain ⟨a, m, e2, hm, hd, f2⟩ := ans_cells h3 hc8
  refine ⟨⟨o, c, a⟩, l, ⟨k, m⟩, ?_, ⟨hk, hm⟩, ⟨hb, hd⟩, f1, f2⟩
  simp only [Cmd.cells, Ans.cells, List.cons.injEq] at e1 e2
  obtain ⟨rfl, rfl, rfl, rfl, _⟩ := e1
  obtain ⟨rfl, rfl, rfl, _⟩ := e2
  rfl

theorem len4 {α : Type} {l : List α} (h : l.length = 4) : ∃ a b c d, l = [a, b, c, d] := by
  rcases l with _ | ⟨a, _ | ⟨b, _ | ⟨c, _ | ⟨d, _ | ⟨e, l⟩⟩⟩⟩⟩ <;> simp at h
  exact ⟨a, b, c, d, rfl⟩

theorem split_at {α : Type} (n : Nat) {l : List α} {m : Nat} (h : l.length = n + m) : ∃ a b, l = a ++ b ∧ a.length = n ∧ b.length = m :=
  ⟨l.take n, l.drop n, by simp, by simp; omega, by simp; omega⟩

theorem len5 {α : Type} {l : List α} (h : l.length = 5) : ∃ a b c d e, l = [a, b, c, d, e] := by
  rcases l with _ | ⟨a, l⟩
  · simp at h
  · obtain ⟨b, c, d, e, rfl⟩ := len4 (l := l) (by simpa using h)
    exact ⟨a, b, c, d, e, rfl⟩

theorem len9 {α : Type} {l : List α} (h : l.length = 9) : ∃ a b c d e f g i j, l = [a, b, c, d, e, f, g, i, j] := by
  obtain ⟨p, q, rfl, hp, hq⟩ := split_at 4 (m := 5) h
  obtain ⟨a, b, c, d, rfl⟩ := len4 hp
  obtain ⟨e, f, g, i, j, rfl⟩ := len5 hq
  exact ⟨a, b, c, d, e, f, g, i, j, rfl⟩

theorem open_cmd {v : Value} {d : DataW H} {p : List MemPlace} (hv : Value.okWide Try.prog w r b0 24 v) (h : DataW.Trod enc Try.prog w base spare held 24 v d p) :
    ∃ (c : Cmd) (k : Hd), v = .agg ⟨c.cells k⟩ ∧ k.Ok c.data.length ∧ By w k c.data ∧ c.Fit := by
  obtain ⟨n, hn⟩ := h
  simp only [Value.okWide, Try.underlying24] at hv
  obtain ⟨⟨cs⟩, rfl, hsz, hr⟩ := hv
  rw [c24] at hsz
  obtain ⟨x0, x1, x2, x3, rfl⟩ := len4 hsz
  have hts : Try.prog.cellTypes Try.prog.depth 24 = some [3, 3, 3, 22] := by kernel_rfl
  obtain ⟨c, k, e, h1, h2⟩ := cmd_cells hn (row_cell hts hr (i := 3) rfl (by decide) rfl)
  exact ⟨c, k, by rw [e], h1, h2⟩

theorem open_state {v : Value} {d : DataW H} {p : List MemPlace} (hv : Value.okWide Try.prog w r b0 30 v) (h : DataW.Trod enc Try.prog w base spare held 30 v d p) :
    ∃ (s : S) (lo li : Int) (k : SH), v = .agg ⟨s.rcells lo li k⟩ ∧ k.Ok s ∧ k.By s w ∧ s.o.last.Fit ∧ s.i.last.Fit := by
  obtain ⟨n, hn⟩ := h
  simp only [Value.okWide, Try.underlying30] at hv
  obtain ⟨⟨cs⟩, rfl, hsz, hr⟩ := hv
  rw [c30] at hsz
  obtain ⟨p, q, rfl, hp, hq⟩ := split_at 5 (m := 18) (l := cs) hsz
  obtain ⟨q, s, rfl, hq, hs⟩ := split_at 9 (m := 9) hq
  obtain ⟨x0, x1, x2, x3, x4, rfl⟩ := len5 hp
  obtain ⟨y0, y1, y2, y3, y4, y5, y6, y7, y8, rfl⟩ := len9 hq
  obtain ⟨z0, z1, z2, z3, z4, z5, z6, z7, z8, rfl⟩ := len9 hs
  have hts : Try.prog.cellTypes Try.prog.depth 30 = some [22, 3, 3, 22, 22, 4, 3, 3, 3, 22, 3, 3, 3, 22, 4, 3, 3, 3, 22, 3, 3, 3, 22] := by kernel_rfl
  obtain ⟨_, _, h0⟩ := trod_at Try.underlying30 hn 0 (u := 22) (o := 0) rfl c22
  obtain ⟨_, _, h1⟩ := trod_at Try.underlying30 hn 1 (u := 3) (o := 1) rfl c3
  obtain ⟨_, _, h2⟩ := trod_at Try.underlying30 hn 2 (u := 3) (o := 2) rfl c3
  obtain ⟨_, _, h3⟩ := trod_at Try.underlying30 hn 3 (u := 22) (o := 3) rfl c22
  obtain ⟨_, _, h4⟩ := trod_at Try.underlying30 hn 4 (u := 22) (o := 4) rfl c22
  obtain ⟨_, _, h5⟩ := trod_at Try.underlying30 hn 5 (u := 28) (o := 5) rfl c28
  obtain ⟨_, _, h6⟩ := trod_at Try.underlying30 hn 6 (u := 28) (o := 14) rfl c28
  obtain ⟨k0, l0, rfl, o0, b0'⟩ := bytes_of Try.underlying22 Try.underlying5 c5 (row_cell hts hr (i := 0) rfl (by decide) rfl) h0
  obtain ⟨t1, rfl, _⟩ := int_cell h1
  obtain ⟨t2, rfl, _⟩ := int_cell h2
  obtain ⟨k3, l3, rfl, o3, b3⟩ := bytes_of Try.underlying22 Try.underlying5 c5 (row_cell hts hr (i := 3) rfl (by decide) rfl) h3
  obtain ⟨k4, l4, rfl, o4, b4⟩ := bytes_of Try.underlying22 Try.underlying5 c5 (row_cell hts hr (i := 4) rfl (by decide) rfl) h4
  obtain ⟨co, lo, ko, eo, oo, bo, _, fo⟩ := chan_cells h5 (row_cell hts hr (i := 9) rfl (by decide) rfl) (row_cell hts hr (i := 13) rfl (by decide) rfl)
  obtain ⟨ci, li, ki, ei, oi, bi, _, fi⟩ := chan_cells h6 (row_cell hts hr (i := 18) rfl (by decide) rfl) (row_cell hts hr (i := 22) rfl (by decide) rfl)
  refine ⟨⟨l0, t1, t2, l3, l4, co, ci⟩, lo, li, ⟨k0, k3, k4, ko, ki⟩, ?_, ⟨o0, o3, o4, oo, oi⟩, ⟨b0', b3, b4, bo, bi⟩, fo, fi⟩
  rw [eo, ei]
  rfl

end
end Go.Proofs.Ytcmgioaggmaclaa
