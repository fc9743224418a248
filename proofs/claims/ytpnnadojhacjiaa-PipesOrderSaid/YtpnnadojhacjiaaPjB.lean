/- Pipes, part B2: plain laws about what is written and read. -/
import Derived.Test.YtpnnadojhacjiaaPiR
namespace Go.Proofs.Ytpnnadojhacjiaa
open Go Go.Sx
set_option maxRecDepth 100000
set_option maxHeartbeats 1000000
set_option linter.unusedVariables false
set_option linter.unusedSimpArgs false

/-- The last request of a task. -/
def findR (W : List Req) (t : Int) : Req := (W.reverse.find? (fun r => iEq r.task t)).getD ⟨0, false, 0, []⟩

theorem findR_self {W : List Req} (hn : (W.map (·.task)).Nodup) {r : Req} (hr : r ∈ W) : findR W r.task = r := by
  unfold findR
  have h1 : (W.reverse.find? (fun x => iEq x.task r.task)).isSome := by
    rw [List.find?_isSome]
    exact ⟨r, by simpa using hr, by simp [iEq_eq]⟩
  obtain ⟨x, hx⟩ := Option.isSome_iff_exists.1 h1
  rw [hx]
  have h2 := List.find?_some hx
  have h3 := List.mem_of_find?_eq_some hx
  have : x = r := nodup_task hn (by simpa using h3) hr (by simpa [iEq_eq] using h2)
  simp [this]

theorem findR_snoc {W : List Req} {y : Req} {t : Int} (h : y.task ≠ t) : findR (W ++ [y]) t = findR W t := by
  unfold findR
  rw [List.reverse_append]
  simp [List.find?_cons, iEq_eq, h]

theorem findR_small {W : List Req} (h : ∀ r ∈ W, r.data.length ≤ 200) (t : Int) : (findR W t).data.length ≤ 200 := by
  unfold findR
  cases hx : W.reverse.find? (fun r => iEq r.task t) with
  | none => simp
  | some x =>
    have h3 := List.mem_of_find?_eq_some hx
    simpa using h x (by simpa using h3)

/-- What one answer adds to what was written, and what was read. -/
def absorb1 (W : List Req) (a : An) (x : List UInt8 × List UInt8) : List UInt8 × List UInt8 :=
  (if (findR W a.task).write then x.1 ++ (findR W a.task).data else x.1, x.2 ++ a.data)

def absorb (W : List Req) : List An → List UInt8 × List UInt8 → List UInt8 × List UInt8
  | [], x => x
  | a :: l, x => absorb W l (absorb1 W a x)

theorem absorb_append (W : List Req) : ∀ (l m : List An) (x : List UInt8 × List UInt8), absorb W (l ++ m) x = absorb W m (absorb W l x)
  | [], m, x => rfl
  | a :: l, m, x => absorb_append W l m _

structure Flow (p : Pipe) (x : List UInt8 × List UInt8) : Prop where
  eq : x.1 = x.2 ++ p.buf

theorem read_flow {p : Pipe} {W : List Req} (hr : p.reads = true) (hW : ∀ r ∈ p.wait, findR W r.task = r) {x : List UInt8 × List UInt8} (hx : Flow p x) :
    Flow p.read.1 (absorb1 W p.read.2 x) := by
  obtain ⟨k, hk, hl⟩ := reads_idx hr
  obtain ⟨h1, h2, h3⟩ := rq_first hl hk
  have ea : p.read.2.task = p.wait[k].task := by simp [Pipe.read, hk, Pipe.at, List.getD_eq_getElem?_getD, hl]
  have hf : findR W p.read.2.task = p.wait[k] := by rw [ea]; exact hW _ (List.getElem_mem hl)
  refine ⟨?_⟩
  unfold absorb1
  rw [hf, h3]
  simp only [Bool.false_eq_true, if_false]
  rw [hx.eq]
  simp [Pipe.read]

theorem write_flow {p : Pipe} {W : List Req} (hw : p.writes = true) (hrd : p.rd ≠ 0) (hW : ∀ r ∈ p.wait, findR W r.task = r) {x : List UInt8 × List UInt8} (hx : Flow p x) :
    Flow p.write.1 (absorb1 W p.write.2 x) := by
  obtain ⟨k, hk, hl⟩ := writes_idx hw
  obtain ⟨h1, h2, h3⟩ := rq_first hl hk
  have hc : iEq p.rd 0 = false := by simp [iEq_eq, hrd]
  have e : p.write = ({ p with wait := p.wait.eraseIdx k, buf := p.buf ++ p.wait[k].data }, ⟨p.wait[k].task, p.wait[k].data.length, []⟩) := by
    simp [Pipe.write, hc, hk, Pipe.at, List.getD_eq_getElem?_getD, hl]
  rw [e]
  have hf : findR W p.wait[k].task = p.wait[k] := hW _ (List.getElem_mem hl)
  refine ⟨?_⟩
  unfold absorb1
  simp only
  rw [hf, h3]
  simp only [if_true, List.append_nil]
  rw [hx.eq]
  simp

theorem write_rest (p : Pipe) : p.write.1.rd = p.rd ∧ p.write.1.wr = p.wr ∧ ∀ r ∈ p.write.1.wait, r ∈ p.wait := by
  unfold Pipe.write
  simp only
  split
  · exact ⟨rfl, rfl, fun r hr => (List.eraseIdx_sublist ..).subset hr⟩
  · exact ⟨rfl, rfl, fun r hr => (List.eraseIdx_sublist ..).subset hr⟩

theorem settleN_flow (W : List Req) : ∀ (n : Nat) (p : Pipe) (l : List An) (x : List UInt8 × List UInt8), p.Sane → p.rd ≠ 0 → (∀ r ∈ p.wait, findR W r.task = r) → Flow p x →
    ∃ m, (settleN n p l).2 = l ++ m ∧ m.length ≤ n ∧ (∀ a ∈ m, a.data.length ≤ 64) ∧ Flow (settleN n p l).1 (absorb W m x) ∧ (settleN n p l).1.rd = p.rd ∧ (settleN n p l).1.wr = p.wr
  | 0, p, l, x, hs, hrd, hW, hx => ⟨[], by simp [settleN], by simp, by simp, hx, rfl, rfl⟩
  | n + 1, p, l, x, hs, hrd, hW, hx => by
    unfold settleN
    split
    · rename_i hr
      obtain ⟨m, h1, h2, h3, h4, h5, h6⟩ := settleN_flow W n p.read.1 (l ++ [p.read.2]) (absorb1 W p.read.2 x) (read_sane hs) hrd (fun r hr => hW r ((List.eraseIdx_sublist ..).subset hr)) (read_flow hr hW hx)
      refine ⟨p.read.2 :: m, by rw [h1]; simp, by simp; omega, fun a ha => ?_, h4, h5, h6⟩
      rcases List.mem_cons.1 ha with rfl | ha
      · show (p.buf.take _).length ≤ 64
        have := hs.buf
        simp
        omega
      · exact h3 a ha
    · split
      · rename_i hw
        obtain ⟨w1, w2, w3⟩ := write_rest p
        obtain ⟨m, h1, h2, h3, h4, h5, h6⟩ := settleN_flow W n p.write.1 (l ++ [p.write.2]) (absorb1 W p.write.2 x) (write_sane hs hw) (by rw [w1]; exact hrd) (fun r hr => hW r (w3 r hr)) (write_flow hw hrd hW hx)
        refine ⟨p.write.2 :: m, by rw [h1]; simp, by simp; omega, fun a ha => ?_, h4, by rw [h5, w1], by rw [h6, w2]⟩
        rcases List.mem_cons.1 ha with rfl | ha
        · unfold Pipe.write
          simp only
          split <;> simp
        · exact h3 a ha
      · exact ⟨[], by simp, by simp, by simp, hx, rfl, rfl⟩

theorem settle_flow (W : List Req) {p : Pipe} {x : List UInt8 × List UInt8} (hs : p.Sane) (hrd : p.rd ≠ 0) (hW : ∀ r ∈ p.wait, findR W r.task = r) (hx : Flow p x) :
    p.settle.2.length ≤ p.wait.length ∧ (∀ a ∈ p.settle.2, a.data.length ≤ 64) ∧ Flow p.settle.1 (absorb W p.settle.2 x) ∧ p.settle.1.rd = p.rd ∧ p.settle.1.wr = p.wr := by
  obtain ⟨m, h1, h2, h3, h4, h5, h6⟩ := settleN_flow W p.wait.length p [] x hs hrd hW hx
  have e : p.settle.2 = m := by rw [List.nil_append] at h1; exact h1
  rw [e]
  exact ⟨h2, h3, h4, h5, h6⟩

theorem nodup_wait {p : Pipe} (hs : p.Sane) : (p.wait.map (·.task)).Nodup := (okReqs_iff.1 hs.ok).2

theorem less_mem {p : Pipe} {t : Int} {r : Req} (h : r ∈ (p.less t).wait) : r ∈ p.wait ∧ r.task ≠ t := by
  have := List.mem_filter.1 h
  exact ⟨this.1, by simpa [iEq_eq] using this.2⟩

/-- A step that is neither an opening nor a closing. -/
theorem step_flow {p : Pipe} (hv : p.valid = true) (h1 : p.rd = 1) (h2 : p.wr = 1) {s : Stp} (n0 : s.op ≠ 0) (n1 : s.op ≠ 1) (h0 : (p.step s).2.2 = 0) {x : List UInt8 × List UInt8} (hx : Flow p x) :
    (p.step s).2.1.length ≤ p.wait.length + 1 ∧ (∀ a ∈ (p.step s).2.1, a.data.length ≤ 64) ∧ Flow (p.step s).1 (absorb (p.wait ++ [s.req]) (p.step s).2.1 x) ∧ (p.step s).1.rd = 1 ∧ (p.step s).1.wr = 1 := by
  obtain ⟨hs, _, _⟩ := valid_iff.1 hv
  have hnd := nodup_wait hs
  rcases step_cases hv s h0 with ⟨e, _⟩ | ⟨q, hq, hl, e, h3⟩
  · exact absurd e n0
  · rw [e]
    have hW : q.rd ≠ 0 ∧ q.rd = 1 ∧ q.wr = 1 ∧ Flow q x ∧ ∀ r ∈ q.wait, findR (p.wait ++ [s.req]) r.task = r := by
      rcases h3 with ⟨h4, _⟩ | ⟨h4, _⟩ | ⟨h4, _, rfl⟩ | ⟨_, _, _, _, _, _, rfl⟩
      · exact absurd h4 n1
      · exact absurd h4 n1
      · refine ⟨by show p.rd ≠ 0; omega, h1, h2, ⟨hx.eq⟩, fun r hr => ?_⟩
        obtain ⟨h5, h6⟩ := less_mem hr
        rw [findR_snoc (fun he => h6 he.symm)]
        exact findR_self hnd h5
      · exact ⟨by show p.rd ≠ 0; omega, h1, h2, ⟨hx.eq⟩, fun r hr => findR_self (nodup_wait hq) hr⟩
    obtain ⟨g1, g2, g3, g4, g5⟩ := hW
    obtain ⟨k1, k2, k3, k4, k5⟩ := settle_flow (p.wait ++ [s.req]) hq g1 g5 g4
    exact ⟨by dsimp only; omega, k2, k3, by rw [k4, g2], by rw [k5, g3]⟩

/-- The first request that waits is dropped. -/
theorem drop_flow {p : Pipe} (hv : p.valid = true) (h1 : p.rd = 1) (h2 : p.wr = 1) (hw : 0 < p.wait.length) {x : List UInt8 × List UInt8} (hx : Flow p x) :
    ∃ q, p.drop p.wait[0].task = q ∧ q.2.2 = 0 ∧ q.1.valid = true ∧ q.1.wait.length < p.wait.length ∧ q.2.1.length ≤ p.wait.length ∧ (∀ a ∈ q.2.1, a.data.length ≤ 64) ∧ Flow q.1 (absorb p.wait q.2.1 x) ∧ q.1.rd = 1 ∧ q.1.wr = 1 := by
  obtain ⟨hs, _, _⟩ := valid_iff.1 hv
  have hi : ¬ index p p.wait[0].task < 0 := by
    have := idx_some (q := fun r : Req => iEq r.task p.wait[0].task) (List.getElem_mem hw) (by simp [iEq_eq]) 0
    show ¬ idx _ _ _ < 0
    omega
  have hc : iLt (index p p.wait[0].task) 0 = false := by simp [iLt_eq]; omega
  have e : p.drop p.wait[0].task = ((p.less p.wait[0].task).settle.1, (p.less p.wait[0].task).settle.2, 0) := by simp [Pipe.drop, hv, hc]
  have hls := less_sane hs p.wait[0].task
  have hll : (p.less p.wait[0].task).wait.length < p.wait.length := by
    have h3 : (p.less p.wait[0].task).wait.length ≤ p.wait.length := List.length_filter_le _ _
    rcases Nat.lt_or_eq_of_le h3 with h4 | h4
    · exact h4
    · have := List.length_filter_eq_length_iff.1 h4 _ (List.getElem_mem hw)
      simp [iEq_eq] at this
  obtain ⟨k1, k2, k3, k4, k5⟩ := settle_flow p.wait hls (by show p.rd ≠ 0; omega) (fun r hr => findR_self (nodup_wait hs) (less_mem hr).1) (x := x) ⟨hx.eq⟩
  obtain ⟨v1, v2⟩ := settle_valid hls
  exact ⟨_, rfl, by rw [e], by rw [e]; exact v1, by rw [e]; show (p.less p.wait[0].task).settle.1.wait.length < _; omega, by rw [e]; show (p.less p.wait[0].task).settle.2.length ≤ _; omega, by rw [e]; exact k2, by rw [e]; exact k3, by rw [e]; show (p.less p.wait[0].task).settle.1.rd = 1; rw [k4]; exact h1, by rw [e]; show (p.less p.wait[0].task).settle.1.wr = 1; rw [k5]; exact h2⟩

theorem empty_none {p : Pipe} (hw : p.wait = []) : p.reads = false ∧ p.writes = false := by
  constructor
  · cases hr : p.reads with
    | false => rfl
    | true =>
      obtain ⟨k, _, hk⟩ := reads_idx hr
      rw [hw] at hk
      simp at hk
  · cases hr : p.writes with
    | false => rfl
    | true =>
      obtain ⟨k, _, hk⟩ := writes_idx hr
      rw [hw] at hk
      simp at hk

theorem close_empty {p : Pipe} (hv : p.valid = true) (h2 : p.wr = 1) (hw : p.wait = []) : p.close true = ({ p with wr := 0 }, [], 0) := by
  have hc : iEq p.wr 0 = false := by simp [iEq_eq, h2]
  have e : ({ p with wr := p.wr - 1 } : Pipe).settle = ({ p with wr := 0 }, []) := by
    have : ({ p with wr := p.wr - 1 } : Pipe) = { p with wr := 0 } := by rw [h2]; rfl
    rw [this]
    unfold Pipe.settle
    obtain ⟨a, b⟩ := empty_none (p := { p with wr := 0 }) hw
    exact settleN_done a b [] _
  simp [Pipe.close, hv, hc, e]

theorem ask_last {p : Pipe} (hv : p.valid = true) (h2 : p.wr = 0) (hw : p.wait = []) {n : Int} (hn : 1 ≤ n ∧ n ≤ 128) :
    p.ask ⟨1, false, n, []⟩ = ({ p with buf := p.buf.drop (min n.toNat p.buf.length) }, [⟨1, (min n.toNat p.buf.length : Nat), p.buf.take (min n.toNat p.buf.length)⟩], 0) := by
  obtain ⟨h3, h4⟩ := empty_none hw
  have hp : Req.proper ⟨1, false, n, []⟩ = true := by simp [Req.proper, iGe_eq, iLe_eq, iEq_eq]; omega
  have hi : iGe (index p 1) 0 = false := by simp [index, hw, idx, iGe_eq]
  have hg : iGt ((([] : List UInt8).length : Nat) : Int) 64 = false := by simp [iGt_eq]
  have e1 : first { p with wait := p.wait ++ [⟨1, false, n, []⟩] } false = 0 := by simp [first, hw, idx]
  have r1 : ({ p with wait := p.wait ++ [⟨1, false, n, []⟩] } : Pipe).reads = true := by
    unfold Pipe.reads
    rw [e1]
    simp [iGe_eq, iEq_eq, h2]
  have x1 : ({ p with wait := p.wait ++ [⟨1, false, n, []⟩] } : Pipe).read = ({ p with buf := p.buf.drop (min n.toNat p.buf.length) }, ⟨1, (min n.toNat p.buf.length : Nat), p.buf.take (min n.toNat p.buf.length)⟩) := by
    unfold Pipe.read
    simp only
    rw [e1]
    simp [Pipe.at, hw]
  have hs : ({ p with wait := p.wait ++ [⟨1, false, n, []⟩] } : Pipe).settle = ({ p with buf := p.buf.drop (min n.toNat p.buf.length) }, [⟨1, (min n.toNat p.buf.length : Nat), p.buf.take (min n.toNat p.buf.length)⟩]) := by
    show settleN (p.wait ++ [_]).length _ [] = _
    rw [List.length_append, hw, List.length_singleton]
    rw [hw] at r1 x1
    unfold settleN
    rw [r1, if_pos rfl, x1]
    obtain ⟨a, b⟩ := empty_none (p := { p with buf := p.buf.drop (min n.toNat p.buf.length) }) hw
    rw [hw] at a b
    simp only
    rw [settleN_done a b]
    rfl
  unfold Pipe.ask
  rw [hv, hp, hi]
  simp only [hg]
  simp [hs]

theorem drop_buf_valid {p : Pipe} (hv : p.valid = true) (hw : p.wait = []) (k : Nat) : ({ p with buf := p.buf.drop k } : Pipe).valid = true := by
  obtain ⟨hs, _, _⟩ := valid_iff.1 hv
  obtain ⟨a, b⟩ := empty_none (p := { p with buf := p.buf.drop k }) hw
  refine valid_iff.2 ⟨⟨?_, hs.rd0, hs.rd1, hs.wr0, hs.wr1, hs.ok⟩, a, b⟩
  have := hs.buf
  simp
  omega

theorem wr_zero_valid {p : Pipe} (hv : p.valid = true) (hw : p.wait = []) : ({ p with wr := 0 } : Pipe).valid = true := by
  obtain ⟨hs, _, _⟩ := valid_iff.1 hv
  obtain ⟨a, b⟩ := empty_none (p := { p with wr := 0 }) hw
  exact valid_iff.2 ⟨⟨hs.buf, hs.rd0, hs.rd1, by show (0 : Int) ≤ 0; omega, by show (0 : Int) ≤ 1000; omega, hs.ok⟩, a, b⟩

end Go.Proofs.Ytpnnadojhacjiaa
