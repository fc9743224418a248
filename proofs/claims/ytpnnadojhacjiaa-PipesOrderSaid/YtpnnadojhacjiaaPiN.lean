/- Pipes, part N: plain laws of settle and step. -/
import Derived.Test.YtpnnadojhacjiaaPiM
namespace Go.Proofs.Ytpnnadojhacjiaa
open Go Go.Sx
set_option maxRecDepth 100000
set_option maxHeartbeats 4000000
set_option linter.unusedVariables false
set_option linter.unusedSimpArgs false

theorem okReqs_iff : ∀ {l : List Req} {ks : List Int}, okReqs ks l = true ↔ (∀ r ∈ l, r.proper = true ∧ r.task ∉ ks ∧ r.data.length ≤ 64) ∧ (l.map (·.task)).Nodup
  | [], ks => by simp [okReqs]
  | r :: l, ks => by
    simp only [okReqs, Bool.and_eq_true, okReqs_iff (l := l), List.map_cons, List.nodup_cons, List.mem_cons, iLe_eq]
    simp
    constructor
    · rintro ⟨⟨⟨h1, h2⟩, h3⟩, h4, h5⟩
      refine ⟨⟨⟨h1, h2, by omega⟩, fun a ha => ⟨(h4 a ha).1, (h4 a ha).2.1.1, (h4 a ha).2.2⟩⟩, fun x hx he => (h4 x hx).2.1.2 he, h5⟩
    · rintro ⟨⟨⟨h1, h2, h3⟩, h4⟩, h5, h6⟩
      exact ⟨⟨⟨h1, h2⟩, by omega⟩, fun a ha => ⟨(h4 a ha).1, ⟨(h4 a ha).2.1, fun he => h5 a ha he⟩, (h4 a ha).2.2⟩, h6⟩

theorem okReqs_sub {l m : List Req} (h : m.Sublist l) (hl : okReqs [] l = true) : okReqs [] m = true := by
  rw [okReqs_iff] at hl ⊢
  exact ⟨fun r hr => hl.1 r (h.subset hr), hl.2.sublist (h.map _)⟩

/-- What every pipe fulfils, whether or not requests can proceed. -/
structure Pipe.Sane (p : Pipe) : Prop where
  buf : p.buf.length ≤ 64
  rd0 : 0 ≤ p.rd
  rd1 : p.rd ≤ 1000
  wr0 : 0 ≤ p.wr
  wr1 : p.wr ≤ 1000
  ok : okReqs [] p.wait = true

theorem valid_iff {p : Pipe} : p.valid = true ↔ p.Sane ∧ p.reads = false ∧ p.writes = false := by
  simp only [Pipe.valid, Bool.and_eq_true, iLe_eq, iGe_eq]
  simp
  constructor
  · rintro ⟨⟨⟨⟨⟨⟨⟨h1, h2⟩, h3⟩, h4⟩, h5⟩, h6⟩, h7⟩, h8⟩
    exact ⟨⟨by omega, h2, h3, h4, h5, h6⟩, h7, h8⟩
  · rintro ⟨⟨h1, h2, h3, h4, h5, h6⟩, h7, h8⟩
    exact ⟨⟨⟨⟨⟨⟨⟨by omega, h2⟩, h3⟩, h4⟩, h5⟩, h6⟩, h7⟩, h8⟩

theorem zero_valid : Pipe.zero.valid = true := by decide +kernel

theorem Pipe.Sane.few {p : Pipe} (h : p.Sane) {n : Nat} (hn : p.wait.length ≤ n) (h2 : n ≤ 100000) : p.Few := by
  refine ⟨by have := h.buf; omega, by omega, fun r hr => ?_⟩
  have := (okReqs_iff.1 h.ok).1 r hr
  omega

theorem reads_idx {p : Pipe} (h : p.reads = true) : ∃ k : Nat, first p false = (k : Int) ∧ k < p.wait.length := by
  unfold Pipe.reads at h
  rw [Bool.and_eq_true] at h
  exact first_at p false h.1

theorem writes_idx {p : Pipe} (h : p.writes = true) : ∃ k : Nat, first p true = (k : Int) ∧ k < p.wait.length := by
  unfold Pipe.writes at h
  rw [Bool.and_eq_true] at h
  exact first_at p true h.1

theorem read_sane {p : Pipe} (h : p.Sane) : p.read.1.Sane :=
  ⟨by show (p.buf.drop _).length ≤ 64; have := h.buf; simp; omega, h.rd0, h.rd1, h.wr0, h.wr1, okReqs_sub (List.eraseIdx_sublist _ _) h.ok⟩

theorem read_len {p : Pipe} (h : p.reads = true) : p.read.1.wait.length + 1 = p.wait.length := by
  obtain ⟨k, hk, hl⟩ := reads_idx h
  show (p.wait.eraseIdx (first p false).toNat).length + 1 = _
  rw [hk, List.length_eraseIdx]
  simp only [Int.toNat_natCast, hl, if_true]
  omega

theorem at_data {p : Pipe} {i : Nat} : (p.at i).data = dataAt p.wait i := by
  unfold Pipe.at dataAt
  rw [List.getD_eq_getElem?_getD]
  cases p.wait[i]? <;> rfl

theorem write_sane {p : Pipe} (h : p.Sane) (hw : p.writes = true) : p.write.1.Sane := by
  unfold Pipe.write
  simp only
  split
  · exact ⟨h.buf, h.rd0, h.rd1, h.wr0, h.wr1, okReqs_sub (List.eraseIdx_sublist _ _) h.ok⟩
  · rename_i hc
    refine ⟨?_, h.rd0, h.rd1, h.wr0, h.wr1, okReqs_sub (List.eraseIdx_sublist _ _) h.ok⟩
    unfold Pipe.writes at hw
    simp only [Bool.and_eq_true, Bool.or_eq_true] at hw
    rcases hw.2 with h2 | h2
    · exact absurd h2 hc
    · simp [iLe_eq] at h2
      simp only [List.length_append, at_data]
      omega

theorem write_len {p : Pipe} (h : p.writes = true) : p.write.1.wait.length + 1 = p.wait.length := by
  obtain ⟨k, hk, hl⟩ := writes_idx h
  have : p.write.1.wait = p.wait.eraseIdx (first p true).toNat := by
    unfold Pipe.write
    simp only
    split <;> rfl
  rw [this, hk, List.length_eraseIdx]
  simp only [Int.toNat_natCast, hl, if_true]
  omega

theorem settleN_valid : ∀ (n : Nat) (p : Pipe) (l : List An), p.Sane → p.wait.length ≤ n → (settleN n p l).1.valid = true ∧ (settleN n p l).1.wait.length ≤ p.wait.length
  | 0, p, l, h, hn => by
    have hw : p.wait = [] := List.eq_nil_of_length_eq_zero (by omega)
    refine ⟨valid_iff.2 ⟨h, ?_, ?_⟩, Nat.le_refl _⟩
    · show p.reads = false
      cases hr : p.reads with
      | false => rfl
      | true =>
        obtain ⟨k, _, hk⟩ := reads_idx hr
        rw [hw] at hk
        simp at hk
    · show p.writes = false
      cases hr : p.writes with
      | false => rfl
      | true =>
        obtain ⟨k, _, hk⟩ := writes_idx hr
        rw [hw] at hk
        simp at hk
  | n + 1, p, l, h, hn => by
    unfold settleN
    split
    · rename_i hr
      have h1 := read_len hr
      have h2 := settleN_valid n p.read.1 (l ++ [p.read.2]) (read_sane h) (by omega)
      exact ⟨h2.1, by omega⟩
    · rename_i hr
      split
      · rename_i hw
        have h1 := write_len hw
        have h2 := settleN_valid n p.write.1 (l ++ [p.write.2]) (write_sane h hw) (by omega)
        exact ⟨h2.1, by omega⟩
      · rename_i hw
        exact ⟨valid_iff.2 ⟨h, by simpa using hr, by simpa using hw⟩, Nat.le_refl _⟩

theorem settle_valid {p : Pipe} (h : p.Sane) : p.settle.1.valid = true ∧ p.settle.1.wait.length ≤ p.wait.length := settleN_valid _ p [] h (Nat.le_refl _)

theorem idx_none {α : Type} {q : α → Bool} {l : List α} {i : Nat} (h : ¬ 0 ≤ idx q l i) : ∀ x ∈ l, q x = false := by
  induction l generalizing i with
  | nil => simp
  | cons y l ih =>
    simp only [idx] at h
    split at h
    · exact absurd (by omega) h
    · rename_i hy
      intro x hx
      rcases List.mem_cons.1 hx with rfl | hx
      · simpa using hy
      · exact ih h x hx

theorem idx_some {α : Type} {q : α → Bool} {l : List α} {x : α} (hx : x ∈ l) (hq : q x = true) (i : Nat) : 0 ≤ idx q l i := by
  apply Classical.byContradiction
  intro h
  have := idx_none h x hx
  rw [hq] at this
  cases this

theorem less_sane {p : Pipe} (h : p.Sane) (t : Int) : (p.less t).Sane :=
  ⟨h.buf, h.rd0, h.rd1, h.wr0, h.wr1, okReqs_sub List.filter_sublist h.ok⟩

/-- What a call that went well has done. -/
theorem step_cases {p : Pipe} (hv : p.valid = true) (s : Stp) (h0 : (p.step s).2.2 = 0) :
    (s.op = 0 ∧ (p.step s).2.1 = [] ∧ ((s.req.write = true ∧ p.wr < 1000 ∧ (p.step s).1 = { p with wr := p.wr + 1 }) ∨ (s.req.write = false ∧ p.rd < 1000 ∧ (p.step s).1 = { p with rd := p.rd + 1 }))) ∨
    (∃ q : Pipe, q.Sane ∧ q.wait.length ≤ p.wait.length + 1 ∧ p.step s = (q.settle.1, q.settle.2, 0) ∧
      ((s.op = 1 ∧ s.req.write = true ∧ 0 < p.wr ∧ q = { p with wr := p.wr - 1 }) ∨ (s.op = 1 ∧ s.req.write = false ∧ 0 < p.rd ∧ q = { p with rd := p.rd - 1 }) ∨
       (s.op = 2 ∧ 0 ≤ index p s.req.task ∧ q = p.less s.req.task) ∨
       (s.op ≠ 0 ∧ s.op ≠ 1 ∧ s.op ≠ 2 ∧ s.req.proper = true ∧ s.req.data.length ≤ 64 ∧ ¬ 0 ≤ index p s.req.task ∧ q = { p with wait := p.wait ++ [s.req] }))) := by
  obtain ⟨hs, hr, hw⟩ := valid_iff.1 hv
  have e0 := hs.rd0
  have e1 := hs.rd1
  have e2 := hs.wr0
  have e3 := hs.wr1
  unfold Pipe.step at h0 ⊢
  split at h0
  · rename_i h
    rw [if_pos h]
    have h' : s.op = 0 := by simpa [iEq_eq] using h
    left
    refine ⟨h', rfl, ?_⟩
    unfold Pipe.open at h0 ⊢
    rw [hv] at h0 ⊢
    simp only [Bool.not_true, Bool.false_eq_true, if_false] at h0 ⊢
    split at h0
    · rename_i ht
      left
      split at h0
      · simp at h0
      · rename_i hc
        have : p.wr ≠ 1000 := by simpa [iEq_eq] using hc
        exact ⟨ht, by omega, by rw [if_pos ht, if_neg hc]⟩
    · rename_i ht
      right
      split at h0
      · simp at h0
      · rename_i hc
        have : p.rd ≠ 1000 := by simpa [iEq_eq] using hc
        exact ⟨by simpa using ht, by omega, by rw [if_neg ht, if_neg hc]⟩
  · rename_i hn0
    have n0 : s.op ≠ 0 := by simpa [iEq_eq] using hn0
    rw [if_neg hn0]
    right
    split at h0
    · rename_i h
      rw [if_pos h]
      have h' : s.op = 1 := by simpa [iEq_eq] using h
      unfold Pipe.close at h0 ⊢
      rw [hv] at h0 ⊢
      simp only [Bool.not_true, Bool.false_eq_true, if_false] at h0 ⊢
      split at h0
      · rename_i ht
        split at h0
        · simp at h0
        · rename_i hc
          have : p.wr ≠ 0 := by simpa [iEq_eq] using hc
          refine ⟨{ p with wr := p.wr - 1 }, ⟨hs.buf, e0, e1, by show 0 ≤ p.wr - 1; omega, by show p.wr - 1 ≤ 1000; omega, hs.ok⟩, Nat.le_succ _, by rw [if_pos ht, if_neg hc], .inl ⟨h', ht, by omega, rfl⟩⟩
      · rename_i ht
        split at h0
        · simp at h0
        · rename_i hc
          have : p.rd ≠ 0 := by simpa [iEq_eq] using hc
          refine ⟨{ p with rd := p.rd - 1 }, ⟨hs.buf, by show 0 ≤ p.rd - 1; omega, by show p.rd - 1 ≤ 1000; omega, e2, e3, hs.ok⟩, Nat.le_succ _, by rw [if_neg ht, if_neg hc], .inr (.inl ⟨h', by simpa using ht, by omega, rfl⟩)⟩
    · rename_i hn1
      have n1 : s.op ≠ 1 := by simpa [iEq_eq] using hn1
      rw [if_neg hn1]
      split at h0
      · rename_i h
        rw [if_pos h]
        have h' : s.op = 2 := by simpa [iEq_eq] using h
        unfold Pipe.drop at h0 ⊢
        rw [hv] at h0 ⊢
        simp only [Bool.not_true, Bool.false_eq_true, if_false] at h0 ⊢
        split at h0
        · simp at h0
        · rename_i hc
          refine ⟨p.less s.req.task, less_sane hs _, Nat.le_trans (List.length_filter_le _ _) (Nat.le_succ _), by rw [if_neg hc], .inr (.inr (.inl ⟨h', by simp [iLt_eq] at hc; exact hc, rfl⟩))⟩
      · rename_i hn2
        have n2 : s.op ≠ 2 := by simpa [iEq_eq] using hn2
        rw [if_neg hn2]
        unfold Pipe.ask at h0 ⊢
        split at h0
        · simp at h0
        rename_i h1
        rw [if_neg h1]
        split at h0
        · simp at h0
        rename_i h2
        rw [if_neg h2]
        split at h0
        · simp at h0
        rename_i h3
        rw [if_neg h3]
        rw [hv] at h1
        have h1' : s.req.proper = true := by simpa using h1
        have h2' : s.req.data.length ≤ 64 := by simp [iGt_eq] at h2; omega
        have h3' : ¬ 0 ≤ index p s.req.task := by simpa [iGe_eq] using h3
        refine ⟨{ p with wait := p.wait ++ [s.req] }, ⟨hs.buf, e0, e1, e2, e3, ?_⟩, by simp, rfl, .inr (.inr (.inr ⟨n0, n1, n2, h1', h2', h3', rfl⟩))⟩
        have ho := okReqs_iff.1 hs.ok
        refine okReqs_iff.2 ⟨fun r hr => ?_, ?_⟩
        · rcases List.mem_append.1 hr with hr | hr
          · exact ho.1 r hr
          · obtain rfl := List.mem_singleton.1 hr
            exact ⟨h1', by simp, h2'⟩
        · show ((p.wait ++ [s.req]).map (·.task)).Nodup
          rw [List.map_append, List.nodup_append]
          refine ⟨ho.2, by simp, fun a ha b hb => ?_⟩
          obtain ⟨x, hx, rfl⟩ := List.mem_map.1 ha
          simp at hb
          subst hb
          have := idx_none h3' x hx
          simpa [iEq_eq] using this

theorem step_valid {p : Pipe} (hv : p.valid = true) (s : Stp) (h0 : (p.step s).2.2 = 0) : (p.step s).1.valid = true ∧ (p.step s).1.wait.length ≤ p.wait.length + 1 := by
  obtain ⟨hs, hr, hw⟩ := valid_iff.1 hv
  have e0 := hs.rd0
  have e2 := hs.wr0
  rcases step_cases hv s h0 with ⟨_, _, ⟨_, hlt, e⟩ | ⟨_, hlt, e⟩⟩ | ⟨q, hq, hl, e, _⟩
  · rw [e]
    refine ⟨valid_iff.2 ⟨⟨hs.buf, hs.rd0, hs.rd1, by show 0 ≤ p.wr + 1; omega, by show p.wr + 1 ≤ 1000; omega, hs.ok⟩, ?_, hw⟩, Nat.le_succ _⟩
    unfold Pipe.reads at hr ⊢
    rw [Bool.and_eq_false_iff] at hr ⊢
    rcases hr with hr | hr
    · exact .inl hr
    · right
      rw [Bool.or_eq_false_iff] at hr ⊢
      exact ⟨hr.1, by simp [iEq_eq]; omega⟩
  · rw [e]
    refine ⟨valid_iff.2 ⟨⟨hs.buf, by show 0 ≤ p.rd + 1; omega, by show p.rd + 1 ≤ 1000; omega, hs.wr0, hs.wr1, hs.ok⟩, hr, ?_⟩, Nat.le_succ _⟩
    unfold Pipe.writes at hw ⊢
    rw [Bool.and_eq_false_iff] at hw ⊢
    rcases hw with hw | hw
    · exact .inl hw
    · right
      rw [Bool.or_eq_false_iff] at hw ⊢
      exact ⟨by simp [iEq_eq]; omega, hw.2⟩
  · rw [e]
    have := settle_valid hq
    exact ⟨this.1, by have := this.2; show q.settle.1.wait.length ≤ _; omega⟩

/-- No reading waits at bytes, or without a writer. -/
theorem valid_reading {p : Pipe} (hv : p.valid = true) {r : Req} (hr : r ∈ p.wait) (hw : r.write = false) : p.buf.length = 0 ∧ p.wr ≠ 0 := by
  obtain ⟨hs, h1, h2⟩ := valid_iff.1 hv
  have := idx_some (q := fun r : Req => r.write == false) hr (by simp [hw]) 0
  unfold Pipe.reads at h1
  have e : iGe (first p false) 0 = true := by simp [iGe_eq]; exact this
  rw [e] at h1
  simp [iGt_eq, iEq_eq] at h1
  exact ⟨by simp [h1.1], h1.2⟩

/-- The first writing waits for room. -/
theorem valid_writing {p : Pipe} (hv : p.valid = true) {k : Nat} (hk : k < p.wait.length) (hw : p.wait[k].write = true) (hf : (p.wait.take k).all (fun r => !r.write) = true) :
    p.rd ≠ 0 ∧ 64 < p.buf.length + p.wait[k].data.length := by
  obtain ⟨hs, h1, h2⟩ := valid_iff.1 hv
  have hi : first p true = (k : Int) := by
    rcases idx_range (fun r : Req => r.write == true) p.wait 0 with h | ⟨j, hj, h3, h4, h5⟩
    · have := idx_some (q := fun r : Req => r.write == true) (List.getElem_mem hk) (by simp [hw]) 0
      rw [h] at this
      omega
    · have hjk : j = k := by
        rcases Nat.lt_trichotomy j k with h6 | h6 | h6
        · rw [List.all_eq_true] at hf
          have := hf p.wait[j] (List.mem_take_iff_getElem.2 ⟨j, by omega, rfl⟩)
          simp at this h4
          rw [this] at h4
          cases h4
        · exact h6
        · have := h5 k h6
          simp [hw] at this
      subst hjk
      show idx _ _ _ = _
      rw [h3]
      simp
  unfold Pipe.writes at h2
  rw [hi] at h2
  have e : iGe (k : Int) 0 = true := by simp [iGe_eq]
  have ed : dataAt p.wait ((k : Int)).toNat = p.wait[k].data := by simp [dataAt, hk]
  rw [e, ed] at h2
  simp [iEq_eq, iLe_eq] at h2
  exact ⟨h2.1, by omega⟩

/-- Without readers, a writing is answered at once. -/
theorem ask_broken {p : Pipe} (hv : p.valid = true) (hrd : p.rd = 0) {r : Req} (hw : r.write = true) (h0 : (p.ask r).2.2 = 0) : (p.ask r).2.1 = [⟨r.task, -17, []⟩] := by
  obtain ⟨hs, h1, h2⟩ := valid_iff.1 hv
  unfold Pipe.ask at h0 ⊢
  split at h0
  · simp at h0
  rename_i c1
  rw [if_neg c1]
  split at h0
  · simp at h0
  rename_i c2
  rw [if_neg c2]
  split at h0
  · simp at h0
  rename_i c3
  rw [if_neg c3]
  have hn : ∀ x ∈ p.wait, (x.write == true) = false := by
    refine idx_none (i := 0) ?_
    unfold Pipe.writes at h2
    intro h3
    have e : iGe (first p true) 0 = true := by simp [iGe_eq]; exact h3
    rw [e, hrd] at h2
    simp [iEq_eq] at h2
  have hfw : ∀ (l : List Req) (i : Nat), (∀ x ∈ l, (x.write == true) = false) → idx (fun r : Req => r.write == true) (l ++ [r]) i = ((i + l.length : Nat) : Int) := by
    intro l
    induction l with
    | nil => intro i _; simp [idx, hw]
    | cons y l ih =>
      intro i h
      have hy := h y (by simp)
      simp only [List.cons_append, idx]
      rw [if_neg (by simpa using hy), ih (i + 1) (fun x hx => h x (by simp [hx]))]
      simp
      omega
  have hfr : ∀ (l : List Req) (i : Nat), idx (fun r : Req => r.write == false) (l ++ [r]) i = idx (fun r : Req => r.write == false) l i := by
    intro l
    induction l with
    | nil => intro i; simp [idx, hw]
    | cons y l ih =>
      intro i
      simp only [List.cons_append, idx, ih]
  have e1 : first { p with wait := p.wait ++ [r] } true = ((p.wait.length : Nat) : Int) := by
    have := hfw p.wait 0 hn
    rw [Nat.zero_add] at this
    exact this
  have e2 : first { p with wait := p.wait ++ [r] } false = first p false := hfr p.wait 0
  have r1 : ({ p with wait := p.wait ++ [r] } : Pipe).reads = false := by
    unfold Pipe.reads at h1 ⊢
    rw [e2]
    exact h1
  have w1 : ({ p with wait := p.wait ++ [r] } : Pipe).writes = true := by
    unfold Pipe.writes
    rw [e1]
    simp [iGe_eq, iEq_eq, hrd]
  have x1 : ({ p with wait := p.wait ++ [r] } : Pipe).write = (p, ⟨r.task, -17, []⟩) := by
    unfold Pipe.write
    simp only
    rw [e1, if_pos (by simp [iEq_eq, hrd])]
    simp only [Int.toNat_natCast]
    refine Prod.ext ?_ ?_
    · cases p
      simp [List.eraseIdx_append_of_length_le]
    · simp [Pipe.at]
  show (settleN (p.wait ++ [r]).length { p with wait := p.wait ++ [r] } []).2 = _
  rw [List.length_append, List.length_singleton]
  unfold settleN
  rw [r1, w1]
  simp only [Bool.false_eq_true, if_false, if_true]
  rw [x1]
  simp only
  rw [settleN_done h1 h2]
  rfl

end Go.Proofs.Ytpnnadojhacjiaa
