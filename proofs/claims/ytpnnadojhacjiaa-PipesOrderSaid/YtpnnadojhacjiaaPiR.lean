/- Pipes, part R: plain laws about the order of answers. -/
import Derived.Test.YtpnnadojhacjiaaPiN
namespace Go.Proofs.Ytpnnadojhacjiaa
open Go Go.Sx
set_option maxRecDepth 100000
set_option maxHeartbeats 1000000
set_option linter.unusedVariables false
set_option linter.unusedSimpArgs false

/-- The tasks of the readings (or writings) that wait. -/
def rq (l : List Req) (t : Bool) : List Int := (l.filter (fun r => r.write == t)).map (·.task)

theorem rq_append (l m : List Req) (t : Bool) : rq (l ++ m) t = rq l t ++ rq m t := by simp [rq]

theorem rq_none {l : List Req} {t : Bool} (h : ∀ j (hj : j < l.length), (l[j].write == t) = false) : rq l t = [] := by
  unfold rq
  rw [List.filter_eq_nil_iff.2]
  · rfl
  · intro r hr
    obtain ⟨j, hj, rfl⟩ := List.getElem_of_mem hr
    simp [h j hj]

theorem rq_len (l : List Req) : l.length = (rq l false).length + (rq l true).length := by
  induction l with
  | nil => rfl
  | cons r l ih =>
    unfold rq at *
    cases hw : r.write <;> simp [hw] at * <;> omega

theorem rq_first {l : List Req} {t : Bool} {k : Nat} (hk : k < l.length) (hi : idx (fun r : Req => r.write == t) l 0 = (k : Int)) :
    rq l t = l[k].task :: rq (l.eraseIdx k) t ∧ rq (l.eraseIdx k) (!t) = rq l (!t) ∧ l[k].write = t := by
  rcases idx_range (fun r : Req => r.write == t) l 0 with h | ⟨j, hj, h3, h4, h5⟩
  · rw [h] at hi; omega
  · have : j = k := by rw [h3] at hi; omega
    subst this
    have hw : l[j].write = t := by simpa using h4
    have e1 : l = l.take j ++ l[j] :: l.drop (j + 1) := by simp
    have e2 : l.eraseIdx j = l.take j ++ l.drop (j + 1) := List.eraseIdx_eq_take_drop_succ ..
    have e3 : rq (l.take j) t = [] := rq_none fun i hi => by
      simp at hi
      have := h5 i (by omega)
      simpa using this
    refine ⟨?_, ?_, hw⟩
    · conv => lhs; rw [e1]
      rw [e2, rq_append, rq_append, e3]
      unfold rq
      rw [List.filter_cons_of_pos (by simp [hw])]
      rfl
    · conv => rhs; rw [e1]
      rw [e2, rq_append, rq_append]
      congr 1
      unfold rq
      rw [List.filter_cons_of_neg (by cases t <;> simp [hw])]

def pop (q : List Int × List Int) (t : Int) : Option (List Int × List Int) :=
  if q.1.head? = some t then some (q.1.tail, q.2) else if q.2.head? = some t then some (q.1, q.2.tail) else none

def pops : List Int × List Int → List Int → Option (List Int × List Int)
  | q, [] => some q
  | q, t :: ts => match pop q t with
    | some q' => pops q' ts
    | none => none

theorem pops_append : ∀ (l m : List Int) (q : List Int × List Int), pops q (l ++ m) = (pops q l).bind fun q' => pops q' m
  | [], m, q => rfl
  | t :: l, m, q => by
    simp only [List.cons_append, pops]
    cases pop q t with
    | none => rfl
    | some q' => exact pops_append l m q'

def Pipe.qs (p : Pipe) : List Int × List Int := (rq p.wait false, rq p.wait true)

theorem read_pop {p : Pipe} (h : p.reads = true) : pop p.qs p.read.2.task = some p.read.1.qs := by
  obtain ⟨k, hk, hl⟩ := reads_idx h
  obtain ⟨h1, h2, h3⟩ := rq_first hl hk
  have ea : p.read.2.task = p.wait[k].task := by simp [Pipe.read, hk, Pipe.at, List.getD_eq_getElem?_getD, hl]
  have ew : p.read.1.wait = p.wait.eraseIdx k := by simp [Pipe.read, hk]
  unfold pop Pipe.qs
  rw [ea, ew, h1]
  simp [h2]
  exact h2.symm

theorem mem_rq {l : List Req} {t : Bool} {x : Int} (h : x ∈ rq l t) : ∃ r ∈ l, r.write = t ∧ r.task = x := by
  unfold rq at h
  obtain ⟨r, hr, rfl⟩ := List.mem_map.1 h
  have := List.mem_filter.1 hr
  exact ⟨r, this.1, by simpa using this.2, rfl⟩

theorem nodup_task {l : List Req} (h : (l.map (·.task)).Nodup) {a b : Req} (ha : a ∈ l) (hb : b ∈ l) (he : a.task = b.task) : a = b := by
  induction l with
  | nil => cases ha
  | cons x l ih =>
    simp only [List.map_cons, List.nodup_cons] at h
    rcases List.mem_cons.1 ha with rfl | ha'
    · rcases List.mem_cons.1 hb with rfl | hb'
      · rfl
      · exact absurd (List.mem_map.2 ⟨b, hb', he.symm⟩) h.1
    · rcases List.mem_cons.1 hb with rfl | hb'
      · exact absurd (List.mem_map.2 ⟨a, ha', he⟩) h.1
      · exact ih h.2 ha' hb'

theorem write_pop {p : Pipe} (hs : p.Sane) (h : p.writes = true) : pop p.qs p.write.2.task = some p.write.1.qs := by
  obtain ⟨k, hk, hl⟩ := writes_idx h
  obtain ⟨h1, h2, h3⟩ := rq_first hl hk
  have ea : p.write.2.task = p.wait[k].task := by
    unfold Pipe.write
    simp only
    split <;> simp [hk, Pipe.at, List.getD_eq_getElem?_getD, hl]
  have ew : p.write.1.wait = p.wait.eraseIdx k := by
    unfold Pipe.write
    simp only
    split <;> simp [hk]
  unfold pop Pipe.qs
  rw [ea, ew, h1, if_neg]
  · simp
    exact h2.symm
  · intro hh
    have hm : p.wait[k].task ∈ rq p.wait false := List.mem_of_mem_head? hh
    obtain ⟨r, hr, hrw, hrt⟩ := mem_rq hm
    have := nodup_task (okReqs_iff.1 hs.ok).2 hr (List.getElem_mem hl) hrt
    rw [this, h3] at hrw
    cases hrw

theorem settleN_pops : ∀ (n : Nat) (p : Pipe) (l : List An), p.Sane → ∃ m, (settleN n p l).2 = l ++ m ∧ pops p.qs (m.map (·.task)) = some (settleN n p l).1.qs
  | 0, p, l, h => ⟨[], by simp [settleN], by simp [settleN, pops]⟩
  | n + 1, p, l, h => by
    unfold settleN
    split
    · rename_i hr
      obtain ⟨m, h1, h2⟩ := settleN_pops n p.read.1 (l ++ [p.read.2]) (read_sane h)
      refine ⟨p.read.2 :: m, by rw [h1]; simp, ?_⟩
      simp only [List.map_cons, pops, read_pop hr]
      exact h2
    · split
      · rename_i hw
        obtain ⟨m, h1, h2⟩ := settleN_pops n p.write.1 (l ++ [p.write.2]) (write_sane h hw)
        refine ⟨p.write.2 :: m, by rw [h1]; simp, ?_⟩
        simp only [List.map_cons, pops, write_pop h hw]
        exact h2
      · exact ⟨[], by simp, by simp [pops]⟩

theorem settle_pops {p : Pipe} (h : p.Sane) : pops p.qs (p.settle.2.map (·.task)) = some p.settle.1.qs := by
  obtain ⟨m, h1, h2⟩ := settleN_pops p.wait.length p [] h
  have : p.settle.2 = m := by rw [List.nil_append] at h1; exact h1
  rw [this]
  exact h2

def nextQ (q : List Int × List Int) (s : Stp) : List Int × List Int :=
  if iEq s.op 2 then (q.1.filter (fun x => iNe x s.req.task), q.2.filter (fun x => iNe x s.req.task))
  else if iNe s.op 0 && iNe s.op 1 then (if s.req.write then (q.1, q.2 ++ [s.req.task]) else (q.1 ++ [s.req.task], q.2))
  else q

theorem rq_less (l : List Req) (t : Int) (b : Bool) : rq (l.filter (fun r => !iEq r.task t)) b = (rq l b).filter (fun x => iNe x t) := by
  unfold rq
  rw [List.filter_map, List.filter_filter, List.filter_filter]
  congr 1
  apply List.filter_congr
  intro r _
  simp [iEq_eq, iNe_eq, Bool.and_comm, bne]

theorem step_pops {p : Pipe} (hv : p.valid = true) (s : Stp) (h0 : (p.step s).2.2 = 0) : pops (nextQ p.qs s) ((p.step s).2.1.map (·.task)) = some (p.step s).1.qs := by
  rcases step_cases hv s h0 with ⟨h1, h2, h3⟩ | ⟨q, hq, hl, e, h3⟩
  · have e : (p.step s).1.qs = p.qs := by
      rcases h3 with ⟨_, _, e⟩ | ⟨_, _, e⟩ <;> rw [e] <;> rfl
    rw [h2, e]
    simp [pops, nextQ, h1, iEq_eq, iNe_eq]
  · rw [e]
    have hp := settle_pops hq
    simp only
    rw [← hp]
    congr 1
    rcases h3 with ⟨h4, _, _, rfl⟩ | ⟨h4, _, _, rfl⟩ | ⟨h4, _, rfl⟩ | ⟨n0, n1, n2, _, _, _, rfl⟩
    · simp [nextQ, h4, iEq_eq, iNe_eq]
      rfl
    · simp [nextQ, h4, iEq_eq, iNe_eq]
      rfl
    · simp only [nextQ, h4, Pipe.qs, Pipe.less, rq_less]
      simp [iEq_eq]
    · simp only [nextQ, Pipe.qs, rq_append]
      have : iEq s.op 2 = false := by simp [iEq_eq, n2]
      rw [this]
      have : (iNe s.op 0 && iNe s.op 1) = true := by simp [iNe_eq, n0, n1]
      rw [this]
      cases hw : s.req.write <;> simp [rq, hw]

end Go.Proofs.Ytpnnadojhacjiaa
