/- Sx: []byte("..") of a constant string. -/
import Derived.Test.YtpnnadojhacjiaaSyC
namespace Go.Sx
set_option linter.unusedVariables false

section
variable {P : Program} {tab : Tab} {w0 : World} {av : Nat → Prop} {bs : List (Nat × Nat)} {cs : List (List Value)}

theorem run_convLit {w : World} {t e te : TypeId} {C : Array Value} {b n c : Nat} (ht : P.underlying t = some (.slice e)) (he : P.underlying e = some (.int .u8)) (hb : w.heap[b]? = some (.cells C te (0, 0))) :
    (convert t t (.slice (some ⟨b, 0, none⟩) n c)).run P w = .ok (.slice (some ⟨b, 0, none⟩) n c) (w.freeze ⟨b, C.size, none⟩ 1) := by
  unfold convert
  rw [run_bind_ok (run_underlying' ht w), run_bind_ok (run_underlying' ht w)]
  simp only
  rw [run_bind_ok (run_underlying' he w)]
  have hsh : w.shape? b = some (te, C.size) := by
    unfold World.shape?
    rw [hb]
  have hm : (markStringish ⟨b, 0, none⟩).run P w = .ok () (w.freeze ⟨b, C.size, none⟩ 1) := by
    unfold markStringish
    rw [run_bind_ok (m := shape b) (a := some (te, C.size)) (w' := w) (by show Result.ok (w.shape? b) w = _; rw [hsh])]
    rfl
  simp only [beq_self_eq_true]
  rw [run_bind_ok hm]
  rfl

/-- []byte("..") behind its literal: the row is given up for a fact. -/
theorem XVal.lit (hT : TabOk P tab) {t e : TypeId} {ti te : TI} (ht : look tab t = some ti) (hk : ti.k = .slice e) (he : look tab e = some te) (hb8 : te.k = .int .u8) {D : World → Prop} {r1 r2 : List (Nat × Row)} {b n c : Nat} {C : List Value} {K : KV}
    (h : K (.slice (some ⟨b, 0, none⟩) n c) bs cs ⟨fun w => D w ∧ RowAt w (some ⟨b, 0, none⟩) C, r1 ++ r2⟩) :
    XVal P w0 (fun _ _ => False) av (convert t t (.slice (some ⟨b, 0, none⟩) n c)) bs cs ⟨D, r1 ++ [(b, Row.c C)] ++ r2⟩ K := by
  refine XVal_iff.2 fun w hst => ?_
  obtain ⟨i1, d1, z1, p1, p2, p3, p4, p5, p6, p7, p8⟩ := mkTI_parts (hT _ _ ht)
  obtain ⟨i2, d2, z2, q1, q2, q3, q4, q5, q6, q7, q8⟩ := mkTI_parts (hT _ _ he)
  rw [p4] at hk
  rw [q4] at hb8
  obtain rfl := slice_of hk
  obtain rfl := int_of hb8
  have hm : (b, Row.c C) ∈ r1 ++ [(b, Row.c C)] ++ r2 := by simp
  obtain ⟨⟨et, hb⟩, hown⟩ := hst.rows _ hm
  have hb0 : w0.heap.size ≤ b := hown.resolve_right fun h => h.2.1 0
  have hlt := lt_of_some hb
  refine ⟨_, _, [], cs, ⟨fun w => D w ∧ RowAt w (some ⟨b, 0, none⟩) C, r1 ++ r2⟩, run_convLit p2 q2 hb, ?_, by rw [List.append_nil]; exact h⟩
  rw [List.append_nil]
  have hsh : Ent ⟨D, r1 ++ [(b, Row.c C)] ++ r2⟩ ⟨fun w => D w ∧ RowAt w (some ⟨b, 0, none⟩) C, r1 ++ r2⟩ :=
    Own.share (sz := 1) (n := C.length) (cap := C.length) (a := some ⟨b, 0, none⟩) (r1 := r1) (r2 := r2) (Own.full (by simp))
  have h2 := hst.ent hsh
  have hnd := hst.nd
  simp only [List.map_append, List.map_cons, List.map_nil] at hnd
  have hnb : ∀ x ∈ bs, x.1 ≠ b := fun x hx he => by
    rw [List.nodup_append] at hnd
    exact hnd.2.2 x.1 (List.mem_map.2 ⟨x, hx, rfl⟩) b (by simp) he
  have hnr : ∀ r, r ∈ r1 ∨ r ∈ r2 → r.1 ≠ b := fun r hr he => by
    rw [List.nodup_append] at hnd
    have h8 := hnd.2.1
    rw [List.append_assoc, List.nodup_append] at h8
    rcases hr with hr | hr
    · exact h8.2.2 r.1 (List.mem_map.2 ⟨r, hr, rfl⟩) b (by simp) he
    · have := h8.2.1
      simp only [List.singleton_append, List.nodup_cons] at this
      exact this.1 (List.mem_map.2 ⟨r, hr, he⟩)
  have hsz : (w.freeze ⟨b, C.toArray.size, none⟩ 1).heap.size = w.heap.size := by
    unfold World.freeze
    rw [if_neg (by decide)]
    simp
  have hoth : ∀ k, k ≠ b → (w.freeze ⟨b, C.toArray.size, none⟩ 1).heap[k]? = w.heap[k]? := fun k hk => by
    unfold World.freeze
    rw [if_neg (by decide)]
    simp only [Array.getElem?_modify]
    rw [if_neg (fun h => hk h.symm)]
  have hnew : ∃ fz, (w.freeze ⟨b, C.toArray.size, none⟩ 1).heap[b]? = some (.cells C.toArray et fz) := by
    unfold World.freeze
    rw [if_neg (by decide)]
    simp only [Array.getElem?_modify, if_true, hb]
    exact ⟨_, rfl⟩
  obtain ⟨fz, hnew⟩ := hnew
  have hos : (w.freeze ⟨b, C.toArray.size, none⟩ 1).os = w.os := by unfold World.freeze; rw [if_neg (by decide)]
  have hta : (w.freeze ⟨b, C.toArray.size, none⟩ 1).tape = w.tape := by unfold World.freeze; rw [if_neg (by decide)]
  have hou : (w.freeze ⟨b, C.toArray.size, none⟩ 1).output = w.output := by unfold World.freeze; rw [if_neg (by decide)]
  generalize w.freeze ⟨b, C.toArray.size, none⟩ 1 = w' at *
  refine ⟨⟨hos.trans hst.keep.os, hta.trans hst.keep.tape, hou.trans hst.keep.output, by rw [hsz]; exact hst.keep.size, fun k o ho => ?_⟩, h2.box.of_same fun x hx => hoth _ (hnb x hx), h2.nd, h2.own, h2.avlt, fun r hr => ?_, ?_⟩
  · obtain ⟨o', ho', hs⟩ := hst.keep.obj k o ho
    have hlt := lt_of_some ho
    exact ⟨o', by rw [hoth k (by omega)]; exact ho', hs⟩
  · have := h2.rows r hr
    exact ⟨this.1.of_same (hoth _ (hnr r (by simpa using hr))), this.2⟩
  · have hnav : ¬ Av av bs (r1 ++ r2) b := by
      rintro (ha | ⟨x, hx, he⟩ | ⟨r, hr, he⟩)
      · have := hst.avlt b ha
        omega
      · exact hnb x hx he
      · exact hnr r (by simpa using hr) he
    refine Holds.and ?_ (RowAt.holds (ad := ⟨b, 0, none⟩) (.inr ⟨rfl, C.toArray, et, fz, hnew, fun j hj => by simp⟩) hnav)
    refine hst.data.move (by omega) (fun k hk hna => hoth k fun he => hna (.inr (.inr ⟨(b, Row.c C), by simp, he.symm⟩))) (fun k hk => .inl ?_)
    rcases hk with hk | hk | ⟨r, hr, rfl⟩
    · exact .inl hk
    · exact .inr (.inl hk)
    · rcases List.mem_append.1 hr with hr | hr
      · exact .inr (.inr ⟨r, by simp [hr], rfl⟩)
      · exact .inr (.inr ⟨r, by simp [hr], rfl⟩)

end
end Go.Sx
