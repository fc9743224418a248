/- Sx, part R: making rows: literals, append. -/
import Derived.Test.YtpnnadojhacjiaaSxQ
namespace Go.Sx
set_option linter.unusedVariables false

/-! ### literals -/

theorem fill_all (size : Nat) : ∀ (vs : List Value) (k : Nat) (pre z : List Value), pre.length = k * size → z.length = vs.length * size → (∀ v ∈ vs, v.cells.toList.length = size) →
    Instr.fill (fun i => some (i * size, size)) ⟨pre ++ z⟩ ((vs.zipIdx k).map fun x => (x.2, x.1)) = some ⟨pre ++ vs.flatMap (·.cells.toList)⟩
  | [], k, pre, z, h1, h2, _ => by
    have : z = [] := List.eq_nil_of_length_eq_zero (by simpa using h2)
    subst this
    simp [Instr.fill]
  | v :: vs, k, pre, z, h1, h2, h3 => by
    have hv := h3 v (List.mem_cons_self ..)
    have hz : size ≤ z.length := by rw [h2, List.length_cons, Nat.succ_mul]; omega
    simp only [List.zipIdx_cons, List.map_cons]
    rw [fill_step _ _ _ _ _ (k * size) size rfl hv (by rw [hv, List.length_append, h1]; omega)]
    have e1 : (pre ++ z).take (k * size) = pre := by rw [← h1, List.take_left]
    have e2 : (pre ++ z).drop (k * size + v.cells.toList.length) = z.drop size := by
      rw [hv, ← h1, List.drop_append, List.drop_of_length_le (by omega)]
      simp
    rw [e1, e2, fill_all size vs (k + 1) (pre ++ v.cells.toList) (z.drop size) (by rw [List.length_append, h1, hv, Nat.succ_mul])
      (by rw [List.length_drop, h2, List.length_cons, Nat.succ_mul]; omega) (fun u hu => h3 u (List.mem_cons_of_mem _ hu))]
    simp

theorem St.newRow {w0 : World} {R : Nat → Nat → Prop} {av : Nat → Prop} {w : World} {bs : List (Nat × Nat)} {cs : List (List Value)} {F : Fx} (h : St w0 R av w bs cs F) (c : List Value) (e : TypeId) :
    St w0 R av { w with heap := w.heap.push (.cells c.toArray e) } bs cs ⟨F.D, F.rs ++ [(w.heap.size, Row.c c)]⟩ := by
  have hk : Keep w { w with heap := w.heap.push (.cells c.toArray e) } :=
    keep_of_heap rfl rfl rfl (by simp) (fun b hb => by simp [Array.getElem?_push, Nat.ne_of_lt hb])
  refine (h.kept (F' := ⟨fun _ => True, [(w.heap.size, Row.c c)]⟩) hk ⟨fun r hr => ?_, by simp, .pure trivial⟩).ent (Ent.imp fun w h => h.1)
  simp at hr
  subst hr
  exact ⟨⟨e, by simp⟩, Nat.le_refl _⟩

/-- A row that the function owns (or nil): n elements of sz cells, L; the block's cells are C. -/
structure Own (sz n : Nat) (a : Option Addr) (cap : Nat) (C L : List Value) : Prop where
  len : L.length = n * sz
  fit : n ≤ cap
  alt : (a = none ∧ C = [] ∧ cap = 0) ∨ ∃ b, a = some ⟨b, 0, none⟩ ∧ C.length = cap * sz ∧ C.take (n * sz) = L

def orow (a : Option Addr) (C : List Value) : List (Nat × Row) := match a with
  | none => []
  | some ad => [(ad.block, C)]

theorem Own.nil (sz : Nat) : Own sz 0 none 0 [] [] := ⟨by simp, Nat.le_refl _, .inl ⟨rfl, rfl, rfl⟩⟩

theorem Own.full {sz n : Nat} {b : Nat} {L : List Value} (h : L.length = n * sz) : Own sz n (some ⟨b, 0, none⟩) n L L :=
  ⟨h, Nat.le_refl _, .inr ⟨b, rfl, h, by rw [← h]; simp⟩⟩

theorem Own.none_nil {sz n : Nat} {a : Option Addr} {cap : Nat} {C L : List Value} (h : Own sz n a cap C L) (ha : a = none) : n = 0 := by
  rcases h.alt with ⟨_, _, h1⟩ | ⟨b, h1, _⟩
  · have := h.fit; omega
  · rw [ha] at h1; cases h1

section
variable {P : Program} {tab : Tab} {w0 : World} {R : Nat → Nat → Prop} {av : Nat → Prop} {bs : List (Nat × Nat)} {cs : List (List Value)} {F : Fx}

theorem Own.at {w : World} {sz n : Nat} {a : Option Addr} {cap : Nat} {C L : List Value} (h : Own sz n a cap C L) {r1 r2 : List (Nat × Row)} {D : World → Prop}
    (hst : St w0 R av w bs cs ⟨D, r1 ++ orow a C ++ r2⟩) : RowAt w a L := by
  rcases h.alt with ⟨rfl, rfl, h3⟩ | ⟨b, rfl, h2, h3⟩
  · have : n = 0 := by have := h.fit; omega
    have hl := h.len
    rw [this] at hl
    exact List.eq_nil_of_length_eq_zero (by simpa using hl)
  · have hm : (b, Row.c C) ∈ r1 ++ orow (some ⟨b, 0, none⟩) C ++ r2 := by simp [orow]
    rw [← h3]
    exact (RowAt.of_row (hst.rows _ hm).1).take _

/-- An owned row is looked at. -/
theorem Own.sees {sz n : Nat} {a : Option Addr} {cap : Nat} {C L : List Value} (h : Own sz n a cap C L) {r1 r2 : List (Nat × Row)} {D : World → Prop} :
    Sees w0 R av bs cs ⟨D, r1 ++ orow a C ++ r2⟩ a L := fun w hst => h.at hst

/-- An owned row is given up for a fact. -/
theorem Own.share {sz n : Nat} {a : Option Addr} {cap : Nat} {C L : List Value} (h : Own sz n a cap C L) {r1 r2 : List (Nat × Row)} {D : World → Prop} :
    Ent ⟨D, r1 ++ orow a C ++ r2⟩ ⟨fun w => D w ∧ RowAt w a L, r1 ++ r2⟩ := by
  intro w0 R av w bs cs hst
  have hat := h.at hst
  have hle : Fx.Le ⟨D, r1 ++ orow a C ++ r2⟩ ⟨D, r1 ++ r2⟩ := ⟨by
    show (r1 ++ r2).Sublist (r1 ++ orow a C ++ r2)
    exact List.Sublist.append (List.sublist_append_left _ _) (List.Sublist.refl _), fun _ h => h⟩
  have h2 := hst.imp hle
  refine ⟨h2.keep, h2.box, h2.nd, h2.own, h2.avlt, h2.rows, Holds.and h2.data ?_⟩
  rcases h.alt with ⟨rfl, rfl, h3⟩ | ⟨b, rfl, h2', h3⟩
  · exact Holds.pure (p := L = []) hat
  · refine hat.holds ?_
    have hnd := hst.nd
    simp only [orow, List.map_append, List.map_cons, List.map_nil] at hnd
    have hm : (b, Row.c C) ∈ r1 ++ orow (some ⟨b, 0, none⟩) C ++ r2 := by simp [orow]
    have hb0 := (hst.rows _ hm).2
    rintro (hb | ⟨x, hx, he⟩ | ⟨r, hr, he⟩)
    · rcases hb0 with hb0 | hb0
      · have h7 := hst.avlt b hb
        simp at hb0
        omega
      · exact hb0.1 hb
    · rw [List.nodup_append] at hnd
      exact hnd.2.2 x.1 (List.mem_map.2 ⟨x, hx, rfl⟩) b (by simp) he
    · rw [List.nodup_append] at hnd
      have h8 := hnd.2.1
      rw [List.append_assoc, List.nodup_append] at h8
      rcases List.mem_append.1 hr with hr | hr
      · exact h8.2.2 r.1 (List.mem_map.2 ⟨r, hr, rfl⟩) b (by simp) he
      · have := h8.2.1
        simp only [List.singleton_append, List.nodup_cons] at this
        exact this.1 (List.mem_map.2 ⟨r, hr, he⟩)

end
end Go.Sx
