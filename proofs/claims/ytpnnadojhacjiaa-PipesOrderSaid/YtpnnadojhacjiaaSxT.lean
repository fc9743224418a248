/- Sx, part T: append to a row of the function's own. -/
import Derived.Test.YtpnnadojhacjiaaSxS
namespace Go.Sx
set_option linter.unusedVariables false

section
variable {P : Program} {tab : Tab} {w0 : World} {R : Nat → Nat → Prop} {av : Nat → Prop} {bs : List (Nat × Nat)} {cs : List (List Value)}

theorem Ent.perm {D : World → Prop} {rs rs' : List (Nat × Row)} (h : rs.Perm rs') : Ent ⟨D, rs⟩ ⟨D, rs'⟩ := by
  intro w0 R av w bs cs hst
  have hm : ∀ r, r ∈ rs' → r ∈ rs := fun r hr => h.mem_iff.2 hr
  refine ⟨hst.keep, hst.box, ?_, hst.own, hst.avlt, fun r hr => hst.rows r (hm r hr), hst.data.less fun b hb => ?_⟩
  · exact (List.Perm.nodup_iff (List.Perm.append (List.Perm.refl _) (h.map _))).1 hst.nd
  · rcases hb with hb | hb | ⟨r, hr, rfl⟩
    · exact .inl hb
    · exact .inr (.inl hb)
    · exact .inr (.inr ⟨r, hm r hr, rfl⟩)

theorem St.drew {w : World} {F : Fx} (h : St w0 R av w bs cs F) : St w0 R av { w with drawn := w.drawn + 1 } bs cs F :=
  h.keptD ⟨rfl, rfl, rfl, Nat.le_refl _, fun b o ho => ⟨o, ho, .refl _ _⟩⟩

/-- A row of the function's own takes new cells. -/
theorem St.putRow {w w' : World} {D : World → Prop} {r1 r2 : List (Nat × Row)} {b : Nat} {C C' : Row} (h : St w0 R av w bs cs ⟨D, r1 ++ [(b, C)] ++ r2⟩) (h1 : w'.os = w.os) (h2 : w'.tape = w.tape)
    (h3 : w'.output = w.output) (h4 : w'.heap.size = w.heap.size) (h5 : ∀ k, k ≠ b → w'.heap[k]? = w.heap[k]?) (h6 : RowIs w' b C') (h7 : ∀ l, C = Row.c l → (∃ l', C' = Row.c l') ∧ ∃ e a a', w.heap[b]? = some (.cells a e (0, 0)) ∧ w'.heap[b]? = some (.cells a' e (0, 0)) ∧ a'.size = a.size) : St w0 R av w' bs cs ⟨D, r1 ++ [(b, C')] ++ r2⟩ := by
  have hb0 := (h.rows (b, C) (by simp)).2
  have hnd := h.nd
  simp only [List.map_append, List.map_cons, List.map_nil] at hnd
  have hnb : ∀ x ∈ bs, x.1 ≠ b := fun x hx he => by
    rw [List.nodup_append] at hnd
    exact hnd.2.2 x.1 (List.mem_map.2 ⟨x, hx, rfl⟩) b (by simp) he
  have hnr : ∀ r, r ∈ r1 ∨ r ∈ r2 → r.1 ≠ b := fun r hr he => by
    rw [List.nodup_append] at hnd
    have h8 := hnd.2.1
    rw [List.append_assoc, List.nodup_append] at h8
    rcases hr with hr | hr
    · exact h8.2.2 r.1 (List.mem_map.2 ⟨r, hr, rfl⟩) b (by simp) he
    · have := h8.2.1
      simp only [List.singleton_append, List.nodup_cons] at this
      exact this.1 (List.mem_map.2 ⟨r, hr, he⟩)
  refine ⟨⟨h1.trans h.keep.os, h2.trans h.keep.tape, h3.trans h.keep.output, by rw [h4]; exact h.keep.size, fun k o ho => ?_⟩, h.box.of_same fun x hx => h5 _ (hnb x hx), ?_, h.own, h.avlt, fun r hr => ?_, ?_⟩
  · obtain ⟨o', ho', hs⟩ := h.keep.obj k o ho
    have hlt := lt_of_some ho
    by_cases hkb : k = b
    · subst hkb
      rcases hb0 with hb0 | ⟨_, hR, l, hC⟩
      · simp at hb0
        omega
      · obtain ⟨_, e, a, a', g1, g2, g3⟩ := h7 l hC
        rw [g1] at ho'
        cases ho'
        exact ⟨_, g2, hs.trans (.inr ⟨a, a', e, _, rfl, rfl, g3, fun i hi => absurd (hR i) hi⟩)⟩
    · exact ⟨o', by rw [h5 k hkb]; exact ho', hs⟩
  · simpa only [List.map_append, List.map_cons, List.map_nil] using hnd
  · simp only [List.mem_append, List.mem_singleton] at hr
    rcases hr with (hr | rfl) | hr
    · have := h.rows r (by simp [hr])
      exact ⟨this.1.of_same (h5 _ (hnr r (.inl hr))), this.2⟩
    · refine ⟨h6, hb0.imp id fun ⟨q1, q2, l, q3⟩ => ⟨q1, q2, (h7 l q3).1⟩⟩
    · have := h.rows r (by simp [hr])
      exact ⟨this.1.of_same (h5 _ (hnr r (.inr hr))), this.2⟩
  · refine h.data.move (by omega) (fun k hk hna => h5 k fun he => hna (.inr (.inr ⟨(b, C), by simp, he.symm⟩))) (fun k hk => .inl ?_)
    rcases hk with hk | hk | ⟨r, hr, rfl⟩
    · exact .inl hk
    · exact .inr (.inl hk)
    · simp only [List.mem_append, List.mem_singleton] at hr
      rcases hr with (hr | rfl) | hr
      · exact .inr (.inr ⟨r, by simp [hr], rfl⟩)
      · exact .inr (.inr ⟨(b, C), by simp, rfl⟩)
      · exact .inr (.inr ⟨r, by simp [hr], rfl⟩)

/-- append(s, x...), s a row of the function's own (or nil). -/
theorem XVal.appendG (hT : TabOk P tab) {t xt ty : TypeId} {ti tx te : TI} {e xe : TypeId} (ht : look tab t = some ti) (hk : ti.k = .slice e) (hx : look tab xt = some tx) (hxk : tx.k = .slice xe) (he : look tab e = some te)
    (hzl : te.zero.length = te.size) {D : World → Prop} {r1 r2 : List (Nat × Row)} {a p : Option Addr} {n cap m cx : Nat} {C L M : List Value} {K : KV} (own : Own te.size n a cap C L)
    (hM : Sees w0 R av bs cs ⟨D, r1 ++ orow a C ++ r2⟩ p M) (hm : M.length = m * te.size) (hone : ∀ v ∈ M, oneCell v = true) (hlen : n + m ≤ 4611686018427387904) (hroom : cap < n + m → Builtin.nextslicecap (n + m) cap * te.bytes ≤ 2 ^ 48)
    (h : ∀ a' cap' C', Own te.size (n + m) a' cap' C' (L ++ M) → K (.slice a' (n + m) cap') bs cs ⟨D, r1 ++ orow a' C' ++ r2⟩) :
    XVal P w0 R av (Builtin.append_ #[t, xt] ty #[.slice a n cap, .slice p m cx]) bs cs ⟨D, r1 ++ orow a C ++ r2⟩ K := by
  refine XVal_iff.2 fun w hst => ?_
  obtain ⟨i1, d1, z1, p1, p2, p3, p4, p5, p6, p7, p8⟩ := mkTI_parts (hT _ _ ht)
  obtain ⟨i3, d3, z3, o1, o2, o3, o4, o5, o6, o7, o8⟩ := mkTI_parts (hT _ _ hx)
  obtain ⟨i2, d2, z2, q1, q2, q3, q4, q5, q6, q7, q8⟩ := mkTI_parts (hT _ _ he)
  rw [p4] at hk
  rw [o4] at hxk
  obtain rfl := slice_of hk
  obtain rfl := slice_of hxk
  have hMw := hM w hst
  have hLw := own.at hst
  by_cases hfit : n + m ≤ cap
  · rcases own.alt with ⟨rfl, rfl, hc0⟩ | ⟨b, rfl, hCl, hCt⟩
    · have hn0 : n = 0 := by omega
      have hm0 : m = 0 := by omega
      subst hn0 hm0
      have hM0 : M = [] := List.eq_nil_of_length_eq_zero (by simpa using hm)
      have hL0 : L = [] := List.eq_nil_of_length_eq_zero (by simpa using own.len)
      subst hM0 hL0 hc0
      refine ⟨_, w, [], cs, _, run_append_fits p2 o2 q1 (by omega) hMw (by simp) (w' := w) (fun ad h => by cases h) (fun _ => rfl), by rw [List.append_nil]; exact hst, by
        rw [List.append_nil]; exact h none 0 [] (Own.nil _)⟩
    · have hrow := (hst.rows (b, C) (by simp [orow])).1
      obtain ⟨et, hrow⟩ := hrow
      have hsz : 0 + n * te.size + 0 + M.length ≤ C.toArray.size := by
        simp only [List.size_toArray]
        rw [hCl, hm, Nat.zero_add, Nat.add_zero, ← Nat.add_mul]
        exact Nat.mul_le_mul_right _ hfit
      obtain ⟨w', g1, g2, g3, g4, g5, g6, arr', g7, g8, g9⟩ := run_storeCells (P := P) (b := b) (o := 0 + n * te.size) M 0 w C.toArray et hrow hone hsz
      have hO : Own te.size (n + m) (some ⟨b, 0, none⟩) cap (C.take (n * te.size) ++ M ++ C.drop ((n + m) * te.size)) (L ++ M) := by
        have hle : n * te.size + m * te.size ≤ C.length := by rw [hCl, ← Nat.add_mul]; exact Nat.mul_le_mul_right _ hfit
        have hadd : (n + m) * te.size = n * te.size + m * te.size := Nat.add_mul ..
        refine ⟨by rw [List.length_append, own.len, hm, Nat.add_mul], hfit, .inr ⟨b, rfl, ?_, ?_⟩⟩
        · simp only [List.length_append, List.length_take, List.length_drop]
          omega
        · rw [hCt, hadd, List.take_append_of_le_length (by rw [List.length_append, own.len, hm]; exact Nat.le_refl _)]
          rw [List.take_of_length_le (by rw [List.length_append, own.len, hm]; exact Nat.le_refl _)]
      refine ⟨_, w', [], cs, _, run_append_fits p2 o2 q1 hfit hMw (by rw [← q5]; exact hm) (w' := w') (fun ad had => ?_) (fun h => by cases h), ?_, by
        rw [List.append_nil]; exact h _ _ _ hO⟩
      · cases had
        rw [Addr.add_none, ← q5]
        exact g1
      · rw [List.append_nil]
        refine hst.putRow (C := Row.c C) (C' := Row.c _) g2 g3 g4 g5 g6 ⟨et, ?_⟩ fun l hl => ⟨⟨_, rfl⟩, et, _, _, hrow, g7, g8⟩
        rw [g7]
        congr 2
        apply Array.ext_getElem?
        intro j
        rw [g9 j]
        have hle : n * te.size + m * te.size ≤ C.length := by rw [hCl, ← Nat.add_mul]; exact Nat.mul_le_mul_right _ hfit
        have hadd : (n + m) * te.size = n * te.size + m * te.size := Nat.add_mul ..
        simp only [Nat.zero_add, Nat.add_zero, List.getElem?_toArray]
        by_cases hin : n * te.size ≤ j ∧ j < n * te.size + M.length
        · rw [if_pos hin, List.append_assoc, List.getElem?_append_right (by simp only [List.length_take]; omega), List.getElem?_append_left (by simp only [List.length_take]; omega)]
          congr 1
          simp only [List.length_take]
          omega
        · rw [if_neg hin]
          by_cases hlt : j < n * te.size
          · rw [List.append_assoc, List.getElem?_append_left (by simp only [List.length_take]; omega), List.getElem?_take, if_pos hlt]
          · rw [List.getElem?_append_right (by simp only [List.length_take, List.length_append]; omega), List.getElem?_drop]
            congr 1
            simp only [List.length_take, List.length_append]
            omega
  · obtain ⟨newCap, hc, hrun⟩ := run_append_growsG (w := w) (ty := ty) p2 o2 q1 q3 (cx := cx) hfit hLw (by rw [← q5]; exact own.len) hMw (by rw [← q5]; exact hm) hlen (by rw [← q7]; exact hroom (by omega))
    have hO : Own te.size (n + m) (some ⟨w.heap.size, 0, none⟩) newCap (L ++ M ++ (Builtin.zeroCells z2.cells (newCap - (n + m))).toList) (L ++ M) := by
      refine ⟨by rw [List.length_append, own.len, hm, Nat.add_mul], hc, .inr ⟨_, rfl, ?_, ?_⟩⟩
      · have hzc : z2.cells = ⟨te.zero⟩ := by rw [q6]
        rw [List.length_append, List.length_append, own.len, hm, hzc, zeroCells_len, hzl, ← Nat.add_mul, ← Nat.add_mul]
        congr 1
        omega
      · rw [List.take_append_of_le_length (by rw [List.length_append, own.len, hm, Nat.add_mul]; exact Nat.le_refl _)]
        rw [List.take_of_length_le (by rw [List.length_append, own.len, hm, Nat.add_mul]; exact Nat.le_refl _)]
    refine ⟨_, _, [], cs, _, hrun, ?_, by rw [List.append_nil]; exact h _ _ _ hO⟩
    · rw [List.append_nil]
      have hle : Fx.Le ⟨D, r1 ++ orow a C ++ r2⟩ ⟨D, r1 ++ r2⟩ := ⟨List.Sublist.append (List.sublist_append_left _ _) (List.Sublist.refl _), fun _ h => h⟩
      have h1 := ((hst.imp hle).newRow (L ++ M ++ (Builtin.zeroCells z2.cells (newCap - (n + m))).toList) e).drew
      refine h1.ent (Ent.perm ?_)
      have hp : ∀ x : Nat × Row, (r1 ++ r2 ++ [x]).Perm (r1 ++ [x] ++ r2) := fun x => by
        rw [List.append_assoc, List.append_assoc]
        exact List.Perm.append (List.Perm.refl _) List.perm_append_comm
      exact hp _

/-- append(s, x...), s a row of the function's own (or nil). -/
theorem XVal.append (hT : TabOk P tab) {t xt ty : TypeId} {ti tx te : TI} {e xe : TypeId} (ht : look tab t = some ti) (hk : ti.k = .slice e) (hx : look tab xt = some tx) (hxk : tx.k = .slice xe) (he : look tab e = some te)
    (hzl : te.zero.length = te.size) {D : World → Prop} {r1 r2 : List (Nat × Row)} {a p : Option Addr} {n cap m cx : Nat} {C L M : List Value} {K : KV} (own : Own te.size n a cap C L)
    (hM : Sees w0 R av bs cs ⟨D, r1 ++ orow a C ++ r2⟩ p M) (hm : M.length = m * te.size) (hone : ∀ v ∈ M, oneCell v = true) (hlen : n + m ≤ 4611686018427387904) (hroom : (2 * (n + m) + 1000) * te.bytes ≤ 2 ^ 48)
    (h : ∀ a' cap' C', Own te.size (n + m) a' cap' C' (L ++ M) → K (.slice a' (n + m) cap') bs cs ⟨D, r1 ++ orow a' C' ++ r2⟩) :
    XVal P w0 R av (Builtin.append_ #[t, xt] ty #[.slice a n cap, .slice p m cx]) bs cs ⟨D, r1 ++ orow a C ++ r2⟩ K :=
  XVal.appendG hT ht hk hx hxk he hzl own hM hm hone hlen (fun hc => by
    have := Nat.mul_le_mul_right te.bytes (nextslicecap_le (need := n + m) (cap := cap) hc)
    omega) h

/-- append(s, x...) that must make a new array. -/
theorem XVal.appendNew (hT : TabOk P tab) {t xt ty : TypeId} {ti tx te : TI} {e xe : TypeId} (ht : look tab t = some ti) (hk : ti.k = .slice e) (hx : look tab xt = some tx) (hxk : tx.k = .slice xe) (he : look tab e = some te)
    (hzl : te.zero.length = te.size) {F : Fx} {a p : Option Addr} {n cap m cx : Nat} {L M : List Value} {K : KV} (hL : Sees w0 R av bs cs F a L) (hl : L.length = n * te.size)
    (hM : Sees w0 R av bs cs F p M) (hm : M.length = m * te.size) (hc : cap < n + m) (hlen : n + m ≤ 4611686018427387904) (hroom : (2 * (n + m) + 1000) * te.bytes ≤ 2 ^ 48)
    (h : ∀ b cap' C', Own te.size (n + m) (some ⟨b, 0, none⟩) cap' C' (L ++ M) → K (.slice (some ⟨b, 0, none⟩) (n + m) cap') bs cs ⟨F.D, F.rs ++ [(b, Row.c C')]⟩) :
    XVal P w0 R av (Builtin.append_ #[t, xt] ty #[.slice a n cap, .slice p m cx]) bs cs F K := by
  refine XVal_iff.2 fun w hst => ?_
  obtain ⟨i1, d1, z1, p1, p2, p3, p4, p5, p6, p7, p8⟩ := mkTI_parts (hT _ _ ht)
  obtain ⟨i3, d3, z3, o1, o2, o3, o4, o5, o6, o7, o8⟩ := mkTI_parts (hT _ _ hx)
  obtain ⟨i2, d2, z2, q1, q2, q3, q4, q5, q6, q7, q8⟩ := mkTI_parts (hT _ _ he)
  rw [p4] at hk
  rw [o4] at hxk
  obtain rfl := slice_of hk
  obtain rfl := slice_of hxk
  obtain ⟨newCap, hc, hrun⟩ := run_append_grows (w := w) (ty := ty) p2 o2 q1 q3 (cx := cx) (Nat.not_le.2 hc) (hL w hst) (by rw [← q5]; exact hl) (hM w hst) (by rw [← q5]; exact hm) hlen (by rw [← q7]; exact hroom)
  have hO : Own te.size (n + m) (some ⟨w.heap.size, 0, none⟩) newCap (L ++ M ++ (Builtin.zeroCells z2.cells (newCap - (n + m))).toList) (L ++ M) := by
    refine ⟨by rw [List.length_append, hl, hm, Nat.add_mul], hc, .inr ⟨_, rfl, ?_, ?_⟩⟩
    · have hzc : z2.cells = ⟨te.zero⟩ := by rw [q6]
      rw [List.length_append, List.length_append, hl, hm, hzc, zeroCells_len, hzl, ← Nat.add_mul, ← Nat.add_mul]
      congr 1
      omega
    · rw [List.take_append_of_le_length (by rw [List.length_append, hl, hm, Nat.add_mul]; exact Nat.le_refl _)]
      rw [List.take_of_length_le (by rw [List.length_append, hl, hm, Nat.add_mul]; exact Nat.le_refl _)]
  refine ⟨_, _, [], cs, _, hrun, ?_, by rw [List.append_nil]; exact h _ _ _ hO⟩
  rw [List.append_nil]
  exact (hst.newRow _ e).drew

end
end Go.Sx
