/- Sx, part F: one operation. -/
import Derived.Test.YtpnnadojhacjiaaSxE
namespace Go.Sx
set_option linter.unusedVariables false

/-! ### building a struct -/

theorem foldl_set (off : Nat) : ∀ (l : List Value) (j : Nat) (z : Array Value), off + j + l.length ≤ z.size →
    ((l.zipIdx j).foldl (fun cs (x : Value × Nat) => cs.setIfInBounds (off + x.2) x.1) z).toList = z.toList.take (off + j) ++ l ++ z.toList.drop (off + j + l.length)
  | [], j, z, _ => by simp
  | v :: l, j, z, h => by
    simp only [List.length_cons] at h
    simp only [List.zipIdx_cons, List.foldl_cons]
    rw [foldl_set off l (j + 1) _ (by simp; omega)]
    have hlt : off + j < z.toList.length := by simp; omega
    simp only [Array.toList_setIfInBounds, List.length_cons]
    rw [List.drop_set_of_lt (by omega), show off + (j + 1) = (off + j) + 1 from by omega, List.take_add_one, List.take_set_of_le (by omega), List.getElem?_set_self hlt]
    simp only [Option.toList_some, List.append_assoc, List.singleton_append]
    congr 3
    omega

theorem fill_step (place : Nat → Option (Nat × Nat)) (z : List Value) (i : Nat) (v : Value) (r : List (Nat × Value)) (off size : Nat) (hp : place i = some (off, size)) (hs : v.cells.toList.length = size)
    (hb : off + v.cells.toList.length ≤ z.length) :
    Instr.fill place ⟨z⟩ ((i, v) :: r) = Instr.fill place ⟨z.take off ++ v.cells.toList ++ z.drop (off + v.cells.toList.length)⟩ r := by
  have hs' : v.cells.size = size := by simpa using hs
  have hb' : off + v.cells.size ≤ z.length := by simpa using hb
  simp only [Instr.fill, hp]
  rw [if_neg (by simp [hs']; omega)]
  congr 1
  apply Array.toList_inj.1
  rw [← Array.foldl_toList, Array.toList_zipIdx]
  have := foldl_set off v.cells.toList 0 ⟨z⟩ (by simpa using hb')
  simpa using this

theorem fillK_sound {P : Program} {ti : TI} {fs : Array Field} (ho : ti.offs = fs.toList.map fun f => (f.offset, P.cellsOf f.type, ((P.underlying f.type).map fun d => (mkTK d).agg).getD false))
    {places : Array (Nat × Nat)} (hp : places.toList = fs.toList.map fun f => (f.offset, P.cellsOf f.type)) :
    ∀ {ps : List (Nat × Value)} {z : List Value} {K : List Value → Prop}, fillK (structPlace ti) ps z K → ∃ z', Instr.fill (places[·]?) ⟨z⟩ ps = some ⟨z'⟩ ∧ K z'
  | [], z, K, h => ⟨z, rfl, h⟩
  | (i, v) :: r, z, K, h => by
    simp only [fillK] at h
    have h := cellsK_iff h
    unfold structPlace at h
    obtain ⟨hn, h⟩ := nthK_iff (0, 0, false) h
    obtain ⟨fd, hf, hm, hnth⟩ := field_of ho hn
    rw [hnth] at h
    obtain ⟨hlen, h⟩ := lenK_iff h
    obtain ⟨hov, h⟩ := overK_iff h
    obtain ⟨z', h1, h2⟩ := fillK_sound ho hp h
    refine ⟨z', ?_, h2⟩
    have hpl : places[i]? = some (fd.offset, P.cellsOf fd.type) := by
      rw [← Array.getElem?_toList, hp, List.getElem?_map, Array.getElem?_toList, hf]
      rfl
    rw [fill_step _ _ _ _ _ _ _ hpl hlen hov]
    exact h1

theorem run_mapM_places {P : Program} (w : World) : ∀ (l : List Field), (∀ f ∈ l, (P.info? f.type).isSome = true) →
    (l.mapM fun f => (do pure (f.offset, ← sizeOf f.type) : Sem (Nat × Nat))).run P w = .ok (l.map fun f => (f.offset, P.cellsOf f.type)) w
  | [], _ => rfl
  | f :: l, h => by
    obtain ⟨i, hi⟩ := Option.isSome_iff_exists.1 (h f (List.mem_cons_self ..))
    have hc : P.cellsOf f.type = i.size := by simp [Program.cellsOf, hi]
    rw [List.mapM_cons]
    rw [run_bind_ok (a := (f.offset, i.size)) (w' := w) (by rw [run_bind_ok (run_sizeOf hi w)]; rfl)]
    rw [run_bind_ok (run_mapM_places w l (fun g hg => h g (List.mem_cons_of_mem _ hg)))]
    simp only [List.map_cons, hc]
    rfl

theorem run_build {P : Program} {t : TypeId} {ti : TI} (hti : mkTI P t = some ti) (hk : ti.k = .struct) {ps : List (Nat × Value)} {K : List Value → Prop}
    (h : fillK (structPlace ti) ps ti.zero K) : ∃ z, (∀ w, (Instr.build t ⟨ps⟩).run P w = .ok (.agg ⟨z⟩) w) ∧ K z := by
  obtain ⟨i, d, z, h1, h2, h3, h4, h5, h6, -, h7⟩ := mkTI_parts hti
  rw [h4] at hk
  obtain ⟨fs, rfl⟩ := struct_of hk
  obtain ⟨hall, ho⟩ := h7 fs rfl
  obtain ⟨z', hz1, hz2⟩ := fillK_sound ho (places := ⟨fs.toList.map fun f => (f.offset, P.cellsOf f.type)⟩) rfl h
  refine ⟨z', fun w => ?_, hz2⟩
  unfold Instr.build
  rw [run_bind_ok (run_zero h1 h3 w), run_bind_ok (run_underlying' h2 w)]
  simp only
  have hm : (fs.mapM fun f => (do pure (f.offset, ← sizeOf f.type) : Sem (Nat × Nat))).run P w = .ok ⟨fs.toList.map fun f => (f.offset, P.cellsOf f.type)⟩ w := by
    rw [Array.mapM_eq_mapM_toList]
    show (List.toArray <$> _ : Sem (Array (Nat × Nat))).run P w = _
    rw [← bind_pure_comp, run_bind_ok (run_mapM_places w fs.toList (fun f hf => (hall f (Array.mem_toList_iff.1 hf)).1))]
    rfl
  rw [run_bind_ok hm]
  have he : z.cells = ⟨ti.zero⟩ := by rw [h6]
  simp only [he, hz1]
  rfl

theorem fillA_sound {n s : Nat} : ∀ {ps : List (Nat × Value)} {z : List Value} {K : List Value → Prop}, fillK (arrPlace n s) ps z K → ∃ z', Instr.fill (fun i => some (i * s, s)) ⟨z⟩ ps = some ⟨z'⟩ ∧ K z'
  | [], z, K, h => ⟨z, rfl, h⟩
  | (i, v) :: r, z, K, h => by
    simp only [fillK] at h
    have h := cellsK_iff h
    unfold arrPlace at h
    split at h
    · obtain ⟨hlen, h⟩ := lenK_iff h
      obtain ⟨hov, h⟩ := overK_iff h
      obtain ⟨z', h1, h2⟩ := fillA_sound h
      refine ⟨z', ?_, h2⟩
      rw [fill_step (fun i => some (i * s, s)) _ _ _ _ _ _ rfl hlen hov]
      exact h1
    · exact h.elim

theorem run_buildA {P : Program} {t : TypeId} {ti te : TI} {n : Nat} {e : TypeId} (hti : mkTI P t = some ti) (hk : ti.k = .arr n e) (hte : mkTI P e = some te) {ps : List (Nat × Value)} {K : List Value → Prop}
    (h : fillK (arrPlace n te.size) ps ti.zero K) : ∃ z, (∀ w, (Instr.build t ⟨ps⟩).run P w = .ok (.agg ⟨z⟩) w) ∧ K z := by
  obtain ⟨i, d, z, h1, h2, h3, h4, h5, h6, -, h7⟩ := mkTI_parts hti
  obtain ⟨i2, d2, z2, q1, q2, q3, q4, q5, q6, q7, q8⟩ := mkTI_parts hte
  rw [h4] at hk
  obtain rfl := arr_of hk
  obtain ⟨z', hz1, hz2⟩ := fillA_sound h
  refine ⟨z', fun w => ?_, hz2⟩
  unfold Instr.build
  rw [run_bind_ok (run_zero h1 h3 w), run_bind_ok (run_underlying' h2 w)]
  simp only
  have he : z.cells = ⟨ti.zero⟩ := by rw [h6]
  rw [run_bind_ok (run_sizeOf q1 w), ← q5]
  simp only [he, hz1]
  rfl

end Go.Sx
