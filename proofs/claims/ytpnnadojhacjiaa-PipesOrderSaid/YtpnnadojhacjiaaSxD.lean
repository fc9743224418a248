/- Sx, part D: what the executor asks for is enough (operations that only compute). -/
import Derived.Test.YtpnnadojhacjiaaSxC
namespace Go.Sx
set_option linter.unusedVariables false

/-! ### runs -/

theorem run_bind {α β : Type} (P : Program) (m : Sem α) (f : α → Sem β) (w : World) :
    (m >>= f).run P w = match m.run P w with | .ok a w' => (f a).run P w' | .halt h w' => .halt h w' := by
  show (Sem.bind m f).run P w = _
  induction m generalizing w with
  | pure a => rfl
  | load m a k ih =>
    simp only [Sem.bind, Sem.run]
    split
    · exact ih _ w
    · split
      · exact ih _ w
      · rfl
  | store m a v k ih =>
    cases v <;> simp only [Sem.bind, Sem.run] <;> first | rfl | skip
    all_goals
      split
      · split
        · rfl
        · exact ih _
      · split
        · exact ih _
        · rfl
  | new o k ih => simp only [Sem.bind, Sem.run]; exact ih _ _
  | shape r k ih => simp only [Sem.bind, Sem.run]; exact ih _ _
  | freeze a n k ih => simp only [Sem.bind, Sem.run]; exact ih _
  | frozen a k ih => simp only [Sem.bind, Sem.run]; exact ih _ _
  | getObj r k ih =>
    simp only [Sem.bind, Sem.run]
    split
    · rfl
    · exact ih _ _
    · rfl
  | setObj r o k ih =>
    simp only [Sem.bind, Sem.run]
    split
    · rfl
    · exact ih _
    · rfl
  | choose q k ih =>
    simp only [Sem.bind, Sem.run]
    split
    · exact ih _ _
    · exact ih _ _
  | sys c k ih => simp only [Sem.bind, Sem.run]; exact ih _ _
  | program k ih => simp only [Sem.bind, Sem.run]; exact ih _ _
  | mark m k ih => simp only [Sem.bind, Sem.run]; exact ih _
  | halt h => rfl

theorem run_bind_ok {α β : Type} {P : Program} {m : Sem α} {f : α → Sem β} {w w' : World} {a : α} (h : m.run P w = .ok a w') :
    (m >>= f).run P w = (f a).run P w' := by rw [run_bind, h]

theorem run_pure {α : Type} (P : Program) (a : α) (w : World) : (pure a : Sem α).run P w = .ok a w := rfl

theorem run_typeInfo {P : Program} {t : TypeId} {i : TypeInfo} (h : P.info? t = some i) (w : World) : (typeInfo t).run P w = .ok i w := by
  unfold typeInfo
  rw [run_bind_ok (m := program) (a := P) (w' := w) rfl]
  simp only [h]
  rfl

theorem run_underlying' {P : Program} {t : TypeId} {d : TypeDesc} (h : P.underlying t = some d) (w : World) : (underlying t).run P w = .ok d w := by
  unfold underlying
  rw [run_bind_ok (m := program) (a := P) (w' := w) rfl]
  simp only [h]
  rfl

theorem run_sizeOf {P : Program} {t : TypeId} {i : TypeInfo} (h : P.info? t = some i) (w : World) : (sizeOf t).run P w = .ok i.size w := by
  unfold sizeOf
  rw [run_bind_ok (run_typeInfo h w)]
  rfl

theorem run_zero {P : Program} {t : TypeId} {i : TypeInfo} {z : Value} (h : P.info? t = some i) (hz : i.zero = some z) (w : World) : (zeroValue t).run P w = .ok z w := by
  unfold zeroValue
  rw [run_bind_ok (run_typeInfo h w)]
  simp only [hz]
  rfl

theorem run_isAgg {P : Program} {t : TypeId} {d : TypeDesc} (h : P.underlying t = some d) (w : World) : (isAgg t).run P w = .ok (mkTK d).agg w := by
  unfold isAgg
  rw [run_bind_ok (run_underlying' h w)]
  cases d <;> rfl

/-- What the table says of a type. -/
theorem mkTI_parts {P : Program} {t : TypeId} {x : TI} (h : mkTI P t = some x) :
    ∃ i d z, P.info? t = some i ∧ P.underlying t = some d ∧ i.zero = some z ∧ x.k = mkTK d ∧ x.size = i.size ∧ x.zero = z.cells.toList ∧
      x.bytes = i.bytes ∧ ∀ fs, d = .struct fs → (∀ f ∈ fs, (P.info? f.type).isSome = true ∧ (P.underlying f.type).isSome = true) ∧ x.offs = fs.toList.map fun f => (f.offset, P.cellsOf f.type, ((P.underlying f.type).map fun d => (mkTK d).agg).getD false) := by
  unfold mkTI at h
  split at h
  · cases h
  · rename_i i hi
    split at h
    · rename_i d z hd hz
      cases d with
      | struct fs =>
        simp only at h
        split at h
        · rename_i ha
          cases h
          refine ⟨i, .struct fs, z, hi, hd, hz, rfl, rfl, rfl, rfl, fun fs' e => ?_⟩
          cases e
          exact ⟨fun f hf => by have := Array.all_eq_true_iff_forall_mem.1 ha f hf; simpa using this, rfl⟩
        · cases h
      | _ =>
        cases h
        exact ⟨i, _, z, hi, hd, hz, rfl, rfl, rfl, rfl, fun fs e => by cases e⟩
    · cases h

/-! ### frames -/

theorem SVok.mono {bs ext : List (Nat × Nat)} : ∀ {s : SV} {y : Value}, SVok bs s y → SVok (bs ++ ext) s y
  | .v _, _, h => h
  | .p i o, y, h => by
    obtain ⟨h1, h2⟩ := h
    refine ⟨?_, by simp; omega⟩
    rw [h1]
    unfold ptr
    rw [nth_eq, nth_eq, List.getElem?_append_left h2]
  | .g c pol x, _, h => fun hc => SVok.mono (h hc)
  | .any, _, _ => trivial

theorem FrameOk.mono {bs ext : List (Nat × Nat)} {tm : List SV} {a : Array Value} (h : FrameOk bs tm a) : FrameOk (bs ++ ext) tm a :=
  ⟨h.len, fun t => (h.ok t).mono⟩

theorem FrameOk.set {bs : List (Nat × Nat)} {tm : List SV} {a : Array Value} (h : FrameOk bs tm a) (d : Nat) {s : SV} {y : Value} (hs : SVok bs s y) :
    FrameOk bs (tm.set d s) (a.setIfInBounds d y) := by
  refine ⟨by simp [h.len], fun t => ?_⟩
  have hl := h.len
  have ht := h.ok t
  rw [nth_eq] at ht ⊢
  by_cases hd : d = t
  · subst hd
    by_cases hlt : d < tm.length
    · rw [List.getElem?_set_self hlt]
      have : d < a.size := by omega
      simpa [Array.getD, this] using hs
    · rw [List.getElem?_eq_none (by simp; omega)]
      exact trivial
  · rw [List.getElem?_set_ne hd]
    have : (a.setIfInBounds d y).getD t undef = a.getD t undef := by
      simp only [Array.getD_eq_getD_getElem?, Array.getElem?_setIfInBounds_ne hd]
    rw [this]
    exact ht

theorem FrameOk.put {bs : List (Nat × Nat)} {tm : List SV} {a : Array Value} (h : FrameOk bs tm a) (dst : Option Tmp) {s : SV} {y : Value} (hs : SVok bs s y) {K : List SV → Prop}
    (hk : fin dst tm s K) : ∃ tm', FrameOk bs tm' (Act.put ⟨a, []⟩ dst y).tmps ∧ K tm' := by
  cases dst with
  | none => exact ⟨tm, h, hk⟩
  | some d =>
    obtain ⟨_, hk⟩ := setK_iff hk
    exact ⟨_, h.set d hs, hk⟩

/-- The slots of a group hold guarded values, and the guard is as it should be. -/
def GOk (c pol : Bool) (as : List Nat) (tm : List SV) : Prop := (∀ t, memN as t = true → ∃ x, nth .any tm t = .g c pol x) ∧ (as ≠ [] → c = pol)

theorem GOk.nil (tm : List SV) : GOk true true [] tm := ⟨fun _ h => by simp [memN] at h, fun h => absurd rfl h⟩

section
variable {bs : List (Nat × Nat)} {tm : List SV} {a : Array Value} {as : List Nat} {c pol : Bool}

theorem evG_sound (hf : FrameOk bs tm a) (hg : GOk c pol as tm) {x : Operand} {K : SV → Prop} (h : evG tm as x K) : ∃ s, SVok bs s (Act.eval ⟨a, []⟩ x) ∧ K s := by
  cases x with
  | tmp t =>
    obtain ⟨_, h⟩ := nthK_iff SV.any h
    split at h
    · exact ⟨_, hf.ok t, h⟩
    · rename_i hm
      obtain ⟨y, hy⟩ := hg.1 t hm
      rw [hy] at h
      have hok := hf.ok t
      rw [hy] at hok
      exact ⟨y, hok (hg.2 (by intro e; subst e; simp [memN] at hm)), h⟩
  | const v => exact ⟨.v v, rfl, h⟩
  | global g => exact ⟨.v _, rfl, h⟩
  | func f => exact ⟨.v _, rfl, h⟩

theorem vK_sound {s : SV} {y : Value} (hs : SVok bs s y) {K : Value → Prop} (h : vK bs s K) : K y := by
  cases s with
  | v x => cases hs; exact h
  | p i o =>
    obtain ⟨rfl, hi⟩ := hs
    obtain ⟨_, h⟩ := nthK_iff (0, 0) h
    exact h
  | g _ _ _ => exact h.elim
  | any => exact h.elim

theorem evV_sound (hf : FrameOk bs tm a) (hg : GOk c pol as tm) {x : Operand} {K : Value → Prop} (h : evV tm as bs x K) : K (Act.eval ⟨a, []⟩ x) := by
  obtain ⟨s, hs, h⟩ := evG_sound hf hg h
  exact vK_sound hs h

theorem evVs_sound (hf : FrameOk bs tm a) (hg : GOk c pol as tm) : ∀ {xs : List Operand} {K : List Value → Prop}, evVs tm as bs xs K → K (xs.map (Act.eval ⟨a, []⟩))
  | [], _, h => h
  | x :: xs, K, h => evVs_sound hf hg (xs := xs) (evV_sound hf hg h)

theorem evO_sound (hf : FrameOk bs tm a) (hg : GOk c pol as tm) {x : Option Operand} {K : Option Value → Prop} (h : evO tm as bs x K) : K (x.map (Act.eval ⟨a, []⟩)) := by
  cases x with
  | none => exact h
  | some x => exact evV_sound hf hg h

theorem evPs_sound (hf : FrameOk bs tm a) (hg : GOk c pol as tm) : ∀ {xs : List (Nat × Operand)} {K : List (Nat × Value) → Prop}, evPs tm as bs xs K → K (xs.map fun x => (x.1, Act.eval ⟨a, []⟩ x.2))
  | [], _, h => h
  | (i, x) :: xs, K, h => evPs_sound hf hg (xs := xs) (evV_sound hf hg h)

end

/-! ### reading a box -/

theorem Range.cell {w : World} {b o : Nat} {c : List Value} (h : Range w b o c) {j : Nat} (hj : j < c.length) : w.cell? ⟨b, o + j, none⟩ = c[j]? := by
  obtain ⟨arr, e, h1, h2⟩ := h
  simp [World.cell?, h1, h2 j hj]

theorem Range.free {w : World} {b o : Nat} {c : List Value} (h : Range w b o c) (j : Nat) : w.frozen? ⟨b, j, none⟩ = false := by
  obtain ⟨arr, e, h1, h2⟩ := h
  simp [World.frozen?, h1]

theorem Addr.add_none (b o n : Nat) : Addr.add ⟨b, o, none⟩ n = ⟨b, o + n, none⟩ := by
  unfold Addr.add
  split
  · rename_i h; subst h; rfl
  · rfl

theorem run_load_cell {P : Program} {w : World} {a : Addr} {v : Value} (h : w.cell? a = some v) : (load a).run P w = .ok v w := by
  simp [load, Sem.run, h]

theorem run_loadCellsFrom {P : Program} {w : World} {b o : Nat} : ∀ (l : List Value) (i : Nat) (acc : Array Value), (∀ j, j < l.length → w.cell? ⟨b, o + (i + j), none⟩ = l[j]?) →
    (loadCellsFrom ⟨b, o, none⟩ i l.length acc).run P w = .ok (acc ++ l.toArray) w
  | [], i, acc, _ => by simp [loadCellsFrom]
  | v :: l, i, acc, h => by
    simp only [List.length_cons, loadCellsFrom]
    have h0 : w.cell? (Addr.add ⟨b, o, none⟩ i) = some v := by
      rw [Addr.add_none]
      have := h 0 (by simp)
      simpa using this
    rw [run_bind_ok (run_load_cell h0), run_loadCellsFrom l (i + 1) (acc.push v) (fun j hj => by
      have := h (j + 1) (by simp; omega)
      rw [show o + (i + 1 + j) = o + (i + (j + 1)) from by omega]
      simpa using this)]
    congr 1
    apply Array.toList_inj.1
    simp

theorem run_loadCells {P : Program} {w : World} {b o : Nat} (l : List Value) (h : ∀ j, j < l.length → w.cell? ⟨b, o + j, none⟩ = l[j]?) :
    (loadCells ⟨b, o, none⟩ l.length).run P w = .ok ⟨l⟩ w := by
  unfold loadCells
  rw [run_loadCellsFrom l 0 #[] (fun j hj => by rw [Nat.zero_add]; exact h j hj)]
  simp

theorem run_loadVar_agg {P : Program} {w : World} {t : TypeId} {x : TI} (hx : mkTI P t = some x) (ha : x.k.agg = true) {b o : Nat} (l : List Value) (hl : l.length = x.size)
    (h : ∀ j, j < l.length → w.cell? ⟨b, o + j, none⟩ = l[j]?) : (loadVar t ⟨b, o, none⟩).run P w = .ok (.agg ⟨l⟩) w := by
  obtain ⟨i, d, z, h1, h2, h3, h4, h5, -, -, -⟩ := mkTI_parts hx
  unfold loadVar
  rw [run_bind_ok (run_isAgg h2 w), ← h4, ha]
  simp only [if_true]
  rw [run_bind_ok (run_sizeOf h1 w), ← h5, ← hl, run_bind_ok (run_loadCells l h)]
  rfl

theorem run_loadVar_one {P : Program} {w : World} {t : TypeId} {x : TI} (hx : mkTI P t = some x) (ha : x.k.agg = false) {b : Addr} {v : Value}
    (h : w.cell? b = some v) : (loadVar t b).run P w = .ok v w := by
  obtain ⟨i, d, z, h1, h2, h3, h4, h5, -, -, -⟩ := mkTI_parts hx
  unfold loadVar
  rw [run_bind_ok (run_isAgg h2 w), ← h4, ha]
  simp only [Bool.false_eq_true, if_false]
  exact run_load_cell h

theorem loadK_sound {P : Program} {bs : List (Nat × Nat)} {cs : List (List Value)} {t : TypeId} {x : TI} (hx : mkTI P t = some x) {i o : Nat} {K : SV → Prop}
    (h : loadK x cs i o K) : ∃ v, (∀ w, Boxes w bs cs → (Instr.loadAt t (ptr bs i o)).run P w = .ok v w) ∧ K (.v v) := by
  obtain ⟨hi, h⟩ := nthK_iff [] h
  have hat : Instr.loadAt t (ptr bs i o) = loadVar t ⟨(nth (0, 0) bs i).1, (nth (0, 0) bs i).2 + o, none⟩ := rfl
  split at h
  · rename_i ha
    obtain ⟨h1, h2⟩ := subK_iff h
    refine ⟨_, fun w hb => ?_, h2⟩
    obtain ⟨hr, _⟩ := hb.get i hi
    rw [hat]
    refine run_loadVar_agg hx ha _ (by simp; omega) (fun j hj => ?_)
    simp at hj
    rw [Nat.add_assoc, hr.cell (by omega), List.getElem?_take, if_pos (by omega), List.getElem?_drop]
  · rename_i ha
    obtain ⟨h1, h2⟩ := nthK_iff (.tuple #[]) h
    refine ⟨_, fun w hb => ?_, h2⟩
    obtain ⟨hr, _⟩ := hb.get i hi
    rw [hat]
    refine run_loadVar_one hx ha ?_
    rw [hr.cell h1, nth_eq (.tuple #[]) (nth [] cs i) o, List.getElem?_eq_getElem h1]
    rfl

end Go.Sx
