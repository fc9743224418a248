/- Parts of the proof: SyH, SyI, SyJ. -/
import Derived.Test.YtfeoedkmndkbjaaGreatDoorQD
import Derived.Maps.RangeRun
namespace Go.Sx
open Go
set_option linter.unusedVariables false
set_option linter.unusedSimpArgs false
variable {P : Program} {tab : Tab} {w0 : World} {R : Nat → Nat → Prop} {av : Nat → Prop} {bs : List (Nat × Nat)} {cs : List (List Value)} {F : Fx}

/-! ### lists, where their shape is not seen -/

theorem nthK_mk {α : Type} : ∀ {l : List α} {n : Nat} {x : α} {K : α → Prop}, l[n]? = some x → K x → nthK l n K
  | [], n, x, K, h, _ => by simp at h
  | y :: l, 0, x, K, h, k => by
    simp at h
    subst h
    exact k
  | y :: l, n + 1, x, K, h, k => nthK_mk (l := l) (by simpa using h) k

theorem overK_mk : ∀ {l : List Value} {o : Nat} {m : List Value} {K : List Value → Prop}, o + m.length ≤ l.length → K (laid l o m) → overK l o m K
  | xs, 0, [], K, _, h => by
    unfold overK
    simpa [laid] using h
  | x :: xs, 0, y :: ys, K, hl, h => by
    unfold overK
    refine overK_mk (l := xs) (o := 0) (m := ys) (by simp at hl ⊢; omega) ?_
    simpa [laid] using h
  | x :: xs, o + 1, ys, K, hl, h => by
    unfold overK
    refine overK_mk (l := xs) (o := o) (m := ys) (by simp at hl; omega) ?_
    have e : o + 1 + ys.length = (o + ys.length) + 1 := by omega
    simpa [laid, e] using h
  | [], 0, y :: ys, K, hl, h => by simp at hl
  | [], o + 1, ys, K, hl, h => by simp at hl

theorem blt_yes {i n : Nat} (h : i < n) : Nat.blt i n = true := by
  simp [Nat.blt]
  omega

/-! ### boxes that are looked at through an address -/

theorem Sees.box {b o : Nat} {c : List Value} (i : Nat) (hb : nth (0, 0) bs i = (b, o)) (hi : i < cs.length) (hc : nth [] cs i = c) : Sees w0 R av bs cs F (some ⟨b, o, none⟩) c := fun w hst => by
  obtain ⟨h1, h2⟩ := hst.box.get i hi
  rw [hb, hc] at h1
  exact .of_range h1

/-- An element's address in an array that lies at an address. -/
theorem XRead.indexArr (hT : TabOk P tab) {t : TypeId} {ti te : TI} {n : Nat} {e : TypeId} (ht : look tab t = some ti) (hk : ti.k = .arr n e) (he : look tab e = some te) {a : Addr} {k : IntKind} {i : Int} {K : Value → Prop}
    (j : Nat) (hj : i = (j : Int)) (h1 : j < n) (ha : a.spot = none) (h : K (.pointer (some (a.add (j * te.size))))) : XRead P w0 R av (Instr.indexAt t (.pointer (some a)) (.int k i)) bs cs F K := by
  subst hj
  refine (XRead_iff _ _ _ _).2 ⟨_, fun w _ => ?_, h⟩
  obtain ⟨i1, d1, z1, p1, p2, p3, p4, p5, p6, p7, p8⟩ := mkTI_parts (hT _ _ ht)
  obtain ⟨i2, d2, z2, q1, q2, q3, q4, q5, q6, q7, q8⟩ := mkTI_parts (hT _ _ he)
  rw [p4] at hk
  have hd : d1 = .array n e := by
    cases d1 <;> simp [mkTK] at hk
    obtain ⟨rfl, rfl⟩ := hk
    rfl
  subst hd
  unfold Instr.indexAt
  rw [run_bind_ok (m := asIntOf (.int k (j : Int))) (a := (k, (j : Int))) (w' := w) rfl]
  simp only
  rw [run_bind_ok (run_underlying' p2 w)]
  simp only
  rw [run_bind_ok (m := Instr.sureAddr (.pointer (some a))) (a := a) (w' := w) rfl, run_bind_ok (run_pure P _ w)]
  rw [run_bind_ok (run_underlying' p2 w)]
  simp only
  rw [if_pos ⟨by omega, by omega⟩, run_bind_ok (run_sizeOf q1 w), ← q5]
  simp

/-- An element of an array value. -/
theorem XRead.indexAgg (hT : TabOk P tab) {t : TypeId} {ti te : TI} {n : Nat} {e : TypeId} (ht : look tab t = some ti) (hk : ti.k = .arr n e) (he : look tab e = some te) (hea : te.k.agg = false) (hsz : te.size = 1)
    {l : List Value} {k : IntKind} {i : Int} {v : Value} {K : Value → Prop}
    (j : Nat) (hj : i = (j : Int)) (h1 : j < n) (hv : l[j]? = some v) (h : K v) : XRead P w0 R av (Instr.index t (.agg ⟨l⟩) (.int k i)) bs cs F K := by
  subst hj
  refine (XRead_iff _ _ _ _).2 ⟨_, fun w _ => ?_, h⟩
  obtain ⟨i1, d1, z1, p1, p2, p3, p4, p5, p6, p7, p8⟩ := mkTI_parts (hT _ _ ht)
  obtain ⟨i2, d2, z2, q1, q2, q3, q4, q5, q6, q7, q8⟩ := mkTI_parts (hT _ _ he)
  rw [p4] at hk
  have hd : d1 = .array n e := by
    cases d1 <;> simp [mkTK] at hk
    obtain ⟨rfl, rfl⟩ := hk
    rfl
  subst hd
  unfold Instr.index
  rw [run_bind_ok (m := asIntOf (.int k (j : Int))) (a := (k, (j : Int))) (w' := w) rfl]
  simp only
  rw [run_bind_ok (run_underlying' p2 w)]
  simp only
  rw [if_pos ⟨by omega, by omega⟩, run_bind_ok (run_sizeOf q1 w), ← q5, hsz]
  unfold part
  rw [run_bind_ok (run_isAgg q2 w), ← q4, hea]
  have hg : (⟨l⟩ : Array Value)[j]? = some v := by simpa using hv
  simp [hg]

theorem XRead.indexAggs (hT : TabOk P tab) {t : TypeId} {ti te : TI} {n : Nat} {e : TypeId} (ht : look tab t = some ti) (hk : ti.k = .arr n e) (he : look tab e = some te) (hea : te.k.agg = true)
    {l m : List Value} {k : IntKind} {i : Int} {K : Value → Prop}
    (j : Nat) (hj : i = (j : Int)) (h1 : j < n) (hm : (l.drop (j * te.size)).take te.size = m) (hl : j * te.size + te.size ≤ l.length) (h : K (.agg ⟨m⟩)) : XRead P w0 R av (Instr.index t (.agg ⟨l⟩) (.int k i)) bs cs F K := by
  subst hj
  refine (XRead_iff _ _ _ _).2 ⟨_, fun w _ => ?_, h⟩
  obtain ⟨i1, d1, z1, p1, p2, p3, p4, p5, p6, p7, p8⟩ := mkTI_parts (hT _ _ ht)
  obtain ⟨i2, d2, z2, q1, q2, q3, q4, q5, q6, q7, q8⟩ := mkTI_parts (hT _ _ he)
  rw [p4] at hk
  have hd : d1 = .array n e := by
    cases d1 <;> simp [mkTK] at hk
    obtain ⟨rfl, rfl⟩ := hk
    rfl
  subst hd
  unfold Instr.index
  rw [run_bind_ok (m := asIntOf (.int k (j : Int))) (a := (k, (j : Int))) (w' := w) rfl]
  simp only
  rw [run_bind_ok (run_underlying' p2 w)]
  simp only
  rw [if_pos ⟨by omega, by omega⟩, run_bind_ok (run_sizeOf q1 w), ← q5, Int.toNat_natCast]
  unfold part
  rw [run_bind_ok (run_isAgg q2 w), ← q4, hea]
  simp only [if_true]
  rw [run_bind_ok (run_sizeOf q1 w), ← q5]
  have hc : (⟨l⟩ : Array Value).extract (j * te.size) (j * te.size + te.size) = ⟨m⟩ := by
    rw [← hm]
    simp [List.extract_eq_take_drop]
  simp [hc, hl]

/-- An array's slice: a[:] through its address. -/
theorem XRead.sliceArr (hT : TabOk P tab) {t : TypeId} {ti te : TI} {n : Nat} {e : TypeId} (ht : look tab t = some ti) (hk : ti.k = .arr n e) (he : look tab e = some te) {a : Addr} {K : Value → Prop} (ha : a.spot = none)
    (h : K (.slice (some (if n = 0 then a else a.add (0 * te.size))) (n - 0) (n - 0))) : XRead P w0 R av (Instr.sliceAt t (.pointer (some a)) none none none) bs cs F K := by
  refine (XRead_iff _ _ _ _).2 ⟨_, fun w _ => ?_, h⟩
  obtain ⟨i1, d1, z1, p1, p2, p3, p4, p5, p6, p7, p8⟩ := mkTI_parts (hT _ _ ht)
  obtain ⟨i2, d2, z2, q1, q2, q3, q4, q5, q6, q7, q8⟩ := mkTI_parts (hT _ _ he)
  rw [p4] at hk
  have hd : d1 = .array n e := by
    cases d1 <;> simp [mkTK] at hk
    obtain ⟨rfl, rfl⟩ := hk
    rfl
  subst hd
  unfold Instr.sliceAt
  rw [run_bind_ok (run_underlying' p2 w)]
  simp only
  rw [run_bind_ok (m := Instr.sureAddr (.pointer (some a))) (a := a) (w' := w) rfl]
  rw [run_bind_ok (m := Instr.sliceBounds false n n none none none) (a := (0, n, n)) (w' := w) rfl]
  simp only
  rw [run_bind_ok (run_sizeOf q1 w), ← q5]
  rfl

/-! ### stores through addresses of boxes -/

/-! ### great objects -/

theorem XVal.allocRow (hT : TabOk P tab) {e : TypeId} {ti : TI} (ht : look tab e = some ti) {z : List Value} (hz : ti.zero = z) {K : KV} (h : ∀ b, K (.pointer (some ⟨b, 0, none⟩)) bs cs ⟨F.D, F.rs ++ [(b, Row.c z)]⟩) :
    XVal P w0 R av (Instr.alloc e true (.tuple #[])) bs cs F K := by
  subst hz
  refine XVal_iff.2 fun w hst => ?_
  obtain ⟨i, d, z, h1, h2, h3, h4, h5, h6, -, -⟩ := mkTI_parts (hT _ _ ht)
  refine ⟨_, _, [], cs, _, ?_, by rw [List.append_nil]; exact hst.newRow ti.zero e, by rw [List.append_nil]; exact h _⟩
  unfold Instr.alloc
  rw [run_bind_ok (run_zero h1 h3 w)]
  rw [h6]
  rfl

theorem XVal.boxRow {e : TypeId} {z : List Value} {K : KV} (h : ∀ b, K (.pointer (some ⟨b, 0, none⟩)) bs cs ⟨F.D, F.rs ++ [(b, Row.c z)]⟩) :
    XVal P w0 R av (Instr.box e (.agg ⟨z⟩)) bs cs F K := by
  refine XVal_iff.2 fun w hst => ?_
  exact ⟨_, _, [], cs, _, rfl, by rw [List.append_nil]; exact hst.newRow z e, by rw [List.append_nil]; exact h _⟩

theorem XRead.buildBig (hT : TabOk P tab) {t : TypeId} {ti : TI} (ht : look tab t = some ti) (hk : ti.k = .struct) {ps : List (Nat × Value)} {K : Value → Prop} (h : fillK (structPlace ti) ps ti.zero fun z => K (.agg ⟨z⟩)) :
    XRead P w0 R av (Instr.build t ⟨ps⟩) bs cs F K := by
  obtain ⟨z, h1, h2⟩ := run_build (hT _ _ ht) hk h
  exact (XRead_iff _ _ _ _).2 ⟨_, fun w _ => h1 w, h2⟩

/-! ### copies -/

/-- copy(s, t) into a row of the function's own. -/
theorem XVal.copyIn (hT : TabOk P tab) {t xt ty : TypeId} {ti te : TI} {e : TypeId} (ht : look tab t = some ti) (hk : ti.k = .slice e) (he : look tab e = some te) {D : World → Prop} {r1 r2 : List (Nat × Row)} {b k n c : Nat} {C M : List Value} {p : Addr}
    {q : Option Addr} {m cx : Nat} {K : KV} (hp : p = ⟨b, k, none⟩) (hM : Sees w0 R av bs cs ⟨D, r1 ++ [(b, Row.c C)] ++ r2⟩ q M) (hm : M.length = m * te.size) (hone : ∀ v ∈ M, oneCell v = true) (hle : k + (min m n) * te.size ≤ C.length)
    (h : K (.int .i64 ((min m n : Nat) : Int)) bs cs ⟨D, r1 ++ [(b, Row.c (laid C k (M.take ((min m n) * te.size))))] ++ r2⟩) :
    XVal P w0 R av (Builtin.copy_ #[t, xt] ty #[.slice (some p) n c, .slice q m cx]) bs cs ⟨D, r1 ++ [(b, Row.c C)] ++ r2⟩ K := by
  subst hp
  refine XVal_iff.2 fun w hst => ?_
  obtain ⟨i1, d1, z1, p1, p2, p3, p4, p5, p6, p7, p8⟩ := mkTI_parts (hT _ _ ht)
  obtain ⟨i2, d2, z2, q1, q2, q3, q4, q5, q6, q7, q8⟩ := mkTI_parts (hT _ _ he)
  rw [p4] at hk
  obtain rfl := slice_of hk
  have hmin : min m n * te.size ≤ M.length := by rw [hm]; exact Nat.mul_le_mul_right _ (Nat.min_le_left _ _)
  have hlt : (M.take (min m n * te.size)).length = min m n * te.size := by rw [List.length_take]; omega
  obtain ⟨w', g1, g2⟩ := St.laidRow (P := P) (w' := w) (k := k) hst (l := M.take (min m n * te.size)) (fun v hv => hone v (List.mem_of_mem_take hv)) (by rw [hlt]; exact hle)
  refine ⟨_, w', [], cs, _, ?_, by rw [List.append_nil]; exact g2, by rw [List.append_nil]; exact h⟩
  unfold Builtin.copy_
  simp only [show (#[t, xt] : Array TypeId)[0]? = some t from rfl, show ∀ u v : Value, (#[u, v] : Array Value)[0]? = some u from fun _ _ => rfl, show ∀ u v : Value, (#[u, v] : Array Value)[1]? = some v from fun _ _ => rfl]
  rw [run_bind_ok (run_underlying' p2 w)]
  simp only
  rw [run_bind_ok (m := Builtin.lenOf (.slice q m cx)) (a := m) (w' := w) rfl, run_bind_ok (run_sizeOf q1 w), ← q5]
  have hf := run_firstCells (P := P) (n := m) (c := cx) (((hM w hst).take (min m n * te.size))) (m := min m n) (sz := te.size) hlt
  rw [show Nat.min m n = min m n from rfl, run_bind_ok hf]
  simp only
  rw [run_bind_ok g1]
  rfl

/-- clear(s) of a part of a row of one-cell elements. -/
theorem XVal.clearZ (hT : TabOk P tab) {t ty : TypeId} {ti te : TI} {e : TypeId} {z : Value} (ht : look tab t = some ti) (hk : ti.k = .slice e) (he : look tab e = some te) (hs1 : te.size = 1) (hz : te.zero = [z]) (hz1 : oneCell z = true)
    {D : World → Prop} {r1 r2 : List (Nat × Row)} {b k n c : Nat} {C : List Value} {p : Addr} {K : KV} (hp : p = ⟨b, k, none⟩) (hn : 0 < n) (hle : k + n ≤ C.length)
    (h : K (.tuple #[]) bs cs ⟨D, r1 ++ [(b, Row.c (laid C k (List.replicate n z)))] ++ r2⟩) :
    XVal P w0 R av (Builtin.clear_ #[t] ty #[.slice (some p) n c]) bs cs ⟨D, r1 ++ [(b, Row.c C)] ++ r2⟩ K := by
  subst hp
  obtain ⟨n, rfl⟩ : ∃ n', n = n' + 1 := ⟨n - 1, by omega⟩
  refine XVal_iff.2 fun w hst => ?_
  obtain ⟨i1, d1, z1, p1, p2, p3, p4, p5, p6, p7, p8⟩ := mkTI_parts (hT _ _ ht)
  obtain ⟨i2, d2, z2, q1, q2, q3, q4, q5, q6, q7, q8⟩ := mkTI_parts (hT _ _ he)
  rw [p4] at hk
  obtain rfl := slice_of hk
  have hzc : z2.cells = ⟨[z]⟩ := by rw [← hz, q6]
  have hzz : (Builtin.zeroCells z2.cells (n + 1)).toList = List.replicate (n + 1) z := by
    rw [hzc]
    unfold Builtin.zeroCells
    have := range_mod' [z] (by simp) (n + 1)
    have e1 : (n + 1) * (⟨[z]⟩ : Array Value).size = (n + 1) * [z].length := rfl
    rw [e1, this]
    simp
  obtain ⟨w', g1, g2⟩ := St.laidRow (P := P) (w' := w) (k := k) hst (l := List.replicate (n + 1) z) (fun v hv => by rw [List.eq_of_mem_replicate hv]; exact hz1) (by simpa using hle)
  refine ⟨_, w', [], cs, _, ?_, by rw [List.append_nil]; exact g2, by rw [List.append_nil]; exact h⟩
  unfold Builtin.clear_
  simp only [show (#[t] : Array TypeId)[0]? = some t from rfl, show ∀ u : Value, (#[u] : Array Value)[0]? = some u from fun _ => rfl]
  rw [run_bind_ok (run_underlying' p2 w)]
  simp only
  rw [run_bind_ok (run_zero q1 q3 w), hzz, run_bind_ok g1]
  rfl

/-! ### shifts of bytes -/

theorem XRead.shl {t : TypeId} {x y : Operand} {k k' : IntKind} {a : Int} {j : Nat} {i : Int} {K : Value → Prop} (hi : i = (j : Int)) (hj : j ≤ k.bits) (h : K (.int k (k.wrap (a * 2 ^ j)))) :
    XRead P w0 R av (do eqGuard .shl t x y (.int k a) (.int k' i); binOp .shl t (.int k a) (.int k' i)) bs cs F K := by
  subst hi
  refine (XRead_iff _ _ _ _).2 ⟨_, fun w _ => ?_, h⟩
  rw [run_bind_ok (eqGuard_int _ _ _ _ _ _ _ _ w)]
  simp only [binOp, Op.shift]
  rw [if_neg (by omega), Int.toNat_natCast, Nat.min_eq_left hj]
  rfl

theorem XRead.shr {t : TypeId} {x y : Operand} {k k' : IntKind} {a : Nat} {j : Nat} {i : Int} {K : Value → Prop} (hi : i = (j : Int)) (hj : j ≤ k.bits) (h : K (.int k ((a / 2 ^ j : Nat) : Int))) :
    XRead P w0 R av (do eqGuard .shr t x y (.int k (a : Int)) (.int k' i); binOp .shr t (.int k (a : Int)) (.int k' i)) bs cs F K := by
  subst hi
  refine (XRead_iff _ _ _ _).2 ⟨_, fun w _ => ?_, h⟩
  rw [run_bind_ok (eqGuard_int _ _ _ _ _ _ _ _ w)]
  simp only [binOp, Op.shift]
  rw [if_neg (by omega), Int.toNat_natCast, Nat.min_eq_left hj]
  have : ((a : Int).fdiv (2 ^ j)) = ((a / 2 ^ j : Nat) : Int) := by
    rw [Int.fdiv_eq_ediv_of_nonneg _ (by exact_mod_cast Nat.zero_le _)]
    push_cast
    rfl
  rw [this]
  rfl

end Go.Sx
namespace Go.Sx
open Go
set_option linter.unusedVariables false
set_option linter.unusedSimpArgs false
variable {P : Program} {tab : Tab} {w0 : World} {R : Nat → Nat → Prop} {av : Nat → Prop} {bs : List (Nat × Nat)} {cs : List (List Value)} {F : Fx}

abbrev KVs := List (Value × Value)

def mapG (l : KVs) : Array MapEntry := (l.zipIdx.map fun x => ⟨x.1.1, x.1.2, x.2⟩).toArray

theorem mapG_get (l : KVs) (i : Nat) : (mapG l).toList[i]? = l[i]?.map fun p => ⟨p.1, p.2, i⟩ := by
  simp only [mapG, List.getElem?_map, List.getElem?_zipIdx]
  cases l[i]? <;> simp

theorem mapG_mem {l : KVs} {e : MapEntry} (h : e ∈ (mapG l).toList) : ∃ i p, l[i]? = some p ∧ e = ⟨p.1, p.2, i⟩ := by
  obtain ⟨i, hi⟩ := List.mem_iff_getElem?.1 h
  rw [mapG_get] at hi
  cases hp : l[i]? with
  | none => rw [hp] at hi; cases hi
  | some p =>
    rw [hp] at hi
    cases hi
    exact ⟨i, p, hp, rfl⟩

theorem mapG_born (l : KVs) : (mapG l).toList.map (·.born) = List.range l.length := by
  apply List.ext_getElem?
  intro i
  rw [List.getElem?_map, mapG_get]
  by_cases h : i < l.length
  · rw [List.getElem?_eq_getElem h, List.getElem?_range h]
    rfl
  · rw [List.getElem?_eq_none (by omega), List.getElem?_eq_none (by simp; omega)]
    rfl

theorem mapG_snoc (l : KVs) (p : Value × Value) : mapG (l ++ [p]) = (mapG l).push ⟨p.1, p.2, l.length⟩ := by
  simp [mapG, List.zipIdx_append]

theorem mapG_set (l : KVs) (i : Nat) (k v : Value) : (mapG l).modify i (fun e => { e with key := k, val := v }) = mapG (l.set i (k, v)) := by
  apply Array.ext_getElem?
  intro j
  rw [Array.getElem?_modify]
  have e1 : ∀ m : KVs, (mapG m)[j]? = (mapG m).toList[j]? := fun m => by simp
  rw [e1, e1, mapG_get, mapG_get, List.getElem?_set]
  by_cases hij : i = j
  · subst hij
    rw [if_pos rfl]
    by_cases hl : i < l.length
    · simp [hl]
    · simp [hl]
  · simp [hij]

/-- The block is a map of these. -/
def MapAt (w : World) (b : Nat) (l : KVs) : Prop := w.heap[b]? = some (.map (mapG l) l.length)

def SeesM (w0 : World) (R : Nat → Nat → Prop) (av : Nat → Prop) (bs : List (Nat × Nat)) (cs : List (List Value)) (F : Fx) (b : Nat) (l : KVs) : Prop := ∀ w, St w0 R av w bs cs F → MapAt w b l

theorem SeesM.row {b : Nat} {l : KVs} (h : (b, Row.m (mapG l) l.length) ∈ F.rs) : SeesM w0 R av bs cs F b l := fun w hst => (hst.rows _ h).1

theorem SeesM.fact {b : Nat} {l : KVs} (h : ∀ w, F.D w → MapAt w b l) : SeesM w0 R av bs cs F b l := fun w hst => h w hst.now

theorem Ent.shareM {D : World → Prop} {b : Nat} {l : KVs} {r1 r2 : List (Nat × Row)} : Ent ⟨D, r1 ++ [(b, Row.m (mapG l) l.length)] ++ r2⟩ ⟨fun w => D w ∧ MapAt w b l, r1 ++ r2⟩ := by
  intro w0 R av w bs cs hst
  have hm : (b, Row.m (mapG l) l.length) ∈ r1 ++ [(b, Row.m (mapG l) l.length)] ++ r2 := by simp
  have hb : MapAt w b l := (hst.rows _ hm).1
  have hsub : (r1 ++ r2).Sublist (r1 ++ [(b, Row.m (mapG l) l.length)] ++ r2) := by
    rw [List.append_assoc]
    exact List.Sublist.append (List.Sublist.refl _) (List.sublist_append_right _ _)
  have h2 := hst.imp (F' := ⟨D, r1 ++ r2⟩) ⟨hsub, fun w h => h⟩
  have hnd := hst.nd
  refine ⟨h2.keep, h2.box, h2.nd, h2.own, h2.avlt, h2.rows, h2.data.and ?_⟩
  refine Holds.block b (lt_of_some hb) ?_ (fun w' hw => by unfold MapAt; rw [hw]; exact hb)
  simp only [List.map_append, List.map_cons, List.map_nil, List.nodup_append] at hnd
  obtain ⟨nb, ⟨⟨n1, n0, n10⟩, n2, n12⟩, nbr⟩ := hnd
  rintro (ha | ⟨x, hx, he⟩ | ⟨r, hr, he⟩)
  · rcases (hst.rows _ hm).2 with h | ⟨hna, _⟩
    · have := hst.avlt b ha
      simp at h
      omega
    · exact hna ha
  · exact nbr x.1 (List.mem_map.2 ⟨x, hx, rfl⟩) b (by simp) he
  · rcases List.mem_append.1 hr with hr | hr
    · exact n10 r.1 (List.mem_map.2 ⟨r, hr, rfl⟩) b (by simp) he
    · exact n12 b (by simp) r.1 (List.mem_map.2 ⟨r, hr, rfl⟩) he.symm

section keys
variable {d : TypeDesc} {k : Value}

/-- Where a key stands. -/
theorem findNow_map (hk : MapKept.IsKey d k) {l : KVs} (hl : ∀ p ∈ l, MapKept.IsKey d p.1) :
    (∃ i v, l[i]? = some (k, v) ∧ Instr.findNow d k (mapG l).toList 0 = some (some (i, v))) ∨ ((∀ p ∈ l, p.1 ≠ k) ∧ Instr.findNow d k (mapG l).toList 0 = some none) := by
  have hk' : ∀ x ∈ (mapG l).toList, MapKept.IsKey d x.key := fun x hx => by
    obtain ⟨i, p, h1, rfl⟩ := mapG_mem hx
    exact hl p (List.mem_of_getElem? h1)
  rcases MapKept.findNow_spec hk (mapG l).toList 0 hk' with ⟨h1, h2⟩ | ⟨j, e, h1, h2, h3⟩
  · refine .inr ⟨fun p hp => ?_, h1⟩
    obtain ⟨i, hi⟩ := List.mem_iff_getElem?.1 hp
    have : (mapG l).toList[i]? = some ⟨p.1, p.2, i⟩ := by rw [mapG_get, hi]; rfl
    exact h2 _ (List.mem_of_getElem? this)
  · rw [mapG_get] at h2
    cases hp : l[j]? with
    | none => rw [hp] at h2; cases h2
    | some p =>
      rw [hp] at h2
      cases h2
      obtain ⟨p1, p2⟩ := p
      have h3 : p1 = k := h3
      subst h3
      rw [Nat.zero_add] at h1
      exact .inl ⟨j, p2, hp, h1⟩

end keys

def keyT : TK → Option TypeDesc
  | .int k => some (.int k)
  | .str => some .string
  | _ => none

theorem key_of {t : TypeDesc} {d : TypeDesc} (h : keyT (mkTK t) = some d) : t = d := by
  cases t <;> simp [mkTK, keyT] at h <;> exact h

/-- m[k] and v, ok := m[k]: the key is there. -/
theorem XRead.lookupIn (hT : TabOk P tab) {t kt et : TypeId} {ti tk : TI} (ht : look tab t = some ti) (hk : ti.k = .map kt et) (hkt : look tab kt = some tk) {d : TypeDesc} (hd : keyT tk.k = some d) {b : Nat} {l : KVs} {k v : Value} {ok : Bool} {K : Value → Prop}
    (hm : SeesM w0 R av bs cs F b l) (hkk : MapKept.IsKey d k) (hl : ∀ p ∈ l, MapKept.IsKey d p.1) (hv : ∀ (i : Nat) u, l[i]? = some (k, u) → u = v) (hin : ∃ p ∈ l, p.1 = k)
    (h : K (if ok then .tuple #[v, .bool true] else v)) :
    XRead P w0 R av (Instr.lookup t (.map (some b)) k ok) bs cs F K := by
  refine (XRead_iff _ _ _ _).2 ⟨_, fun w hst => ?_, h⟩
  obtain ⟨i1, d1, z1, p1, p2, p3, p4, p5, p6, p7, p8⟩ := mkTI_parts (hT _ _ ht)
  obtain ⟨i2, d2, z2, q1, q2, q3, q4, q5, q6, q7, q8⟩ := mkTI_parts (hT _ _ hkt)
  rw [p4] at hk
  obtain rfl := map_of hk
  rw [q4] at hd
  obtain rfl := key_of hd
  have hb : w.heap[b]? = some (.map (mapG l) l.length) := hm w hst
  have hck : (Instr.checkKey (mapG l).isEmpty 10000 kt k).run P w = .ok () w := MapKept.run_checkKey q2 hkk _ 9999
  rcases findNow_map hkk hl with ⟨i, u, h1, h2⟩ | ⟨h1, h2⟩
  · have hf := MapKept.run_findKey (w := w) q2 h2
    have := hv i u h1
    subst this
    cases ok <;> simp [Instr.lookup, run_underlying p2, MapKept.run_getObj_map hb, hck, hf, Result.andThen]
  · obtain ⟨p, hp, he⟩ := hin
    exact absurd he (h1 p hp)

/-- The key is not there. -/
theorem XRead.lookupNo (hT : TabOk P tab) {t kt et : TypeId} {ti tk : TI} (ht : look tab t = some ti) (hk : ti.k = .map kt et) (hkt : look tab kt = some tk) {d : TypeDesc} (hd : keyT tk.k = some d) {b : Nat} {l : KVs} {k z : Value} {ok : Bool} {K : Value → Prop}
    (hm : SeesM w0 R av bs cs F b l) (hkk : MapKept.IsKey d k) (hl : ∀ p ∈ l, MapKept.IsKey d p.1) (hno : ∀ p ∈ l, p.1 ≠ k) (hz : (P.info? et).bind (·.zero) = some z)
    (h : K (if ok then .tuple #[z, .bool false] else z)) :
    XRead P w0 R av (Instr.lookup t (.map (some b)) k ok) bs cs F K := by
  refine (XRead_iff _ _ _ _).2 ⟨_, fun w hst => ?_, h⟩
  obtain ⟨i1, d1, z1, p1, p2, p3, p4, p5, p6, p7, p8⟩ := mkTI_parts (hT _ _ ht)
  obtain ⟨i2, d2, z2, q1, q2, q3, q4, q5, q6, q7, q8⟩ := mkTI_parts (hT _ _ hkt)
  rw [p4] at hk
  obtain rfl := map_of hk
  rw [q4] at hd
  obtain rfl := key_of hd
  have hb : w.heap[b]? = some (.map (mapG l) l.length) := hm w hst
  have hck : (Instr.checkKey (mapG l).isEmpty 10000 kt k).run P w = .ok () w := MapKept.run_checkKey q2 hkk _ 9999
  rcases findNow_map hkk hl with ⟨i, u, h1, h2⟩ | ⟨h1, h2⟩
  · exact absurd rfl (hno _ (List.mem_of_getElem? h1))
  · have hf := MapKept.run_findKey (w := w) q2 h2
    have hzv : (zeroValue et).run P w = .ok z w := by
      cases hi : P.info? et with
      | none => rw [hi] at hz; cases hz
      | some i3 =>
        rw [hi] at hz
        exact run_zero hi hz w
    cases ok <;> simp [Instr.lookup, run_underlying p2, MapKept.run_getObj_map hb, hck, hf, hzv, Result.andThen]

theorem XVal.makeMapG {t : TypeId} {K : KV} (h : ∀ b, K (.map (some b)) bs cs ⟨F.D, F.rs ++ [(b, Row.m (mapG []) ([] : KVs).length)]⟩) : XVal P w0 R av (Instr.makeMap t none) bs cs F K := XVal.makeMap h

/-- m[k] = v: a new key. -/
theorem XUnit.mapNew (hT : TabOk P tab) {t kt et : TypeId} {ti tk : TI} (ht : look tab t = some ti) (hk : ti.k = .map kt et) (hkt : look tab kt = some tk) {d : TypeDesc} (hd : keyT tk.k = some d)
    {D : World → Prop} {r1 r2 : List (Nat × Row)} {b : Nat} {l : KVs} {k v : Value} {K : KU} (hkk : MapKept.IsKey d k) (hl : ∀ p ∈ l, MapKept.IsKey d p.1) (hno : ∀ p ∈ l, p.1 ≠ k)
    (h : K bs cs ⟨D, r1 ++ [(b, Row.m (mapG (l ++ [(k, v)])) (l ++ [(k, v)]).length)] ++ r2⟩) :
    XUnit P w0 R av (Instr.mapUpdate t (.map (some b)) k v) bs cs ⟨D, r1 ++ [(b, Row.m (mapG l) l.length)] ++ r2⟩ K := by
  refine XUnit_iff.2 fun w hst => ?_
  obtain ⟨i1, d1, z1, p1, p2, p3, p4, p5, p6, p7, p8⟩ := mkTI_parts (hT _ _ ht)
  obtain ⟨i2, d2, z2, q1, q2, q3, q4, q5, q6, q7, q8⟩ := mkTI_parts (hT _ _ hkt)
  rw [p4] at hk
  obtain rfl := map_of hk
  rw [q4] at hd
  obtain rfl := key_of hd
  have hb : w.heap[b]? = some (.map (mapG l) l.length) := (hst.rows (b, Row.m (mapG l) l.length) (by simp)).1
  have hck : (Instr.checkKey false 10000 kt k).run P w = .ok () w := MapKept.run_checkKey q2 hkk _ 9999
  have h2 : Instr.findNow d2 k (mapG l).toList 0 = some none := by
    rcases findNow_map hkk hl with ⟨i, u, h1, _⟩ | ⟨_, h2⟩
    · exact absurd rfl (hno _ (List.mem_of_getElem? h1))
    · exact h2
  have hf := MapKept.run_findKey (w := w) q2 h2
  obtain ⟨g1, g2⟩ := MapKept.heap_set (o' := .map (mapG (l ++ [(k, v)])) (l ++ [(k, v)]).length) hb
  refine ⟨{ w with heap := w.heap.setIfInBounds b (.map (mapG (l ++ [(k, v)])) (l ++ [(k, v)]).length) }, [], cs, _, ?_, ?_, by rw [List.append_nil]; exact h⟩
  · rw [mapG_snoc]
    simp [Instr.mapUpdate, run_underlying p2, MapKept.run_getObj_map hb, hck, hf, MapKept.run_setObj_map _ hb, Result.andThen]
  · rw [List.append_nil]
    exact hst.putRow (C' := Row.m (mapG (l ++ [(k, v)])) (l ++ [(k, v)]).length) rfl rfl rfl (by simp) g2 g1 fun l hl => by cases hl

/-- m[k] = v: a key that is there. -/
theorem XUnit.mapOld (hT : TabOk P tab) {t kt et : TypeId} {ti tk : TI} (ht : look tab t = some ti) (hk : ti.k = .map kt et) (hkt : look tab kt = some tk) {d : TypeDesc} (hd : keyT tk.k = some d)
    {D : World → Prop} {r1 r2 : List (Nat × Row)} {b : Nat} {l : KVs} {k v : Value} {K : KU} (hkk : MapKept.IsKey d k) (hl : ∀ p ∈ l, MapKept.IsKey d p.1) (hin : ∃ p ∈ l, p.1 = k)
    (h : ∀ i u, l[i]? = some (k, u) → K bs cs ⟨D, r1 ++ [(b, Row.m (mapG (l.set i (k, v))) (l.set i (k, v)).length)] ++ r2⟩) :
    XUnit P w0 R av (Instr.mapUpdate t (.map (some b)) k v) bs cs ⟨D, r1 ++ [(b, Row.m (mapG l) l.length)] ++ r2⟩ K := by
  refine XUnit_iff.2 fun w hst => ?_
  obtain ⟨i1, d1, z1, p1, p2, p3, p4, p5, p6, p7, p8⟩ := mkTI_parts (hT _ _ ht)
  obtain ⟨i2, d2, z2, q1, q2, q3, q4, q5, q6, q7, q8⟩ := mkTI_parts (hT _ _ hkt)
  rw [p4] at hk
  obtain rfl := map_of hk
  rw [q4] at hd
  obtain rfl := key_of hd
  have hb : w.heap[b]? = some (.map (mapG l) l.length) := (hst.rows (b, Row.m (mapG l) l.length) (by simp)).1
  have hck : (Instr.checkKey false 10000 kt k).run P w = .ok () w := MapKept.run_checkKey q2 hkk _ 9999
  rcases findNow_map hkk hl with ⟨i, u, h1, h2⟩ | ⟨h1, _⟩
  · have hf := MapKept.run_findKey (w := w) q2 h2
    have e1 : (mapG l)[i]? = some ⟨k, u, i⟩ := by
      have := mapG_get l i
      rw [h1] at this
      simpa using this
    have hst2 : (Instr.keyThatStays k k).run P w = .ok k w := MapKept.run_keyThatStays hkk
    obtain ⟨g1, g2⟩ := MapKept.heap_set (o' := .map (mapG (l.set i (k, v))) (l.set i (k, v)).length) hb
    refine ⟨{ w with heap := w.heap.setIfInBounds b (.map (mapG (l.set i (k, v))) (l.set i (k, v)).length) }, [], cs, _, ?_, ?_, by rw [List.append_nil]; exact h i u h1⟩
    · rw [← mapG_set]
      simp [Instr.mapUpdate, run_underlying p2, MapKept.run_getObj_map hb, hck, hf, e1, hst2, MapKept.run_setObj_map _ hb, Result.andThen]
    · rw [List.append_nil]
      exact hst.putRow (C' := Row.m (mapG (l.set i (k, v))) (l.set i (k, v)).length) rfl rfl rfl (by simp) g2 g1 fun l hl => by cases hl
  · obtain ⟨p, hp, he⟩ := hin
    exact absurd he (h1 p hp)

/-! ### going through a map -/

/-- An iterator that has handed out the entries at these places. -/
def iterO (b n : Nat) (seen : List Nat) : Obj := .mapIter (some b) n seen.toArray n

theorem St.newObj {w : World} (h : St w0 R av w bs cs F) (x : Obj) : St w0 R av { w with heap := w.heap.push x } bs cs ⟨F.D, F.rs ++ [(w.heap.size, Row.o x)]⟩ := by
  have hk : Keep w { w with heap := w.heap.push x } :=
    keep_of_heap rfl rfl rfl (by simp) (fun b hb => by simp [Array.getElem?_push, Nat.ne_of_lt hb])
  refine (h.kept (F' := ⟨fun _ => True, [(w.heap.size, Row.o x)]⟩) hk ⟨fun r hr => ?_, by simp, .pure trivial⟩).ent (Ent.imp fun w h => h.1)
  simp at hr
  subst hr
  exact ⟨by simp [RowIs], Nat.le_refl _⟩

theorem XVal.rangeMap (hT : TabOk P tab) {t kt et : TypeId} {ti : TI} (ht : look tab t = some ti) (hk : ti.k = .map kt et) {b : Nat} {l : KVs} {K : KV} (hm : SeesM w0 R av bs cs F b l)
    (h : ∀ r, K (.pointer (some ⟨r, 0, none⟩)) bs cs ⟨F.D, F.rs ++ [(r, Row.o (iterO b l.length []))]⟩) : XVal P w0 R av (Instr.range t (.map (some b))) bs cs F K := by
  refine XVal_iff.2 fun w hst => ?_
  obtain ⟨i1, d1, z1, p1, p2, p3, p4, p5, p6, p7, p8⟩ := mkTI_parts (hT _ _ ht)
  rw [p4] at hk
  obtain rfl := map_of hk
  have hb : w.heap[b]? = some (.map (mapG l) l.length) := hm w hst
  refine ⟨_, _, [], cs, _, ?_, by rw [List.append_nil]; exact hst.newObj (iterO b l.length []), by rw [List.append_nil]; exact h _⟩
  simp [Instr.range, run_underlying p2, MapKept.run_getObj_map hb, Result.andThen, iterO, newObj, Sem.run]

theorem setBlock_row {w w1 : World} {D : World → Prop} {r1 r2 : List (Nat × Row)} {r : Nat} {x x' : Obj} (hx : ∀ c e f, x ≠ .cells c e f) (h : St w0 R av w bs cs ⟨D, r1 ++ [(r, Row.o x)] ++ r2⟩) (hw : w1 = w ∨ w1 = w.drew) :
    St w0 R av (Go.ChangeMaps.setBlock w1 r x') bs cs ⟨D, r1 ++ [(r, Row.o x')] ++ r2⟩ := by
  have hb : w.heap[r]? = some x := (h.rows (r, Row.o x) (by simp)).1
  obtain ⟨g1, g2⟩ := MapKept.heap_set (o' := x') hb
  rcases hw with rfl | rfl
  · exact h.putRow (C' := Row.o x') rfl rfl rfl (by simp [Go.ChangeMaps.setBlock]) g2 g1 fun l hl => by cases hl
  · exact (h.drew).putRow (C' := Row.o x') rfl rfl rfl (by simp [Go.ChangeMaps.setBlock]) g2 g1 fun l hl => by cases hl

theorem XVal.nextMap {ty : TypeId} {b r : Nat} {l : KVs} {D : World → Prop} {r1 r2 : List (Nat × Row)} {seen : List Nat} {K : KV} (hm : SeesM w0 R av bs cs ⟨D, r1 ++ [(r, Row.o (iterO b l.length seen))] ++ r2⟩ b l)
    (h0 : (∀ i, i < l.length → i ∈ seen) → K (.tuple #[.bool false]) bs cs ⟨D, r1 ++ [(r, Row.o (iterO b l.length seen))] ++ r2⟩)
    (h1 : ∀ i k v, l[i]? = some (k, v) → i ∉ seen → K (.tuple #[.bool true, k, v]) bs cs ⟨D, r1 ++ [(r, Row.o (iterO b l.length (seen ++ [i])))] ++ r2⟩) :
    XVal P w0 R av (Instr.next (.pointer (some ⟨r, 0, none⟩)) false ty) bs cs ⟨D, r1 ++ [(r, Row.o (iterO b l.length seen))] ++ r2⟩ K := by
  refine XVal_iff.2 fun w hst => ?_
  have hb : w.heap[b]? = some (.map (mapG l) l.length) := hm w hst
  have hr : w.heap[r]? = some (.mapIter (some b) l.length seen.toArray l.length) := (hst.rows (r, Row.o (iterO b l.length seen)) (by simp)).1
  rcases run_next_at (P := P) w ty r b l.length l.length seen.toArray (mapG l) l.length hr hb (fun x hx => by
    obtain ⟨i, p, h1, rfl⟩ := mapG_mem hx
    exact (List.getElem?_eq_some_iff.1 h1).1) (Nat.le_refl _) with ⟨g1, g2⟩ | ⟨e, he, w1, hw1, g2⟩
  · refine ⟨_, w, [], cs, _, g2, by rw [List.append_nil]; exact hst, ?_⟩
    rw [List.append_nil]
    refine h0 fun i hi => ?_
    apply Decidable.byContradiction
    intro hn
    have hz : leftOf (mapG l) seen.toArray = #[] := Array.eq_empty_of_size_eq_zero g1
    unfold leftOf at hz
    rw [Array.filter_eq_empty_iff] at hz
    have hmem : (⟨l[i].1, l[i].2, i⟩ : MapEntry) ∈ mapG l := by
      rw [← Array.mem_toList_iff]
      refine List.mem_of_getElem? (i := i) ?_
      rw [mapG_get, List.getElem?_eq_getElem hi]
      rfl
    have := hz _ hmem
    simp at this
    exact hn this
  · unfold leftOf at he
    have he' : e ∈ mapG l ∧ ¬ e.born ∈ seen := by
      rw [Array.mem_toList_iff, Array.mem_filter] at he
      simpa using he
    obtain ⟨i, p, h2, rfl⟩ := mapG_mem (Array.mem_toList_iff.2 he'.1)
    refine ⟨_, _, [], cs, _, g2, ?_, by rw [List.append_nil]; exact h1 i p.1 p.2 h2 he'.2⟩
    rw [List.append_nil]
    have e1 : iterO b l.length (seen ++ [i]) = .mapIter (some b) l.length (seen.toArray.push i) l.length := by simp [iterO]
    rw [e1]
    exact setBlock_row (x := iterO b l.length seen) (fun c e f => by simp [iterO]) hst hw1

theorem XRead.entryMap {b r : Nat} {l : KVs} {seen : List Nat} {i : Nat} {k v : Value} {K : Value → Prop} (hi : l[i]? = some (k, v)) (hm : SeesM w0 R av bs cs F b l) (hr : (r, Row.o (iterO b l.length (seen ++ [i]))) ∈ F.rs)
    (h : K (.tuple #[k, v])) : XRead P w0 R av (Instr.entry (.pointer (some ⟨r, 0, none⟩))) bs cs F K := by
  refine (XRead_iff _ _ _ _).2 ⟨_, fun w hst => ?_, h⟩
  have hb : w.heap[b]? = some (.map (mapG l) l.length) := hm w hst
  have hr' : w.heap[r]? = some (.mapIter (some b) l.length (seen.toArray.push i) l.length) := by
    have := (hst.rows _ hr).1
    simpa [RowIs, iterO] using this
  have he : (⟨k, v, i⟩ : MapEntry) ∈ (mapG l).toList := by
    refine List.mem_of_getElem? (i := i) ?_
    rw [mapG_get, hi]
    rfl
  exact run_entry_at w r b l.length seen.toArray (mapG l) l.length ⟨k, v, i⟩ hr' hb he (by rw [mapG_born]; exact List.nodup_range)

end Go.Sx
namespace Go.Sx
open Go
set_option linter.unusedVariables false
set_option linter.unusedSimpArgs false

/-- The byte at a place. -/
def byt (l : List UInt8) (i : Nat) : Nat := (l.getD i 0).toNat

theorem byt_lt (l : List UInt8) (i : Nat) : byt l i < 256 := UInt8.toNat_lt _

theorem byt_get {l : List UInt8} {i : Nat} (h : i < l.length) : byt l i = l[i].toNat := by
  unfold byt
  rw [List.getD_eq_getElem?_getD, List.getElem?_eq_getElem h]
  rfl

theorem byt_ext {l m : List UInt8} (hl : l.length = m.length) (h : ∀ i, i < l.length → byt l i = byt m i) : l = m := by
  apply List.ext_getElem hl
  intro i h1 h2
  have := h i h1
  rw [byt_get h1, byt_get h2] at this
  exact UInt8.toNat_inj.1 this

theorem byteV_get {l : List UInt8} {i : Nat} (h : i < l.length) : byteV l[i] = .int .u8 (byt l i : Int) := by
  rw [byt_get h]
  rfl

theorem tdiv_nat (i n : Nat) : Int.tdiv (i : Int) (n : Int) = ((i / n : Nat) : Int) := by
  rw [Int.tdiv_eq_ediv_of_nonneg (by omega)]
  rfl

theorem tmod_nat (i n : Nat) : Int.tmod (i : Int) (n : Int) = ((i % n : Nat) : Int) := by
  rw [Int.tmod_eq_emod_of_nonneg (by omega)]
  rfl

theorem wdiv (i n : Nat) (h : i ≤ 4611686018427387904) : IntKind.i64.wrap (Int.tdiv (i : Int) (n : Int)) = ((i / n : Nat) : Int) := by
  have := Nat.div_le_self i n
  rw [tdiv_nat]
  generalize i / n = m at *
  rw [wrap_i64 (by omega)]

/-- A byte takes another value. -/
def bput (l : List UInt8) (k m : Nat) : List UInt8 := l.set k (UInt8.ofNat m)

theorem bput_len (l : List UInt8) (k m : Nat) : (bput l k m).length = l.length := by simp [bput]

theorem byt_bput {l : List UInt8} {k m : Nat} (hk : k < l.length) (hm : m < 256) (j : Nat) : byt (bput l k m) j = if j = k then m else byt l j := by
  unfold byt bput
  rw [List.getD_eq_getElem?_getD, List.getD_eq_getElem?_getD, List.getElem?_set]
  by_cases h : k = j
  · subst h
    simp [hk]
    omega
  · rw [if_neg h, if_neg (fun e => h e.symm)]

theorem map_set (l : List UInt8) (k : Nat) (x : UInt8) : (l.set k x).map byteV = (l.map byteV).set k (byteV x) := by
  apply List.ext_getElem?
  intro i
  simp only [List.getElem?_map, List.getElem?_set, List.length_map]
  split
  · split <;> simp
  · rfl

theorem laid_byte {l : List UInt8} {Z : List Value} {k : Nat} (hk : k < l.length) (m : Nat) (hm : m < 256) : laid (l.map byteV ++ Z) k [.int .u8 (m : Int)] = (bput l k m).map byteV ++ Z := by
  have hx : byteV (UInt8.ofNat m) = .int .u8 (m : Int) := by
    unfold byteV
    have : (UInt8.ofNat m).toNat = m := by simp; omega
    rw [this]
  apply List.ext_getElem?
  intro j
  rw [laid_get (by simp; omega)]
  unfold bput
  rw [map_set, hx]
  by_cases hj : j = k
  · subst hj
    rw [if_pos (by simp), List.getElem?_append_left (by simp; omega)]
    simp [hk]
  · rw [if_neg (by simp; omega)]
    by_cases hl : j < l.length
    · rw [List.getElem?_append_left (by simpa using hl), List.getElem?_append_left (by simpa using hl), List.getElem?_set_ne (fun e => hj e.symm)]
    · rw [List.getElem?_append_right (by simp; omega), List.getElem?_append_right (by simp; omega)]
      simp

/-- A part of a slice. -/
def Hd.sub (h : Hd) (l : Nat) : Hd := ⟨cutA h.a l h.c 1, h.c - l⟩

/-- The bytes from a place on. -/
def cut (d : List UInt8) (l k : Nat) : List UInt8 := (d.drop l).take k

theorem cut_len {d : List UInt8} {l k : Nat} (h : l + k ≤ d.length) : (cut d l k).length = k := by simp [cut]; omega

theorem byt_cut {d : List UInt8} {l k : Nat} (h : l + k ≤ d.length) {i : Nat} (hi : i < k) : byt (cut d l k) i = byt d (l + i) := by
  unfold byt cut
  rw [List.getD_eq_getElem?_getD, List.getD_eq_getElem?_getD, List.getElem?_take, if_pos hi, List.getElem?_drop]

theorem cut_cut {d : List UInt8} {a n r m : Nat} (h : r + m ≤ n) : cut (cut d a n) r m = cut d (a + r) m := by
  unfold cut
  rw [List.drop_take, List.take_take, List.drop_drop, Nat.min_eq_left (by omega)]

theorem By.sub {w : World} {h : Hd} {d : List UInt8} (hb : By w h d) {l k : Nat} (hl : l + k ≤ h.c) : By w (Hd.sub h l) (cut d l k) := by
  have := RowAt.cut (l := l) (hi := l + k) (m := h.c) (size := 1) hb ⟨by omega, hl⟩
  rw [Nat.mul_one, Nat.add_sub_cancel_left, Nat.mul_one] at this
  unfold By Hd.sub cut
  rw [List.map_take, List.map_drop]
  exact this

theorem Hd.sub_ok {h : Hd} {m l k : Nat} (hh : h.Ok m) (hl : l + k ≤ m) : (Hd.sub h l).Ok k := by
  have := hh.cap
  refine ⟨fun h0 => ?_, by unfold Hd.sub; dsimp only; omega⟩
  have := hh.nil (cutA_none h0)
  omega

variable {P : Program} {tab : Tab} {w0 : World} {R : Nat → Nat → Prop} {av : Nat → Prop} {bs : List (Nat × Nat)} {cs : List (List Value)} {F : Fx}

theorem XRead.byteLd' (hT : TabOk P tab) {t : TypeId} {ti : TI} (ht : Sx.look tab t = some ti) (hk : ti.k.agg = false) {a : Option Addr} {ad p : Addr} {l : List UInt8} {j : Nat} {K : Value → Prop} (had : a = some ad)
    (hs : Sees w0 R av bs cs F a (l.map byteV)) (hp : p = ad.add j) (hj : j < l.length) (hK : K (.int .u8 (byt l j : Int))) : XRead P w0 R av (Instr.loadAt t (.pointer (some p))) bs cs F K := by
  subst had
  refine XRead.load hT ht hk hs hp (v := byteV l[j]) (by simp [hj]) ?_
  rw [byteV_get hj]
  exact hK

theorem Sees.bytes {b : Nat} {l : List UInt8} {Z : List Value} (h : (b, Row.c (l.map byteV ++ Z)) ∈ F.rs) : Sees w0 R av bs cs F (some ⟨b, 0, none⟩) (l.map byteV) :=
  ((Sees.row h).take l.length).eq (by
    have e : l.length = (l.map byteV).length := by simp
    rw [e, List.take_left])

theorem XUnit.storeByte (hT : TabOk P tab) {t : TypeId} {ti : TI} (ht : look tab t = some ti) (hsz : ti.size = 1) {D : World → Prop} {r1 r2 : List (Nat × Row)} {b k : Nat} {l : List UInt8} {Z : List Value} {n : Int} {p : Addr} {K : KU} (m : Nat) (hp : p = ⟨b, k, none⟩)
    (hn : n = (m : Int)) (hm : m < 256) (hk : k < l.length) (h : K bs cs ⟨D, r1 ++ [(b, Row.c ((bput l k m).map byteV ++ Z))] ++ r2⟩) :
    XUnit P w0 R av (Instr.storeAt t (.pointer (some p)) (.int .u8 n)) bs cs ⟨D, r1 ++ [(b, Row.c (l.map byteV ++ Z))] ++ r2⟩ K := by
  subst hn
  refine XUnit.storeIn hT ht (k := k) hp (by simp [Value.cells, hsz]) (by simp [Value.cells, oneCell]) (by rw [hsz]; simp; omega) ?_
  have : (Value.int .u8 (m : Int)).cells.toList = [.int .u8 (m : Int)] := rfl
  rw [this, laid_byte hk m hm]
  exact h

theorem Own.split {n b cap : Nat} {C L : List Value} (h : Own 1 n (some ⟨b, 0, none⟩) cap C L) : ∃ Z, C = L ++ Z ∧ Z.length = cap - n ∧ n ≤ cap := by
  rcases h.alt with ⟨h1, _⟩ | ⟨b', _, h2, h3⟩
  · cases h1
  · rw [Nat.mul_one] at h2 h3
    refine ⟨C.drop n, ?_, by simp; omega, h.fit⟩
    rw [← h3, List.take_append_drop]

/-- append([]byte{}, x...): a row of the function's own. -/
theorem XVal.copyBytes (hT : TabOk P tab) {t xt ty : TypeId} {ti tx te : TI} {e xe : TypeId} (ht : look tab t = some ti) (hk : ti.k = .slice e) (hx : look tab xt = some tx) (hxk : tx.k = .slice xe) (he : look tab e = some te)
    (hsz : te.size = 1) (hzl : te.zero.length = 1) (hby : te.bytes = 1) {a p : Option Addr} {cx : Nat} {l : List UInt8} {K : KV} (hM : Sees w0 R av bs cs F p (l.map byteV)) (h0 : 0 < l.length) (hlen : l.length ≤ 1000000)
    (h : ∀ b cap Z, l.length ≤ cap → Z.length = cap - l.length → K (.slice (some ⟨b, 0, none⟩) l.length cap) bs cs ⟨F.D, F.rs ++ [(b, Row.c (l.map byteV ++ Z))]⟩) :
    XVal P w0 R av (Builtin.append_ #[t, xt] ty #[.slice a 0 0, .slice p l.length cx]) bs cs F K := by
  refine XVal.appendNew hT ht hk hx hxk he (by rw [hzl, hsz]) (L := []) (fun w _ => RowAt.none' _) (by simp) hM (by simp [hsz]) (by omega) (by omega) (by rw [hby]; omega) fun b cap' C' hO => ?_
  rw [hsz] at hO
  obtain ⟨Z, rfl, hZ, hfit⟩ := Own.split hO
  rw [Nat.zero_add] at hZ hfit ⊢
  rw [List.nil_append]
  exact h b cap' Z hfit hZ

theorem addr0 (b j : Nat) : (⟨b, 0, none⟩ : Addr).add j = ⟨b, j, none⟩ := by rw [Addr.add_none, Nat.zero_add]

/-- s[i]'s address in a row of one-cell elements. -/
theorem XRead.rowIx (hT : TabOk P tab) {t : TypeId} {ti te : TI} {e : TypeId} (ht : look tab t = some ti) (hk : ti.k = .slice e) (he : look tab e = some te) (hsz : te.size = 1) {b n c : Nat} {k : IntKind} {i : Int} {K : Value → Prop}
    (j : Nat) (hj : i = (j : Int)) (h1 : j < n) (h : K (.pointer (some ⟨b, j, none⟩))) : XRead P w0 R av (Instr.indexAt t (.slice (some ⟨b, 0, none⟩) n c) (.int k i)) bs cs F K := by
  subst hj
  refine XRead.index hT ht hk he (by omega) (by omega) (fun h => by cases h) fun ad had => ?_
  cases had
  rw [hsz, Nat.mul_one, Int.toNat_natCast, addr0]
  exact h

theorem XRead.rowLd (hT : TabOk P tab) {t : TypeId} {ti : TI} (ht : look tab t = some ti) (hk : ti.k.agg = false) {b j : Nat} {l : List UInt8} {K : Value → Prop}
    (hs : Sees w0 R av bs cs F (some ⟨b, 0, none⟩) (l.map byteV)) (hj : j < l.length) (hK : K (.int .u8 (byt l j : Int))) : XRead P w0 R av (Instr.loadAt t (.pointer (some ⟨b, j, none⟩))) bs cs F K :=
  XRead.byteLd' hT ht hk rfl hs (by rw [addr0]) hj hK

/-- A row of bytes is handed back, as a fact. -/
theorem Ent.giveB {D : World → Prop} {r1 r2 : List (Nat × Row)} {b : Nat} {l : List UInt8} {Z : List Value} : Ent ⟨D, r1 ++ [(b, Row.c (l.map byteV ++ Z))] ++ r2⟩ ⟨fun w => RowAt w (some ⟨b, 0, none⟩) (l.map byteV), []⟩ := by
  have h1 : Ent ⟨D, r1 ++ [(b, Row.c (l.map byteV ++ Z))] ++ r2⟩ ⟨D, [(b, Row.c (l.map byteV ++ Z))]⟩ := Ent.of_le ⟨?_, fun w h => h⟩
  refine h1.trans (Ent.share1.trans (Ent.imp fun w h => ?_))
  rotate_left
  · rw [List.append_assoc]
    exact (List.sublist_append_left _ _).trans (List.sublist_append_right _ _)
  have := h.2.take l.length
  have e : l.length = (l.map byteV).length := by simp
  rw [e, List.take_left] at this
  exact this

theorem relB_row {D : World → Prop} {r1 r2 : List (Nat × Row)} {b n c : Nat} {l : List UInt8} {Z : List Value} (hn : n = l.length) (hc : n ≤ c) : ∃ F', Ent ⟨D, r1 ++ [(b, Row.c (l.map byteV ++ Z))] ++ r2⟩ F' ∧ RelB l (.slice (some ⟨b, 0, none⟩) n c) F' := by
  subst hn
  exact ⟨⟨fun w => RowAt w (some ⟨b, 0, none⟩) (l.map byteV), []⟩, Ent.giveB, ⟨some ⟨b, 0, none⟩, c⟩, rfl, ⟨fun h => (by cases h), hc⟩, rfl⟩

/-- s[l:l+k] of bytes. -/
theorem XRead.sub2 (hT : TabOk P tab) {t : TypeId} {ti te : TI} {e : TypeId} (ht : look tab t = some ti) (hk : ti.k = .slice e) (he : look tab e = some te) (hsz : te.size = 1) {h : Hd} {n : Nat} {k1 k2 : IntKind} {lo hi : Int} {K : Value → Prop}
    (l k : Nat) (hl : lo = (l : Int)) (hh : hi = ((l + k : Nat) : Int)) (hle : l + k ≤ h.c) (hK : K ((Hd.sub h l).v k)) :
    XRead P w0 R av (Instr.sliceAt t (h.v n) (some (.int k1 lo)) (some (.int k2 hi)) none) bs cs F K := by
  subst hl hh
  refine XRead.slice hT ht hk he (lo := some _) (hi := some _) (mx := none) (k1 := k1) (k2 := k2) (k3 := .i64) l (l + k) h.c rfl rfl rfl (by omega) hle (Nat.le_refl _) (by simp) ?_
  rw [Nat.add_sub_cancel_left, hsz]
  exact hK

/-- s[:k] -/
theorem XRead.subTo (hT : TabOk P tab) {t : TypeId} {ti te : TI} {e : TypeId} (ht : look tab t = some ti) (hk : ti.k = .slice e) (he : look tab e = some te) {h : Hd} {n : Nat} {k2 : IntKind} {hi : Int} {K : Value → Prop}
    (k : Nat) (hh : hi = (k : Int)) (hle : k ≤ h.c) (hK : K (h.v k)) :
    XRead P w0 R av (Instr.sliceAt t (h.v n) none (some (.int k2 hi)) none) bs cs F K := by
  subst hh
  refine XRead.slice hT ht hk he (lo := none) (hi := some _) (mx := none) (k1 := .i64) (k2 := k2) (k3 := .i64) 0 k h.c rfl rfl rfl (by omega) hle (Nat.le_refl _) (by simp) ?_
  rw [cutA_zero, Nat.sub_zero, Nat.sub_zero]
  exact hK

/-- s[l:] -/
theorem XRead.subFrom (hT : TabOk P tab) {t : TypeId} {ti te : TI} {e : TypeId} (ht : look tab t = some ti) (hk : ti.k = .slice e) (he : look tab e = some te) (hsz : te.size = 1) {h : Hd} {n : Nat} {k1 : IntKind} {lo : Int} {K : Value → Prop}
    (l : Nat) (hl : lo = (l : Int)) (hle : l ≤ n) (hn : n ≤ h.c) (hK : K ((Hd.sub h l).v (n - l))) :
    XRead P w0 R av (Instr.sliceAt t (h.v n) (some (.int k1 lo)) none none) bs cs F K := by
  subst hl
  refine XRead.slice hT ht hk he (lo := some _) (hi := none) (mx := none) (k1 := k1) (k2 := .i64) (k3 := .i64) l n h.c rfl rfl rfl (by omega) hn (Nat.le_refl _) (by simp) ?_
  rw [hsz]
  exact hK

theorem PureSpec.weaken {f : FuncId} {vs : List Value} {Pre : World → Prop} {Rel Rel' : Value → Fx → Prop} (h : PureSpec P f vs Pre Rel) (hr : ∀ v F, Rel v F → ∃ F', Ent F F' ∧ Rel' v F') : PureSpec P f vs Pre Rel' := by
  unfold PureSpec at h ⊢
  refine ⟨h.1, fun av w hav hp => (h.2 av w hav hp).mono ?_⟩
  rintro e w' ⟨v, F, rfl, hk, hF, hR⟩
  obtain ⟨F', hE, hR'⟩ := hr v F hR
  have hst : St w (fun _ _ => False) av w' [] [] F := ⟨hk, trivial, by simpa using hF.nd, fun i hi => by simp at hi, hav, fun r hr => ⟨(hF.rows r hr).1, .inl (hF.rows r hr).2⟩,
    hF.data.less fun b hb => hb.elim .inl fun h => h.elim (fun ⟨x, hx, _⟩ => by simp at hx) .inr⟩
  exact ⟨v, F', rfl, hk, (hst.ent hE).fx fun b => ⟨0, id⟩, hR'⟩

/-- A row of bytes of the caller's own is handed back. -/
def RelO (l : List UInt8) (v : Value) (F : Fx) : Prop := ∃ b cap Z, v = .slice (some ⟨b, 0, none⟩) l.length cap ∧ l.length ≤ cap ∧ F = ⟨fun _ => True, [(b, Row.c (l.map byteV ++ Z))]⟩

theorem relO_row {D : World → Prop} {r1 r2 : List (Nat × Row)} {b n c : Nat} {l : List UInt8} {Z : List Value} (hn : n = l.length) (hc : n ≤ c) : ∃ F', Ent ⟨D, r1 ++ [(b, Row.c (l.map byteV ++ Z))] ++ r2⟩ F' ∧ RelO l (.slice (some ⟨b, 0, none⟩) n c) F' := by
  subst hn
  refine ⟨⟨fun _ => True, [(b, Row.c (l.map byteV ++ Z))]⟩, Ent.of_le ⟨?_, fun w h => trivial⟩, b, c, Z, rfl, hc, rfl⟩
  rw [List.append_assoc]
  exact (List.sublist_append_left _ _).trans (List.sublist_append_right _ _)

theorem PureSpec.ofO {f : FuncId} {vs : List Value} {Pre : World → Prop} {l : List UInt8} (h : PureSpec P f vs Pre (RelO l)) : PureSpec P f vs Pre (RelB l) :=
  h.weaken fun v F ⟨b, cap, Z, hv, hc, hF⟩ => by
    subst hv hF
    exact relB_row (r1 := []) (r2 := []) rfl hc

/-- Bytes laid over others. -/
def lay (l : List UInt8) (k : Nat) (m : List UInt8) : List UInt8 := l.take k ++ m ++ l.drop (k + m.length)

theorem lay_len {l m : List UInt8} {k : Nat} (h : k + m.length ≤ l.length) : (lay l k m).length = l.length := by
  simp [lay]
  omega

theorem byt_lay {l m : List UInt8} {k : Nat} (h : k + m.length ≤ l.length) (i : Nat) : byt (lay l k m) i = if k ≤ i ∧ i < k + m.length then byt m (i - k) else byt l i := by
  unfold byt lay
  simp only [List.getD_eq_getElem?_getD]
  by_cases h1 : i < k
  · rw [if_neg (by omega), List.append_assoc, List.getElem?_append_left (by simp; omega), List.getElem?_take, if_pos h1]
  · by_cases h2 : i < k + m.length
    · rw [if_pos (by omega), List.append_assoc, List.getElem?_append_right (by simp; omega), List.getElem?_append_left (by simp; omega)]
      congr 3
      simp
      omega
    · rw [if_neg (by omega), List.getElem?_append_right (by simp; omega), List.getElem?_drop]
      congr 3
      simp
      omega

theorem laid_bytes {l m : List UInt8} {Z : List Value} {k : Nat} (h : k + m.length ≤ l.length) : laid (l.map byteV ++ Z) k (m.map byteV) = (lay l k m).map byteV ++ Z := by
  unfold laid lay
  rw [List.take_append_of_le_length (by simp; omega), List.drop_append_of_le_length (by simp; omega)]
  simp [List.map_take, List.map_drop]

/-- copy(s, t) of bytes into a row of the function's own. -/
theorem XVal.copyB (hT : TabOk P tab) {t xt ty : TypeId} {ti te : TI} {e : TypeId} (ht : look tab t = some ti) (hk : ti.k = .slice e) (he : look tab e = some te) (hsz : te.size = 1) {D : World → Prop} {r1 r2 : List (Nat × Row)} {b k n c ml : Nat} {l m : List UInt8} {Z : List Value} {p : Addr}
    {q : Option Addr} {cx : Nat} {K : KV} (hp : p = ⟨b, k, none⟩) (hM : Sees w0 R av bs cs ⟨D, r1 ++ [(b, Row.c (l.map byteV ++ Z))] ++ r2⟩ q (m.map byteV)) (hml : m.length = ml) (hmn : ml ≤ n) (hle : k + ml ≤ l.length)
    (h : K (.int .i64 (ml : Int)) bs cs ⟨D, r1 ++ [(b, Row.c ((lay l k m).map byteV ++ Z))] ++ r2⟩) :
    XVal P w0 R av (Builtin.copy_ #[t, xt] ty #[.slice (some p) n c, .slice q ml cx]) bs cs ⟨D, r1 ++ [(b, Row.c (l.map byteV ++ Z))] ++ r2⟩ K := by
  subst hml
  have e1 : min m.length n = m.length := Nat.min_eq_left hmn
  refine XVal.copyIn hT ht hk he hp hM (by simp [hsz]) (fun v hv => byte_one v hv) (by rw [e1, hsz]; simp; omega) ?_
  rw [e1, hsz, Nat.mul_one, List.take_of_length_le (by simp), laid_bytes hle]
  exact h

theorem sub_row {b c l : Nat} (h : c ≠ l) : Hd.sub ⟨some ⟨b, 0, none⟩, c⟩ l = ⟨some ⟨b, l, none⟩, c - l⟩ := by
  unfold Hd.sub cutA
  rw [if_neg h]
  simp [Addr.add_none]

theorem byteV_of {n m : Nat} (h : n % 256 = m % 256) : byteV (UInt8.ofNat n) = .int .u8 ((m % 256 : Nat) : Int) := by
  unfold byteV
  have : (UInt8.ofNat n).toNat = n % 256 := by simp
  rw [this, h]

theorem wrap_u8 (n : Nat) : IntKind.u8.wrap (n : Int) = ((n % 256 : Nat) : Int) := by
  simp [IntKind.wrap, IntKind.bits, IntKind.signed]

theorem byte_u8 (n : Nat) : Value.int .u8 (IntKind.u8.wrap (n : Int)) = byteV (UInt8.ofNat n) := by
  rw [wrap_u8, byteV_of rfl]

end Go.Sx
