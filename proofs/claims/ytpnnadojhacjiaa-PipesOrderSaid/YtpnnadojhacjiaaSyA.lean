/- Symbolic execution, part SyA: a call walked in place; maps; writes into rows of the function's own. -/
import Derived.Test.YtpnnadojhacjiaaSxY
import Derived.MapKept
namespace Go.Sx
open Go
set_option linter.unusedVariables false
variable {P : Program} {tab : Tab} {w0 : World} {R : Nat → Nat → Prop} {av : Nat → Prop} {bs : List (Nat × Nat)} {cs : List (List Value)} {F : Fx}

/-- Back from a call that was walked in place. -/
structure XBack (bs bs' : List (Nat × Nat)) (K : Prop) : Prop where
  ext : ∃ e, bs' = bs ++ e
  rest : K

theorem XBack.of {K : Prop} (e : List (Nat × Nat)) (h : K) : XBack bs (bs ++ e) K := ⟨⟨e, rfl⟩, h⟩

/-- The callee's first slots. -/
def argsK (bs : List (Nat × Nat)) : List SV → List Value → Prop
  | [], [] => True
  | s :: ss, v :: vs => SVok bs s v ∧ argsK bs ss vs
  | _, _ => False

theorem argsK_iff : ∀ {svs : List SV} {vs : List Value}, argsK bs svs vs → svs.length = vs.length ∧ ∀ i, i < vs.length → SVok bs (nth .any svs i) (nth undef vs i)
  | [], [], _ => ⟨rfl, fun i h => by simp at h⟩
  | s :: ss, v :: vs, h => by
    obtain ⟨h1, h2⟩ := argsK_iff h.2
    refine ⟨by simp [h1], fun i hi => ?_⟩
    cases i with
    | zero => exact h.1
    | succ i => exact h2 i (by simpa using hi)
  | [], _ :: _, h => h.elim
  | _ :: _, [], h => h.elim

theorem XCall.inline (hT : TabOk P tab) {f : FuncId} {fn : Func} (hfn : P.funcs[f]? = some fn) {c : Code} (hb : fn.body = some c) (hnm : (fn.name == "runtime.NumGoroutine") = false) {vs : List Value} (svs : List SV)
    {n : Nat} (hn : fn.ntmps = vs.length + n) (hargs : argsK bs svs vs) {K : KV}
    (h : padK svs n fun tm => xc P tab w0 R av c tm bs cs F (kEnd tab fn.results.toList fun v bs' cs' F' => XBack bs bs' (K v bs' cs' F'))) : XCall P w0 R av f vs bs cs F K := by
  obtain ⟨hlen, hok⟩ := argsK_iff hargs
  refine XCall_iff.2 ⟨⟨fn, hfn, by rw [hb]; rfl, hnm⟩, fun w hst => ?_⟩
  have h := padK_iff h
  refine calls_of_wp hfn hb ?_
  have hfr : FrameOk bs (svs ++ List.replicate n .any) (vs.toArray ++ Array.replicate (fn.ntmps - vs.toArray.size) undef) := by
    refine ⟨by simp; omega, fun t => ?_⟩
    rw [nth_eq]
    by_cases ht : t < vs.length
    · rw [List.getElem?_append_left (by omega), ← nth_eq]
      have := hok t ht
      rw [nth_eq undef] at this
      have e : (vs.toArray ++ Array.replicate (fn.ntmps - vs.toArray.size) undef).getD t undef = (vs[t]?).getD undef := by
        rw [Array.getD_eq_getD_getElem?, Array.getElem?_append_left (by simpa using ht)]
        simp
      rw [e]
      exact this
    · have : (svs ++ List.replicate n SV.any)[t]?.getD .any = .any := by
        rw [List.getElem?_append_right (by omega), List.getElem?_replicate]
        split <;> rfl
      rw [this]
      exact trivial
  refine wp_mono (xc_sound hT c _ _ _ _ _ _ _ h hfr hst) ?_
  rintro e act w' ⟨hd, tm', bs', cs', D', h1, h2, h3⟩
  cases e with
  | normal =>
    obtain ⟨v, g1, g2⟩ := run_results hT h1 h2.box h3
    obtain ⟨⟨x, rfl⟩, g3⟩ := g2
    exact ⟨hd, v, g1, v, x, cs', D', rfl, h2, g3⟩
  | ret =>
    obtain ⟨v, g1, g2⟩ := run_results hT h1 h2.box h3
    obtain ⟨⟨x, rfl⟩, g3⟩ := g2
    exact ⟨hd, v, g1, v, x, cs', D', rfl, h2, g3⟩
  | _ => exact h3.elim

theorem argsK_map : ∀ {vs : List Value}, argsK bs (vs.map SV.v) vs
  | [] => trivial
  | _ :: _ => ⟨rfl, argsK_map⟩

theorem XCall.inlineV (hT : TabOk P tab) {f : FuncId} {fn : Func} (hfn : P.funcs[f]? = some fn) {c : Code} (hb : fn.body = some c) (hnm : (fn.name == "runtime.NumGoroutine") = false) {vs : List Value} {svs : List SV}
    {n : Nat} (hn : fn.ntmps = vs.length + n) (hsv : svs = vs.map SV.v) {K : KV}
    (h : padK svs n fun tm => xc P tab w0 R av c tm bs cs F (kEnd tab fn.results.toList fun v bs' cs' F' => XBack bs bs' (K v bs' cs' F'))) : XCall P w0 R av f vs bs cs F K := by
  subst hsv
  exact XCall.inline hT hfn hb hnm _ hn argsK_map h

theorem XUnit.ent {m : Sem Unit} {K : KU} {F' : Fx} (h : Ent F F') (k : XUnit P w0 R av m bs cs F' K) : XUnit P w0 R av m bs cs F K :=
  XUnit_iff.2 fun w hst => XUnit_iff.1 k w (h _ _ _ _ _ _ hst)

theorem own_some {sz n : Nat} {a : Option Addr} {cap : Nat} {C L : List Value} (h : Own sz n a cap C L) (hn : 0 < n) : ∃ b, a = some ⟨b, 0, none⟩ := by
  rcases h.alt with ⟨h1, h2, h3⟩ | ⟨b, h1, _⟩
  · have := h.fit
    omega
  · exact ⟨b, h1⟩

/-- A cell that is read through a pointer into a row. -/
theorem XRead.loadF (hT : TabOk P tab) {t : TypeId} {ti : TI} (ht : look tab t = some ti) (hk : ti.k.agg = false) {p ad : Addr} {k : Nat} {L : List Value} {v : Value} {K : Value → Prop}
    (hs : Sees w0 R av bs cs F (some ad) L) (hp : ad.spot = none → p = ad.add k) (hv : L[k]? = some v) (h : K v) : XRead P w0 R av (Instr.loadAt t (.pointer (some p))) bs cs F K := by
  refine (XRead_iff _ _ _ _).2 ⟨v, fun w hst => ?_, h⟩
  have hr := hs w hst
  have hlt : k < L.length := (List.getElem?_eq_some_iff.1 hv).1
  rw [hp (hr.there (ne_of_lt hlt)).1]
  show (loadVar t (ad.add k)).run P w = _
  exact run_loadVar_one (hT _ _ ht) hk (by rw [hr.cell hlt, hv])

/-! ### maps -/

theorem St.newMap {w : World} (h : St w0 R av w bs cs F) : St w0 R av { w with heap := w.heap.push (.map #[] 0) } bs cs ⟨F.D, F.rs ++ [(w.heap.size, Row.m #[] 0)]⟩ := by
  have hk : Keep w { w with heap := w.heap.push (.map #[] 0) } :=
    keep_of_heap rfl rfl rfl (by simp) (fun b hb => by simp [Array.getElem?_push, Nat.ne_of_lt hb])
  refine (h.kept (F' := ⟨fun _ => True, [(w.heap.size, Row.m #[] 0)]⟩) hk ⟨fun r hr => ?_, by simp, .pure trivial⟩).ent (Ent.imp fun w h => h.1)
  simp at hr
  subst hr
  exact ⟨by simp [RowIs], Nat.le_refl _⟩

theorem XVal.makeMap {t : TypeId} {K : KV} (h : ∀ b, K (.map (some b)) bs cs ⟨F.D, F.rs ++ [(b, Row.m #[] 0)]⟩) : XVal P w0 R av (Instr.makeMap t none) bs cs F K :=
  XVal_iff.2 fun w hst => ⟨_, _, [], cs, _, rfl, by rw [List.append_nil]; exact hst.newMap, by rw [List.append_nil]; exact h _⟩

/-- A set of numbers, as a map to true. -/
def setM (ks : List Int) : Array MapEntry := (ks.zipIdx.map fun x => ⟨.int .i64 x.1, .bool true, x.2⟩).toArray

theorem setM_mem {ks : List Int} {e : MapEntry} (h : e ∈ (setM ks).toList) : ∃ k ∈ ks, e.key = .int .i64 k ∧ e.val = .bool true := by
  simp only [setM, List.mem_map] at h
  obtain ⟨⟨k, i⟩, hx, rfl⟩ := h
  exact ⟨k, (List.mem_zipIdx hx).2.2 ▸ List.getElem_mem _, rfl, rfl⟩

theorem setM_has {ks : List Int} {k : Int} (h : k ∈ ks) : ∃ e ∈ (setM ks).toList, e.key = .int .i64 k := by
  obtain ⟨i, hi, rfl⟩ := List.getElem_of_mem h
  refine ⟨⟨.int .i64 ks[i], .bool true, i⟩, ?_, rfl⟩
  simp only [setM, List.mem_map]
  exact ⟨(ks[i], i), by simp [List.mem_zipIdx_iff_getElem?, hi], rfl⟩

theorem setM_snoc (ks : List Int) (k : Int) : setM (ks ++ [k]) = (setM ks).push ⟨.int .i64 k, .bool true, ks.length⟩ := by
  simp [setM, List.zipIdx_append]

theorem findNow_set (ks : List Int) (k : Int) : (k ∈ ks ∧ ∃ i, Instr.findNow (.int .i64) (.int .i64 k) (setM ks).toList 0 = some (some (i, .bool true))) ∨ (k ∉ ks ∧ Instr.findNow (.int .i64) (.int .i64 k) (setM ks).toList 0 = some none) := by
  have hk : ∀ x ∈ (setM ks).toList, MapKept.IsKey (.int .i64) x.key := fun x hx => by
    obtain ⟨q, _, h1, _⟩ := setM_mem hx
    rw [h1]
    rfl
  rcases MapKept.findNow_spec (d := .int .i64) (k := .int .i64 k) rfl (setM ks).toList 0 hk with ⟨h1, h2⟩ | ⟨j, e, h1, h2, h3⟩
  · refine .inr ⟨fun h => ?_, h1⟩
    obtain ⟨e, he, hke⟩ := setM_has h
    exact h2 e he hke
  · have he := List.mem_of_getElem? h2
    obtain ⟨q, hq, e1, e2⟩ := setM_mem he
    rw [h3] at e1
    cases e1
    rw [e2] at h1
    exact .inl ⟨hq, _, h1⟩

theorem map_of {d : TypeDesc} {k e : TypeId} (h : mkTK d = .map k e) : d = .map k e := by
  cases d <;> simp [mkTK] at h
  obtain ⟨rfl, rfl⟩ := h
  rfl

theorem bool_of {d : TypeDesc} (h : mkTK d = .bool) : d = .bool := by
  cases d <;> simp [mkTK] at h
  rfl

theorem XRead.lookupSet (hT : TabOk P tab) {t kt et : TypeId} {ti tk : TI} (ht : look tab t = some ti) (hk : ti.k = .map kt et) (hkt : look tab kt = some tk) (hkk : tk.k = .int .i64) (hz : (P.info? et).bind (·.zero) = some (.bool false))
    {b : Nat} {ks : List Int} {c : Nat} {n : Int} {K : Value → Prop} (hm : (b, Row.m (setM ks) c) ∈ F.rs) (h : K (.bool (decide (n ∈ ks)))) :
    XRead P w0 R av (Instr.lookup t (.map (some b)) (.int .i64 n) false) bs cs F K := by
  refine (XRead_iff _ _ _ _).2 ⟨_, fun w hst => ?_, h⟩
  obtain ⟨i1, d1, z1, p1, p2, p3, p4, p5, p6, p7, p8⟩ := mkTI_parts (hT _ _ ht)
  obtain ⟨i2, d2, z2, q1, q2, q3, q4, q5, q6, q7, q8⟩ := mkTI_parts (hT _ _ hkt)
  rw [p4] at hk
  obtain rfl := map_of hk
  rw [q4] at hkk
  obtain rfl := int_of hkk
  have hb : w.heap[b]? = some (.map (setM ks) c) := (hst.rows _ hm).1
  have hck : (Instr.checkKey (setM ks).isEmpty 10000 kt (.int .i64 n)).run P w = .ok () w := MapKept.run_checkKey q2 (show MapKept.IsKey (.int .i64) (.int .i64 n) from rfl) _ 9999
  rcases findNow_set ks n with ⟨h1, i, h2⟩ | ⟨h1, h2⟩
  · have hf := MapKept.run_findKey (w := w) q2 h2
    simp [Instr.lookup, run_underlying p2, MapKept.run_getObj_map hb, hck, hf, Result.andThen, h1]
  · have hf := MapKept.run_findKey (w := w) q2 h2
    have hzv : (zeroValue et).run P w = .ok (.bool false) w := by
      cases hi : P.info? et with
      | none => rw [hi] at hz; cases hz
      | some i3 =>
        rw [hi] at hz
        exact run_zero hi hz w
    simp [Instr.lookup, run_underlying p2, MapKept.run_getObj_map hb, hck, hf, hzv, Result.andThen, h1]

theorem XUnit.addSet (hT : TabOk P tab) {t kt et : TypeId} {ti tk : TI} (ht : look tab t = some ti) (hk : ti.k = .map kt et) (hkt : look tab kt = some tk) (hkk : tk.k = .int .i64)
    {D : World → Prop} {r1 r2 : List (Nat × Row)} {b : Nat} {ks : List Int} {n : Int} {K : KU} (hn : n ∉ ks) (h : K bs cs ⟨D, r1 ++ [(b, Row.m (setM (ks ++ [n])) (ks ++ [n]).length)] ++ r2⟩) :
    XUnit P w0 R av (Instr.mapUpdate t (.map (some b)) (.int .i64 n) (.bool true)) bs cs ⟨D, r1 ++ [(b, Row.m (setM ks) ks.length)] ++ r2⟩ K := by
  refine XUnit_iff.2 fun w hst => ?_
  obtain ⟨i1, d1, z1, p1, p2, p3, p4, p5, p6, p7, p8⟩ := mkTI_parts (hT _ _ ht)
  obtain ⟨i2, d2, z2, q1, q2, q3, q4, q5, q6, q7, q8⟩ := mkTI_parts (hT _ _ hkt)
  rw [p4] at hk
  obtain rfl := map_of hk
  rw [q4] at hkk
  obtain rfl := int_of hkk
  have hb : w.heap[b]? = some (.map (setM ks) ks.length) := (hst.rows (b, Row.m (setM ks) ks.length) (by simp)).1
  have hck : (Instr.checkKey false 10000 kt (.int .i64 n)).run P w = .ok () w := MapKept.run_checkKey q2 (show MapKept.IsKey (.int .i64) (.int .i64 n) from rfl) _ 9999
  have h2 : Instr.findNow (.int .i64) (.int .i64 n) (setM ks).toList 0 = some none := by
    rcases findNow_set ks n with ⟨h1, _⟩ | ⟨_, h2⟩
    · exact absurd h1 hn
    · exact h2
  have hf := MapKept.run_findKey (w := w) q2 h2
  obtain ⟨g1, g2⟩ := MapKept.heap_set (o' := .map (setM (ks ++ [n])) (ks ++ [n]).length) hb
  refine ⟨{ w with heap := w.heap.setIfInBounds b (.map (setM (ks ++ [n])) (ks ++ [n]).length) }, [], cs, _, ?_, ?_, by rw [List.append_nil]; exact h⟩
  · rw [setM_snoc]
    simp [Instr.mapUpdate, run_underlying p2, MapKept.run_getObj_map hb, hck, hf, MapKept.run_setObj_map _ hb, Result.andThen]
  · rw [List.append_nil]
    exact hst.putRow (C' := Row.m (setM (ks ++ [n])) (ks ++ [n]).length) rfl rfl rfl (by simp) g2 g1 fun l hl => by cases hl

/-! ### writes into a row -/

/-- The cells with l laid over them from k on. -/
def laid (C : List Value) (k : Nat) (l : List Value) : List Value := C.take k ++ l ++ C.drop (k + l.length)

theorem laid_len {C l : List Value} {k : Nat} (h : k + l.length ≤ C.length) : (laid C k l).length = C.length := by
  simp [laid]
  omega

theorem laid_get {C l : List Value} {k : Nat} (h : k + l.length ≤ C.length) (j : Nat) : (laid C k l)[j]? = if k ≤ j ∧ j < k + l.length then l[j - k]? else C[j]? := by
  unfold laid
  by_cases hin : k ≤ j ∧ j < k + l.length
  · rw [if_pos hin, List.append_assoc, List.getElem?_append_right (by simp; omega), List.getElem?_append_left (by simp; omega)]
    congr 1
    simp
    omega
  · rw [if_neg hin]
    by_cases hlt : j < k
    · rw [List.append_assoc, List.getElem?_append_left (by simp; omega), List.getElem?_take, if_pos hlt]
    · rw [List.getElem?_append_right (by simp; omega), List.getElem?_drop]
      congr 1
      simp
      omega

theorem St.laidRow {w w' : World} {D : World → Prop} {r1 r2 : List (Nat × Row)} {b : Nat} {C l : List Value} {k : Nat} (hst : St w0 R av w bs cs ⟨D, r1 ++ [(b, Row.c C)] ++ r2⟩) (hone : ∀ v ∈ l, oneCell v = true) (hle : k + l.length ≤ C.length) :
    ∃ w', (storeCells ⟨b, k, none⟩ l 0).run P w = .ok () w' ∧ St w0 R av w' bs cs ⟨D, r1 ++ [(b, Row.c (laid C k l))] ++ r2⟩ := by
  obtain ⟨et, hrow⟩ := (hst.rows (b, Row.c C) (by simp)).1
  obtain ⟨w', g1, g2, g3, g4, g5, g6, arr', g7, g8, g9⟩ := run_storeCells (P := P) (b := b) (o := k) l 0 w C.toArray et hrow hone (by simpa using hle)
  refine ⟨w', g1, hst.putRow (C' := Row.c (laid C k l)) g2 g3 g4 g5 g6 ⟨et, ?_⟩ fun l' hl => ⟨⟨_, rfl⟩, et, _, _, hrow, g7, g8⟩⟩
  rw [g7]
  congr 2
  apply Array.ext_getElem?
  intro j
  rw [g9 j]
  simp only [List.getElem?_toArray, Nat.add_zero]
  rw [laid_get hle]

/-- A store through an address in a row. -/
theorem XUnit.storeIn (hT : TabOk P tab) {t : TypeId} {ti : TI} (ht : look tab t = some ti) {D : World → Prop} {r1 r2 : List (Nat × Row)} {b k : Nat} {C : List Value} {v : Value} {p : Addr} {K : KU} (hp : p = ⟨b, k, none⟩)
    (hl : v.cells.toList.length = ti.size) (hone : ∀ u ∈ v.cells.toList, oneCell u = true) (hle : k + ti.size ≤ C.length) (h : K bs cs ⟨D, r1 ++ [(b, Row.c (laid C k v.cells.toList))] ++ r2⟩) :
    XUnit P w0 R av (Instr.storeAt t (.pointer (some p)) v) bs cs ⟨D, r1 ++ [(b, Row.c C)] ++ r2⟩ K := by
  subst hp
  refine XUnit_iff.2 fun w hst => ?_
  obtain ⟨i, d, z, h1, h2, h3, h4, h5, -, -, -⟩ := mkTI_parts (hT _ _ ht)
  obtain ⟨w', g1, g2⟩ := St.laidRow (P := P) (w' := w) hst hone (by rw [hl]; exact hle)
  refine ⟨w', [], cs, _, ?_, by rw [List.append_nil]; exact g2, by rw [List.append_nil]; exact h⟩
  show (storeVar t ⟨b, k, none⟩ v).run P w = _
  unfold storeVar
  rw [run_bind_ok (run_sizeOf h1 w)]
  have : ¬ v.cells.size ≠ i.size := by
    have : v.cells.toList.length = v.cells.size := by simp
    omega
  rw [if_neg this]
  exact g1

/-- append(s[:n], x...) where there is room. -/
theorem XVal.appendIn (hT : TabOk P tab) {t xt ty : TypeId} {ti tx te : TI} {e xe : TypeId} (ht : look tab t = some ti) (hk : ti.k = .slice e) (hx : look tab xt = some tx) (hxk : tx.k = .slice xe) (he : look tab e = some te)
    {D : World → Prop} {r1 r2 : List (Nat × Row)} {b : Nat} {p : Option Addr} {n cap m cx : Nat} {C M : List Value} {K : KV} (hfit : n + m ≤ cap) (hC : C.length = cap * te.size)
    (hM : Sees w0 R av bs cs ⟨D, r1 ++ [(b, Row.c C)] ++ r2⟩ p M) (hm : M.length = m * te.size) (hone : ∀ v ∈ M, oneCell v = true)
    (h : K (.slice (some ⟨b, 0, none⟩) (n + m) cap) bs cs ⟨D, r1 ++ [(b, Row.c (laid C (n * te.size) M))] ++ r2⟩) :
    XVal P w0 R av (Builtin.append_ #[t, xt] ty #[.slice (some ⟨b, 0, none⟩) n cap, .slice p m cx]) bs cs ⟨D, r1 ++ [(b, Row.c C)] ++ r2⟩ K := by
  refine XVal_iff.2 fun w hst => ?_
  obtain ⟨i1, d1, z1, p1, p2, p3, p4, p5, p6, p7, p8⟩ := mkTI_parts (hT _ _ ht)
  obtain ⟨i3, d3, z3, o1, o2, o3, o4, o5, o6, o7, o8⟩ := mkTI_parts (hT _ _ hx)
  obtain ⟨i2, d2, z2, q1, q2, q3, q4, q5, q6, q7, q8⟩ := mkTI_parts (hT _ _ he)
  rw [p4] at hk
  rw [o4] at hxk
  obtain rfl := slice_of hk
  obtain rfl := slice_of hxk
  have hle : n * te.size + M.length ≤ C.length := by
    rw [hm, hC, ← Nat.add_mul]
    exact Nat.mul_le_mul_right _ hfit
  obtain ⟨w', g1, g2⟩ := St.laidRow (P := P) (w' := w) hst hone hle
  refine ⟨_, w', [], cs, _, run_append_fits p2 o2 q1 hfit (hM w hst) (by rw [← q5]; exact hm) (w' := w') (fun ad had => ?_) (fun h => by cases h), by rw [List.append_nil]; exact g2, by rw [List.append_nil]; exact h⟩
  cases had
  rw [Addr.add_none, ← q5, Nat.zero_add]
  exact g1

/-- clear(s) of a part of a row. -/
theorem XVal.clearIn (hT : TabOk P tab) {t ty : TypeId} {ti te : TI} {e : TypeId} (ht : look tab t = some ti) (hk : ti.k = .slice e) (he : look tab e = some te) (hzl : te.zero.length = te.size) (hz1 : ∀ v ∈ te.zero, oneCell v = true)
    {D : World → Prop} {r1 r2 : List (Nat × Row)} {b k n c : Nat} {C : List Value} {p : Addr} {K : KV} (hp : p = ⟨b, k, none⟩) (hle : k + (n + 1) * te.size ≤ C.length)
    (h : ∀ Z : List Value, Z.length = (n + 1) * te.size → K (.tuple #[]) bs cs ⟨D, r1 ++ [(b, Row.c (laid C k Z))] ++ r2⟩) :
    XVal P w0 R av (Builtin.clear_ #[t] ty #[.slice (some p) (n + 1) c]) bs cs ⟨D, r1 ++ [(b, Row.c C)] ++ r2⟩ K := by
  subst hp
  refine XVal_iff.2 fun w hst => ?_
  obtain ⟨i1, d1, z1, p1, p2, p3, p4, p5, p6, p7, p8⟩ := mkTI_parts (hT _ _ ht)
  obtain ⟨i2, d2, z2, q1, q2, q3, q4, q5, q6, q7, q8⟩ := mkTI_parts (hT _ _ he)
  rw [p4] at hk
  obtain rfl := slice_of hk
  have hzc : z2.cells = ⟨te.zero⟩ := by rw [q6]
  have hzlen : (Builtin.zeroCells z2.cells (n + 1)).toList.length = (n + 1) * te.size := by rw [hzc, zeroCells_len, hzl]
  have hone : ∀ v ∈ (Builtin.zeroCells z2.cells (n + 1)).toList, oneCell v = true := by
    intro v hv
    rw [hzc] at hv
    simp only [Builtin.zeroCells, Array.toList_map, List.mem_map, Array.toList_range, List.mem_range] at hv
    obtain ⟨i, hi, rfl⟩ := hv
    have h0 : 0 < te.zero.length := by
      rcases Nat.eq_zero_or_pos te.zero.length with h | h
      · simp [h] at hi
      · exact h
    have hlt : i % te.zero.length < te.zero.length := Nat.mod_lt _ h0
    have e1 : (⟨te.zero⟩ : Array Value)[i % (⟨te.zero⟩ : Array Value).size]! = te.zero[i % te.zero.length] := by
      simp [hlt]
    rw [e1]
    exact hz1 _ (List.getElem_mem _)
  obtain ⟨w', g1, g2⟩ := St.laidRow (P := P) (w' := w) (k := k) hst hone (by rw [hzlen]; exact hle)
  refine ⟨_, w', [], cs, _, ?_, by rw [List.append_nil]; exact g2, by rw [List.append_nil]; exact h _ hzlen⟩
  unfold Builtin.clear_
  simp only [show (#[t] : Array TypeId)[0]? = some t from rfl, show ∀ u : Value, (#[u] : Array Value)[0]? = some u from fun _ => rfl]
  rw [run_bind_ok (run_underlying' p2 w)]
  simp only
  rw [run_bind_ok (run_zero q1 q3 w), run_bind_ok g1]
  rfl

end Go.Sx
