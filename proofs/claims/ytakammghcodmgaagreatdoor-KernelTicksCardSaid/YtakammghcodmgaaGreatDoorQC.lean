/- Parts of the proof: SyA, SyB, SyC, SyD, SyE, SyF, SyG, SyH, SyI, SyJ, SyM, SyN. -/
import Derived.Test.YtakammghcodmgaaGreatDoorQB
import Derived.MapKept
import Derived.Maps.RangeRun
namespace Go.Sx
open Go
set_option linter.unusedVariables false
variable {P : Program} {tab : Tab} {w0 : World} {R : Nat → Nat → Prop} {av : Nat → Prop} {bs : List (Nat × Nat)} {cs : List (List Value)} {F : Fx}

/-- Back from a call that was walked in place. -/
structure XBack (bs bs' : List (Nat × Nat)) (K : Prop) : Prop where
 ext : ∃ e, bs' = bs ++ e
 rest : K

theorem XBack.of {K : Prop} (e : List (Nat × Nat)) (h : K) : XBack bs (bs ++ e) K := ⟨⟨e, rfl⟩, h⟩

/-- The callee's first slots. -/
def argsK (bs : List (Nat × Nat)) : List SV → List Value → Prop
 | [], [] => True
 | s :: ss, v :: vs => SVok bs s v ∧ argsK bs ss vs
 | _, _ => False

theorem argsK_iff : ∀ {svs : List SV} {vs : List Value}, argsK bs svs vs → svs.length = vs.length ∧ ∀ i, i < vs.length → SVok bs (nth .any svs i) (nth undef vs i)
 | [], [], _ => ⟨rfl, fun i h => by simp at h⟩
 | s :: ss, v :: vs, h => by
  obtain ⟨h1, h2⟩ := argsK_iff h.2
  refine ⟨by simp [h1], fun i hi => ?_⟩
  cases i with
  | zero => exact h.1
  | succ i => exact h2 i (by simpa using hi)
 | [], _ :: _, h => h.elim
 | _ :: _, [], h => h.elim

theorem XUnit.ent {m : Sem Unit} {K : KU} {F' : Fx} (h : Ent F F') (k : XUnit P w0 R av m bs cs F' K) : XUnit P w0 R av m bs cs F K :=
 XUnit_iff.2 fun w hst => XUnit_iff.1 k w (h _ _ _ _ _ _ hst)

theorem own_some {sz n : Nat} {a : Option Addr} {cap : Nat} {C L : List Value} (h : Owg sz n a cap C L) (hn : 0 < n) : ∃ b, a = some ⟨b, 0, none⟩ := by
 rcases h.alt with ⟨h1, h2, h3⟩ | ⟨b, h1, _⟩
 · have := h.fit
   omega
 · exact ⟨b, h1⟩

/-- A cell that is read through a pointer into a row. -/
theorem XRead.loadF (hT : TabOk P tab) {t : TypeId} {ti : TI} (ht : look tab t = some ti) (hk : ti.k.agg = false) {p ad : Addr} {k : Nat} {L : List Value} {v : Value} {K : Value → Prop}
 (hs : Sees w0 R av bs cs F (some ad) L) (hp : ad.spot = none → p = ad.add k) (hv : L[k]? = some v) (h : K v) : XRead P w0 R av (Instr.loadAt t (.pointer (some p))) bs cs F K := by
 refine (XRead_iff _ _ _ _).2 ⟨v, fun w hst => ?_, h⟩
 have hr := hs w hst
 have hlt : k < L.length := (List.getElem?_eq_some_iff.1 hv).1
 rw [hp (hr.there (ne_of_lt hlt)).1]
 show (loadVar t (ad.add k)).run P w = _
 exact run_loadVar_one (hT _ _ ht) hk (by rw [hr.cell hlt, hv])

/-! ### maps -/

theorem St.newMap {w : World} (h : St w0 R av w bs cs F) : St w0 R av { w with heap := w.heap.push (.map #[] 0) } bs cs ⟨F.D, F.rs ++ [(w.heap.size, Row.m #[] 0)]⟩ := by
 have hk : Keep w { w with heap := w.heap.push (.map #[] 0) } :=
  keep_of_heap rfl rfl rfl (by simp) (fun b hb => by simp [Array.getElem?_push, Nat.ne_of_lt hb])
 refine (h.kept (F' := ⟨fun _ => True, [(w.heap.size, Row.m #[] 0)]⟩) hk ⟨fun r hr => ?_, by simp, .pure trivial⟩).ent (Ent.imp fun w h => h.1)
 simp at hr
 subst hr
 exact ⟨by simp [RowIs], Nat.le_refl _⟩

theorem XVal.makeMap {t : TypeId} {K : KV} (h : ∀ b, K (.map (some b)) bs cs ⟨F.D, F.rs ++ [(b, Row.m #[] 0)]⟩) : XVal P w0 R av (Instr.makeMap t none) bs cs F K :=
 XVal_iff.2 fun w hst => ⟨_, _, [], cs, _, rfl, by rw [List.append_nil]; exact hst.newMap, by rw [List.append_nil]; exact h _⟩

/-- A set of numbers, as a map to true. -/
def setM (ks : List Int) : Array MapEntry := (ks.zipIdx.map fun x => ⟨.int .i64 x.1, .bool true, x.2⟩).toArray

theorem setM_mem {ks : List Int} {e : MapEntry} (h : e ∈ (setM ks).toList) : ∃ k ∈ ks, e.key = .int .i64 k ∧ e.val = .bool true := by
 simp only [setM, List.mem_map] at h
 obtain ⟨⟨k, i⟩, hx, rfl⟩ := h
 exact ⟨k, (List.mem_zipIdx hx).2.2 ▸ List.getElem_mem _, rfl, rfl⟩

theorem map_of {d : TypeDesc} {k e : TypeId} (h : mkTK d = .map k e) : d = .map k e := by
 cases d <;> simp [mkTK] at h
 obtain ⟨rfl, rfl⟩ := h
 rfl

/-! ### writes into a row -/

/-- The cells with l laid over them from k on. -/
def laid (C : List Value) (k : Nat) (l : List Value) : List Value := C.take k ++ l ++ C.drop (k + l.length)

theorem laid_len {C l : List Value} {k : Nat} (h : k + l.length ≤ C.length) : (laid C k l).length = C.length := by
 simp [laid]
 omega

theorem laid_get {C l : List Value} {k : Nat} (h : k + l.length ≤ C.length) (j : Nat) : (laid C k l)[j]? = if k ≤ j ∧ j < k + l.length then l[j - k]? else C[j]? := by
 unfold laid
 by_cases hin : k ≤ j ∧ j < k + l.length
 · rw [if_pos hin, List.append_assoc, List.getElem?_append_right (by simp; omega), List.getElem?_append_left (by simp; omega)]
   congr 1
   simp
   omega
 · rw [if_neg hin]
   by_cases hlt : j < k
   · rw [List.append_assoc, List.getElem?_append_left (by simp; omega), List.getElem?_take, if_pos hlt]
   · rw [List.getElem?_append_right (by simp; omega), List.getElem?_drop]
     congr 1
     simp
     omega

theorem St.laidRow {w w' : World} {D : World → Prop} {r1 r2 : List (Nat × Row)} {b : Nat} {C l : List Value} {k : Nat} (hst : St w0 R av w bs cs ⟨D, r1 ++ [(b, Row.c C)] ++ r2⟩) (hone : ∀ v ∈ l, oneCell v = true) (hle : k + l.length ≤ C.length) :
 ∃ w', (storeCells ⟨b, k, none⟩ l 0).run P w = .ok () w' ∧ St w0 R av w' bs cs ⟨D, r1 ++ [(b, Row.c (laid C k l))] ++ r2⟩ := by
 obtain ⟨et, hrow⟩ := (hst.rows (b, Row.c C) (by simp)).1
 obtain ⟨w', g1, g2, g3, g4, g5, g6, arr', g7, g8, g9⟩ := run_storeCells (P := P) (b := b) (o := k) l 0 w C.toArray et hrow hone (by simpa using hle)
 refine ⟨w', g1, hst.putRow (C' := Row.c (laid C k l)) g2 g3 g4 g5 g6 ⟨et, ?_⟩ fun l' hl => ⟨⟨_, rfl⟩, et, _, _, hrow, g7, g8⟩⟩
 rw [g7]
 congr 2
 apply Array.ext_getElem?
 intro j
 rw [g9 j]
 simp only [List.getElem?_toArray, Nat.add_zero]
 rw [laid_get hle]

/-- A store through an address in a row. -/
theorem XUnit.storeIn (hT : TabOk P tab) {t : TypeId} {ti : TI} (ht : look tab t = some ti) {D : World → Prop} {r1 r2 : List (Nat × Row)} {b k : Nat} {C : List Value} {v : Value} {p : Addr} {K : KU} (hp : p = ⟨b, k, none⟩)
 (hl : v.cells.toList.length = ti.size) (hone : ∀ u ∈ v.cells.toList, oneCell u = true) (hle : k + ti.size ≤ C.length) (h : K bs cs ⟨D, r1 ++ [(b, Row.c (laid C k v.cells.toList))] ++ r2⟩) :
 XUnit P w0 R av (Instr.storeAt t (.pointer (some p)) v) bs cs ⟨D, r1 ++ [(b, Row.c C)] ++ r2⟩ K := by
 subst hp
 refine XUnit_iff.2 fun w hst => ?_
 obtain ⟨i, d, z, h1, h2, h3, h4, h5, -, -, -⟩ := mkTI_parts (hT _ _ ht)
 obtain ⟨w', g1, g2⟩ := St.laidRow (P := P) (w' := w) hst hone (by rw [hl]; exact hle)
 refine ⟨w', [], cs, _, ?_, by rw [List.append_nil]; exact g2, by rw [List.append_nil]; exact h⟩
 show (storeVar t ⟨b, k, none⟩ v).run P w = _
 unfold storeVar
 rw [run_bind_ok (run_sizeOf h1 w)]
 have : ¬ v.cells.size ≠ i.size := by
  have : v.cells.toList.length = v.cells.size := by simp
  omega
 rw [if_neg this]
 exact g1

/-- append(s[:n], x...) where there is room. -/
theorem XVal.appendIn (hT : TabOk P tab) {t xt ty : TypeId} {ti tx te : TI} {e xe : TypeId} (ht : look tab t = some ti) (hk : ti.k = .slice e) (hx : look tab xt = some tx) (hxk : tx.k = .slice xe) (he : look tab e = some te)
 {D : World → Prop} {r1 r2 : List (Nat × Row)} {b : Nat} {p : Option Addr} {n cap m cx : Nat} {C M : List Value} {K : KV} (hfit : n + m ≤ cap) (hC : C.length = cap * te.size)
 (hM : Sees w0 R av bs cs ⟨D, r1 ++ [(b, Row.c C)] ++ r2⟩ p M) (hm : M.length = m * te.size) (hone : ∀ v ∈ M, oneCell v = true)
 (h : K (.slice (some ⟨b, 0, none⟩) (n + m) cap) bs cs ⟨D, r1 ++ [(b, Row.c (laid C (n * te.size) M))] ++ r2⟩) :
 XVal P w0 R av (Builtin.append_ #[t, xt] ty #[.slice (some ⟨b, 0, none⟩) n cap, .slice p m cx]) bs cs ⟨D, r1 ++ [(b, Row.c C)] ++ r2⟩ K := by
 refine XVal_iff.2 fun w hst => ?_
 obtain ⟨i1, d1, z1, p1, p2, p3, p4, p5, p6, p7, p8⟩ := mkTI_parts (hT _ _ ht)
 obtain ⟨i3, d3, z3, o1, o2, o3, o4, o5, o6, o7, o8⟩ := mkTI_parts (hT _ _ hx)
 obtain ⟨i2, d2, z2, q1, q2, q3, q4, q5, q6, q7, q8⟩ := mkTI_parts (hT _ _ he)
 rw [p4] at hk
 rw [o4] at hxk
 obtain rfl := slice_of hk
 obtain rfl := slice_of hxk
 have hle : n * te.size + M.length ≤ C.length := by
  rw [hm, hC, ← Nat.add_mul]
  exact Nat.mul_le_mul_right _ hfit
 obtain ⟨w', g1, g2⟩ := St.laidRow (P := P) (w' := w) hst hone hle
 refine ⟨_, w', [], cs, _, run_append_fits p2 o2 q1 hfit (hM w hst) (by rw [← q5]; exact hm) (w' := w') (fun ad had => ?_) (fun h => by cases h), by rw [List.append_nil]; exact g2, by rw [List.append_nil]; exact h⟩
 cases had
 rw [Addr.add_none, ← q5, Nat.zero_add]
 exact g1

/-- clear(s) of a part of a row. -/
theorem XVal.clearIn (hT : TabOk P tab) {t ty : TypeId} {ti te : TI} {e : TypeId} (ht : look tab t = some ti) (hk : ti.k = .slice e) (he : look tab e = some te) (hzl : te.zero.length = te.size) (hz1 : ∀ v ∈ te.zero, oneCell v = true)
 {D : World → Prop} {r1 r2 : List (Nat × Row)} {b k n c : Nat} {C : List Value} {p : Addr} {K : KV} (hp : p = ⟨b, k, none⟩) (hle : k + (n + 1) * te.size ≤ C.length)
 (h : ∀ Z : List Value, Z.length = (n + 1) * te.size → K (.tuple #[]) bs cs ⟨D, r1 ++ [(b, Row.c (laid C k Z))] ++ r2⟩) :
 XVal P w0 R av (Builtin.clear_ #[t] ty #[.slice (some p) (n + 1) c]) bs cs ⟨D, r1 ++ [(b, Row.c C)] ++ r2⟩ K := by
 subst hp
 refine XVal_iff.2 fun w hst => ?_
 obtain ⟨i1, d1, z1, p1, p2, p3, p4, p5, p6, p7, p8⟩ := mkTI_parts (hT _ _ ht)
 obtain ⟨i2, d2, z2, q1, q2, q3, q4, q5, q6, q7, q8⟩ := mkTI_parts (hT _ _ he)
 rw [p4] at hk
 obtain rfl := slice_of hk
 have hzc : z2.cells = ⟨te.zero⟩ := by rw [q6]
 have hzlen : (Builtin.zeroCells z2.cells (n + 1)).toList.length = (n + 1) * te.size := by rw [hzc, zeroCells_len, hzl]
 have hone : ∀ v ∈ (Builtin.zeroCells z2.cells (n + 1)).toList, oneCell v = true := by
  intro v hv
  rw [hzc] at hv
  simp only [Builtin.zeroCells, Array.toList_map, List.mem_map, Array.toList_range, List.mem_range] at hv
  obtain ⟨i, hi, rfl⟩ := hv
  have h0 : 0 < te.zero.length := by
   rcases Nat.eq_zero_or_pos te.zero.length with h | h
   · simp [h] at hi
   · exact h
  have hlt : i % te.zero.length < te.zero.length := Nat.mod_lt _ h0
  have e1 : (⟨te.zero⟩ : Array Value)[i % (⟨te.zero⟩ : Array Value).size]! = te.zero[i % te.zero.length] := by
   simp [hlt]
  rw [e1]
  exact hz1 _ (List.getElem_mem _)
 obtain ⟨w', g1, g2⟩ := St.laidRow (P := P) (w' := w) (k := k) hst hone (by rw [hzlen]; exact hle)
 refine ⟨_, w', [], cs, _, ?_, by rw [List.append_nil]; exact g2, by rw [List.append_nil]; exact h _ hzlen⟩
 unfold Builtin.clear_
 simp only [show (#[t] : Array TypeId)[0]? = some t from rfl, show ∀ u : Value, (#[u] : Array Value)[0]? = some u from fun _ => rfl]
 rw [run_bind_ok (run_underlying' p2 w)]
 simp only
 rw [run_bind_ok (run_zero q1 q3 w), run_bind_ok g1]
 rfl

end Go.Sx
namespace Go.Sx
open Go
set_option linter.unusedVariables false
variable {P : Program} {tab : Tab} {w0 : World} {R : Nat → Nat → Prop} {av : Nat → Prop} {bs : List (Nat × Nat)} {cs : List (List Value)} {F : Fx}

/-- A fact that only asks about blocks that are there. -/
def Loc (D : World → Prop) : Prop := ∀ w w' : World, (∀ b, b < w.heap.size → w'.heap[b]? = w.heap[b]?) → D w → D w'

theorem Loc.row (a : Option Addr) (L : List Value) : Loc fun w => RowAt w a L := by
 intro w w' hw h
 cases a with
 | none => exact h
 | some ad =>
  rcases h with rfl | ⟨h1, arr, e, fz, h2, h3⟩
  · exact .inl rfl
  exact .inr ⟨h1, arr, e, fz, by rw [hw _ (Array.getElem?_eq_some_iff.1 h2).1]; exact h2, h3⟩

theorem Loc.and {D E : World → Prop} (h : Loc D) (k : Loc E) : Loc fun w => D w ∧ E w := fun w w' hw hd => ⟨h w w' hw hd.1, k w w' hw hd.2⟩

theorem Loc.all {α : Type} {l : List α} {D : α → World → Prop} (h : ∀ x ∈ l, Loc (D x)) : Loc fun w => ∀ x ∈ l, D x w := fun w w' hw hd x hx => h x hx w w' hw (hd x hx)

/-- A call whose arguments may lie in the function's own rows or boxes; what it hands back are new rows and no facts. -/
theorem XCall.from {f : FuncId} {vs : List Value} {Pre : World → Prop} {Rel : Value → Fx → Prop} {K : KV} (spec : PureSpec P f vs Pre Rel) (hloc : Loc Pre) (hpre : ∀ w, St w0 R av w bs cs F → Pre w)
 (h : ∀ v F', Rel v F' → (∀ w, F'.D w) ∧ K v bs cs (F.and F')) : XCall P w0 R av f vs bs cs F K := by
 unfold PureSpec at spec
 refine XCall_iff.2 ⟨spec.1, fun w hst => ?_⟩
 refine (spec.2 (fun _ => False) w (fun _ h => h.elim) ⟨fun b => b < w.heap.size, fun b hb => ⟨hb, id⟩, fun w' hw => hloc w w' hw (hpre w hst)⟩).mono ?_
 rintro e w' ⟨v, F', rfl, h1, h2, h3⟩
 obtain ⟨h4, h5⟩ := h v F' h3
 exact ⟨v, [], cs, _, rfl, by rw [List.append_nil]; exact hst.kept h1 ⟨h2.rows, h2.nd, ⟨fun _ => False, fun _ h => h.elim, fun w _ => h4 w⟩⟩, by rw [List.append_nil]; exact h5⟩

/-- The same, where only the value counts. -/
theorem XCall.look {f : FuncId} {vs : List Value} {Pre : World → Prop} {x : Value} {K : KV} (spec : PureSpec P f vs Pre (fun v _ => v = x)) (hloc : Loc Pre) (hpre : ∀ w, St w0 R av w bs cs F → Pre w)
 (h : K x bs cs F) : XCall P w0 R av f vs bs cs F K := by
 unfold PureSpec at spec
 refine XCall_iff.2 ⟨spec.1, fun w hst => ?_⟩
 refine (spec.2 (fun _ => False) w (fun _ h => h.elim) ⟨fun b => b < w.heap.size, fun b hb => ⟨hb, id⟩, fun w' hw => hloc w w' hw (hpre w hst)⟩).mono ?_
 rintro e w' ⟨v, F', rfl, h1, h2, rfl⟩
 exact ⟨_, [], cs, _, rfl, by rw [List.append_nil]; exact hst.keptD h1, by rw [List.append_nil]; exact h⟩

end Go.Sx
namespace Go.Sx
open Go
set_option linter.unusedVariables false
set_option linter.unusedSimpArgs false
variable {P : Program} {tab : Tab} {w0 : World} {R : Nat → Nat → Prop} {av : Nat → Prop} {bs : List (Nat × Nat)} {cs : List (List Value)}

/-- Back from a call that was walked in place; its boxes are given up. -/
structure XDrop (bs bs' : List (Nat × Nat)) (cs' : List (List Value)) (F' : Fx) (K : List (List Value) → Fx → Prop) : Prop where
 ext : ∃ e c1 c2 F1, bs' = bs ++ e ∧ cs' = c1 ++ c2 ∧ bs.length = c1.length ∧ Ent F' F1 ∧ K c1 F1

theorem XCall.inlineD {F : Fx} (hT : TabOk P tab) {f : FuncId} {fn : Func} (hfn : P.funcs[f]? = some fn) {c : Code} (hb : fn.body = some c) (hnm : (fn.name == "runtime.NumGoroutine") = false) {vs : List Value} (svs : List SV)
 {n : Nat} (hn : fn.ntmps = vs.length + n) (hargs : argsK bs svs vs) {K : KV}
 (h : padK svs n fun tm => xc P tab w0 R av c tm bs cs F (kEnd tab fn.results.toList fun v bs' cs' F' => XDrop bs bs' cs' F' fun c1 F1 => K v bs c1 F1)) : XCall P w0 R av f vs bs cs F K := by
 have h2 : XCall P w0 R av f vs bs cs F fun v bs' cs' F' => XDrop bs bs' cs' F' fun c1 F1 => K v bs c1 F1 := by
  obtain ⟨hlen, hok⟩ := argsK_iff hargs
  refine XCall_iff.2 ⟨⟨fn, hfn, by rw [hb]; rfl, hnm⟩, fun w hst => ?_⟩
  have h := padK_iff h
  refine calls_of_wp hfn hb ?_
  have hfr : FrameOk bs (svs ++ List.replicate n .any) (vs.toArray ++ Array.replicate (fn.ntmps - vs.toArray.size) undef) := by
   refine ⟨by simp; omega, fun t => ?_⟩
   rw [nth_eq]
   by_cases ht : t < vs.length
   · rw [List.getElem?_append_left (by omega), ← nth_eq]
     have := hok t ht
     rw [nth_eq undef] at this
     have e : (vs.toArray ++ Array.replicate (fn.ntmps - vs.toArray.size) undef).getD t undef = (vs[t]?).getD undef := by
      rw [Array.getD_eq_getD_getElem?, Array.getElem?_append_left (by simpa using ht)]
      simp
     rw [e]
     exact this
   · have : (svs ++ List.replicate n SV.any)[t]?.getD .any = .any := by
      rw [List.getElem?_append_right (by omega), List.getElem?_replicate]
      split <;> rfl
     rw [this]
     exact trivial
  refine wp_mono (xc_sound hT c _ _ _ _ _ _ _ h hfr hst) ?_
  rintro e act w' ⟨hd, tm', bs', cs', D', h1, h2, h3⟩
  cases e with
  | normal =>
   obtain ⟨v, g1, g2⟩ := run_results hT h1 h2.box (fun r hr => (h2.rows r hr).1) h3
   obtain ⟨x, c1, c2, F1, rfl, q⟩ := g2.ext
   exact ⟨hd, v, g1, v, x, cs', D', rfl, h2, g2⟩
  | ret =>
   obtain ⟨v, g1, g2⟩ := run_results hT h1 h2.box (fun r hr => (h2.rows r hr).1) h3
   obtain ⟨x, c1, c2, F1, rfl, q⟩ := g2.ext
   exact ⟨hd, v, g1, v, x, cs', D', rfl, h2, g2⟩
  | _ => exact h3.elim
 refine XCall_iff.2 ⟨(XCall_iff.1 h2).1, fun w hst => ((XCall_iff.1 h2).2 w hst).mono ?_⟩
 rintro e w' ⟨v, ext, cs', D', rfl, g1, g2⟩
 obtain ⟨x, c1, c2, F1, e1, rfl, e2, he, g3⟩ := g2.ext
 exact ⟨v, [], c1, F1, rfl, by rw [List.append_nil]; exact (g1.left e2).ent he, by rw [List.append_nil]; exact g3⟩

theorem anyK_mk : ∀ {n : Nat} {K : List SV → Prop}, K (List.replicate n .any) → anyK n K
 | 0, K, h => h
 | n + 1, K, h => anyK_mk (n := n) (by simpa [List.replicate_succ] using h)

theorem padK_mk : ∀ {l : List SV} {n : Nat} {K : List SV → Prop}, K (l ++ List.replicate n .any) → padK l n K
 | [], n, K, h => anyK_mk h
 | x :: xs, n, K, h => padK_mk (l := xs) h

/-- A region that only makes one box. -/
theorem xc_alloc1 {P : Program} {tab : Tab} {w0 : World} {R : Nat → Nat → Prop} {av : Nat → Prop} {id : Nat} {dst : Option Tmp} {e ty : TypeId} {pos : String} {after : Array Edge} {ti : TI} (ht : look tab e = some ti) (hb : bigTI ti = false) {c2 : Code} {tm : List SV} {bs : List (Nat × Nat)} {cs : List (List Value)} {D : Fx} {K : Exit → KT}
 (h : boxK dst ti.zero tm bs cs D fun tm bs cs D => xc P tab w0 R av c2 tm bs cs D K) :
 xc P tab w0 R av (.seq (.region id #[⟨dst, .alloc e, ty, pos, after, none⟩] false) c2) tm bs cs D K := by
 show (match look tab e with
  | some ti => match bigTI ti with
   | true => _
   | false => boxK dst ti.zero tm bs cs D fun tm bs cs D => xc P tab w0 R av c2 tm bs cs D K
  | none => _)
 rw [ht]
 simp only [hb]
 exact h

def IsIn (rows : List (Nat × Row)) (b : Nat) : Prop := ∃ r ∈ rows, r.1 = b

/-- A function that may write the rows that it is given, and nothing else that was there. -/
def RowsSpec (P : Program) (f : FuncId) (vs : List Value) (rows : List (Nat × Row)) (Pre : World → Prop) (Rel : Value → Fx → Prop) : Prop :=
 Callable P f ∧ ∀ (av : Nat → Prop) (w : World), (∀ b, av b → b < w.heap.size) → (∀ r ∈ rows, RowIs w r.1 r.2 ∧ ¬ av r.1) → (rows.map (·.1)).Nodup → Holds (fun b => av b ∨ IsIn rows b) w Pre →
  Calls P f vs.toArray w fun e w' => ∃ v F, e = .returned v ∧ KeepX (fun b _ => IsIn rows b) w w' ∧
   (∀ r ∈ F.rs, RowIs w' r.1 r.2 ∧ (w.heap.size ≤ r.1 ∨ (IsIn rows r.1 ∧ CM r.2))) ∧ (F.rs.map (·.1)).Nodup ∧ Holds (fun b => av b ∨ IsIn F.rs b) w' F.D ∧ Rel v F

theorem RowsSpec.of_xc (hT : TabOk P tab) {f : FuncId} {fn : Func} (hfn : P.funcs[f]? = some fn) {c : Code} (hb : fn.body = some c) (hnm : (fn.name == "runtime.NumGoroutine") = false) {vs : List Value} {svs : List SV}
 {n : Nat} (hn : fn.ntmps = vs.length + n) (hsv : svs = vs.map SV.v) {rows : List (Nat × Row)} (hc : ∀ r ∈ rows, CM r.2) {Pre : World → Prop} {Rel : Value → Fx → Prop}
 (h : ∀ w0 av, padK svs n fun tm => xc P tab w0 (fun b _ => IsIn rows b) av c tm [] [] ⟨Pre, rows⟩ (kEnd tab fn.results.toList (pureFin Rel))) : RowsSpec P f vs rows Pre Rel := by
 subst hsv
 refine ⟨⟨fn, hfn, by rw [hb]; rfl, hnm⟩, fun av w hav hrows hnd hpre => ?_⟩
 have hst : St w (fun b _ => IsIn rows b) av w [] [] ⟨Pre, rows⟩ :=
  ⟨KeepX.refl _ _, trivial, by simpa using hnd, fun i hi => by simp at hi, hav, fun r hr => ⟨(hrows r hr).1, .inr ⟨(hrows r hr).2, fun _ => ⟨r, hr, rfl⟩, hc r hr⟩⟩,
   hpre.less fun b hb => hb.elim .inl fun h => h.elim (fun ⟨x, hx, _⟩ => by simp at hx) .inr⟩
 refine (calls_of_xc hT hfn hb hn (by simp) (fun i hi => ?_) hst (h w av)).mono ?_
 · rw [nth_map SV.v undef .any vs i hi]; rfl
 · rintro e w' ⟨v, bs', cs', F, rfl, h1, F2, h2, h3⟩
   have h4 := h1.ent h2
   refine ⟨v, F2, rfl, h4.keep, fun r hr => ⟨(h4.rows r hr).1, (h4.rows r hr).2.imp id fun q => ⟨q.2.1 0, q.2.2⟩⟩, (List.nodup_append.1 h4.nd).2.1, h4.data.less fun b hb => hb.elim .inl fun h => .inr (.inr h), h3⟩

attribute [irreducible] RowsSpec

theorem XCall.rows {f : FuncId} {vs : List Value} {rows : List (Nat × Row)} {Pre : World → Prop} {Rel : Value → Fx → Prop} {D : World → Prop} {r1 r2 : List (Nat × Row)} {K : KV} (spec : RowsSpec P f vs rows Pre Rel)
 (hpre : ∀ w, D w → Pre w) (h : ∀ v F', Rel v F' → K v bs cs ⟨fun w => D w ∧ F'.D w, r1 ++ F'.rs ++ r2⟩) : XCall P w0 R av f vs bs cs ⟨D, r1 ++ rows ++ r2⟩ K := by
 unfold RowsSpec at spec
 refine XCall_iff.2 ⟨spec.1, fun w hst => ?_⟩
 have hnd := hst.nd
 have hmem : ∀ r, r ∈ r1 ++ rows ++ r2 ↔ r ∈ r1 ∨ r ∈ rows ∨ r ∈ r2 := fun r => by simp [or_assoc]
 simp only [List.map_append, List.nodup_append, List.mem_append] at hnd
 obtain ⟨nb, ⟨⟨n1, n0, n10⟩, n2, n12⟩, nbr⟩ := hnd
 have notb : ∀ r ∈ rows, ∀ x ∈ bs, x.1 ≠ r.1 := fun r hr x hx => nbr _ (List.mem_map.2 ⟨x, hx, rfl⟩) _ (.inl (.inr (List.mem_map.2 ⟨r, hr, rfl⟩)))
 have not1 : ∀ r ∈ rows, ∀ x ∈ r1, x.1 ≠ r.1 := fun r hr x hx => n10 _ (List.mem_map.2 ⟨x, hx, rfl⟩) _ (List.mem_map.2 ⟨r, hr, rfl⟩)
 have not2 : ∀ r ∈ rows, ∀ x ∈ r2, x.1 ≠ r.1 := fun r hr x hx e => n12 _ (.inr (List.mem_map.2 ⟨r, hr, rfl⟩)) _ (List.mem_map.2 ⟨x, hx, rfl⟩) e.symm
 have notav : ∀ r ∈ rows, ¬ av r.1 := fun r hr ha => by
  rcases (hst.rows r ((hmem r).2 (.inr (.inl hr)))).2 with h | h
  · have := hst.avlt _ ha
    omega
  · exact h.1 ha
 refine (spec.2 (fun b => av b ∨ (∃ x ∈ bs, x.1 = b) ∨ IsIn r1 b ∨ IsIn r2 b) w (fun b hb => hst.avb ?_) (fun r hr => ⟨(hst.rows r ((hmem r).2 (.inr (.inl hr)))).1, ?_⟩) n0 ?_).mono ?_
 · rcases hb with hb | hb | ⟨r, hr, rfl⟩ | ⟨r, hr, rfl⟩
   · exact .inl hb
   · exact .inr (.inl hb)
   · exact .inr (.inr ⟨r, (hmem r).2 (.inl hr), rfl⟩)
   · exact .inr (.inr ⟨r, (hmem r).2 (.inr (.inr hr)), rfl⟩)
 · rintro (hb | ⟨x, hx, he⟩ | ⟨x, hx, he⟩ | ⟨x, hx, he⟩)
   · exact notav r hr hb
   · exact notb r hr x hx he
   · exact not1 r hr x hx he
   · exact not2 r hr x hx he
 · refine (hst.data.imp hpre).less fun b hb => ?_
   rcases hb with (hb | hb | ⟨r, hr, rfl⟩ | ⟨r, hr, rfl⟩) | ⟨r, hr, rfl⟩
   · exact .inl hb
   · exact .inr (.inl hb)
   · exact .inr (.inr ⟨r, (hmem r).2 (.inl hr), rfl⟩)
   · exact .inr (.inr ⟨r, (hmem r).2 (.inr (.inr hr)), rfl⟩)
   · exact .inr (.inr ⟨r, (hmem r).2 (.inr (.inl hr)), rfl⟩)
 rintro e w' ⟨v, F', rfl, hk, hr', hnd', hd', hrel⟩
 have hsame : ∀ b, b < w.heap.size → ¬ IsIn rows b → w'.heap[b]? = w.heap[b]? := fun b hb hn => hk.same hb fun _ => hn
 refine ⟨v, [], cs, _, rfl, ?_, by rw [List.append_nil]; exact h v F' hrel⟩
 rw [List.append_nil]
 have hold : ∀ x, (x ∈ r1 ∨ x ∈ r2) → w'.heap[x.1]? = w.heap[x.1]? := fun x hx => by
  have hx' : x ∈ r1 ++ rows ++ r2 := (hmem x).2 (hx.elim .inl fun h => .inr (.inr h))
  refine hsame _ (hst.rows x hx').1.lt ?_
  rintro ⟨r, hr, he⟩
  rcases hx with hx | hx
  · exact not1 r hr x hx he.symm
  · exact not2 r hr x hx he.symm
 have hnew : ∀ r ∈ F'.rs, (∀ x ∈ bs, x.1 ≠ r.1) ∧ (∀ x ∈ r1, x.1 ≠ r.1) ∧ (∀ x ∈ r2, x.1 ≠ r.1) := fun r hr => by
  rcases (hr' r hr).2 with h1 | ⟨⟨q, hq, he⟩, _⟩
  · refine ⟨fun x hx he => ?_, fun x hx he => ?_, fun x hx he => ?_⟩
    · have := hst.box.lt x hx
      omega
    · have := (hst.rows x ((hmem x).2 (.inl hx))).1.lt
      omega
    · have := (hst.rows x ((hmem x).2 (.inr (.inr hx)))).1.lt
      omega
  · rw [← he]
    exact ⟨notb q hq, not1 q hq, not2 q hq⟩
 refine ⟨⟨hk.os.trans hst.keep.os, hk.tape.trans hst.keep.tape, hk.output.trans hst.keep.output, Nat.le_trans hst.keep.size hk.size, fun b o ho => ?_⟩, hst.box.of_same fun x hx => hsame _ (hst.box.lt x hx) (fun ⟨r, hr, he⟩ => notb r hr x hx he.symm), ?_, hst.own, hst.avlt, fun r hr => ?_, Holds.and ?_ ?_⟩
 · obtain ⟨o1, g1, s1⟩ := hst.keep.obj b o ho
   obtain ⟨o2, g2, s2⟩ := hk.obj b o1 g1
   refine ⟨o2, g2, s1.trans (s2.mono fun i hi => ?_)⟩
   obtain ⟨r, hr, rfl⟩ := hi
   rcases (hst.rows r ((hmem r).2 (.inr (.inl hr)))).2 with h | h
   · have := lt_of_some ho
     omega
   · exact h.2.1 i
 · simp only [List.map_append, List.nodup_append, List.mem_append]
   refine ⟨nb, ⟨⟨n1, hnd', ?_⟩, n2, ?_⟩, ?_⟩
   · intro x hx y hy e
     obtain ⟨z, hz, rfl⟩ := List.mem_map.1 hx
     obtain ⟨r, hr, rfl⟩ := List.mem_map.1 hy
     exact (hnew r hr).2.1 z hz e
   · intro x hx y hy e
     obtain ⟨z, hz, rfl⟩ := List.mem_map.1 hy
     rcases hx with hx | hx
     · exact n12 _ (.inl hx) _ hy e
     · obtain ⟨r, hr, rfl⟩ := List.mem_map.1 hx
       exact (hnew r hr).2.2 z hz e.symm
   · intro x hx y hy e
     obtain ⟨z, hz, rfl⟩ := List.mem_map.1 hx
     rcases hy with (hy | hy) | hy
     · exact nbr _ hx _ (.inl (.inl hy)) e
     · obtain ⟨r, hr, rfl⟩ := List.mem_map.1 hy
       exact (hnew r hr).1 z hz e
     · exact nbr _ hx _ (.inr hy) e
 · simp only [List.mem_append] at hr
   rcases hr with (hr | hr) | hr
   · have := hst.rows r ((hmem r).2 (.inl hr))
     exact ⟨this.1.of_same (hold r (.inl hr)), this.2⟩
   · obtain ⟨g1, g2⟩ := hr' r hr
     refine ⟨g1, ?_⟩
     rcases g2 with g2 | ⟨⟨q, hq, he⟩, g3⟩
     · exact .inl (Nat.le_trans hst.keep.size g2)
     · rcases (hst.rows q ((hmem q).2 (.inr (.inl hq)))).2 with g4 | g4
       · exact .inl (by rw [← he]; exact g4)
       · exact .inr ⟨by rw [← he]; exact g4.1, by rw [← he]; exact g4.2.1, g3⟩
   · have := hst.rows r ((hmem r).2 (.inr (.inr hr)))
     exact ⟨this.1.of_same (hold r (.inr hr)), this.2⟩
 · refine hst.data.move hk.size (fun b hb hna => hsame b hb fun ⟨r, hr, he⟩ => hna (.inr (.inr ⟨r, (hmem r).2 (.inr (.inl hr)), he⟩))) fun b hb => ?_
   rcases hb with hb | hb | ⟨r, hr, rfl⟩
   · exact .inl (.inl hb)
   · exact .inl (.inr (.inl hb))
   · simp only [List.mem_append] at hr
     rcases hr with (hr | hr) | hr
     · exact .inl (.inr (.inr ⟨r, (hmem r).2 (.inl hr), rfl⟩))
     · rcases (hr' r hr).2 with g | ⟨⟨q, hq, he⟩, _⟩
       · exact .inr g
       · exact .inl (.inr (.inr ⟨q, (hmem q).2 (.inr (.inl hq)), he⟩))
     · exact .inl (.inr (.inr ⟨r, (hmem r).2 (.inr (.inr hr)), rfl⟩))
 · refine hd'.less fun b hb => ?_
   rcases hb with hb | hb | ⟨r, hr, rfl⟩
   · exact .inl (.inl hb)
   · exact .inl (.inr (.inl hb))
   · simp only [List.mem_append] at hr
     rcases hr with (hr | hr) | hr
     · exact .inl (.inr (.inr (.inl ⟨r, hr, rfl⟩)))
     · exact .inr ⟨r, hr, rfl⟩
     · exact .inl (.inr (.inr (.inr ⟨r, hr, rfl⟩)))

end Go.Sx
namespace Go.Sx
set_option linter.unusedVariables false

section
variable {P : Program} {tab : Tab} {w0 : World} {av : Nat → Prop} {bs : List (Nat × Nat)} {cs : List (List Value)}

theorem run_convLit {w : World} {t e te : TypeId} {C : Array Value} {b n c : Nat} (ht : P.underlying t = some (.slice e)) (he : P.underlying e = some (.int .u8)) (hb : w.heap[b]? = some (.cells C te (0, 0))) :
 (convert t t (.slice (some ⟨b, 0, none⟩) n c)).run P w = .ok (.slice (some ⟨b, 0, none⟩) n c) (w.freeze ⟨b, C.size, none⟩ 1) := by
 unfold convert
 rw [run_bind_ok (run_underlying' ht w), run_bind_ok (run_underlying' ht w)]
 simp only
 rw [run_bind_ok (run_underlying' he w)]
 have hsh : w.shape? b = some (te, C.size) := by
  unfold World.shape?
  rw [hb]
 have hm : (markStringish ⟨b, 0, none⟩).run P w = .ok () (w.freeze ⟨b, C.size, none⟩ 1) := by
  unfold markStringish
  rw [run_bind_ok (m := shape b) (a := some (te, C.size)) (w' := w) (by show Result.ok (w.shape? b) w = _; rw [hsh])]
  rfl
 simp only [beq_self_eq_true]
 rw [run_bind_ok hm]
 rfl

/-- []byte("..") behind its literal: the row is given up for a fact. -/
theorem XVal.lit (hT : TabOk P tab) {t e : TypeId} {ti te : TI} (ht : look tab t = some ti) (hk : ti.k = .slice e) (he : look tab e = some te) (hb8 : te.k = .int .u8) {D : World → Prop} {r1 r2 : List (Nat × Row)} {b n c : Nat} {C : List Value} {K : KV}
 (h : K (.slice (some ⟨b, 0, none⟩) n c) bs cs ⟨fun w => D w ∧ RowAt w (some ⟨b, 0, none⟩) C, r1 ++ r2⟩) :
 XVal P w0 (fun _ _ => False) av (convert t t (.slice (some ⟨b, 0, none⟩) n c)) bs cs ⟨D, r1 ++ [(b, Row.c C)] ++ r2⟩ K := by
 refine XVal_iff.2 fun w hst => ?_
 obtain ⟨i1, d1, z1, p1, p2, p3, p4, p5, p6, p7, p8⟩ := mkTI_parts (hT _ _ ht)
 obtain ⟨i2, d2, z2, q1, q2, q3, q4, q5, q6, q7, q8⟩ := mkTI_parts (hT _ _ he)
 rw [p4] at hk
 rw [q4] at hb8
 obtain rfl := slice_of hk
 obtain rfl := int_of hb8
 have hm : (b, Row.c C) ∈ r1 ++ [(b, Row.c C)] ++ r2 := by simp
 obtain ⟨⟨et, hb⟩, hown⟩ := hst.rows _ hm
 have hb0 : w0.heap.size ≤ b := hown.resolve_right fun h => h.2.1 0
 have hlt := lt_of_some hb
 refine ⟨_, _, [], cs, ⟨fun w => D w ∧ RowAt w (some ⟨b, 0, none⟩) C, r1 ++ r2⟩, run_convLit p2 q2 hb, ?_, by rw [List.append_nil]; exact h⟩
 rw [List.append_nil]
 have hsh : Ent ⟨D, r1 ++ [(b, Row.c C)] ++ r2⟩ ⟨fun w => D w ∧ RowAt w (some ⟨b, 0, none⟩) C, r1 ++ r2⟩ :=
  Owg.share (sz := 1) (n := C.length) (cap := C.length) (a := some ⟨b, 0, none⟩) (r1 := r1) (r2 := r2) (Owg.full (by simp))
 have h2 := hst.ent hsh
 have hnd := hst.nd
 simp only [List.map_append, List.map_cons, List.map_nil] at hnd
 have hnb : ∀ x ∈ bs, x.1 ≠ b := fun x hx he => by
  rw [List.nodup_append] at hnd
  exact hnd.2.2 x.1 (List.mem_map.2 ⟨x, hx, rfl⟩) b (by simp) he
 have hnr : ∀ r, r ∈ r1 ∨ r ∈ r2 → r.1 ≠ b := fun r hr he => by
  rw [List.nodup_append] at hnd
  have h8 := hnd.2.1
  rw [List.append_assoc, List.nodup_append] at h8
  rcases hr with hr | hr
  · exact h8.2.2 r.1 (List.mem_map.2 ⟨r, hr, rfl⟩) b (by simp) he
  · have := h8.2.1
    simp only [List.singleton_append, List.nodup_cons] at this
    exact this.1 (List.mem_map.2 ⟨r, hr, he⟩)
 have hsz : (w.freeze ⟨b, C.toArray.size, none⟩ 1).heap.size = w.heap.size := by
  unfold World.freeze
  rw [if_neg (by decide)]
  simp
 have hoth : ∀ k, k ≠ b → (w.freeze ⟨b, C.toArray.size, none⟩ 1).heap[k]? = w.heap[k]? := fun k hk => by
  unfold World.freeze
  rw [if_neg (by decide)]
  simp only [Array.getElem?_modify]
  rw [if_neg (fun h => hk h.symm)]
 have hnew : ∃ fz, (w.freeze ⟨b, C.toArray.size, none⟩ 1).heap[b]? = some (.cells C.toArray et fz) := by
  unfold World.freeze
  rw [if_neg (by decide)]
  simp only [Array.getElem?_modify, if_true, hb]
  exact ⟨_, rfl⟩
 obtain ⟨fz, hnew⟩ := hnew
 have hos : (w.freeze ⟨b, C.toArray.size, none⟩ 1).os = w.os := by unfold World.freeze; rw [if_neg (by decide)]
 have hta : (w.freeze ⟨b, C.toArray.size, none⟩ 1).tape = w.tape := by unfold World.freeze; rw [if_neg (by decide)]
 have hou : (w.freeze ⟨b, C.toArray.size, none⟩ 1).output = w.output := by unfold World.freeze; rw [if_neg (by decide)]
 generalize w.freeze ⟨b, C.toArray.size, none⟩ 1 = w' at *
 refine ⟨⟨hos.trans hst.keep.os, hta.trans hst.keep.tape, hou.trans hst.keep.output, by rw [hsz]; exact hst.keep.size, fun k o ho => ?_⟩, h2.box.of_same fun x hx => hoth _ (hnb x hx), h2.nd, h2.own, h2.avlt, fun r hr => ?_, ?_⟩
 · obtain ⟨o', ho', hs⟩ := hst.keep.obj k o ho
   have hlt := lt_of_some ho
   exact ⟨o', by rw [hoth k (by omega)]; exact ho', hs⟩
 · have := h2.rows r hr
   exact ⟨this.1.of_same (hoth _ (hnr r (by simpa using hr))), this.2⟩
 · have hnav : ¬ Av av bs (r1 ++ r2) b := by
    rintro (ha | ⟨x, hx, he⟩ | ⟨r, hr, he⟩)
    · have := hst.avlt b ha
      omega
    · exact hnb x hx he
    · exact hnr r (by simpa using hr) he
   refine Holds.and ?_ (RowAt.holds (ad := ⟨b, 0, none⟩) (.inr ⟨rfl, C.toArray, et, fz, hnew, fun j hj => by simp⟩) hnav)
   refine hst.data.move (by omega) (fun k hk hna => hoth k fun he => hna (.inr (.inr ⟨(b, Row.c C), by simp, he.symm⟩))) (fun k hk => .inl ?_)
   rcases hk with hk | hk | ⟨r, hr, rfl⟩
   · exact .inl hk
   · exact .inr (.inl hk)
   · rcases List.mem_append.1 hr with hr | hr
     · exact .inr (.inr ⟨r, by simp [hr], rfl⟩)
     · exact .inr (.inr ⟨r, by simp [hr], rfl⟩)

end
end Go.Sx
namespace Go.Sx
set_option linter.unusedVariables false

section
variable {P : Program} {tab : Tab} {w0 : World} {R : Nat → Nat → Prop} {av : Nat → Prop} {bs : List (Nat × Nat)} {cs : List (List Value)} {F : Fx}

/-- Behind the head the facts may be changed. -/
theorem XVal.post {m : Sem Value} {K K' : KV} (h : XVal P w0 R av m bs cs F K') (hk : ∀ v bs' cs' F', K' v bs' cs' F' → ∃ F'', Ent F' F'' ∧ K v bs' cs' F'') : XVal P w0 R av m bs cs F K := by
 refine XVal_iff.2 fun w hst => ?_
 obtain ⟨v, w', ext, cs', D', h1, h2, h3⟩ := XVal_iff.1 h w hst
 obtain ⟨F'', he, h4⟩ := hk _ _ _ _ h3
 exact ⟨v, w', ext, cs', F'', h1, h2.ent he, h4⟩

end
end Go.Sx
namespace Go.Sx
set_option linter.unusedVariables false

section
variable {P : Program} {tab : Tab} {w0 : World} {R : Nat → Nat → Prop} {av : Nat → Prop} {bs : List (Nat × Nat)} {cs : List (List Value)} {F : Fx}

end
end Go.Sx
namespace Go.Sx
set_option linter.unusedVariables false
set_option linter.unusedSimpArgs false

section
variable {P : Program} {tab : Tab} {w0 : World} {R : Nat → Nat → Prop} {av : Nat → Prop} {bs : List (Nat × Nat)} {cs : List (List Value)} {F : Fx}

theorem mk_get (l : List UInt8) (j : Nat) : (ByteArray.mk ⟨l⟩)[j]? = l[j]? := by
 by_cases h : j < l.length
 · have hs : j < (ByteArray.mk ⟨l⟩).size := h
   rw [List.getElem?_eq_getElem h]
   show (if h : j < (ByteArray.mk ⟨l⟩).size then some ((ByteArray.mk ⟨l⟩)[j]) else none) = _
   rw [dif_pos hs]
   rfl
 · rw [List.getElem?_eq_none (by omega)]
   show (if h : j < (ByteArray.mk ⟨l⟩).size then some ((ByteArray.mk ⟨l⟩)[j]) else none) = _
   rw [dif_neg (show ¬ j < (ByteArray.mk ⟨l⟩).size from h)]

/-- s[i] -/
theorem XRead.strIndex (hT : TabOk P tab) {t : TypeId} {ti : TI} (ht : look tab t = some ti) (hk : ti.k = .str) {l : List UInt8} {k : IntKind} {i : Int} {K : Value → Prop} (j : Nat) (hj : i = (j : Int)) (hlt : j < l.length) (h : K (byteV l[j])) :
 XRead P w0 R av (Instr.index t (strV l) (.int k i)) bs cs F K := by
 subst hj
 refine (XRead_iff _ _ _ _).2 ⟨_, fun w _ => ?_, h⟩
 obtain ⟨i1, d1, z1, p1, p2, p3, p4, p5, p6, p7, p8⟩ := mkTI_parts (hT _ _ ht)
 rw [p4] at hk
 obtain rfl := string_of hk
 unfold Instr.index strV
 rw [run_bind_ok (m := asIntOf _) (a := (k, (j : Int))) (w' := w) rfl, run_bind_ok (run_underlying' p2 w)]
 simp only
 rw [if_pos (by omega), Int.toNat_natCast, mk_get, List.getElem?_eq_getElem hlt]
 rfl

theorem flat_get' {α : Type} (l : List α) (hl : 0 < l.length) : ∀ (n i : Nat), i < n * l.length → ((List.replicate n l).flatten)[i]? = l[i % l.length]?
 | 0, i, h => by simp at h
 | n + 1, i, h => by
  rw [List.replicate_succ, List.flatten_cons]
  by_cases hi : i < l.length
  · rw [List.getElem?_append_left hi, Nat.mod_eq_of_lt hi]
  · rw [List.getElem?_append_right (by omega), flat_get' l hl n (i - l.length) (by rw [Nat.succ_mul] at h; omega)]
    congr 1
    rw [Nat.mod_eq_sub_mod (by omega : i ≥ l.length)]

theorem flat_len' {α : Type} (l : List α) (n : Nat) : ((List.replicate n l).flatten).length = n * l.length := by
 induction n with
 | zero => simp
 | succ n ih => rw [List.replicate_succ, List.flatten_cons, List.length_append, ih, Nat.succ_mul]; omega

theorem range_mod' (z : List Value) (hz : 0 < z.length) (n : Nat) : (Array.range (n * z.length)).map ((⟨z⟩ : Array Value)[· % (⟨z⟩ : Array Value).size]!) = ⟨(List.replicate n z).flatten⟩ := by
 apply Array.toList_inj.1
 apply List.ext_getElem?
 intro i
 rw [Array.toList_map]
 show ((Array.range (n * z.length)).toList.map _)[i]? = ((List.replicate n z).flatten)[i]?
 rw [Array.toList_range, List.getElem?_map]
 by_cases hi : i < n * z.length
 · rw [List.getElem?_range hi, flat_get' z hz n i hi]
   have hm : i % z.length < z.length := Nat.mod_lt _ hz
   rw [List.getElem?_eq_getElem hm]
   simp [hm]
 · rw [List.getElem?_eq_none (by simpa using hi), List.getElem?_eq_none (by rw [flat_len']; omega)]
   rfl

/-- make([]T, n) -/
theorem XVal.makeRow (hT : TabOk P tab) {t : TypeId} {ti te : TI} {e : TypeId} (ht : look tab t = some ti) (hk : ti.k = .slice e) (he : look tab e = some te) {k k' : IntKind} {m m' : Int} {K : KV} (n : Nat) (hm : m = (n : Int)) (hm' : m' = (n : Int))
 (hn : 0 < n) (hs0 : 0 < te.size) (hzl : te.zero.length = te.size) (hsmall : n ≤ 1000000) (hroom : te.bytes * n ≤ 1000000000)
 (h : ∀ b, K (.slice (some ⟨b, 0, none⟩) n n) bs cs ⟨F.D, F.rs ++ [(b, Row.c (List.replicate n te.zero).flatten)]⟩) : XVal P w0 R av (Instr.makeSlice t (.int k m) (.int k' m')) bs cs F K := by
 subst hm hm'
 refine XVal_iff.2 fun w hst => ?_
 obtain ⟨i1, d1, z1, p1, p2, p3, p4, p5, p6, p7, p8⟩ := mkTI_parts (hT _ _ ht)
 obtain ⟨i2, d2, z2, q1, q2, q3, q4, q5, q6, q7, q8⟩ := mkTI_parts (hT _ _ he)
 rw [p4] at hk
 obtain rfl := slice_of hk
 refine ⟨_, _, [], cs, _, ?_, by rw [List.append_nil]; exact hst.newRow ((List.replicate n te.zero).flatten) e, by rw [List.append_nil]; exact h _⟩
 unfold Instr.makeSlice
 rw [run_bind_ok (run_underlying' p2 w)]
 simp only
 rw [run_bind_ok (m := asInt _) (a := (n : Int)) (w' := w) rfl, run_bind_ok (m := asInt _) (a := (n : Int)) (w' := w) rfl, run_bind_ok (run_typeInfo q1 w)]
 have w1 : IntKind.i64.wrap (n : Int) = n := wrap_i64 (by omega)
 simp only [w1]
 have hb1 : (i2.bytes : Int) * (n : Int) ≤ 1000000000 := by
  have h3 : ((te.bytes * n : Nat) : Int) ≤ ((1000000000 : Nat) : Int) := Int.ofNat_le.2 hroom
  rw [Int.natCast_mul, q7] at h3
  exact h3
 have ht1 : (decide ((n : Int) < 0) || decide ((i2.bytes : Int) * (n : Int) > 2 ^ 48)) = false := by
  have e48 : (2 : Int) ^ 48 = 281474976710656 := by decide
  rw [Bool.or_eq_false_iff, e48]
  exact ⟨decide_eq_false (by omega), decide_eq_false (by omega)⟩
 simp only [ht1, Bool.false_or]
 have ht2 : (decide ((n : Int) < 0) || decide ((n : Int) > (n : Int))) = false := by
  rw [Bool.or_eq_false_iff]
  exact ⟨decide_eq_false (by omega), decide_eq_false (by omega)⟩
 rw [if_neg (by rw [ht2]; simp)]
 rw [run_bind_ok (run_askRoom _ _), run_bind_ok (run_sizeOf q1 w), ← q5]
 simp only [Int.toNat_natCast]
 have hz2 : z2.cells = ⟨te.zero⟩ := by rw [q6]
 have h0 : n * te.size ≠ 0 := Nat.ne_of_gt (Nat.mul_pos hn hs0)
 rw [if_neg h0, run_bind_ok (run_zero q1 q3 w), run_bind_ok (run_pure P _ w)]
 rw [hz2, ← hzl, range_mod' te.zero (by omega) n]
 rw [run_bind_ok (run_newRow w e _)]
 rfl

end
end Go.Sx
namespace Go.Sx
open Go
set_option linter.unusedVariables false
set_option linter.unusedSimpArgs false
variable {P : Program} {tab : Tab} {w0 : World} {R : Nat → Nat → Prop} {av : Nat → Prop} {bs : List (Nat × Nat)} {cs : List (List Value)} {F : Fx}

/-! ### lists, where their shape is not seen -/

theorem nthK_mk {α : Type} : ∀ {l : List α} {n : Nat} {x : α} {K : α → Prop}, l[n]? = some x → K x → nthK l n K
 | [], n, x, K, h, _ => by simp at h
 | y :: l, 0, x, K, h, k => by
  simp at h
  subst h
  exact k
 | y :: l, n + 1, x, K, h, k => nthK_mk (l := l) (by simpa using h) k

theorem lenK_mk : ∀ {l : List Value} {n : Nat} {K : Prop}, l.length = n → K → lenK l n K
 | [], 0, K, _, h => h
 | _ :: xs, n + 1, K, hl, h => lenK_mk (l := xs) (by simpa using hl) h
 | [], n + 1, K, hl, h => by simp at hl
 | _ :: xs, 0, K, hl, h => by simp at hl

theorem overK_mk : ∀ {l : List Value} {o : Nat} {m : List Value} {K : List Value → Prop}, o + m.length ≤ l.length → K (laid l o m) → overK l o m K
 | xs, 0, [], K, _, h => by
  unfold overK
  simpa [laid] using h
 | x :: xs, 0, y :: ys, K, hl, h => by
  unfold overK
  refine overK_mk (l := xs) (o := 0) (m := ys) (by simp at hl ⊢; omega) ?_
  simpa [laid] using h
 | x :: xs, o + 1, ys, K, hl, h => by
  unfold overK
  refine overK_mk (l := xs) (o := o) (m := ys) (by simp at hl; omega) ?_
  have e : o + 1 + ys.length = (o + ys.length) + 1 := by omega
  simpa [laid, e] using h
 | [], 0, y :: ys, K, hl, h => by simp at hl
 | [], o + 1, ys, K, hl, h => by simp at hl

/-! ### boxes that are looked at through an address -/

theorem Sees.box {b o : Nat} {c : List Value} (i : Nat) (hb : nth (0, 0) bs i = (b, o)) (hi : i < cs.length) (hc : nth [] cs i = c) : Sees w0 R av bs cs F (some ⟨b, o, none⟩) c := fun w hst => by
 obtain ⟨h1, h2⟩ := hst.box.get i hi
 rw [hb, hc] at h1
 exact .of_range h1

/-- An element's address in an array that lies at an address. -/
theorem XRead.indexArr (hT : TabOk P tab) {t : TypeId} {ti te : TI} {n : Nat} {e : TypeId} (ht : look tab t = some ti) (hk : ti.k = .arr n e) (he : look tab e = some te) {a : Addr} {k : IntKind} {i : Int} {K : Value → Prop}
 (j : Nat) (hj : i = (j : Int)) (h1 : j < n) (ha : a.spot = none) (h : K (.pointer (some (a.add (j * te.size))))) : XRead P w0 R av (Instr.indexAt t (.pointer (some a)) (.int k i)) bs cs F K := by
 subst hj
 refine (XRead_iff _ _ _ _).2 ⟨_, fun w _ => ?_, h⟩
 obtain ⟨i1, d1, z1, p1, p2, p3, p4, p5, p6, p7, p8⟩ := mkTI_parts (hT _ _ ht)
 obtain ⟨i2, d2, z2, q1, q2, q3, q4, q5, q6, q7, q8⟩ := mkTI_parts (hT _ _ he)
 rw [p4] at hk
 have hd : d1 = .array n e := by
  cases d1 <;> simp [mkTK] at hk
  obtain ⟨rfl, rfl⟩ := hk
  rfl
 subst hd
 unfold Instr.indexAt
 rw [run_bind_ok (m := asIntOf (.int k (j : Int))) (a := (k, (j : Int))) (w' := w) rfl]
 simp only
 rw [run_bind_ok (run_underlying' p2 w)]
 simp only
 rw [run_bind_ok (m := Instr.sureAddr (.pointer (some a))) (a := a) (w' := w) rfl, run_bind_ok (run_pure P _ w)]
 rw [run_bind_ok (run_underlying' p2 w)]
 simp only
 rw [if_pos ⟨by omega, by omega⟩, run_bind_ok (run_sizeOf q1 w), ← q5]
 simp

/-- An element of an array value. -/
theorem XRead.indexAgg (hT : TabOk P tab) {t : TypeId} {ti te : TI} {n : Nat} {e : TypeId} (ht : look tab t = some ti) (hk : ti.k = .arr n e) (he : look tab e = some te) (hea : te.k.agg = false) (hsz : te.size = 1)
 {l : List Value} {k : IntKind} {i : Int} {v : Value} {K : Value → Prop}
 (j : Nat) (hj : i = (j : Int)) (h1 : j < n) (hv : l[j]? = some v) (h : K v) : XRead P w0 R av (Instr.index t (.agg ⟨l⟩) (.int k i)) bs cs F K := by
 subst hj
 refine (XRead_iff _ _ _ _).2 ⟨_, fun w _ => ?_, h⟩
 obtain ⟨i1, d1, z1, p1, p2, p3, p4, p5, p6, p7, p8⟩ := mkTI_parts (hT _ _ ht)
 obtain ⟨i2, d2, z2, q1, q2, q3, q4, q5, q6, q7, q8⟩ := mkTI_parts (hT _ _ he)
 rw [p4] at hk
 have hd : d1 = .array n e := by
  cases d1 <;> simp [mkTK] at hk
  obtain ⟨rfl, rfl⟩ := hk
  rfl
 subst hd
 unfold Instr.index
 rw [run_bind_ok (m := asIntOf (.int k (j : Int))) (a := (k, (j : Int))) (w' := w) rfl]
 simp only
 rw [run_bind_ok (run_underlying' p2 w)]
 simp only
 rw [if_pos ⟨by omega, by omega⟩, run_bind_ok (run_sizeOf q1 w), ← q5, hsz]
 unfold part
 rw [run_bind_ok (run_isAgg q2 w), ← q4, hea]
 have hg : (⟨l⟩ : Array Value)[j]? = some v := by simpa using hv
 simp [hg]

/-- An array's slice: a[:] through its address. -/
theorem XRead.sliceArr (hT : TabOk P tab) {t : TypeId} {ti te : TI} {n : Nat} {e : TypeId} (ht : look tab t = some ti) (hk : ti.k = .arr n e) (he : look tab e = some te) {a : Addr} {K : Value → Prop} (ha : a.spot = none)
 (h : K (.slice (some (if n = 0 then a else a.add (0 * te.size))) (n - 0) (n - 0))) : XRead P w0 R av (Instr.sliceAt t (.pointer (some a)) none none none) bs cs F K := by
 refine (XRead_iff _ _ _ _).2 ⟨_, fun w _ => ?_, h⟩
 obtain ⟨i1, d1, z1, p1, p2, p3, p4, p5, p6, p7, p8⟩ := mkTI_parts (hT _ _ ht)
 obtain ⟨i2, d2, z2, q1, q2, q3, q4, q5, q6, q7, q8⟩ := mkTI_parts (hT _ _ he)
 rw [p4] at hk
 have hd : d1 = .array n e := by
  cases d1 <;> simp [mkTK] at hk
  obtain ⟨rfl, rfl⟩ := hk
  rfl
 subst hd
 unfold Instr.sliceAt
 rw [run_bind_ok (run_underlying' p2 w)]
 simp only
 rw [run_bind_ok (m := Instr.sureAddr (.pointer (some a))) (a := a) (w' := w) rfl]
 rw [run_bind_ok (m := Instr.sliceBounds false n n none none none) (a := (0, n, n)) (w' := w) rfl]
 simp only
 rw [run_bind_ok (run_sizeOf q1 w), ← q5]
 rfl

/-! ### stores through addresses of boxes -/

/-! ### great objects -/

theorem XVal.allocRow (hT : TabOk P tab) {e : TypeId} {ti : TI} (ht : look tab e = some ti) {z : List Value} (hz : ti.zero = z) {K : KV} (h : ∀ b, K (.pointer (some ⟨b, 0, none⟩)) bs cs ⟨F.D, F.rs ++ [(b, Row.c z)]⟩) :
 XVal P w0 R av (Instr.alloc e true (.tuple #[])) bs cs F K := by
 subst hz
 refine XVal_iff.2 fun w hst => ?_
 obtain ⟨i, d, z, h1, h2, h3, h4, h5, h6, -, -⟩ := mkTI_parts (hT _ _ ht)
 refine ⟨_, _, [], cs, _, ?_, by rw [List.append_nil]; exact hst.newRow ti.zero e, by rw [List.append_nil]; exact h _⟩
 unfold Instr.alloc
 rw [run_bind_ok (run_zero h1 h3 w)]
 rw [h6]
 rfl

theorem XVal.boxRow {e : TypeId} {z : List Value} {K : KV} (h : ∀ b, K (.pointer (some ⟨b, 0, none⟩)) bs cs ⟨F.D, F.rs ++ [(b, Row.c z)]⟩) :
 XVal P w0 R av (Instr.box e (.agg ⟨z⟩)) bs cs F K := by
 refine XVal_iff.2 fun w hst => ?_
 exact ⟨_, _, [], cs, _, rfl, by rw [List.append_nil]; exact hst.newRow z e, by rw [List.append_nil]; exact h _⟩

theorem XRead.buildBig (hT : TabOk P tab) {t : TypeId} {ti : TI} (ht : look tab t = some ti) (hk : ti.k = .struct) {ps : List (Nat × Value)} {K : Value → Prop} (h : fillK (structPlace ti) ps ti.zero fun z => K (.agg ⟨z⟩)) :
 XRead P w0 R av (Instr.build t ⟨ps⟩) bs cs F K := by
 obtain ⟨z, h1, h2⟩ := run_build (hT _ _ ht) hk h
 exact (XRead_iff _ _ _ _).2 ⟨_, fun w _ => h1 w, h2⟩

/-! ### copies -/

/-- copy(s, t) into a row of the function's own. -/
theorem XVal.copyIn (hT : TabOk P tab) {t xt ty : TypeId} {ti te : TI} {e : TypeId} (ht : look tab t = some ti) (hk : ti.k = .slice e) (he : look tab e = some te) {D : World → Prop} {r1 r2 : List (Nat × Row)} {b k n c : Nat} {C M : List Value} {p : Addr}
 {q : Option Addr} {m cx : Nat} {K : KV} (hp : p = ⟨b, k, none⟩) (hM : Sees w0 R av bs cs ⟨D, r1 ++ [(b, Row.c C)] ++ r2⟩ q M) (hm : M.length = m * te.size) (hone : ∀ v ∈ M, oneCell v = true) (hle : k + (min m n) * te.size ≤ C.length)
 (h : K (.int .i64 ((min m n : Nat) : Int)) bs cs ⟨D, r1 ++ [(b, Row.c (laid C k (M.take ((min m n) * te.size))))] ++ r2⟩) :
 XVal P w0 R av (Builtin.copy_ #[t, xt] ty #[.slice (some p) n c, .slice q m cx]) bs cs ⟨D, r1 ++ [(b, Row.c C)] ++ r2⟩ K := by
 subst hp
 refine XVal_iff.2 fun w hst => ?_
 obtain ⟨i1, d1, z1, p1, p2, p3, p4, p5, p6, p7, p8⟩ := mkTI_parts (hT _ _ ht)
 obtain ⟨i2, d2, z2, q1, q2, q3, q4, q5, q6, q7, q8⟩ := mkTI_parts (hT _ _ he)
 rw [p4] at hk
 obtain rfl := slice_of hk
 have hmin : min m n * te.size ≤ M.length := by rw [hm]; exact Nat.mul_le_mul_right _ (Nat.min_le_left _ _)
 have hlt : (M.take (min m n * te.size)).length = min m n * te.size := by rw [List.length_take]; omega
 obtain ⟨w', g1, g2⟩ := St.laidRow (P := P) (w' := w) (k := k) hst (l := M.take (min m n * te.size)) (fun v hv => hone v (List.mem_of_mem_take hv)) (by rw [hlt]; exact hle)
 refine ⟨_, w', [], cs, _, ?_, by rw [List.append_nil]; exact g2, by rw [List.append_nil]; exact h⟩
 unfold Builtin.copy_
 simp only [show (#[t, xt] : Array TypeId)[0]? = some t from rfl, show ∀ u v : Value, (#[u, v] : Array Value)[0]? = some u from fun _ _ => rfl, show ∀ u v : Value, (#[u, v] : Array Value)[1]? = some v from fun _ _ => rfl]
 rw [run_bind_ok (run_underlying' p2 w)]
 simp only
 rw [run_bind_ok (m := Builtin.lenOf (.slice q m cx)) (a := m) (w' := w) rfl, run_bind_ok (run_sizeOf q1 w), ← q5]
 have hf := run_firstCells (P := P) (n := m) (c := cx) (((hM w hst).take (min m n * te.size))) (m := min m n) (sz := te.size) hlt
 rw [show Nat.min m n = min m n from rfl, run_bind_ok hf]
 simp only
 rw [run_bind_ok g1]
 rfl

/-! ### shifts of bytes -/

theorem XRead.shl {t : TypeId} {x y : Operand} {k k' : IntKind} {a : Int} {j : Nat} {i : Int} {K : Value → Prop} (hi : i = (j : Int)) (hj : j ≤ k.bits) (h : K (.int k (k.wrap (a * 2 ^ j)))) :
 XRead P w0 R av (do eqGuard .shl t x y (.int k a) (.int k' i); binOp .shl t (.int k a) (.int k' i)) bs cs F K := by
 subst hi
 refine (XRead_iff _ _ _ _).2 ⟨_, fun w _ => ?_, h⟩
 rw [run_bind_ok (eqGuard_int _ _ _ _ _ _ _ _ w)]
 simp only [binOp, Op.shift]
 rw [if_neg (by omega), Int.toNat_natCast, Nat.min_eq_left hj]
 rfl

theorem XRead.shr {t : TypeId} {x y : Operand} {k k' : IntKind} {a : Nat} {j : Nat} {i : Int} {K : Value → Prop} (hi : i = (j : Int)) (hj : j ≤ k.bits) (h : K (.int k ((a / 2 ^ j : Nat) : Int))) :
 XRead P w0 R av (do eqGuard .shr t x y (.int k (a : Int)) (.int k' i); binOp .shr t (.int k (a : Int)) (.int k' i)) bs cs F K := by
 subst hi
 refine (XRead_iff _ _ _ _).2 ⟨_, fun w _ => ?_, h⟩
 rw [run_bind_ok (eqGuard_int _ _ _ _ _ _ _ _ w)]
 simp only [binOp, Op.shift]
 rw [if_neg (by omega), Int.toNat_natCast, Nat.min_eq_left hj]
 have : ((a : Int).fdiv (2 ^ j)) = ((a / 2 ^ j : Nat) : Int) := by
  rw [Int.fdiv_eq_ediv_of_nonneg _ (by exact_mod_cast Nat.zero_le _)]
  push_cast
  rfl
 rw [this]
 rfl

end Go.Sx
namespace Go.Sx
open Go
set_option linter.unusedVariables false
set_option linter.unusedSimpArgs false
variable {P : Program} {tab : Tab} {w0 : World} {R : Nat → Nat → Prop} {av : Nat → Prop} {bs : List (Nat × Nat)} {cs : List (List Value)} {F : Fx}

abbrev KVs := List (Value × Value)

def mapG (l : KVs) : Array MapEntry := (l.zipIdx.map fun x => ⟨x.1.1, x.1.2, x.2⟩).toArray

theorem mapG_get (l : KVs) (i : Nat) : (mapG l).toList[i]? = l[i]?.map fun p => ⟨p.1, p.2, i⟩ := by
 simp only [mapG, List.getElem?_map, List.getElem?_zipIdx]
 cases l[i]? <;> simp

theorem mapG_mem {l : KVs} {e : MapEntry} (h : e ∈ (mapG l).toList) : ∃ i p, l[i]? = some p ∧ e = ⟨p.1, p.2, i⟩ := by
 obtain ⟨i, hi⟩ := List.mem_iff_getElem?.1 h
 rw [mapG_get] at hi
 cases hp : l[i]? with
 | none => rw [hp] at hi; cases hi
 | some p =>
  rw [hp] at hi
  cases hi
  exact ⟨i, p, hp, rfl⟩

theorem mapG_snoc (l : KVs) (p : Value × Value) : mapG (l ++ [p]) = (mapG l).push ⟨p.1, p.2, l.length⟩ := by
 simp [mapG, List.zipIdx_append]

theorem mapG_set (l : KVs) (i : Nat) (k v : Value) : (mapG l).modify i (fun e => { e with key := k, val := v }) = mapG (l.set i (k, v)) := by
 apply Array.ext_getElem?
 intro j
 rw [Array.getElem?_modify]
 have e1 : ∀ m : KVs, (mapG m)[j]? = (mapG m).toList[j]? := fun m => by simp
 rw [e1, e1, mapG_get, mapG_get, List.getElem?_set]
 by_cases hij : i = j
 · subst hij
   rw [if_pos rfl]
   by_cases hl : i < l.length
   · simp [hl]
   · simp [hl]
 · simp [hij]

/-- The block is a map of these. -/
def MapAt (w : World) (b : Nat) (l : KVs) : Prop := w.heap[b]? = some (.map (mapG l) l.length)

def SeesM (w0 : World) (R : Nat → Nat → Prop) (av : Nat → Prop) (bs : List (Nat × Nat)) (cs : List (List Value)) (F : Fx) (b : Nat) (l : KVs) : Prop := ∀ w, St w0 R av w bs cs F → MapAt w b l

theorem SeesM.row {b : Nat} {l : KVs} (h : (b, Row.m (mapG l) l.length) ∈ F.rs) : SeesM w0 R av bs cs F b l := fun w hst => (hst.rows _ h).1

theorem SeesM.fact {b : Nat} {l : KVs} (h : ∀ w, F.D w → MapAt w b l) : SeesM w0 R av bs cs F b l := fun w hst => h w hst.now

section keys
variable {d : TypeDesc} {k : Value}

/-- Where a key stands. -/
theorem findNow_map (hk : MapKept.IsKey d k) {l : KVs} (hl : ∀ p ∈ l, MapKept.IsKey d p.1) :
 (∃ i v, l[i]? = some (k, v) ∧ Instr.findNow d k (mapG l).toList 0 = some (some (i, v))) ∨ ((∀ p ∈ l, p.1 ≠ k) ∧ Instr.findNow d k (mapG l).toList 0 = some none) := by
 have hk' : ∀ x ∈ (mapG l).toList, MapKept.IsKey d x.key := fun x hx => by
  obtain ⟨i, p, h1, rfl⟩ := mapG_mem hx
  exact hl p (List.mem_of_getElem? h1)
 rcases MapKept.findNow_spec hk (mapG l).toList 0 hk' with ⟨h1, h2⟩ | ⟨j, e, h1, h2, h3⟩
 · refine .inr ⟨fun p hp => ?_, h1⟩
   obtain ⟨i, hi⟩ := List.mem_iff_getElem?.1 hp
   have : (mapG l).toList[i]? = some ⟨p.1, p.2, i⟩ := by rw [mapG_get, hi]; rfl
   exact h2 _ (List.mem_of_getElem? this)
 · rw [mapG_get] at h2
   cases hp : l[j]? with
   | none => rw [hp] at h2; cases h2
   | some p =>
    rw [hp] at h2
    cases h2
    obtain ⟨p1, p2⟩ := p
    have h3 : p1 = k := h3
    subst h3
    rw [Nat.zero_add] at h1
    exact .inl ⟨j, p2, hp, h1⟩

end keys

def keyT : TK → Option TypeDesc
 | .int k => some (.int k)
 | .str => some .string
 | _ => none

theorem key_of {t : TypeDesc} {d : TypeDesc} (h : keyT (mkTK t) = some d) : t = d := by
 cases t <;> simp [mkTK, keyT] at h <;> exact h

/-- m[k] and v, ok := m[k]: the key is there. -/
theorem XRead.lookupIn (hT : TabOk P tab) {t kt et : TypeId} {ti tk : TI} (ht : look tab t = some ti) (hk : ti.k = .map kt et) (hkt : look tab kt = some tk) {d : TypeDesc} (hd : keyT tk.k = some d) {b : Nat} {l : KVs} {k v : Value} {ok : Bool} {K : Value → Prop}
 (hm : SeesM w0 R av bs cs F b l) (hkk : MapKept.IsKey d k) (hl : ∀ p ∈ l, MapKept.IsKey d p.1) (hv : ∀ (i : Nat) u, l[i]? = some (k, u) → u = v) (hin : ∃ p ∈ l, p.1 = k)
 (h : K (if ok then .tuple #[v, .bool true] else v)) :
 XRead P w0 R av (Instr.lookup t (.map (some b)) k ok) bs cs F K := by
 refine (XRead_iff _ _ _ _).2 ⟨_, fun w hst => ?_, h⟩
 obtain ⟨i1, d1, z1, p1, p2, p3, p4, p5, p6, p7, p8⟩ := mkTI_parts (hT _ _ ht)
 obtain ⟨i2, d2, z2, q1, q2, q3, q4, q5, q6, q7, q8⟩ := mkTI_parts (hT _ _ hkt)
 rw [p4] at hk
 obtain rfl := map_of hk
 rw [q4] at hd
 obtain rfl := key_of hd
 have hb : w.heap[b]? = some (.map (mapG l) l.length) := hm w hst
 have hck : (Instr.checkKey (mapG l).isEmpty 10000 kt k).run P w = .ok () w := MapKept.run_checkKey q2 hkk _ 9999
 rcases findNow_map hkk hl with ⟨i, u, h1, h2⟩ | ⟨h1, h2⟩
 · have hf := MapKept.run_findKey (w := w) q2 h2
   have := hv i u h1
   subst this
   cases ok <;> simp [Instr.lookup, run_underlying p2, MapKept.run_getObj_map hb, hck, hf, Result.andThen]
 · obtain ⟨p, hp, he⟩ := hin
   exact absurd he (h1 p hp)

/-- The key is not there. -/
theorem XRead.lookupNo (hT : TabOk P tab) {t kt et : TypeId} {ti tk : TI} (ht : look tab t = some ti) (hk : ti.k = .map kt et) (hkt : look tab kt = some tk) {d : TypeDesc} (hd : keyT tk.k = some d) {b : Nat} {l : KVs} {k z : Value} {ok : Bool} {K : Value → Prop}
 (hm : SeesM w0 R av bs cs F b l) (hkk : MapKept.IsKey d k) (hl : ∀ p ∈ l, MapKept.IsKey d p.1) (hno : ∀ p ∈ l, p.1 ≠ k) (hz : (P.info? et).bind (·.zero) = some z)
 (h : K (if ok then .tuple #[z, .bool false] else z)) :
 XRead P w0 R av (Instr.lookup t (.map (some b)) k ok) bs cs F K := by
 refine (XRead_iff _ _ _ _).2 ⟨_, fun w hst => ?_, h⟩
 obtain ⟨i1, d1, z1, p1, p2, p3, p4, p5, p6, p7, p8⟩ := mkTI_parts (hT _ _ ht)
 obtain ⟨i2, d2, z2, q1, q2, q3, q4, q5, q6, q7, q8⟩ := mkTI_parts (hT _ _ hkt)
 rw [p4] at hk
 obtain rfl := map_of hk
 rw [q4] at hd
 obtain rfl := key_of hd
 have hb : w.heap[b]? = some (.map (mapG l) l.length) := hm w hst
 have hck : (Instr.checkKey (mapG l).isEmpty 10000 kt k).run P w = .ok () w := MapKept.run_checkKey q2 hkk _ 9999
 rcases findNow_map hkk hl with ⟨i, u, h1, h2⟩ | ⟨h1, h2⟩
 · exact absurd rfl (hno _ (List.mem_of_getElem? h1))
 · have hf := MapKept.run_findKey (w := w) q2 h2
   have hzv : (zeroValue et).run P w = .ok z w := by
    cases hi : P.info? et with
    | none => rw [hi] at hz; cases hz
    | some i3 =>
     rw [hi] at hz
     exact run_zero hi hz w
   cases ok <;> simp [Instr.lookup, run_underlying p2, MapKept.run_getObj_map hb, hck, hf, hzv, Result.andThen]

theorem XVal.makeMapG {t : TypeId} {K : KV} (h : ∀ b, K (.map (some b)) bs cs ⟨F.D, F.rs ++ [(b, Row.m (mapG []) ([] : KVs).length)]⟩) : XVal P w0 R av (Instr.makeMap t none) bs cs F K := XVal.makeMap h

/-- m[k] = v: a new key. -/
theorem XUnit.mapNew (hT : TabOk P tab) {t kt et : TypeId} {ti tk : TI} (ht : look tab t = some ti) (hk : ti.k = .map kt et) (hkt : look tab kt = some tk) {d : TypeDesc} (hd : keyT tk.k = some d)
 {D : World → Prop} {r1 r2 : List (Nat × Row)} {b : Nat} {l : KVs} {k v : Value} {K : KU} (hkk : MapKept.IsKey d k) (hl : ∀ p ∈ l, MapKept.IsKey d p.1) (hno : ∀ p ∈ l, p.1 ≠ k)
 (h : K bs cs ⟨D, r1 ++ [(b, Row.m (mapG (l ++ [(k, v)])) (l ++ [(k, v)]).length)] ++ r2⟩) :
 XUnit P w0 R av (Instr.mapUpdate t (.map (some b)) k v) bs cs ⟨D, r1 ++ [(b, Row.m (mapG l) l.length)] ++ r2⟩ K := by
 refine XUnit_iff.2 fun w hst => ?_
 obtain ⟨i1, d1, z1, p1, p2, p3, p4, p5, p6, p7, p8⟩ := mkTI_parts (hT _ _ ht)
 obtain ⟨i2, d2, z2, q1, q2, q3, q4, q5, q6, q7, q8⟩ := mkTI_parts (hT _ _ hkt)
 rw [p4] at hk
 obtain rfl := map_of hk
 rw [q4] at hd
 obtain rfl := key_of hd
 have hb : w.heap[b]? = some (.map (mapG l) l.length) := (hst.rows (b, Row.m (mapG l) l.length) (by simp)).1
 have hck : (Instr.checkKey false 10000 kt k).run P w = .ok () w := MapKept.run_checkKey q2 hkk _ 9999
 have h2 : Instr.findNow d2 k (mapG l).toList 0 = some none := by
  rcases findNow_map hkk hl with ⟨i, u, h1, _⟩ | ⟨_, h2⟩
  · exact absurd rfl (hno _ (List.mem_of_getElem? h1))
  · exact h2
 have hf := MapKept.run_findKey (w := w) q2 h2
 obtain ⟨g1, g2⟩ := MapKept.heap_set (o' := .map (mapG (l ++ [(k, v)])) (l ++ [(k, v)]).length) hb
 refine ⟨{ w with heap := w.heap.setIfInBounds b (.map (mapG (l ++ [(k, v)])) (l ++ [(k, v)]).length) }, [], cs, _, ?_, ?_, by rw [List.append_nil]; exact h⟩
 · rw [mapG_snoc]
   simp [Instr.mapUpdate, run_underlying p2, MapKept.run_getObj_map hb, hck, hf, MapKept.run_setObj_map _ hb, Result.andThen]
 · rw [List.append_nil]
   exact hst.putRow (C' := Row.m (mapG (l ++ [(k, v)])) (l ++ [(k, v)]).length) rfl rfl rfl (by simp) g2 g1 fun l hl => by cases hl

/-! ### going through a map -/

end Go.Sx
namespace Go.Sx
open Go
set_option linter.unusedVariables false
set_option linter.unusedSimpArgs false

theorem tmod_nat (i n : Nat) : Int.tmod (i : Int) (n : Int) = ((i % n : Nat) : Int) := by
 rw [Int.tmod_eq_emod_of_nonneg (by omega)]
 rfl

/-- A part of a slice. -/
def Hd.sub (h : Hd) (l : Nat) : Hd := ⟨cutA h.a l h.c 1, h.c - l⟩

/-- The bytes from a place on. -/
def cut (d : List UInt8) (l k : Nat) : List UInt8 := (d.drop l).take k

theorem By.sub {w : World} {h : Hd} {d : List UInt8} (hb : By w h d) {l k : Nat} (hl : l + k ≤ h.c) : By w (Hd.sub h l) (cut d l k) := by
 have := RowAt.cut (l := l) (hi := l + k) (m := h.c) (size := 1) hb ⟨by omega, hl⟩
 rw [Nat.mul_one, Nat.add_sub_cancel_left, Nat.mul_one] at this
 unfold By Hd.sub cut
 rw [List.map_take, List.map_drop]
 exact this

variable {P : Program} {tab : Tab} {w0 : World} {R : Nat → Nat → Prop} {av : Nat → Prop} {bs : List (Nat × Nat)} {cs : List (List Value)} {F : Fx}

theorem Sees.bytes {b : Nat} {l : List UInt8} {Z : List Value} (h : (b, Row.c (l.map byteV ++ Z)) ∈ F.rs) : Sees w0 R av bs cs F (some ⟨b, 0, none⟩) (l.map byteV) :=
 ((
  Sees.row h).take l.length).eq (by
  have e : l.length = (l.map byteV).length := by simp
  rw [e, List.take_left])

theorem Owg.split {n b cap : Nat} {C L : List Value} (h : Owg 1 n (some ⟨b, 0, none⟩) cap C L) : ∃ Z, C = L ++ Z ∧ Z.length = cap - n ∧ n ≤ cap := by
 rcases h.alt with ⟨h1, _⟩ | ⟨b', _, h2, h3⟩
 · cases h1
 · rw [Nat.mul_one] at h2 h3
   refine ⟨C.drop n, ?_, by simp; omega, h.fit⟩
   rw [← h3, List.take_append_drop]

/-- s[:k] -/
theorem XRead.subTo (hT : TabOk P tab) {t : TypeId} {ti te : TI} {e : TypeId} (ht : look tab t = some ti) (hk : ti.k = .slice e) (he : look tab e = some te) {h : Hd} {n : Nat} {k2 : IntKind} {hi : Int} {K : Value → Prop}
 (k : Nat) (hh : hi = (k : Int)) (hle : k ≤ h.c) (hK : K (h.v k)) :
 XRead P w0 R av (Instr.sliceAt t (h.v n) none (some (.int k2 hi)) none) bs cs F K := by
 subst hh
 refine XRead.slice hT ht hk he (lo := none) (hi := some _) (mx := none) (k1 := .i64) (k2 := k2) (k3 := .i64) 0 k h.c rfl rfl rfl (by omega) hle (Nat.le_refl _) (by simp) ?_
 rw [cutA_zero, Nat.sub_zero, Nat.sub_zero]
 exact hK

theorem PureSpec.weaken {f : FuncId} {vs : List Value} {Pre : World → Prop} {Rel Rel' : Value → Fx → Prop} (h : PureSpec P f vs Pre Rel) (hr : ∀ v F, Rel v F → ∃ F', Ent F F' ∧ Rel' v F') : PureSpec P f vs Pre Rel' := by
 unfold PureSpec at h ⊢
 refine ⟨h.1, fun av w hav hp => (h.2 av w hav hp).mono ?_⟩
 rintro e w' ⟨v, F, rfl, hk, hF, hR⟩
 obtain ⟨F', hE, hR'⟩ := hr v F hR
 have hst : St w (fun _ _ => False) av w' [] [] F := ⟨hk, trivial, by simpa using hF.nd, fun i hi => by simp at hi, hav, fun r hr => ⟨(hF.rows r hr).1, .inl (hF.rows r hr).2⟩,
  hF.data.less fun b hb => hb.elim .inl fun h => h.elim (fun ⟨x, hx, _⟩ => by simp at hx) .inr⟩
 exact ⟨v, F', rfl, hk, (hst.ent hE).fx fun b => ⟨0, id⟩, hR'⟩

/-- Bytes laid over others. -/
def lay (l : List UInt8) (k : Nat) (m : List UInt8) : List UInt8 := l.take k ++ m ++ l.drop (k + m.length)

end Go.Sx
namespace Go.Sx
open Go
set_option linter.unusedVariables false
set_option linter.unusedSimpArgs false

variable {P : Program} {tab : Tab} {w0 : World} {R : Nat → Nat → Prop} {av : Nat → Prop} {bs : List (Nat × Nat)} {cs : List (List Value)} {F : Fx}

end Go.Sx
namespace Go.Sx
set_option linter.unusedVariables false

section
variable {α : Type} {cf : α → List Value} {z : Nat}

theorem fm_len (hz : ∀ x, (cf x).length = z) (l : List α) : (l.flatMap cf).length = l.length * z := by
 induction l with
 | nil => simp
 | cons e l ih => rw [List.flatMap_cons, List.length_append, hz, ih, List.length_cons, Nat.succ_mul]; omega

theorem fm_get (hz : ∀ x, (cf x).length = z) : ∀ {l : List α} {i : Nat} (h : i < l.length), ((l.flatMap cf).drop (i * z)).take z = cf l[i]
 | [], i, h => by simp at h
 | e :: l, 0, h => by
  rw [List.flatMap_cons, Nat.zero_mul, List.drop_zero, List.take_append_of_le_length (by rw [hz]; exact Nat.le_refl _), ← hz e, List.take_length]
  rfl
 | e :: l, i + 1, h => by
  have := fm_get hz (l := l) (i := i) (by simpa using h)
  rw [List.flatMap_cons, Nat.succ_mul, Nat.add_comm, ← List.drop_drop]
  have e1 : (cf e ++ l.flatMap cf).drop z = l.flatMap cf := by
   rw [← hz e, List.drop_left]
  rw [e1, this]
  rfl

theorem fm_at (hz : ∀ x, (cf x).length = z) {l : List α} {i : Nat} (h : i < l.length) {k : Nat} (hk : k < z) : (l.flatMap cf)[i * z + k]? = (cf l[i])[k]? := by
 rw [← fm_get hz h, List.getElem?_take, if_pos hk, List.getElem?_drop]

theorem fm_snoc {l : List α} {i : Nat} (h : i < l.length) : (l.take (i + 1)).flatMap cf = (l.take i).flatMap cf ++ cf l[i] := by
 rw [List.take_succ_eq_append_getElem h, List.flatMap_append, List.flatMap_singleton]

theorem fm_take (hz : ∀ x, (cf x).length = z) (l : List α) (i : Nat) : (l.flatMap cf).take (i * z) = (l.take i).flatMap cf := by
 induction l generalizing i with
 | nil => simp
 | cons e l ih =>
  cases i with
  | zero => simp
  | succ i =>
   rw [List.take_succ_cons, List.flatMap_cons, List.flatMap_cons, Nat.succ_mul, Nat.add_comm, ← ih i]
   have : z = (cf e).length := (hz e).symm
   rw [this, List.take_length_add_append]

theorem fm_one (ho : ∀ x, ∀ v ∈ cf x, oneCell v = true) (l : List α) : ∀ v ∈ l.flatMap cf, oneCell v = true := by
 intro v hv
 obtain ⟨x, _, hx⟩ := List.mem_flatMap.1 hv
 exact ho x v hx
end

section
variable {P : Program} {tab : Tab} {w0 : World} {R : Nat → Nat → Prop} {av : Nat → Prop} {bs : List (Nat × Nat)} {cs : List (List Value)} {F : Fx}

theorem Hd.Ok.less {h : Hd} {n i : Nat} (hh : h.Ok n) (hi : i ≤ n) : h.Ok i := ⟨fun e => by have := hh.nil e; omega, by have := hh.cap; omega⟩

end

end Go.Sx
