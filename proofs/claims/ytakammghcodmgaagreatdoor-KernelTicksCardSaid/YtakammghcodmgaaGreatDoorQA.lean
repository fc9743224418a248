/- Parts of the proof: SxA, SxB, SxC, SxD, SxE, SxF, SxG, SxH, SxI, SxJ, SxK, SxL, SxM, SxN, SxO. -/
import Derived.Orders
import Derived.Below
namespace Go.Sx
set_option linter.unusedVariables false

/-! ### lists -/

def nth {α : Type} (d : α) : List α → Nat → α
 | [], _ => d
 | x :: _, 0 => x
 | _ :: xs, n + 1 => nth d xs n

theorem nth_eq {α : Type} (d : α) : ∀ (l : List α) (n : Nat), nth d l n = (l[n]?).getD d
 | [], _ => by simp [nth]
 | _ :: _, 0 => by simp [nth]
 | _ :: xs, n + 1 => by simp [nth, nth_eq d xs n]

/-! ### objects that are alike but for some cells -/

def ObjSame (r : Nat → Prop) (o o' : Obj) : Prop :=
 o = o' ∨ (∃ c c' e f, o = .cells c e f ∧ o' = .cells c' e f ∧ c'.size = c.size ∧ ∀ i, ¬ r i → c'[i]? = c[i]?) ∨ ((∀ i, r i) ∧ ∃ es n es' n', o = .map es n ∧ o' = .map es' n')

theorem ObjSame.refl (r : Nat → Prop) (o : Obj) : ObjSame r o o := .inl rfl

theorem ObjSame.trans {r : Nat → Prop} {a b c : Obj} (h : ObjSame r a b) (k : ObjSame r b c) : ObjSame r a c := by
 rcases h with rfl | ⟨x, y, e, f, rfl, rfl, hs, hi⟩ | ⟨hr, es, n, es', n', rfl, rfl⟩
 · exact k
 · rcases k with rfl | ⟨x', y', e', f', h1, rfl, hs', hi'⟩ | ⟨hr, es, n, es', n', h1, rfl⟩
   · exact .inr (.inl ⟨x, y, e, f, rfl, rfl, hs, hi⟩)
   · cases h1
     exact .inr (.inl ⟨x, y', e, f, rfl, rfl, by omega, fun i hr => (hi' i hr).trans (hi i hr)⟩)
   · cases h1
 · rcases k with rfl | ⟨x', y', e', f', h1, rfl, hs', hi'⟩ | ⟨hr, es2, n2, es3, n3, h1, rfl⟩
   · exact .inr (.inr ⟨hr, es, n, es', n', rfl, rfl⟩)
   · cases h1
   · exact .inr (.inr ⟨hr, es, n, es3, n3, rfl, rfl⟩)

theorem ObjSame.mono {r r' : Nat → Prop} {a b : Obj} (h : ObjSame r a b) (hr : ∀ i, r i → r' i) : ObjSame r' a b := by
 rcases h with rfl | ⟨x, y, e, f, rfl, rfl, hs, hi⟩ | ⟨h1, es, n, es', n', rfl, rfl⟩
 · exact .inl rfl
 · exact .inr (.inl ⟨x, y, e, f, rfl, rfl, hs, fun i hn => hi i (fun h => hn (hr i h))⟩)
 · exact .inr (.inr ⟨fun i => hr i (h1 i), es, n, es', n', rfl, rfl⟩)

theorem ObjSame.eq {r : Nat → Prop} {a b : Obj} (h : ObjSame r a b) (hr : ∀ i, ¬ r i) : b = a := by
 rcases h with rfl | ⟨x, y, e, f, rfl, rfl, hs, hi⟩ | ⟨h1, _⟩
 · rfl
 · have : y = x := Array.ext_getElem? (fun i => hi i (hr i))
   rw [this]
 · exact absurd (h1 0) (hr 0)

/-! ### worlds that keep what was there -/

structure KeepX (R : Nat → Nat → Prop) (w w' : World) : Prop where
 os : w'.os = w.os
 tape : w'.tape = w.tape
 output : w'.output = w.output
 size : w.heap.size ≤ w'.heap.size
 obj : ∀ b o, w.heap[b]? = some o → ∃ o', w'.heap[b]? = some o' ∧ ObjSame (R b) o o'

theorem KeepX.refl (R : Nat → Nat → Prop) (w : World) : KeepX R w w := ⟨rfl, rfl, rfl, Nat.le_refl _, fun _ o h => ⟨o, h, .refl _ _⟩⟩

theorem KeepX.trans {R : Nat → Nat → Prop} {a b c : World} (h : KeepX R a b) (k : KeepX R b c) : KeepX R a c :=
 ⟨k.os.trans h.os, k.tape.trans h.tape, k.output.trans h.output, Nat.le_trans h.size k.size, fun i o ho => by
  obtain ⟨o1, h1, s1⟩ := h.obj i o ho
  obtain ⟨o2, h2, s2⟩ := k.obj i o1 h1
  exact ⟨o2, h2, s1.trans s2⟩⟩

theorem KeepX.mono {R R' : Nat → Nat → Prop} {w w' : World} (h : KeepX R w w') (hr : ∀ b i, R b i → R' b i) : KeepX R' w w' :=
 ⟨h.os, h.tape, h.output, h.size, fun b o ho => by
  obtain ⟨o', h1, s⟩ := h.obj b o ho
  exact ⟨o', h1, s.mono (hr b)⟩⟩

theorem lt_of_some {α : Type} {a : Array α} {i : Nat} {x : α} (h : a[i]? = some x) : i < a.size := (Array.getElem?_eq_some_iff.1 h).1

theorem some_of_lt {α : Type} {a : Array α} {i : Nat} (h : i < a.size) : ∃ x, a[i]? = some x := ⟨a[i], Array.getElem?_eq_getElem h⟩

theorem KeepX.same {R : Nat → Nat → Prop} {w w' : World} (h : KeepX R w w') {b : Nat} (hb : b < w.heap.size) (hr : ∀ i, ¬ R b i) : w'.heap[b]? = w.heap[b]? := by
 obtain ⟨o, ho⟩ := some_of_lt hb
 obtain ⟨o', h', s⟩ := h.obj b o ho
 rw [h', ho, s.eq hr]

/-- Nothing that was there has changed. -/
abbrev Keep (w w' : World) : Prop := KeepX (fun _ _ => False) w w'

theorem Keep.same {w w' : World} (h : Keep w w') {b : Nat} (hb : b < w.heap.size) : w'.heap[b]? = w.heap[b]? := KeepX.same h hb (fun _ h => h)

theorem Keep.x {R : Nat → Nat → Prop} {w w' : World} (h : Keep w w') : KeepX R w w' := h.mono (fun _ _ h => h.elim)

theorem keep_of_heap {w w' : World} (h1 : w'.os = w.os) (h2 : w'.tape = w.tape) (h3 : w'.output = w.output) (h4 : w.heap.size ≤ w'.heap.size)
 (h5 : ∀ b, b < w.heap.size → w'.heap[b]? = w.heap[b]?) : Keep w w' :=
 ⟨h1, h2, h3, h4, fun b o ho => ⟨o, by rw [h5 b (lt_of_some ho), ho], .refl _ _⟩⟩

/-! ### facts with a footprint -/

/-- D holds at w, and goes on holding while the blocks of a footprint stay, none of which is among av. -/
def Holds (av : Nat → Prop) (w : World) (D : World → Prop) : Prop :=
 ∃ F : Nat → Prop, (∀ b, F b → b < w.heap.size ∧ ¬ av b) ∧ ∀ w', (∀ b, F b → w'.heap[b]? = w.heap[b]?) → D w'

theorem Holds.now {av : Nat → Prop} {w : World} {D : World → Prop} (h : Holds av w D) : D w := by
 obtain ⟨F, _, h⟩ := h
 exact h w (fun _ _ => rfl)

theorem Holds.imp {av : Nat → Prop} {w : World} {D D' : World → Prop} (h : Holds av w D) (hd : ∀ w, D w → D' w) : Holds av w D' := by
 obtain ⟨F, hF, h⟩ := h
 exact ⟨F, hF, fun w' hw => hd _ (h w' hw)⟩

theorem Holds.pure {av : Nat → Prop} {w : World} {p : Prop} (h : p) : Holds av w (fun _ => p) := ⟨fun _ => False, fun _ h => h.elim, fun _ _ => h⟩

theorem Holds.and {av : Nat → Prop} {w : World} {D D' : World → Prop} (h : Holds av w D) (h' : Holds av w D') : Holds av w (fun w => D w ∧ D' w) := by
 obtain ⟨F, hF, h⟩ := h
 obtain ⟨F', hF', h'⟩ := h'
 exact ⟨fun b => F b ∨ F' b, fun b hb => hb.elim (hF b) (hF' b), fun w' hw => ⟨h w' fun b hb => hw b (.inl hb), h' w' fun b hb => hw b (.inr hb)⟩⟩

theorem Holds.move {av av' : Nat → Prop} {w w' : World} {D : World → Prop} (h : Holds av w D) (hs : w.heap.size ≤ w'.heap.size)
 (hk : ∀ b, b < w.heap.size → ¬ av b → w'.heap[b]? = w.heap[b]?) (ha : ∀ b, av' b → av b ∨ w.heap.size ≤ b) : Holds av' w' D := by
 obtain ⟨F, hF, h⟩ := h
 refine ⟨F, fun b hb => ?_, fun w'' hw => h w'' fun b hb => ?_⟩
 · obtain ⟨h1, h2⟩ := hF b hb
   exact ⟨by omega, fun h3 => (ha b h3).elim h2 (by omega)⟩
 · obtain ⟨h1, h2⟩ := hF b hb
   rw [hw b hb, hk b h1 h2]

theorem Holds.keep {av : Nat → Prop} {w w' : World} {D : World → Prop} (h : Holds av w D) (hk : Keep w w') : Holds av w' D :=
 h.move hk.size (fun _ hb _ => Keep.same hk hb) (fun _ h => .inl h)

/-- A fact on one block. -/
theorem Holds.block {av : Nat → Prop} {w : World} {D : World → Prop} (b : Nat) (hb : b < w.heap.size) (ha : ¬ av b) (h : ∀ w', w'.heap[b]? = w.heap[b]? → D w') : Holds av w D :=
 ⟨fun x => x = b, fun x hx => by subst hx; exact ⟨hb, ha⟩, fun w' hw => h w' (hw b rfl)⟩

/-! ### boxes -/

/-- In block b, from offset o on, lie the cells c; the block may be written. -/
def Range (w : World) (b o : Nat) (c : List Value) : Prop :=
 ∃ arr e, w.heap[b]? = some (.cells arr e (0, 0)) ∧ ∀ j, j < c.length → arr[o + j]? = c[j]?

def Boxes (w : World) : List (Nat × Nat) → List (List Value) → Prop
 | [], [] => True
 | (b, o) :: bs, c :: cs => Range w b o c ∧ Boxes w bs cs
 | _, _ => False

theorem Range.of_same {w w' : World} {b o : Nat} {c : List Value} (h : Range w b o c) (hs : w'.heap[b]? = w.heap[b]?) : Range w' b o c := by
 obtain ⟨arr, e, h1, h2⟩ := h
 exact ⟨arr, e, by rw [hs, h1], h2⟩

theorem Range.lt {w : World} {b o : Nat} {c : List Value} (h : Range w b o c) : b < w.heap.size := by
 obtain ⟨arr, e, h1, _⟩ := h
 exact lt_of_some h1

theorem Boxes.of_same {w w' : World} : ∀ {bs : List (Nat × Nat)} {cs : List (List Value)}, Boxes w bs cs → (∀ x ∈ bs, w'.heap[x.1]? = w.heap[x.1]?) → Boxes w' bs cs
 | [], [], _, _ => trivial
 | (b, o) :: bs, c :: cs, h, hs => ⟨h.1.of_same (hs (b, o) (List.mem_cons_self ..)), Boxes.of_same h.2 (fun x hx => hs x (List.mem_cons_of_mem _ hx))⟩
 | [], _ :: _, h, _ => h.elim
 | _ :: _, [], h, _ => h.elim

theorem Boxes.lt {w : World} : ∀ {bs : List (Nat × Nat)} {cs : List (List Value)}, Boxes w bs cs → ∀ x ∈ bs, x.1 < w.heap.size
 | [], [], _, _, hx => by simp at hx
 | (b, o) :: bs, c :: cs, h, x, hx => by
  rcases List.mem_cons.1 hx with rfl | hx
  · exact h.1.lt
  · exact Boxes.lt h.2 x hx
 | [], _ :: _, h, _, _ => h.elim
 | _ :: _, [], h, _, _ => h.elim

theorem Boxes.get {w : World} : ∀ {bs : List (Nat × Nat)} {cs : List (List Value)}, Boxes w bs cs → ∀ i, i < cs.length → Range w (nth (0, 0) bs i).1 (nth (0, 0) bs i).2 (nth [] cs i) ∧ i < bs.length
 | [], [], _, i, hi => by simp at hi
 | (b, o) :: bs, c :: cs, h, 0, _ => ⟨h.1, by simp⟩
 | (b, o) :: bs, c :: cs, h, i + 1, hi => by
  have := Boxes.get h.2 i (by simpa using hi)
  exact ⟨this.1, by simp [this.2]⟩
 | [], _ :: _, h, _, _ => h.elim
 | _ :: _, [], h, _, _ => h.elim

theorem Boxes.snoc {w : World} {b o : Nat} {c : List Value} (hr : Range w b o c) : ∀ {bs : List (Nat × Nat)} {cs : List (List Value)}, Boxes w bs cs → Boxes w (bs ++ [(b, o)]) (cs ++ [c])
 | [], [], _ => ⟨hr, trivial⟩
 | _ :: _, _ :: _, h => ⟨h.1, Boxes.snoc hr h.2⟩
 | [], _ :: _, h => h.elim
 | _ :: _, [], h => h.elim

theorem Boxes.len {w : World} : ∀ {bs : List (Nat × Nat)} {cs : List (List Value)}, Boxes w bs cs → cs.length = bs.length
 | [], [], _ => rfl
 | _ :: _, _ :: _, h => by simp [Boxes.len h.2]
 | [], _ :: _, h => h.elim
 | _ :: _, [], h => h.elim

/-- One box takes new cells; the others stay. -/
theorem Boxes.put {w w' : World} : ∀ {bs : List (Nat × Nat)} {cs : List (List Value)} (i : Nat) (c' : List Value), Boxes w bs cs → (bs.map (·.1)).Nodup →
 (∀ x ∈ bs, x.1 ≠ (nth (0, 0) bs i).1 → w'.heap[x.1]? = w.heap[x.1]?) → i < bs.length → Range w' (nth (0, 0) bs i).1 (nth (0, 0) bs i).2 c' → Boxes w' bs (cs.set i c')
 | [], [], i, _, _, _, _, hi, _ => by simp at hi
 | (b, o) :: bs, c :: cs, 0, c', h, hn, hs, _, hr => by
  refine ⟨hr, Boxes.of_same h.2 fun x hx => hs x (List.mem_cons_of_mem _ hx) ?_⟩
  simp only [List.map_cons, List.nodup_cons] at hn
  intro he
  exact hn.1 (List.mem_map.2 ⟨x, hx, he⟩)
 | (b, o) :: bs, c :: cs, i + 1, c', h, hn, hs, hi, hr => by
  simp only [List.map_cons, List.nodup_cons] at hn
  have hi' : i < bs.length := by simpa using hi
  refine ⟨h.1.of_same (hs (b, o) (List.mem_cons_self ..) ?_), Boxes.put i c' h.2 hn.2 (fun x hx hne => hs x (List.mem_cons_of_mem _ hx) hne) hi' hr⟩
  intro he
  apply hn.1
  have hm : nth (0, 0) bs i ∈ bs := by
   rw [nth_eq, List.getElem?_eq_getElem hi']; exact List.getElem_mem hi'
  exact List.mem_map.2 ⟨_, hm, he.symm⟩
 | [], _ :: _, _, _, h, _, _, _, _ => h.elim
 | _ :: _, [], _, _, h, _, _, _, _ => h.elim

/-! ### rows of the function's own -/

/-- What lies in a block of the function's own: cells, or a map. -/
inductive Row where
 | c (l : List Value)
 | m (es : Array MapEntry) (clock : Nat)
 | o (x : Obj)

instance : Coe (List Value) Row := ⟨Row.c⟩

/-- Block b holds just that, and may be written. -/
def RowIs (w : World) (b : Nat) : Row → Prop
 | .c c => ∃ e, w.heap[b]? = some (.cells c.toArray e (0, 0))
 | .m es k => w.heap[b]? = some (.map es k)
 | .o x => w.heap[b]? = some x

theorem RowIs.lt {w : World} {b : Nat} {c : Row} (h : RowIs w b c) : b < w.heap.size := by
 cases c with
 | c l =>
  obtain ⟨e, h⟩ := h
  exact lt_of_some h
 | m es k => exact lt_of_some h
 | o x => exact lt_of_some h

theorem RowIs.of_same {w w' : World} {b : Nat} {c : Row} (h : RowIs w b c) (hs : w'.heap[b]? = w.heap[b]?) : RowIs w' b c := by
 cases c with
 | c l =>
  obtain ⟨e, h⟩ := h
  exact ⟨e, by rw [hs, h]⟩
 | m es k =>
  show w'.heap[b]? = some (.map es k)
  rw [hs]
  exact h
 | o x =>
  show w'.heap[b]? = some x
  rw [hs]
  exact h

/-- What is known: facts with a footprint, and the rows that are the function's own. -/
structure Fx where
 D : World → Prop
 rs : List (Nat × Row)

structure Fx.Le (F' F : Fx) : Prop where
 rows : F.rs.Sublist F'.rs
 data : ∀ w, F'.D w → F.D w

theorem Fx.Le.refl (F : Fx) : Fx.Le F F := ⟨List.Sublist.refl _, fun _ h => h⟩

def Fx.and (F F' : Fx) : Fx := ⟨fun w => F.D w ∧ F'.D w, F.rs ++ F'.rs⟩

/-! ### the state of a walk -/

/-- The boxes' blocks and the rows', and what is to be left alone besides. -/
def Av (av : Nat → Prop) (bs : List (Nat × Nat)) (rs : List (Nat × Row)) (b : Nat) : Prop := av b ∨ (∃ x ∈ bs, x.1 = b) ∨ ∃ r ∈ rs, r.1 = b

/-- What a call hands back, at the world behind it: rows of its own lie from block n on. -/
structure FxOk (av : Nat → Prop) (n : Nat) (w : World) (F : Fx) : Prop where
 rows : ∀ r ∈ F.rs, RowIs w r.1 r.2 ∧ n ≤ r.1
 nd : (F.rs.map (·.1)).Nodup
 data : Holds (fun b => av b ∨ ∃ r ∈ F.rs, r.1 = b) w F.D

/-- Cells or a map. -/
def CM (r : Row) : Prop := (∃ l, r = Row.c l) ∨ ∃ es k, r = Row.m es k

@[simp] theorem CM_c (l : List Value) : CM (Row.c l) := .inl ⟨l, rfl⟩

/-- A row that may be written: made since, or handed over. -/
def OwnR (w0 : World) (R : Nat → Nat → Prop) (av : Nat → Prop) (r : Nat × Row) : Prop := w0.heap.size ≤ r.1 ∨ (¬ av r.1 ∧ (∀ i, R r.1 i) ∧ CM r.2)

structure St (w0 : World) (R : Nat → Nat → Prop) (av : Nat → Prop) (w : World) (bs : List (Nat × Nat)) (cs : List (List Value)) (F : Fx) : Prop where
 keep : KeepX R w0 w
 box : Boxes w bs cs
 nd : (bs.map (·.1) ++ F.rs.map (·.1)).Nodup
 own : ∀ i, i < bs.length → w0.heap.size ≤ (nth (0, 0) bs i).1 ∨ ∀ j, j < (nth [] cs i).length → R (nth (0, 0) bs i).1 ((nth (0, 0) bs i).2 + j)
 avlt : ∀ b, av b → b < w0.heap.size
 rows : ∀ r ∈ F.rs, RowIs w r.1 r.2 ∧ OwnR w0 R av r
 data : Holds (Av av bs F.rs) w F.D

theorem mem_nth {bs : List (Nat × Nat)} {i : Nat} (h : i < bs.length) : nth (0, 0) bs i ∈ bs := by
 rw [nth_eq, List.getElem?_eq_getElem h]; exact List.getElem_mem h

section St
variable {w0 : World} {R : Nat → Nat → Prop} {av : Nat → Prop} {w w' : World} {bs : List (Nat × Nat)} {cs : List (List Value)} {F : Fx}

theorem St.ndb (h : St w0 R av w bs cs F) : (bs.map (·.1)).Nodup := (List.nodup_append.1 h.nd).1

theorem St.now (h : St w0 R av w bs cs F) : F.D w := h.data.now

theorem St.imp (h : St w0 R av w bs cs F) {F' : Fx} (hd : Fx.Le F F') : St w0 R av w bs cs F' := by
 have hm : ∀ r ∈ F'.rs, r ∈ F.rs := fun r hr => hd.rows.subset hr
 refine ⟨h.keep, h.box, ?_, h.own, h.avlt, fun r hr => h.rows r (hm r hr), ?_⟩
 · exact h.nd.sublist (List.Sublist.append (List.Sublist.refl _) (hd.rows.map _))
 · exact (h.data.imp hd.data).move (Nat.le_refl _) (fun _ _ _ => rfl) (fun b hb => .inl (by
    rcases hb with hb | hb | ⟨r, hr, rfl⟩
    · exact .inl hb
    · exact .inr (.inl hb)
    · exact .inr (.inr ⟨r, hm r hr, rfl⟩)))

theorem St.avb (h : St w0 R av w bs cs F) {b : Nat} (hb : Av av bs F.rs b) : b < w.heap.size := by
 rcases hb with hb | ⟨x, hx, rfl⟩ | ⟨r, hr, rfl⟩
 · exact Nat.lt_of_lt_of_le (h.avlt b hb) h.keep.size
 · exact h.box.lt x hx
 · exact (h.rows r hr).1.lt

theorem St.keptD (h : St w0 R av w bs cs F) (hk : Keep w w') : St w0 R av w' bs cs F :=
 ⟨h.keep.trans hk.x, h.box.of_same fun x hx => Keep.same hk (h.box.lt x hx), h.nd, h.own, h.avlt,
  fun r hr => ⟨(h.rows r hr).1.of_same (Keep.same hk (h.rows r hr).1.lt), (h.rows r hr).2⟩, h.data.keep hk⟩

/-- Nothing that was there has changed, and more is known. -/
theorem St.kept (h : St w0 R av w bs cs F) (hk : Keep w w') {F' : Fx} (hd : FxOk (Av av bs F.rs) w.heap.size w' F') : St w0 R av w' bs cs (F.and F') := by
 have h' := h.keptD hk
 refine ⟨h'.keep, h'.box, ?_, h'.own, h'.avlt, fun r hr => ?_, ?_⟩
 · show (bs.map (·.1) ++ (F.rs ++ F'.rs).map (·.1)).Nodup
   rw [List.map_append, ← List.append_assoc, List.nodup_append]
   refine ⟨h.nd, hd.nd, fun x hx y hy hxy => ?_⟩
   subst hxy
   obtain ⟨r, hr, rfl⟩ := List.mem_map.1 hy
   have h1 := (hd.rows r hr).2
   rcases List.mem_append.1 hx with hx | hx
   · obtain ⟨z, hz, he⟩ := List.mem_map.1 hx
     have := h.box.lt z hz
     omega
   · obtain ⟨z, hz, he⟩ := List.mem_map.1 hx
     have := (h.rows z hz).1.lt
     omega
 · rcases List.mem_append.1 hr with hr | hr
   · exact h'.rows r hr
   · exact ⟨(hd.rows r hr).1, .inl (Nat.le_trans h.keep.size (hd.rows r hr).2)⟩
 · refine Holds.and ?_ ?_
   · refine h.data.move hk.size (fun b hb _ => Keep.same hk hb) (fun b hb => ?_)
     rcases hb with hb | hb | ⟨r, hr, rfl⟩
     · exact .inl (.inl hb)
     · exact .inl (.inr (.inl hb))
     · rcases List.mem_append.1 hr with hr | hr
       · exact .inl (.inr (.inr ⟨r, hr, rfl⟩))
       · exact .inr (hd.rows r hr).2
   · refine hd.data.move (Nat.le_refl _) (fun _ _ _ => rfl) (fun b hb => .inl ?_)
     rcases hb with hb | hb | ⟨r, hr, rfl⟩
     · exact .inl (.inl hb)
     · exact .inl (.inr (.inl hb))
     · rcases List.mem_append.1 hr with hr | hr
       · exact .inl (.inr (.inr ⟨r, hr, rfl⟩))
       · exact .inr ⟨r, hr, rfl⟩

/-- A new box. -/
theorem St.new (h : St w0 R av w bs cs F) (c : List Value) (e : TypeId) :
 St w0 R av { w with heap := w.heap.push (.cells c.toArray e) } (bs ++ [(w.heap.size, 0)]) (cs ++ [c]) F := by
 have hk : Keep w { w with heap := w.heap.push (.cells c.toArray e) } :=
  keep_of_heap rfl rfl rfl (by simp) (fun b hb => by simp [Array.getElem?_push, Nat.ne_of_lt hb])
 have hst := h.keptD hk
 refine ⟨hst.keep, Boxes.snoc ?_ hst.box, ?_, ?_, hst.avlt, hst.rows, ?_⟩
 · exact ⟨c.toArray, e, by simp, fun j hj => by simp⟩
 · have hnd := h.nd
   rw [List.nodup_append] at hnd ⊢
   obtain ⟨n1, n2, n3⟩ := hnd
   refine ⟨?_, n2, fun x hx y hy hxy => ?_⟩
   · rw [List.map_append, List.nodup_append]
     refine ⟨n1, by simp, ?_⟩
     intro a ha b hb
     simp at hb
     obtain ⟨x, hx, rfl⟩ := List.mem_map.1 ha
     have := h.box.lt x hx
     omega
   · rw [List.map_append] at hx
     rcases List.mem_append.1 hx with hx | hx
     · exact n3 x hx y hy hxy
     · simp at hx
       obtain ⟨r, hr, he⟩ := List.mem_map.1 hy
       have := (h.rows r hr).1.lt
       omega
 · intro i hi
   have hl := h.box.len
   rw [nth_eq, nth_eq]
   by_cases hib : i < bs.length
   · rw [List.getElem?_append_left hib, List.getElem?_append_left (by omega)]
     have := h.own i hib
     rwa [nth_eq, nth_eq] at this
   · have : i = bs.length := by simp at hi; omega
     subst this
     left
     have := h.keep.size
     simp
     exact this
 · exact h.data.move hk.size (fun b hb _ => Keep.same hk hb) (fun b hb => by
    rcases hb with hb | ⟨x, hx, rfl⟩ | hb
    · exact .inl (.inl hb)
    · rcases List.mem_append.1 hx with hx | hx
      · exact .inl (.inr (.inl ⟨x, hx, rfl⟩))
      · simp at hx; subst hx; exact .inr (Nat.le_refl _)
    · exact .inl (.inr (.inr hb)))

/-- A box takes new cells. -/
theorem St.put (h : St w0 R av w bs cs F) (i : Nat) (hi : i < bs.length) (c' : List Value) (hlen : c'.length = (nth [] cs i).length)
 (hw : KeepX (fun b o => b = (nth (0, 0) bs i).1 ∧ (nth (0, 0) bs i).2 ≤ o ∧ o < (nth (0, 0) bs i).2 + (nth [] cs i).length) w w')
 (hr : Range w' (nth (0, 0) bs i).1 (nth (0, 0) bs i).2 c') : St w0 R av w' bs (cs.set i c') F := by
 have hoth : ∀ b, b < w.heap.size → b ≠ (nth (0, 0) bs i).1 → w'.heap[b]? = w.heap[b]? := fun b hb hne => hw.same hb (fun _ hR => hne hR.1)
 have hcl := h.box.len
 refine ⟨?_, h.box.put i c' h.ndb (fun x hx hne => hoth _ (h.box.lt x hx) hne) hi hr, h.nd, ?_, h.avlt, fun r hr' => ?_, ?_⟩
 · refine ⟨hw.os.trans h.keep.os, hw.tape.trans h.keep.tape, hw.output.trans h.keep.output, Nat.le_trans h.keep.size hw.size, fun b o ho => ?_⟩
   obtain ⟨o1, h1, s1⟩ := h.keep.obj b o ho
   obtain ⟨o2, h2, s2⟩ := hw.obj b o1 h1
   refine ⟨o2, h2, s1.trans (s2.mono fun k hk => ?_)⟩
   obtain ⟨hb, hk1, hk2⟩ := hk
   rcases h.own i hi with ho' | ho'
   · have := lt_of_some ho
     omega
   · have := ho' (k - (nth (0, 0) bs i).2) (by omega)
     rw [hb]
     rwa [show (nth (0, 0) bs i).2 + (k - (nth (0, 0) bs i).2) = k from by omega] at this
 · intro j hj
   have := h.own j hj
   rw [nth_eq, nth_eq] at this ⊢
   by_cases hij : i = j
   · subst hij
     rw [List.getElem?_set_self (by omega)]
     rw [nth_eq, nth_eq] at *
     simp only [Option.getD_some]
     rw [hlen]
     exact this
   · rw [List.getElem?_set_ne hij]; exact this
 · have hne : r.1 ≠ (nth (0, 0) bs i).1 := fun he => (List.nodup_append.1 h.nd).2.2 _ (List.mem_map.2 ⟨_, mem_nth hi, rfl⟩) _ (List.mem_map.2 ⟨r, hr', rfl⟩) he.symm
   exact ⟨(h.rows r hr').1.of_same (hoth _ (h.rows r hr').1.lt hne), (h.rows r hr').2⟩
 · exact h.data.move hw.size (fun b hb hna => hoth b hb (fun he => hna (.inr (.inl ⟨_, mem_nth hi, he.symm⟩)))) (fun _ h => .inl h)

end St

/-- Whatever the rest: where F is known, F' is. -/
def Ent (F F' : Fx) : Prop := ∀ w0 R av w bs cs, St w0 R av w bs cs F → St w0 R av w bs cs F'

theorem Ent.refl (F : Fx) : Ent F F := fun _ _ _ _ _ _ h => h
theorem Ent.trans {F G H : Fx} (h : Ent F G) (k : Ent G H) : Ent F H := fun _ _ _ _ _ _ hs => k _ _ _ _ _ _ (h _ _ _ _ _ _ hs)
theorem Ent.of_le {F F' : Fx} (h : Fx.Le F F') : Ent F F' := fun _ _ _ _ _ _ hs => hs.imp h
/-- Facts that follow, the rows being the same. -/
theorem Ent.imp {D D' : World → Prop} {rs : List (Nat × Row)} (h : ∀ w, D w → D' w) : Ent ⟨D, rs⟩ ⟨D', rs⟩ := .of_le ⟨List.Sublist.refl _, h⟩
/-- All rows are given up. -/
theorem Ent.bare {D D' : World → Prop} {rs : List (Nat × Row)} (h : ∀ w, D w → D' w) : Ent ⟨D, rs⟩ ⟨D', []⟩ := .of_le ⟨List.nil_sublist _, h⟩
theorem St.ent {w0 : World} {R : Nat → Nat → Prop} {av : Nat → Prop} {w : World} {bs : List (Nat × Nat)} {cs : List (List Value)} {F F' : Fx} (h : St w0 R av w bs cs F) (he : Ent F F') : St w0 R av w bs cs F' := he _ _ _ _ _ _ h

end Go.Sx
namespace Go.Sx
set_option linter.unusedVariables false

/-! ### symbolic values -/

inductive SV where
 | v (x : Value)
 | p (i o : Nat)
 | g (c pol : Bool) (x : SV)
 | any

def ptr (bs : List (Nat × Nat)) (i o : Nat) : Value := .pointer (some ⟨(nth (0, 0) bs i).1, (nth (0, 0) bs i).2 + o, none⟩)

def SVok (bs : List (Nat × Nat)) : SV → Value → Prop
 | .v x, y => y = x
 | .p i o, y => y = ptr bs i o ∧ i < bs.length
 | .g c pol x, y => c = pol → SVok bs x y
 | .any, _ => True

structure FrameOk (bs : List (Nat × Nat)) (tm : List SV) (a : Array Value) : Prop where
 len : tm.length = a.size
 ok : ∀ t, SVok bs (nth .any tm t) (a.getD t undef)

/-! ### the types -/

inductive TK where
 | int (k : IntKind)
 | bool
 | str
 | slice (e : TypeId)
 | arr (n : Nat) (e : TypeId)
 | map (k e : TypeId)
 | struct
 | ptr (e : TypeId)
 | other

def TK.agg : TK → Bool
 | .arr _ _ | .struct => true
 | _ => false

def mkTK : TypeDesc → TK
 | .int k => .int k
 | .bool => .bool
 | .string => .str
 | .slice e => .slice e
 | .array n e => .arr n e
 | .map k e => .map k e
 | .struct _ => .struct
 | .pointer e => .ptr e
 | _ => .other

structure TI where
 k : TK
 size : Nat
 zero : List Value
 offs : List (Nat × Nat × Bool)
 bytes : Nat

def mkTI (P : Program) (t : TypeId) : Option TI :=
 match P.info? t with
 | none => none
 | some i => match P.underlying t, i.zero with
  | some d, some z => match d with
   | .struct fs => match fs.all (fun f => (P.info? f.type).isSome && (P.underlying f.type).isSome) with
    | true => some ⟨.struct, i.size, z.cells.toList, fs.toList.map fun f => (f.offset, P.cellsOf f.type, ((P.underlying f.type).map fun d => (mkTK d).agg).getD false), i.bytes⟩
    | false => none
   | d => some ⟨mkTK d, i.size, z.cells.toList, [], i.bytes⟩
  | _, _ => none

abbrev Tab := List (Nat × TI)

def look : Tab → Nat → Option TI
 | [], _ => none
 | (t, x) :: r, n => match Nat.beq t n with
  | true => some x
  | false => look r n

def TabOk (P : Program) (tab : Tab) : Prop := ∀ t x, look tab t = some x → mkTI P t = some x

theorem tabOk_of {P : Program} : ∀ {tab : Tab}, tab.map (fun e => mkTI P e.1) = tab.map (fun e => some e.2) → TabOk P tab
 | [], _, _, _, h => by simp [look] at h
 | (t, x) :: r, h, n, y, hl => by
  simp only [List.map_cons, List.cons.injEq] at h
  simp only [look] at hl
  split at hl
  · rename_i hb
    have : t = n := Nat.eq_of_beq_eq_true hb
    subst this
    cases hl
    exact h.1
  · exact tabOk_of h.2 n y hl

/-! ### lists, in the style of continuations -/

def nthK {α : Type} : List α → Nat → (α → Prop) → Prop
 | [], _, _ => False
 | x :: _, 0, K => K x
 | _ :: xs, n + 1, K => nthK xs n K

def setK {α : Type} : List α → Nat → α → (List α → Prop) → Prop
 | [], _, _, _ => False
 | _ :: xs, 0, v, K => K (v :: xs)
 | x :: xs, n + 1, v, K => setK xs n v (fun ys => K (x :: ys))

def snocK {α : Type} : List α → α → (List α → Prop) → Prop
 | [], v, K => K [v]
 | x :: xs, v, K => snocK xs v (fun ys => K (x :: ys))

/-- The n cells from o on. -/
def subK : List Value → Nat → Nat → (List Value → Prop) → Prop
 | _, 0, 0, K => K []
 | x :: xs, 0, n + 1, K => subK xs 0 n (fun ys => K (x :: ys))
 | _ :: xs, o + 1, n, K => subK xs o n K
 | [], _, _, _ => False

/-- The cells with l laid over them from o on. -/
def overK : List Value → Nat → List Value → (List Value → Prop) → Prop
 | xs, 0, [], K => K xs
 | _ :: xs, 0, y :: ys, K => overK xs 0 ys (fun zs => K (y :: zs))
 | x :: xs, o + 1, ys, K => overK xs o ys (fun zs => K (x :: zs))
 | [], _, _, _ => False

/-- l has just n elements. -/
def lenK : List Value → Nat → Prop → Prop
 | [], 0, K => K
 | _ :: xs, n + 1, K => lenK xs n K
 | _, _, _ => False

def cellsK : Value → (List Value → Prop) → Prop
 | .agg ⟨l⟩, K => K l
 | .bool b, K => K [.bool b]
 | .int k n, K => K [.int k n]
 | .string s, K => K [.string s]
 | .pointer a, K => K [.pointer a]
 | .slice a n c, K => K [.slice a n c]
 | .map r, K => K [.map r]
 | .func a b c, K => K [.func a b c]
 | .nilFunc, K => K [.nilFunc]
 | .iface t v, K => K [.iface t v]
 | .nilIface, K => K [.nilIface]
 | _, _ => False

theorem nthK_iff {α : Type} (d : α) : ∀ {l : List α} {n : Nat} {K : α → Prop}, nthK l n K → n < l.length ∧ K (nth d l n)
 | [], _, _, h => h.elim
 | _ :: _, 0, _, h => ⟨by simp, h⟩
 | _ :: xs, n + 1, K, h => by
  have := nthK_iff d (l := xs) h
  exact ⟨by simp [this.1], this.2⟩

theorem setK_iff {α : Type} : ∀ {l : List α} {n : Nat} {v : α} {K : List α → Prop}, setK l n v K → n < l.length ∧ K (l.set n v)
 | [], _, _, _, h => h.elim
 | _ :: _, 0, _, _, h => ⟨by simp, h⟩
 | x :: xs, n + 1, v, K, h => by
  have := setK_iff (l := xs) h
  exact ⟨by simp [this.1], this.2⟩

theorem snocK_iff {α : Type} : ∀ {l : List α} {v : α} {K : List α → Prop}, snocK l v K → K (l ++ [v])
 | [], _, _, h => h
 | x :: xs, v, K, h => snocK_iff (l := xs) h

theorem subK_iff : ∀ {l : List Value} {o n : Nat} {K : List Value → Prop}, subK l o n K → o + n ≤ l.length ∧ K ((l.drop o).take n)
 | l, 0, 0, K, h => by
  unfold subK at h
  exact ⟨by simp, by simpa using h⟩
 | x :: xs, 0, n + 1, K, h => by
  have := subK_iff (l := xs) h
  exact ⟨by simp; omega, by simpa using this.2⟩
 | _ :: xs, o + 1, n, K, h => by
  have h' : subK xs o n K := by unfold subK at h; exact h
  have := subK_iff (l := xs) h'
  exact ⟨by simp; omega, by simpa using this.2⟩
 | [], 0, n + 1, K, h => by simp [subK] at h
 | [], o + 1, n, K, h => by unfold subK at h; exact h.elim

theorem overK_iff : ∀ {l : List Value} {o : Nat} {m : List Value} {K : List Value → Prop}, overK l o m K → o + m.length ≤ l.length ∧ K (l.take o ++ m ++ l.drop (o + m.length))
 | xs, 0, [], K, h => by
  unfold overK at h
  exact ⟨by simp, by simpa using h⟩
 | x :: xs, 0, y :: ys, K, h => by
  have := overK_iff (l := xs) h
  exact ⟨by simp; omega, by simpa using this.2⟩
 | x :: xs, o + 1, ys, K, h => by
  have h' : overK xs o ys (fun zs => K (x :: zs)) := by unfold overK at h; exact h
  have := overK_iff (l := xs) h'
  refine ⟨by simp; omega, ?_⟩
  have h2 := this.2
  rw [show o + 1 + ys.length = (o + ys.length) + 1 from by omega]
  simpa using h2
 | [], 0, y :: ys, K, h => by simp [overK] at h
 | [], o + 1, ys, K, h => by unfold overK at h; exact h.elim

theorem lenK_iff : ∀ {l : List Value} {n : Nat} {K : Prop}, lenK l n K → l.length = n ∧ K
 | [], 0, K, h => ⟨rfl, h⟩
 | _ :: xs, n + 1, K, h => by
  have := lenK_iff (l := xs) h
  exact ⟨by simp [this.1], this.2⟩
 | [], n + 1, K, h => h.elim
 | _ :: _, 0, K, h => h.elim

theorem cellsK_iff : ∀ {x : Value} {K : List Value → Prop}, cellsK x K → K x.cells.toList
 | .agg ⟨l⟩, K, h => h
 | .bool b, K, h => h
 | .int k n, K, h => h
 | .string s, K, h => h
 | .pointer a, K, h => h
 | .slice a n c, K, h => h
 | .map r, K, h => h
 | .func a b c, K, h => h
 | .nilFunc, K, h => h
 | .iface t v, K, h => h
 | .nilIface, K, h => h
 | .float .., K, h => h.elim
 | .complex .., K, h => h.elim
 | .chan .., K, h => h.elim
 | .tuple .., K, h => h.elim

end Go.Sx
namespace Go.Sx
set_option linter.unusedVariables false

abbrev KT := List SV → List (Nat × Nat) → List (List Value) → Fx → Prop
abbrev KV := Value → List (Nat × Nat) → List (List Value) → Fx → Prop
abbrev KU := List (Nat × Nat) → List (List Value) → Fx → Prop

def XIf : Bool → Prop → Prop → Prop
 | true, A, _ => A
 | false, _, B => B

theorem XIf.split {b : Bool} {A B : Prop} (h : b = true → A) (h' : b = false → B) : XIf b A B := by
 cases b
 · exact h' rfl
 · exact h rfl

theorem XIf.yes {b : Bool} {A B : Prop} (hb : b = true) (h : A) : XIf b A B := by subst hb; exact h
theorem XIf.no {b : Bool} {A B : Prop} (hb : b = false) (h : B) : XIf b A B := by subst hb; exact h

/-- Two tests that are one and the same. -/
structure XSame (a b : Bool) (K : Prop) : Prop where
 same : a = b
 rest : K

theorem XSame.of {a : Bool} {K : Prop} (h : K) : XSame a a K := ⟨rfl, h⟩

/-- A divisor that is not nought. -/
structure XDiv (b : Int) (K : Prop) : Prop where
 ne : b ≠ 0
 rest : K

/-! ### operands -/

def memN : List Nat → Nat → Bool
 | [], _ => false
 | x :: xs, n => match Nat.beq x n with
  | true => true
  | false => memN xs n

def evG (tm : List SV) (as : List Nat) : Operand → (SV → Prop) → Prop
 | .tmp t, K => nthK tm t fun sv => match memN as t with
  | false => K sv
  | true => match sv with
   | .g _ _ x => K x
   | _ => False
 | .const v, K => K (.v v)
 | .global g, K => K (.v (.pointer (some ⟨g, 0, none⟩)))
 | .func f, K => K (.v (.func (.func f) #[] #[]))

def vK (bs : List (Nat × Nat)) : SV → (Value → Prop) → Prop
 | .v x, K => K x
 | .p i o, K => nthK bs i fun b => match b with
  | (k, s) => K (.pointer (some ⟨k, s + o, none⟩))
 | _, _ => False

def evV (tm : List SV) (as : List Nat) (bs : List (Nat × Nat)) (x : Operand) (K : Value → Prop) : Prop := evG tm as x fun sv => vK bs sv K

def evVs (tm : List SV) (as : List Nat) (bs : List (Nat × Nat)) : List Operand → (List Value → Prop) → Prop
 | [], K => K []
 | x :: xs, K => evV tm as bs x fun v => evVs tm as bs xs fun vs => K (v :: vs)

def evO (tm : List SV) (as : List Nat) (bs : List (Nat × Nat)) : Option Operand → (Option Value → Prop) → Prop
 | none, K => K none
 | some x, K => evV tm as bs x fun v => K (some v)

def evPs (tm : List SV) (as : List Nat) (bs : List (Nat × Nat)) : List (Nat × Operand) → (List (Nat × Value) → Prop) → Prop
 | [], K => K []
 | (i, x) :: xs, K => evV tm as bs x fun v => evPs tm as bs xs fun vs => K ((i, v) :: vs)

/-! ### operations that only compute -/

def pickK (c : Bool) (sa sb : SV) (K : SV → Prop) : Prop :=
 match sa, sb with
 | .v (.bool x), .v (.bool y) => K (.v (.bool (cond c x y)))
 | .g c1 true (.v (.bool x)), .v (.bool false) => XSame c c1 (K (.v (.bool (c && x))))
 | .v (.bool true), .g c1 false (.v (.bool y)) => XSame c c1 (K (.v (.bool (c || y))))
 | a, b => XIf c (K a) (K b)

def bits (op : BinOp) (k : IntKind) (a b : Int) : Int :=
 let x := BitVec.ofInt k.bits a
 let y := BitVec.ofInt k.bits b
 match op with
 | .and => k.wrap (x &&& y).toNat
 | .or => k.wrap (x ||| y).toNat
 | .xor => k.wrap (x ^^^ y).toNat
 | _ => k.wrap (x &&& ~~~y).toNat

/-! Tests on numbers: shut, so that nothing computes behind them. -/
def iEq (a b : Int) : Bool := a == b
def iNe (a b : Int) : Bool := a != b
def iLt (a b : Int) : Bool := decide (a < b)
def iLe (a b : Int) : Bool := decide (a ≤ b)
def iGt (a b : Int) : Bool := decide (a > b)
def iGe (a b : Int) : Bool := decide (a ≥ b)
theorem iEq_eq (a b : Int) : iEq a b = (a == b) := rfl
theorem iNe_eq (a b : Int) : iNe a b = (a != b) := rfl
theorem iLt_eq (a b : Int) : iLt a b = decide (a < b) := rfl
theorem iLe_eq (a b : Int) : iLe a b = decide (a ≤ b) := rfl
theorem iGt_eq (a b : Int) : iGt a b = decide (a > b) := rfl
theorem iGe_eq (a b : Int) : iGe a b = decide (a ≥ b) := rfl
attribute [irreducible] iEq iNe iLt iLe iGt iGe

def binInt (op : BinOp) (k : IntKind) (a b : Int) (K : SV → Prop) (E : Prop) : Prop :=
 match op with
 | .add => K (.v (.int k (k.wrap (a + b))))
 | .sub => K (.v (.int k (k.wrap (a - b))))
 | .mul => K (.v (.int k (k.wrap (a * b))))
 | .quo => XDiv b (K (.v (.int k (k.wrap (a.tdiv b)))))
 | .rem => XDiv b (K (.v (.int k (a.tmod b))))
 | .and => K (.v (.int k (bits .and k a b)))
 | .or => K (.v (.int k (bits .or k a b)))
 | .xor => K (.v (.int k (bits .xor k a b)))
 | .andNot => K (.v (.int k (bits .andNot k a b)))
 | .eql => K (.v (.bool (iEq a b)))
 | .neq => K (.v (.bool (iNe a b)))
 | .lss => K (.v (.bool (iLt a b)))
 | .leq => K (.v (.bool (iLe a b)))
 | .gtr => K (.v (.bool (iGt a b)))
 | .geq => K (.v (.bool (iGe a b)))
 | _ => E

def kindIs : IntKind → IntKind → Bool
 | .i8, .i8 | .i16, .i16 | .i32, .i32 | .i64, .i64 | .u8, .u8 | .u16, .u16 | .u32, .u32 | .u64, .u64 => true
 | _, _ => false

def boolT (tab : Tab) (t : TypeId) : Bool := match look tab t with
 | some ti => match ti.k with
  | .bool => true
  | _ => false
 | none => false

def binK (tab : Tab) (op : BinOp) (t : TypeId) (x y : SV) (K : SV → Prop) (E : Prop) : Prop :=
 match x, y with
 | .v (.int k a), .v (.int k' b) => match kindIs k k' with
  | true => binInt op k a b K E
  | false => E
 | .v (.bool a), .v (.bool b) => match op, boolT tab t with
  | .eql, true => K (.v (.bool (a == b)))
  | .neq, true => K (.v (.bool (!(a == b))))
  | _, _ => E
 | _, _ => E

def unK (op : UnOp) (x : SV) (K : SV → Prop) (E : Prop) : Prop :=
 match op, x with
 | .not, .v (.bool b) => K (.v (.bool (!b)))
 | .neg, .v (.int k n) => K (.v (.int k (k.wrap (0 - n))))
 | _, _ => E

def fieldAddrK (ti : TI) (x : SV) (f : Nat) (K : SV → Prop) (E : Prop) : Prop :=
 match ti.k with
 | .struct => nthK ti.offs f fun z => match z with
  | (off, 0, _) => E
  | (off, _ + 1, _) => match x with
   | .p i o => K (.p i (o + off))
   | .v (.pointer (some a)) => K (.v (.pointer (some (a.add off))))
   | _ => E
 | _ => E

/-- The address of an element of an array in a box, at a place that is known. -/
def indexAddrK (tab : Tab) (ti : TI) (x i : SV) (K : SV → Prop) (E : Prop) : Prop :=
 match x with
 | .p b o => match i with
  | .v (.int _ (.ofNat j)) => match ti.k with
   | .arr n e => match look tab e with
    | some te => match Nat.blt j n with
     | true => K (.p b (o + j * te.size))
     | false => E
    | none => E
   | _ => E
  | _ => E
 | _ => E

def fieldK (ti : TI) (x : SV) (f : Nat) (K : SV → Prop) (E : Prop) : Prop :=
 match ti.k, x with
 | .struct, .v (.agg ⟨l⟩) => nthK ti.offs f fun z => match z with
  | (off, sz, true) => subK l off sz fun m => K (.v (.agg ⟨m⟩))
  | (off, _, false) => nthK l off fun v => K (.v v)
 | _, _ => E

def loadK (ti : TI) (cs : List (List Value)) (i o : Nat) (K : SV → Prop) : Prop :=
 nthK cs i fun c => match ti.k.agg with
  | true => subK c o ti.size fun l => K (.v (.agg ⟨l⟩))
  | false => nthK c o fun v => K (.v v)

def lenVK (ti : TI) (x : SV) (K : SV → Prop) (E : Prop) : Prop :=
 match ti.k, x with
 | .slice _, .v (.slice _ n _) => K (.v (.int .i64 (n : Int)))
 | .str, .v (.string s) => K (.v (.int .i64 (s.size : Int)))
 | .arr n _, _ => K (.v (.int .i64 (n : Int)))
 | _, _ => E

def fillK (place : Nat → (Nat → Nat → Prop) → Prop) : List (Nat × Value) → List Value → (List Value → Prop) → Prop
 | [], z, K => K z
 | (i, v) :: r, z, K => cellsK v fun l => place i fun off size => lenK l size (overK z off l fun z' => fillK place r z' K)

def structPlace (ti : TI) (i : Nat) (K : Nat → Nat → Prop) : Prop := nthK ti.offs i fun z => match z with
 | (off, sz, _) => K off sz

def arrPlace (n s : Nat) (i : Nat) (K : Nat → Nat → Prop) : Prop := match Nat.blt i n with
 | true => K (i * s) s
 | false => False

/-- Types of many cells: what is made of them lies in a row, not in a box. -/
def bigTI (ti : TI) : Bool := match ti.k with
 | .slice _ => true
 | .map _ _ => true
 | _ => match ti.zero with
  | [.pointer none, .slice none _ _] => true
  | [.pointer none] => match ti.k with
   | .struct => true
   | _ => false
  | _ => match ti.size with
   | 23 | 24 => false
   | n => Nat.blt 20 n

def bigT (tab : Tab) (t : TypeId) : Bool := match look tab t with
 | some ti => bigTI ti
 | none => false

def xpure (tab : Tab) (as : List Nat) (op : Op) (tm : List SV) (bs : List (Nat × Nat)) (cs : List (List Value)) (K : SV → Prop) (E : Prop) : Prop :=
 match op with
 | .move x => evG tm as x K
 | .assign x => evG tm as x K
 | .pick c a b => evG tm as c fun sc => match sc with
  | .v (.bool c') => evG tm as a fun sa => evG tm as b fun sb => pickK c' sa sb K
  | _ => E
 | .load t x => evG tm as x fun sx => match sx with
  | .p i o => match look tab t with
   | some ti => loadK ti cs i o K
   | none => E
  | _ => E
 | .nilCheck x => evG tm as x fun sx => match sx with
  | .p i o => K (.p i o)
  | .v (.pointer (some a)) => K (.v (.pointer (some a)))
  | .v (.func (.func f) a b) => K (.v (.func (.func f) a b))
  | _ => E
 | .binOp .rem t x (.const (.int k' (.ofNat (n + 1)))) _ => evG tm as x fun sx => match sx with
  | .v (.int k a) => match kindIs k k' with
   | true => K (.v (.int k (a.tmod (.ofNat (n + 1)))))
   | false => E
  | _ => E
 | .binOp .quo t x (.const (.int k' (.ofNat (n + 1)))) _ => evG tm as x fun sx => match sx with
  | .v (.int k a) => match kindIs k k' with
   | true => K (.v (.int k (k.wrap (a.tdiv (.ofNat (n + 1))))))
   | false => E
  | _ => E
 | .binOp op t x y _ => evG tm as x fun sx => evG tm as y fun sy => binK tab op t sx sy K E
 | .unOp op _ x => evG tm as x fun sx => unK op sx K E
 | .convert src dst x => evG tm as x fun sx => match sx with
  | .v (.int _ n) => match look tab src, look tab dst with
   | some _, some ti => match ti.k with
    | .int k => K (.v (.int k (k.wrap n)))
    | _ => E
   | _, _ => E
  | _ => E
 | .indexAddr t x i => evG tm as x fun sx => match sx with
  | .p b o => evG tm as i fun si => match look tab t with
   | some ti => indexAddrK tab ti (.p b o) si K E
   | none => E
  | _ => E
 | .fieldAddr s x f => evG tm as x fun sx => match look tab s with
  | some ti => fieldAddrK ti sx f K E
  | none => E
 | .field s x f => evG tm as x fun sx => match look tab s with
  | some ti => fieldK ti sx f K E
  | none => E
 | .extract x i => evG tm as x fun sx => match sx with
  | .v (.tuple ⟨l⟩) => nthK l i fun v => K (.v v)
  | _ => E
 | .makeFunc fn ⟨first⟩ ⟨cap⟩ => evVs tm as bs first fun vs => evVs tm as bs cap fun us => K (.v (.func fn ⟨vs⟩ ⟨us⟩))
 | .build t ⟨ps⟩ => match look tab t with
  | some ti => match ti.k with
   | .struct => match bigTI ti with
    | true => E
    | false => evPs tm as bs ps fun vs => fillK (structPlace ti) vs ti.zero fun z => K (.v (.agg ⟨z⟩))
   | .arr n e => match look tab e with
    | some te => evPs tm as bs ps fun vs => fillK (arrPlace n te.size) vs ti.zero fun z => K (.v (.agg ⟨z⟩))
    | none => E
   | _ => E
  | none => E
 | .call ⟨.builtin .len, ⟨[x]⟩, ⟨[t]⟩⟩ => evG tm as x fun sx => match look tab t with
  | some ti => lenVK ti sx K E
  | none => E
 | .call ⟨.builtin .min, ⟨[x, y]⟩, ⟨[_, _]⟩⟩ => evG tm as x fun sx => evG tm as y fun sy => match sx, sy with
  | .v (.int k a), .v (.int k' b) => match kindIs k k' with
   | true => K (.v (.int k (if b < a then b else a)))
   | false => E
  | _, _ => E
 | _ => E

/-! ### the heads that stop the computing -/

section
variable (P : Program) (w0 : World) (R : Nat → Nat → Prop) (av : Nat → Prop)

def XVal (m : Sem Value) (bs : List (Nat × Nat)) (cs : List (List Value)) (D : Fx) (K : KV) : Prop :=
 ∀ w, St w0 R av w bs cs D → ∃ v w' ext cs' D', m.run P w = .ok v w' ∧ St w0 R av w' (bs ++ ext) cs' D' ∧ K v (bs ++ ext) cs' D'

def XUnit (m : Sem Unit) (bs : List (Nat × Nat)) (cs : List (List Value)) (D : Fx) (K : KU) : Prop :=
 ∀ w, St w0 R av w bs cs D → ∃ w' ext cs' D', m.run P w = .ok () w' ∧ St w0 R av w' (bs ++ ext) cs' D' ∧ K (bs ++ ext) cs' D'

def Callable (f : FuncId) : Prop := ∃ fn, P.funcs[f]? = some fn ∧ fn.body.isSome = true ∧ (fn.name == "runtime.NumGoroutine") = false

def XCall (f : FuncId) (vs : List Value) (bs : List (Nat × Nat)) (cs : List (List Value)) (D : Fx) (K : KV) : Prop :=
 Callable P f ∧ ∀ w, St w0 R av w bs cs D → Calls P f vs.toArray w fun e w' => ∃ v ext cs' D', e = .returned v ∧ St w0 R av w' (bs ++ ext) cs' D' ∧ K v (bs ++ ext) cs' D'

def LiftN (K : KT) (a : Act) (w : World) : Prop :=
 a.defers = [] ∧ ∃ tm bs cs D, FrameOk bs tm a.tmps ∧ St w0 R av w bs cs D ∧ K tm bs cs D

def Lift (K : Exit → KT) (e : Exit) (a : Act) (w : World) : Prop := LiftN w0 R av (K e) a w

def XRaw (o : Oper) (tm : List SV) (bs : List (Nat × Nat)) (cs : List (List Value)) (D : Fx) (K : KT) : Prop :=
 ∀ a w Q, FrameOk bs tm a → St w0 R av w bs cs D → o.wp P ⟨a, []⟩ w (LiftN w0 R av K) Q

def XStop (c : Code) (tm : List SV) (bs : List (Nat × Nat)) (cs : List (List Value)) (D : Fx) (K : Exit → KT) : Prop :=
 ∀ a w, FrameOk bs tm a → St w0 R av w bs cs D → c.wp P (Lift w0 R av K) ⟨a, []⟩ w

end

section
variable {P : Program} {w0 : World} {R : Nat → Nat → Prop} {av : Nat → Prop} {bs : List (Nat × Nat)} {cs : List (List Value)} {D : Fx}
theorem XVal_iff {m : Sem Value} {K : KV} : XVal P w0 R av m bs cs D K ↔ ∀ w, St w0 R av w bs cs D → ∃ v w' ext cs' D', m.run P w = .ok v w' ∧ St w0 R av w' (bs ++ ext) cs' D' ∧ K v (bs ++ ext) cs' D' := Iff.rfl
theorem XUnit_iff {m : Sem Unit} {K : KU} : XUnit P w0 R av m bs cs D K ↔ ∀ w, St w0 R av w bs cs D → ∃ w' ext cs' D', m.run P w = .ok () w' ∧ St w0 R av w' (bs ++ ext) cs' D' ∧ K (bs ++ ext) cs' D' := Iff.rfl
theorem XCall_iff {f : FuncId} {vs : List Value} {K : KV} : XCall P w0 R av f vs bs cs D K ↔ Callable P f ∧ ∀ w, St w0 R av w bs cs D → Calls P f vs.toArray w fun e w' => ∃ v ext cs' D', e = .returned v ∧ St w0 R av w' (bs ++ ext) cs' D' ∧ K v (bs ++ ext) cs' D' := Iff.rfl
theorem XRaw_iff {o : Oper} {tm : List SV} {K : KT} : XRaw P w0 R av o tm bs cs D K ↔ ∀ a w Q, FrameOk bs tm a → St w0 R av w bs cs D → o.wp P ⟨a, []⟩ w (LiftN w0 R av K) Q := Iff.rfl
theorem XStop_iff {c : Code} {tm : List SV} {K : Exit → KT} : XStop P w0 R av c tm bs cs D K ↔ ∀ a w, FrameOk bs tm a → St w0 R av w bs cs D → c.wp P (Lift w0 R av K) ⟨a, []⟩ w := Iff.rfl
end
attribute [irreducible] XCall XVal XUnit XRaw XStop

/-! ### all operations -/

def fin (dst : Option Tmp) (tm : List SV) (sv : SV) (K : List SV → Prop) : Prop := match dst with
 | some d => setK tm d sv K
 | none => K tm

def semB (b : Builtin) (ts : Array TypeId) (t : TypeId) (vs : Array Value) : Option (Sem Value) :=
 match b with
 | .append => some (Builtin.append_ ts t vs)
 | .cap => some (Builtin.cap_ ts t vs)
 | .copy => some (Builtin.copy_ ts t vs)
 | .max => some (Builtin.max_ ts t vs)
 | .min => some (Builtin.min_ ts t vs)
 | .len => some (Builtin.len_ ts t vs)
 | .delete => some (Builtin.delete_ ts t vs)
 | .clear => some (Builtin.clear_ ts t vs)
 | _ => none

def oneCell : Value → Bool
 | .agg _ | .tuple _ => false
 | _ => true

/-- Each is the value of one cell. -/
def onesK : List Value → Prop → Prop
 | [], K => K
 | x :: xs, K => match x with
  | .agg _ => False
  | .tuple _ => False
  | _ => onesK xs K

theorem onesK_iff : ∀ {l : List Value} {K : Prop}, onesK l K → (∀ v ∈ l, oneCell v = true) ∧ K
 | [], K, h => ⟨by simp, h⟩
 | x :: xs, K, h => by
  have h' : oneCell x = true ∧ onesK xs K := by cases x <;> simp_all [onesK, oneCell]
  have := onesK_iff h'.2
  refine ⟨fun v hv => ?_, this.2⟩
  rcases List.mem_cons.1 hv with rfl | hv
  · exact h'.1
  · exact this.1 v hv

def natLen {α : Type} : List α → Nat → (Nat → Prop) → Prop
 | [], n, K => K n
 | _ :: xs, n, K => natLen xs (n + 1) K

section
variable (P : Program) (tab : Tab) (w0 : World) (R : Nat → Nat → Prop) (av : Nat → Prop)

def boxK (dst : Option Tmp) (c : List Value) (tm : List SV) (bs : List (Nat × Nat)) (cs : List (List Value)) (D : Fx) (K : KT) : Prop :=
 natLen bs 0 fun n => ∀ b : Nat, snocK bs (b, 0) fun bs' => snocK cs c fun cs' => fin dst tm (.p n 0) fun tm' => K tm' bs' cs' D

def xext (o : Oper) (tm : List SV) (bs : List (Nat × Nat)) (cs : List (List Value)) (D : Fx) (K : KT) : Prop :=
 let KF : KV := fun v bs cs D => fin o.dst tm (.v v) fun tm' => K tm' bs cs D
 let KS : KU := fun bs cs D => fin o.dst tm (.v undef) fun tm' => K tm' bs cs D
 match o.op with
 | .alloc e => match look tab e with
  | some ti => match bigTI ti with
   | true => XVal P w0 R av (Instr.alloc e true (.tuple #[])) bs cs D KF
   | false => boxK o.dst ti.zero tm bs cs D K
  | none => XRaw P w0 R av o tm bs cs D K
 | .box e x => match bigT tab e with
  | true => evV tm [] bs x fun v => XVal P w0 R av (Instr.box e v) bs cs D KF
  | false => evV tm [] bs x fun v => cellsK v fun c => boxK o.dst c tm bs cs D K
 | .store t a x => evG tm [] a fun sa => match sa with
  | .p i s => match look tab t with
   | some ti => evV tm [] bs x fun v => cellsK v fun l => onesK l (lenK l ti.size (nthK cs i fun c => overK c s l fun c' => setK cs i c' fun cs' => KS bs cs' D))
   | none => XRaw P w0 R av o tm bs cs D K
  | .v av' => evV tm [] bs x fun v => XUnit P w0 R av (Instr.storeAt t av' v) bs cs D KS
  | _ => False
 | .load t x => evV tm [] bs x fun v => XVal P w0 R av (Instr.loadAt t v) bs cs D KF
 | .buildSlice t n ⟨ps⟩ => evPs tm [] bs ps fun vs => XVal P w0 R av (Instr.buildSlice t n ⟨vs⟩) bs cs D KF
 | .build t ⟨ps⟩ => evPs tm [] bs ps fun vs => XVal P w0 R av (Instr.build t ⟨vs⟩) bs cs D KF
 | .indexAddr t x i => evV tm [] bs x fun v => evV tm [] bs i fun n => XVal P w0 R av (Instr.indexAt t v n) bs cs D KF
 | .index t x i => evV tm [] bs x fun v => evV tm [] bs i fun n => XVal P w0 R av (Instr.index t v n) bs cs D KF
 | .slice t x lo hi mx => evV tm [] bs x fun v => evO tm [] bs lo fun a => evO tm [] bs hi fun b => evO tm [] bs mx fun c => XVal P w0 R av (Instr.sliceAt t v a b c) bs cs D KF
 | .convert s d x => evV tm [] bs x fun v => XVal P w0 R av (convert s d v) bs cs D KF
 | .makeSlice t l c => evV tm [] bs l fun v => evV tm [] bs c fun u => XVal P w0 R av (Instr.makeSlice t v u) bs cs D KF
 | .binOp op t x y _ => evV tm [] bs x fun v => evV tm [] bs y fun u => XVal P w0 R av (do eqGuard op t x y v u; binOp op t v u) bs cs D KF
 | .unOp op _ x => evV tm [] bs x fun v => XVal P w0 R av (Op.unary op v) bs cs D KF
 | .makeMap t none => XVal P w0 R av (Instr.makeMap t none) bs cs D KF
 | .lookup t x i ok => evV tm [] bs x fun v => evV tm [] bs i fun n => XVal P w0 R av (Instr.lookup t v n ok) bs cs D KF
 | .mapUpdate t m k x => evV tm [] bs m fun v => evV tm [] bs k fun n => evV tm [] bs x fun u => XUnit P w0 R av (Instr.mapUpdate t v n u) bs cs D KS
 | .range t x => evV tm [] bs x fun v => XVal P w0 R av (Instr.range t v) bs cs D KF
 | .next it s => evV tm [] bs it fun v => XVal P w0 R av (Instr.next v s o.type) bs cs D KF
 | .entry it => evV tm [] bs it fun v => XVal P w0 R av (Instr.entry v) bs cs D KF
 | .makeInterface t x => evV tm [] bs x fun v => XVal P w0 R av (Instr.makeInterface t v) bs cs D KF
 | .call ⟨.builtin b, ⟨xs⟩, ts⟩ => evVs tm [] bs xs fun vs => match semB b ts o.type ⟨vs⟩ with
  | some m => XVal P w0 R av m bs cs D KF
  | none => XRaw P w0 R av o tm bs cs D K
 | .call ⟨.value x, ⟨xs⟩, ts⟩ => evG tm [] x fun sf => match sf with
  | .v (.func (.func f) ⟨first⟩ ⟨cap⟩) => match first, cap with
   | [], [] => evVs tm [] bs xs fun vs => XCall P w0 R av f vs bs cs D KF
   | _, _ => evVs tm [] bs xs fun vs => XCall P w0 R av f (first ++ vs ++ cap) bs cs D KF
  | _ => XRaw P w0 R av o tm bs cs D K
 | _ => XRaw P w0 R av o tm bs cs D K

def xop (o : Oper) (tm : List SV) (bs : List (Nat × Nat)) (cs : List (List Value)) (D : Fx) (K : KT) : Prop :=
 xpure tab [] o.op tm bs cs (fun sv => fin o.dst tm sv fun tm' => K tm' bs cs D) (xext P tab w0 R av o tm bs cs D K)

/-! ### guarded operations: which rows of them only compute -/

def boxOf (tm : List SV) (as : List (Nat × Bool)) : Operand → Bool
 | .tmp t => match as.find? (fun x => Nat.beq x.1 t) with
  | some x => x.2
  | none => match nth .any tm t with
   | .p _ _ => true
   | _ => false
 | _ => false

def scalarT (tab : Tab) (t : TypeId) : Bool := match look tab t with
 | some ti => match ti.k with
  | .bool | .int _ => true
  | _ => false
 | none => false

def lenT (tab : Tab) (t : TypeId) : Bool := match look tab t with
 | some ti => match ti.k with
  | .slice _ | .str => true
  | _ => false
 | none => false

/-- Some flag where the operation only computes; the flag: its value is an address in a box. -/
def quietOp (tm : List SV) (as : List (Nat × Bool)) : Op → Option Bool
 | .move x | .assign x => some (boxOf tm as x)
 | .load _ x => match boxOf tm as x with
  | true => some false
  | false => none
 | .fieldAddr _ x _ => some (boxOf tm as x)
 | .field _ _ _ | .extract _ _ => some false
 | .unOp _ t _ => match scalarT tab t with
  | true => some false
  | false => none
 | .convert s d _ => match scalarT tab s, scalarT tab d with
  | true, true => some false
  | _, _ => none
 | .binOp op t _ y _ => match scalarT tab t with
  | true => match op with
   | .shl | .shr => none
   | .quo | .rem => match y with
    | .const (.int _ (.ofNat (n + 1))) => some false
    | _ => none
   | _ => some false
  | false => none
 | .call ⟨.builtin .len, ⟨[_]⟩, ⟨[t]⟩⟩ => match lenT tab t with
  | true => some false
  | false => none
 | _ => none

def guardIs (o : Oper) (j : Nat) (pol : Bool) : Bool := match o.guard with
 | some (j', pol') => match Nat.beq j j', pol, pol' with
  | true, true, true => true
  | true, false, false => true
  | _, _, _ => false
 | none => false

/-- The row of operations under one guard only computes. -/
def quietRow (j : Nat) (pol : Bool) (tm : List SV) : List Oper → List (Nat × Bool) → Bool
 | [], _ => true
 | o :: r, as => match guardIs o j pol with
  | false => match o.guard with
   | none => true
   | some _ => false
  | true => match quietOp tab tm as o.op with
   | some f => quietRow j pol tm r (match o.dst with | some d => (d, f) :: as | none => as)
   | none => false

/-- An operation of the group writes this slot. -/
def madeBy (j : Nat) (pol : Bool) (t : Nat) : List Oper → Bool
 | [] => false
 | o :: r => match guardIs o j pol with
  | true => match o.dst with
   | some d => match Nat.beq d t with
    | true => true
    | false => madeBy j pol t r
   | none => madeBy j pol t r
  | false => madeBy j pol t r

def cleanXs (all : List Oper) (j : Nat) (pol : Bool) (as : List Nat) : List Operand → Bool
 | [] => true
 | .tmp t :: r => match memN as t with
  | true => cleanXs all j pol as r
  | false => match madeBy j pol t all with
   | true => false
   | false => cleanXs all j pol as r
 | _ :: r => cleanXs all j pol as r

/-- The row looks at nothing that the group has made before it. -/
def rowClean (all : List Oper) (j : Nat) (pol : Bool) : List Oper → List Nat → Bool
 | [], _ => true
 | o :: r, as => match guardIs o j pol with
  | false => true
  | true => match cleanXs all j pol as o.op.operands.toList with
   | true => rowClean all j pol r (match o.dst with | some d => d :: as | none => as)
   | false => false

def quietRow2 (all : List Oper) (j : Nat) (pol : Bool) (tm : List SV) (l : List Oper) : Bool :=
 match quietRow tab j pol tm l [] with
 | true => rowClean all j pol l []
 | false => false

/-- The group that is being walked: its guard, the guard's value, the slots that it has written. -/
structure Grp where
 j : Nat
 pol : Bool
 c : Bool
 as : List Nat
 t : Nat

/-- A guard that is not known parts the ways. -/
def cutK (o : Oper) (pol c : Bool) (t : Nat) (tm : List SV) (bs : List (Nat × Nat)) (cs : List (List Value)) (D : Fx) (KN : KT) : Prop :=
 match pol with
 | true => XIf c (setK tm t (.v (.bool true)) fun tm => xop P tab w0 R av o tm bs cs D KN)
  (setK tm t (.v (.bool false)) fun tm => fin o.dst tm (.v undef) fun tm => KN tm bs cs D)
 | false => XIf c (setK tm t (.v (.bool true)) fun tm => fin o.dst tm (.v undef) fun tm => KN tm bs cs D)
  (setK tm t (.v (.bool false)) fun tm => xop P tab w0 R av o tm bs cs D KN)

/-- One more operation of a group. -/
def grpK (o : Oper) (G : Grp) (tm : List SV) (bs : List (Nat × Nat)) (cs : List (List Value)) (D : Fx) (KG : Grp → KT) (E : Prop) : Prop :=
 xpure tab G.as o.op tm bs cs (fun sv => match o.dst with
  | some d => match Nat.beq d G.t with
   | true => False
   | false => setK tm d (.g G.c G.pol sv) fun tm' => KG ⟨G.j, G.pol, G.c, d :: G.as, G.t⟩ tm' bs cs D
  | none => False) E

def guardK (all : List Oper) (j : Nat) (tm : List SV) (K : Nat → Bool → Prop) (N : Prop) : Prop :=
 nthK all j fun oj => match oj.dst with
  | none => False
  | some t => nthK tm t fun sg => match sg with
   | .v (.bool c) => K t c
   | .v (.tuple _) => N
   | _ => False

def freshK (all : List Oper) (o : Oper) (r : List Oper) (j : Nat) (pol : Bool) (tm : List SV) (bs : List (Nat × Nat)) (cs : List (List Value)) (D : Fx) (KN : KT) (KG : Grp → KT) : Prop :=
 guardK all j tm (fun t c => match quietRow2 tab all j pol tm (o :: r) with
  | true => grpK tab o ⟨j, pol, c, [], t⟩ tm bs cs D KG (cutK P tab w0 R av o pol c t tm bs cs D KN)
  | false => cutK P tab w0 R av o pol c t tm bs cs D KN) (fin o.dst tm (.v undef) fun tm => KN tm bs cs D)

def xops (all : List Oper) : List Oper → Option Grp → List SV → List (Nat × Nat) → List (List Value) → Fx → KT → Prop
 | [], _, tm, bs, cs, D, K => K tm bs cs D
 | o :: r, g, tm, bs, cs, D, K => match o.guard with
  | none => xop P tab w0 R av o tm bs cs D fun tm bs cs D => xops all r none tm bs cs D K
  | some (j, pol) => match g with
   | none => freshK P tab w0 R av all o r j pol tm bs cs D (fun tm bs cs D => xops all r none tm bs cs D K) (fun G tm bs cs D => xops all r (some G) tm bs cs D K)
   | some G => match guardIs o G.j G.pol with
    | true => grpK tab o G tm bs cs D (fun G tm bs cs D => xops all r (some G) tm bs cs D K) False
    | false => freshK P tab w0 R av all o r j pol tm bs cs D (fun tm bs cs D => xops all r none tm bs cs D K) (fun G tm bs cs D => xops all r (some G) tm bs cs D K)

def xc : Code → List SV → List (Nat × Nat) → List (List Value) → Fx → (Exit → KT) → Prop
 | .skip, tm, bs, cs, D, K => K .normal tm bs cs D
 | .region _ ⟨ops⟩ false, tm, bs, cs, D, K => xops P tab w0 R av ops ops none tm bs cs D (K .normal)
 | .seq a b, tm, bs, cs, D, K => xc a tm bs cs D fun e tm bs cs D => match e with
  | .normal => xc b tm bs cs D K
  | e => K e tm bs cs D
 | .cond c a b, tm, bs, cs, D, K => evG tm [] c fun sv => match sv with
  | .v (.bool t) => XIf t (xc a tm bs cs D K) (xc b tm bs cs D K)
  | _ => False
 | .block id c, tm, bs, cs, D, K => xc c tm bs cs D fun e tm bs cs D => match e with
  | .exit i => match Nat.beq i id with
   | true => K .normal tm bs cs D
   | false => K (.exit i) tm bs cs D
  | e => K e tm bs cs D
 | .ret, tm, bs, cs, D, K => K .ret tm bs cs D
 | .exit id, tm, bs, cs, D, K => K (.exit id) tm bs cs D
 | c, tm, bs, cs, D, K => XStop P w0 R av c tm bs cs D K

end
end Go.Sx
namespace Go.Sx
set_option linter.unusedVariables false

/-! ### runs -/

theorem run_bind {α β : Type} (P : Program) (m : Sem α) (f : α → Sem β) (w : World) :
 (m >>= f).run P w = match m.run P w with | .ok a w' => (f a).run P w' | .halt h w' => .halt h w' := by
 show (Sem.bind m f).run P w = _
 induction m generalizing w with
 | pure a => rfl
 | load m a k ih =>
  simp only [Sem.bind, Sem.run]
  split
  · exact ih _ w
  · split
    · exact ih _ w
    · rfl
 | store m a v k ih =>
  cases v <;> simp only [Sem.bind, Sem.run] <;> first | rfl | skip
  all_goals
   split
   · split
     · rfl
     · exact ih _
   · split
     · exact ih _
     · rfl
 | new o k ih => simp only [Sem.bind, Sem.run]; exact ih _ _
 | shape r k ih => simp only [Sem.bind, Sem.run]; exact ih _ _
 | freeze a n k ih => simp only [Sem.bind, Sem.run]; exact ih _
 | frozen a k ih => simp only [Sem.bind, Sem.run]; exact ih _ _
 | getObj r k ih =>
  simp only [Sem.bind, Sem.run]
  split
  · rfl
  · exact ih _ _
  · rfl
 | setObj r o k ih =>
  simp only [Sem.bind, Sem.run]
  split
  · rfl
  · exact ih _
  · rfl
 | choose q k ih =>
  simp only [Sem.bind, Sem.run]
  split
  · exact ih _ _
  · exact ih _ _
 | sys c k ih => simp only [Sem.bind, Sem.run]; exact ih _ _
 | program k ih => simp only [Sem.bind, Sem.run]; exact ih _ _
 | mark m k ih => simp only [Sem.bind, Sem.run]; exact ih _
 | halt h => rfl

theorem run_bind_ok {α β : Type} {P : Program} {m : Sem α} {f : α → Sem β} {w w' : World} {a : α} (h : m.run P w = .ok a w') :
 (m >>= f).run P w = (f a).run P w' := by rw [run_bind, h]

theorem run_pure {α : Type} (P : Program) (a : α) (w : World) : (pure a : Sem α).run P w = .ok a w := rfl

theorem run_typeInfo {P : Program} {t : TypeId} {i : TypeInfo} (h : P.info? t = some i) (w : World) : (typeInfo t).run P w = .ok i w := by
 unfold typeInfo
 rw [run_bind_ok (m := program) (a := P) (w' := w) rfl]
 simp only [h]
 rfl

theorem run_underlying' {P : Program} {t : TypeId} {d : TypeDesc} (h : P.underlying t = some d) (w : World) : (underlying t).run P w = .ok d w := by
 unfold underlying
 rw [run_bind_ok (m := program) (a := P) (w' := w) rfl]
 simp only [h]
 rfl

theorem run_sizeOf {P : Program} {t : TypeId} {i : TypeInfo} (h : P.info? t = some i) (w : World) : (sizeOf t).run P w = .ok i.size w := by
 unfold sizeOf
 rw [run_bind_ok (run_typeInfo h w)]
 rfl

theorem run_zero {P : Program} {t : TypeId} {i : TypeInfo} {z : Value} (h : P.info? t = some i) (hz : i.zero = some z) (w : World) : (zeroValue t).run P w = .ok z w := by
 unfold zeroValue
 rw [run_bind_ok (run_typeInfo h w)]
 simp only [hz]
 rfl

theorem run_isAgg {P : Program} {t : TypeId} {d : TypeDesc} (h : P.underlying t = some d) (w : World) : (isAgg t).run P w = .ok (mkTK d).agg w := by
 unfold isAgg
 rw [run_bind_ok (run_underlying' h w)]
 cases d <;> rfl

/-- What the table says of a type. -/
theorem mkTI_parts {P : Program} {t : TypeId} {x : TI} (h : mkTI P t = some x) :
 ∃ i d z, P.info? t = some i ∧ P.underlying t = some d ∧ i.zero = some z ∧ x.k = mkTK d ∧ x.size = i.size ∧ x.zero = z.cells.toList ∧
  x.bytes = i.bytes ∧ ∀ fs, d = .struct fs → (∀ f ∈ fs, (P.info? f.type).isSome = true ∧ (P.underlying f.type).isSome = true) ∧ x.offs = fs.toList.map fun f => (f.offset, P.cellsOf f.type, ((P.underlying f.type).map fun d => (mkTK d).agg).getD false) := by
 unfold mkTI at h
 split at h
 · cases h
 · rename_i i hi
   split at h
   · rename_i d z hd hz
     cases d with
     | struct fs =>
      simp only at h
      split at h
      · rename_i ha
        cases h
        refine ⟨i, .struct fs, z, hi, hd, hz, rfl, rfl, rfl, rfl, fun fs' e => ?_⟩
        cases e
        exact ⟨fun f hf => by have := Array.all_eq_true_iff_forall_mem.1 ha f hf; simpa using this, rfl⟩
      · cases h
     | _ =>
      cases h
      exact ⟨i, _, z, hi, hd, hz, rfl, rfl, rfl, rfl, fun fs e => by cases e⟩
   · cases h

/-! ### frames -/

theorem SVok.mono {bs ext : List (Nat × Nat)} : ∀ {s : SV} {y : Value}, SVok bs s y → SVok (bs ++ ext) s y
 | .v _, _, h => h
 | .p i o, y, h => by
  obtain ⟨h1, h2⟩ := h
  refine ⟨?_, by simp; omega⟩
  rw [h1]
  unfold ptr
  rw [nth_eq, nth_eq, List.getElem?_append_left h2]
 | .g c pol x, _, h => fun hc => SVok.mono (h hc)
 | .any, _, _ => trivial

theorem FrameOk.mono {bs ext : List (Nat × Nat)} {tm : List SV} {a : Array Value} (h : FrameOk bs tm a) : FrameOk (bs ++ ext) tm a :=
 ⟨h.len, fun t => (h.ok t).mono⟩

theorem FrameOk.set {bs : List (Nat × Nat)} {tm : List SV} {a : Array Value} (h : FrameOk bs tm a) (d : Nat) {s : SV} {y : Value} (hs : SVok bs s y) :
 FrameOk bs (tm.set d s) (a.setIfInBounds d y) := by
 refine ⟨by simp [h.len], fun t => ?_⟩
 have hl := h.len
 have ht := h.ok t
 rw [nth_eq] at ht ⊢
 by_cases hd : d = t
 · subst hd
   by_cases hlt : d < tm.length
   · rw [List.getElem?_set_self hlt]
     have : d < a.size := by omega
     simpa [Array.getD, this] using hs
   · rw [List.getElem?_eq_none (by simp; omega)]
     exact trivial
 · rw [List.getElem?_set_ne hd]
   have : (a.setIfInBounds d y).getD t undef = a.getD t undef := by
    simp only [Array.getD_eq_getD_getElem?, Array.getElem?_setIfInBounds_ne hd]
   rw [this]
   exact ht

theorem FrameOk.put {bs : List (Nat × Nat)} {tm : List SV} {a : Array Value} (h : FrameOk bs tm a) (dst : Option Tmp) {s : SV} {y : Value} (hs : SVok bs s y) {K : List SV → Prop}
 (hk : fin dst tm s K) : ∃ tm', FrameOk bs tm' (Act.put ⟨a, []⟩ dst y).tmps ∧ K tm' := by
 cases dst with
 | none => exact ⟨tm, h, hk⟩
 | some d =>
  obtain ⟨_, hk⟩ := setK_iff hk
  exact ⟨_, h.set d hs, hk⟩

/-- The slots of a group hold guarded values, and the guard is as it should be. -/
def GOk (c pol : Bool) (as : List Nat) (tm : List SV) : Prop := (∀ t, memN as t = true → ∃ x, nth .any tm t = .g c pol x) ∧ (as ≠ [] → c = pol)

theorem GOk.nil (tm : List SV) : GOk true true [] tm := ⟨fun _ h => by simp [memN] at h, fun h => absurd rfl h⟩

section
variable {bs : List (Nat × Nat)} {tm : List SV} {a : Array Value} {as : List Nat} {c pol : Bool}

theorem evG_sound (hf : FrameOk bs tm a) (hg : GOk c pol as tm) {x : Operand} {K : SV → Prop} (h : evG tm as x K) : ∃ s, SVok bs s (Act.eval ⟨a, []⟩ x) ∧ K s := by
 cases x with
 | tmp t =>
  obtain ⟨_, h⟩ := nthK_iff SV.any h
  split at h
  · exact ⟨_, hf.ok t, h⟩
  · rename_i hm
    obtain ⟨y, hy⟩ := hg.1 t hm
    rw [hy] at h
    have hok := hf.ok t
    rw [hy] at hok
    exact ⟨y, hok (hg.2 (by intro e; subst e; simp [memN] at hm)), h⟩
 | const v => exact ⟨.v v, rfl, h⟩
 | global g => exact ⟨.v _, rfl, h⟩
 | func f => exact ⟨.v _, rfl, h⟩

theorem vK_sound {s : SV} {y : Value} (hs : SVok bs s y) {K : Value → Prop} (h : vK bs s K) : K y := by
 cases s with
 | v x => cases hs; exact h
 | p i o =>
  obtain ⟨rfl, hi⟩ := hs
  obtain ⟨_, h⟩ := nthK_iff (0, 0) h
  exact h
 | g _ _ _ => exact h.elim
 | any => exact h.elim

theorem evV_sound (hf : FrameOk bs tm a) (hg : GOk c pol as tm) {x : Operand} {K : Value → Prop} (h : evV tm as bs x K) : K (Act.eval ⟨a, []⟩ x) := by
 obtain ⟨s, hs, h⟩ := evG_sound hf hg h
 exact vK_sound hs h

theorem evVs_sound (hf : FrameOk bs tm a) (hg : GOk c pol as tm) : ∀ {xs : List Operand} {K : List Value → Prop}, evVs tm as bs xs K → K (xs.map (Act.eval ⟨a, []⟩))
 | [], _, h => h
 | x :: xs, K, h => evVs_sound hf hg (xs := xs) (evV_sound hf hg h)

theorem evO_sound (hf : FrameOk bs tm a) (hg : GOk c pol as tm) {x : Option Operand} {K : Option Value → Prop} (h : evO tm as bs x K) : K (x.map (Act.eval ⟨a, []⟩)) := by
 cases x with
 | none => exact h
 | some x => exact evV_sound hf hg h

theorem evPs_sound (hf : FrameOk bs tm a) (hg : GOk c pol as tm) : ∀ {xs : List (Nat × Operand)} {K : List (Nat × Value) → Prop}, evPs tm as bs xs K → K (xs.map fun x => (x.1, Act.eval ⟨a, []⟩ x.2))
 | [], _, h => h
 | (i, x) :: xs, K, h => evPs_sound hf hg (xs := xs) (evV_sound hf hg h)

end

/-! ### reading a box -/

theorem Range.cell {w : World} {b o : Nat} {c : List Value} (h : Range w b o c) {j : Nat} (hj : j < c.length) : w.cell? ⟨b, o + j, none⟩ = c[j]? := by
 obtain ⟨arr, e, h1, h2⟩ := h
 simp [World.cell?, h1, h2 j hj]

theorem Addr.add_none (b o n : Nat) : Addr.add ⟨b, o, none⟩ n = ⟨b, o + n, none⟩ := by
 unfold Addr.add
 split
 · rename_i h; subst h; rfl
 · rfl

theorem run_load_cell {P : Program} {w : World} {a : Addr} {v : Value} (h : w.cell? a = some v) : (load a).run P w = .ok v w := by
 simp [load, Sem.run, h]

theorem run_loadCellsFrom {P : Program} {w : World} {b o : Nat} : ∀ (l : List Value) (i : Nat) (acc : Array Value), (∀ j, j < l.length → w.cell? ⟨b, o + (i + j), none⟩ = l[j]?) →
 (loadCellsFrom ⟨b, o, none⟩ i l.length acc).run P w = .ok (acc ++ l.toArray) w
 | [], i, acc, _ => by simp [loadCellsFrom]
 | v :: l, i, acc, h => by
  simp only [List.length_cons, loadCellsFrom]
  have h0 : w.cell? (Addr.add ⟨b, o, none⟩ i) = some v := by
   rw [Addr.add_none]
   have := h 0 (by simp)
   simpa using this
  rw [run_bind_ok (run_load_cell h0), run_loadCellsFrom l (i + 1) (acc.push v) (fun j hj => by
   have := h (j + 1) (by simp; omega)
   rw [show o + (i + 1 + j) = o + (i + (j + 1)) from by omega]
   simpa using this)]
  congr 1
  apply Array.toList_inj.1
  simp

theorem run_loadCells {P : Program} {w : World} {b o : Nat} (l : List Value) (h : ∀ j, j < l.length → w.cell? ⟨b, o + j, none⟩ = l[j]?) :
 (loadCells ⟨b, o, none⟩ l.length).run P w = .ok ⟨l⟩ w := by
 unfold loadCells
 rw [run_loadCellsFrom l 0 #[] (fun j hj => by rw [Nat.zero_add]; exact h j hj)]
 simp

theorem run_loadVar_agg {P : Program} {w : World} {t : TypeId} {x : TI} (hx : mkTI P t = some x) (ha : x.k.agg = true) {b o : Nat} (l : List Value) (hl : l.length = x.size)
 (h : ∀ j, j < l.length → w.cell? ⟨b, o + j, none⟩ = l[j]?) : (loadVar t ⟨b, o, none⟩).run P w = .ok (.agg ⟨l⟩) w := by
 obtain ⟨i, d, z, h1, h2, h3, h4, h5, -, -, -⟩ := mkTI_parts hx
 unfold loadVar
 rw [run_bind_ok (run_isAgg h2 w), ← h4, ha]
 simp only [if_true]
 rw [run_bind_ok (run_sizeOf h1 w), ← h5, ← hl, run_bind_ok (run_loadCells l h)]
 rfl

theorem run_loadVar_one {P : Program} {w : World} {t : TypeId} {x : TI} (hx : mkTI P t = some x) (ha : x.k.agg = false) {b : Addr} {v : Value}
 (h : w.cell? b = some v) : (loadVar t b).run P w = .ok v w := by
 obtain ⟨i, d, z, h1, h2, h3, h4, h5, -, -, -⟩ := mkTI_parts hx
 unfold loadVar
 rw [run_bind_ok (run_isAgg h2 w), ← h4, ha]
 simp only [Bool.false_eq_true, if_false]
 exact run_load_cell h

theorem loadK_sound {P : Program} {bs : List (Nat × Nat)} {cs : List (List Value)} {t : TypeId} {x : TI} (hx : mkTI P t = some x) {i o : Nat} {K : SV → Prop}
 (h : loadK x cs i o K) : ∃ v, (∀ w, Boxes w bs cs → (Instr.loadAt t (ptr bs i o)).run P w = .ok v w) ∧ K (.v v) := by
 obtain ⟨hi, h⟩ := nthK_iff [] h
 have hat : Instr.loadAt t (ptr bs i o) = loadVar t ⟨(nth (0, 0) bs i).1, (nth (0, 0) bs i).2 + o, none⟩ := rfl
 split at h
 · rename_i ha
   obtain ⟨h1, h2⟩ := subK_iff h
   refine ⟨_, fun w hb => ?_, h2⟩
   obtain ⟨hr, _⟩ := hb.get i hi
   rw [hat]
   refine run_loadVar_agg hx ha _ (by simp; omega) (fun j hj => ?_)
   simp at hj
   rw [Nat.add_assoc, hr.cell (by omega), List.getElem?_take, if_pos (by omega), List.getElem?_drop]
 · rename_i ha
   obtain ⟨h1, h2⟩ := nthK_iff (.tuple #[]) h
   refine ⟨_, fun w hb => ?_, h2⟩
   obtain ⟨hr, _⟩ := hb.get i hi
   rw [hat]
   refine run_loadVar_one hx ha ?_
   rw [hr.cell h1, nth_eq (.tuple #[]) (nth [] cs i) o, List.getElem?_eq_getElem h1]
   rfl

end Go.Sx
namespace Go.Sx
set_option linter.unusedVariables false

theorem run_value {P : Program} {m : Sem Value} {v : Value} {w w' : World} (h : m.run P w = .ok v w') : (do pure (Next.value (← m)) : Sem Next).run P w = .ok (.value v) w' := by
 rw [run_bind_ok h]; rfl

theorem run_skip {P : Program} {m : Sem Unit} {w w' : World} (h : m.run P w = .ok () w') : (do m; pure Next.skip : Sem Next).run P w = .ok .skip w' := by
 rw [run_bind_ok h]; rfl

theorem kindIs_eq : ∀ {k k' : IntKind}, kindIs k k' = true → k = k' := by
 intro k k' h
 cases k <;> cases k' <;> first | rfl | (simp [kindIs] at h)

theorem eqGuard_int {P : Program} (op : BinOp) (t : TypeId) (x y : Operand) (k k' : IntKind) (a b : Int) (w : World) : (eqGuard op t x y (.int k a) (.int k' b)).run P w = .ok () w := by
 cases op <;> rfl

theorem eqGuard_bool {P : Program} (op : BinOp) (t : TypeId) (x y : Operand) (a b : Bool) (w : World) : (eqGuard op t x y (.bool a) (.bool b)).run P w = .ok () w := by
 cases op <;> rfl

theorem binInt_sound {P : Program} {op : BinOp} {t : TypeId} {k : IntKind} {a b : Int} {K : SV → Prop} {E : Prop} (h : binInt op k a b K E) :
 E ∨ ∃ v s, (∀ w, (binOp op t (.int k a) (.int k b)).run P w = .ok v w) ∧ (∀ bs, SVok bs s v) ∧ K s := by
 cases op <;> simp only [binInt] at h
 case quo =>
  refine .inr ⟨_, .v _, fun w => ?_, fun _ => rfl, h.rest⟩
  simp [binOp, Op.intDiv, h.ne]
 case rem =>
  refine .inr ⟨_, .v _, fun w => ?_, fun _ => rfl, h.rest⟩
  simp [binOp, Op.intDiv, h.ne]
 case shl => exact .inl h
 case shr => exact .inl h
 all_goals
  refine .inr ⟨_, .v _, fun w => ?_, fun _ => rfl, h⟩
  simp [binOp, Op.intArith, Op.intBits, Op.intCmp, bits, iEq_eq, iNe_eq, iLt_eq, iLe_eq, iGt_eq, iGe_eq]

theorem boolT_parts {P : Program} {tab : Tab} (hT : TabOk P tab) {t : TypeId} (h : boolT tab t = true) : P.underlying t = some .bool := by
 unfold boolT at h
 split at h
 · rename_i ti hl
   obtain ⟨i, d, z, h1, h2, h3, h4, h5, -, -, -⟩ := mkTI_parts (hT _ _ hl)
   rw [h4] at h
   cases d <;> simp [mkTK] at h
   exact h2
 · cases h

theorem run_equalIn_bool {P : Program} {t : TypeId} (h : P.underlying t = some .bool) (d : Nat) (a b : Bool) (w : World) : (Op.equalIn (d + 1) t (.bool a) (.bool b)).run P w = .ok (a == b) w := by
 unfold Op.equalIn
 rw [run_bind_ok (run_underlying' h w)]
 rfl

theorem run_equal_bool {P : Program} {t : TypeId} (h : P.underlying t = some .bool) (a b : Bool) (w : World) : (Op.equal t (.bool a) (.bool b)).run P w = .ok (a == b) w :=
 run_equalIn_bool h 9999 a b w

theorem binK_sound {P : Program} {tab : Tab} (hT : TabOk P tab) {bs : List (Nat × Nat)} {op : BinOp} {t : TypeId} {x y : SV} {u v : Value} (hx : SVok bs x u) (hy : SVok bs y v) {X Y : Operand}
 {K : SV → Prop} {E : Prop} (h : binK tab op t x y K E) :
 E ∨ ∃ r s, (∀ w, (do eqGuard op t X Y u v; binOp op t u v : Sem Value).run P w = .ok r w) ∧ SVok bs s r ∧ K s := by
 unfold binK at h
 split at h
 · rename_i k a k' b
   cases hx; cases hy
   split at h
   · rename_i hk
     obtain rfl := kindIs_eq hk
     rcases binInt_sound (P := P) (t := t) h with h | ⟨r, s, h1, h2, h3⟩
     · exact .inl h
     · exact .inr ⟨r, s, fun w => by rw [run_bind_ok (eqGuard_int op t X Y _ _ _ _ w)]; exact h1 w, h2 bs, h3⟩
   · exact .inl h
 · rename_i a b
   cases hx; cases hy
   split at h
   · rename_i hb
     refine .inr ⟨_, .v _, fun w => ?_, rfl, h⟩
     rw [run_bind_ok (eqGuard_bool _ t X Y _ _ w)]
     show (do pure (Value.bool (← Op.equal t (.bool a) (.bool b))) : Sem Value).run P w = _
     rw [run_bind_ok (run_equal_bool (boolT_parts hT hb) a b w)]
     rfl
   · rename_i hb
     refine .inr ⟨_, .v _, fun w => ?_, rfl, h⟩
     rw [run_bind_ok (eqGuard_bool _ t X Y _ _ w)]
     show (do pure (Value.bool (!(← Op.equal t (.bool a) (.bool b)))) : Sem Value).run P w = _
     rw [run_bind_ok (run_equal_bool (boolT_parts hT hb) a b w)]
     rfl
   · exact .inl h
 · exact .inl h

theorem unK_sound {P : Program} {bs : List (Nat × Nat)} {op : UnOp} {x : SV} {u : Value} (hx : SVok bs x u) {K : SV → Prop} {E : Prop} (h : unK op x K E) :
 E ∨ ∃ r s, (∀ w, (Op.unary op u).run P w = .ok r w) ∧ SVok bs s r ∧ K s := by
 unfold unK at h
 split at h
 · cases hx; exact .inr ⟨_, .v _, fun w => rfl, rfl, h⟩
 · cases hx; exact .inr ⟨_, .v _, fun w => rfl, rfl, h⟩
 · exact .inl h

theorem pickK_sound {bs : List (Nat × Nat)} {c : Bool} {x y : SV} {u v : Value} (hx : SVok bs x u) (hy : SVok bs y v) {K : SV → Prop} (h : pickK c x y K) :
 ∃ s, SVok bs s (if c then u else v) ∧ K s := by
 unfold pickK at h
 split at h
 · cases hx; cases hy
   exact ⟨.v _, by cases c <;> rfl, h⟩
 · rename_i c1 x
   cases hy
   obtain ⟨rfl, h⟩ := h
   refine ⟨.v _, ?_, h⟩
   cases c
   · rfl
   · have := hx rfl
     cases this
     rfl
 · rename_i c1 y
   cases hx
   obtain ⟨rfl, h⟩ := h
   refine ⟨.v _, ?_, h⟩
   cases c
   · have := hy rfl
     cases this
     rfl
   · rfl
 · cases c
   · exact ⟨_, hy, h⟩
   · exact ⟨_, hx, h⟩

theorem struct_of {d : TypeDesc} (h : mkTK d = .struct) : ∃ fs, d = .struct fs := by
 cases d <;> simp [mkTK] at h
 exact ⟨_, rfl⟩

theorem nth_map {α β : Type} (f : α → β) (d : α) (e : β) : ∀ (l : List α) (n : Nat), n < l.length → nth e (l.map f) n = f (nth d l n)
 | [], n, h => by simp at h
 | x :: l, 0, _ => rfl
 | x :: l, n + 1, h => nth_map f d e l n (by simpa using h)

theorem field_of {P : Program} {x : TI} {fs : Array Field} (ho : x.offs = fs.toList.map fun f => (f.offset, P.cellsOf f.type, ((P.underlying f.type).map fun d => (mkTK d).agg).getD false))
 {n : Nat} (hn : n < x.offs.length) : ∃ f, fs[n]? = some f ∧ f ∈ fs ∧ nth (0, 0, false) x.offs n = (f.offset, P.cellsOf f.type, ((P.underlying f.type).map fun d => (mkTK d).agg).getD false) := by
 have hl : n < fs.toList.length := by rw [ho] at hn; simpa using hn
 have hl' : n < fs.size := by simpa using hl
 refine ⟨fs[n], Array.getElem?_eq_getElem hl', Array.getElem_mem hl', ?_⟩
 rw [ho, nth_map _ default _ _ _ hl, nth_eq, List.getElem?_eq_getElem hl]
 rfl

theorem fieldAddrK_sound {P : Program} {bs : List (Nat × Nat)} {s : TypeId} {ti : TI} (hti : mkTI P s = some ti) {x : SV} {u : Value} (hx : SVok bs x u) {f : Nat} {K : SV → Prop} {E : Prop}
 (h : fieldAddrK ti x f K E) : E ∨ ∃ r sv, (∀ w, (Instr.fieldAt s u f).run P w = .ok r w) ∧ SVok bs sv r ∧ K sv := by
 unfold fieldAddrK at h
 split at h
 · rename_i hk
   obtain ⟨i, d, z, h1, h2, h3, h4, h5, h6, -, h7⟩ := mkTI_parts hti
   rw [h4] at hk
   obtain ⟨fs, rfl⟩ := struct_of hk
   obtain ⟨hall, ho⟩ := h7 fs rfl
   obtain ⟨hn, h⟩ := nthK_iff (0, 0, false) h
   obtain ⟨fd, hf, hm, hnth⟩ := field_of ho hn
   rw [hnth] at h
   obtain ⟨fi, hfi⟩ := Option.isSome_iff_exists.1 (hall fd hm).1
   have hc : P.cellsOf fd.type = fi.size := by simp [Program.cellsOf, hfi]
   rw [hc] at h
   cases hsz : fi.size with
   | zero => rw [hsz] at h; exact .inl h
   | succ n =>
    rw [hsz] at h
    have hplace : ∀ (a : Addr) (w : World), (fieldPlace a fd).run P w = .ok (a.add fd.offset) w := fun a w => by
     unfold fieldPlace
     rw [run_bind_ok (run_sizeOf hfi w), if_neg (by omega)]
     rfl
    simp only at h
    split at h
    · obtain ⟨rfl, hi⟩ := hx
      refine .inr ⟨_, .p _ _, fun w => ?_, ⟨rfl, hi⟩, h⟩
      unfold Instr.fieldAt
      rw [run_bind_ok (run_underlying' h2 w)]
      simp only [hf]
      rw [run_bind_ok (m := Instr.sureAddr _) (a := ⟨_, _, none⟩) (w' := w) rfl, run_bind_ok (hplace _ w), Addr.add_none]
      simp only [ptr, Nat.add_assoc]
      rfl
    · cases hx
      refine .inr ⟨_, .v _, fun w => ?_, rfl, h⟩
      unfold Instr.fieldAt
      rw [run_bind_ok (run_underlying' h2 w)]
      simp only [hf]
      rw [run_bind_ok (m := Instr.sureAddr _) (w' := w) rfl, run_bind_ok (hplace _ w)]
      rfl
    · exact .inl h
 · exact .inl h

theorem arr_of {d : TypeDesc} {n : Nat} {e : TypeId} (h : mkTK d = .arr n e) : d = .array n e := by
 cases d <;> simp [mkTK] at h
 rw [h.1, h.2]

theorem indexAddrK_sound {P : Program} {tab : Tab} (hT : TabOk P tab) {bs : List (Nat × Nat)} {t : TypeId} {ti : TI} (hti : mkTI P t = some ti) {x i : SV} {u v : Value} (hx : SVok bs x u) (hi : SVok bs i v) {K : SV → Prop} {E : Prop}
 (h : indexAddrK tab ti x i K E) : E ∨ ∃ r sv, (∀ w, (Instr.indexAt t u v).run P w = .ok r w) ∧ SVok bs sv r ∧ K sv := by
 unfold indexAddrK at h
 split at h
 · rename_i b o
   split at h
   · rename_i k j
     split at h
     · rename_i n e hk
       split at h
       · rename_i te hl
         split at h
         · rename_i hlt
           obtain ⟨rfl, hb⟩ := hx
           cases hi
           obtain ⟨i1, d1, z1, p1, p2, p3, p4, p5, p6, p7, p8⟩ := mkTI_parts hti
           obtain ⟨i2, d2, z2, q1, q2, q3, q4, q5, q6, q7, q8⟩ := mkTI_parts (hT _ _ hl)
           rw [p4] at hk
           obtain rfl := arr_of hk
           have hj : j < n := Nat.le_of_ble_eq_true hlt
           refine .inr ⟨_, .p b (o + j * te.size), fun w => ?_, ⟨rfl, hb⟩, h⟩
           unfold Instr.indexAt
           rw [run_bind_ok (m := asIntOf (.int k (.ofNat j))) (a := (k, .ofNat j)) (w' := w) rfl]
           simp only
           rw [run_bind_ok (run_underlying' p2 w)]
           simp only
           rw [run_bind_ok (m := Instr.sureAddr _) (a := ⟨_, _, none⟩) (w' := w) rfl, run_bind_ok (run_pure P _ w), run_bind_ok (run_underlying' p2 w)]
           simp only
           rw [if_pos ⟨by simp, by simpa using hj⟩, run_bind_ok (run_sizeOf q1 w), ← q5, Addr.add_none]
           simp only [ptr, Nat.add_assoc]
           rfl
         · exact .inl h
       · exact .inl h
     · exact .inl h
   · exact .inl h
 · exact .inl h

theorem run_part_agg {P : Program} {t : TypeId} {i : TypeInfo} {d : TypeDesc} (h1 : P.info? t = some i) (h2 : P.underlying t = some d) (ha : (mkTK d).agg = true) (l : List Value) (off : Nat) (w : World) :
 (part t ⟨l⟩ off).run P w = .ok (.agg ⟨(l.drop off).take i.size⟩) w := by
 unfold part
 rw [run_bind_ok (run_isAgg h2 w), ha]
 simp only [if_true]
 rw [run_bind_ok (run_sizeOf h1 w)]
 simp only [run_pure]
 congr 2
 apply Array.toList_inj.1
 simp [List.extract_eq_take_drop]

theorem run_part_one {P : Program} {t : TypeId} {d : TypeDesc} (h2 : P.underlying t = some d) (ha : (mkTK d).agg = false) (l : List Value) (off : Nat) {v : Value} (hv : l[off]? = some v) (w : World) :
 (part t ⟨l⟩ off).run P w = .ok v w := by
 unfold part
 rw [run_bind_ok (run_isAgg h2 w), ha]
 simp [hv]

theorem fieldK_sound {P : Program} {bs : List (Nat × Nat)} {s : TypeId} {ti : TI} (hti : mkTI P s = some ti) {x : SV} {u : Value} (hx : SVok bs x u) {f : Nat} {K : SV → Prop} {E : Prop}
 (h : fieldK ti x f K E) : E ∨ ∃ r sv, (∀ w, (Instr.field s u f).run P w = .ok r w) ∧ SVok bs sv r ∧ K sv := by
 unfold fieldK at h
 split at h
 · rename_i l hk
   cases hx
   obtain ⟨i, d, z, h1, h2, h3, h4, h5, h6, -, h7⟩ := mkTI_parts hti
   rw [h4] at hk
   obtain ⟨fs, rfl⟩ := struct_of hk
   obtain ⟨hall, ho⟩ := h7 fs rfl
   obtain ⟨hn, h⟩ := nthK_iff (0, 0, false) h
   obtain ⟨fd, hf, hm, hnth⟩ := field_of ho hn
   rw [hnth] at h
   obtain ⟨fi, hfi⟩ := Option.isSome_iff_exists.1 (hall fd hm).1
   obtain ⟨dd, hdd⟩ := Option.isSome_iff_exists.1 (hall fd hm).2
   have hc : P.cellsOf fd.type = fi.size := by simp [Program.cellsOf, hfi]
   rw [hdd, hc] at h
   have hrun : ∀ w, (Instr.field s (.agg ⟨l⟩) f).run P w = (part fd.type ⟨l⟩ fd.offset).run P w := fun w => by
    unfold Instr.field
    rw [run_bind_ok (run_underlying' h2 w)]
    simp only [hf]
    rw [run_bind_ok (m := asAgg _) (a := ⟨l⟩) (w' := w) rfl]
   split at h
   · rename_i heq
     simp only [Option.map_some, Option.getD_some, Prod.mk.injEq] at heq
     obtain ⟨rfl, rfl, ha⟩ := heq
     obtain ⟨h8, h9⟩ := subK_iff h
     exact .inr ⟨_, .v _, fun w => by rw [hrun]; exact run_part_agg hfi hdd ha l _ w, rfl, h9⟩
   · rename_i heq
     simp only [Option.map_some, Option.getD_some, Prod.mk.injEq] at heq
     obtain ⟨rfl, -, ha⟩ := heq
     obtain ⟨h8, h9⟩ := nthK_iff (.tuple #[]) h
     exact .inr ⟨_, .v _, fun w => by rw [hrun]; exact run_part_one hdd ha l _ (by rw [nth_eq, List.getElem?_eq_getElem h8]; rfl) w, rfl, h9⟩
 · exact .inl h

end Go.Sx
namespace Go.Sx
set_option linter.unusedVariables false

/-! ### building a struct -/

theorem foldl_set (off : Nat) : ∀ (l : List Value) (j : Nat) (z : Array Value), off + j + l.length ≤ z.size →
 ((l.zipIdx j).foldl (fun cs (x : Value × Nat) => cs.setIfInBounds (off + x.2) x.1) z).toList = z.toList.take (off + j) ++ l ++ z.toList.drop (off + j + l.length)
 | [], j, z, _ => by simp
 | v :: l, j, z, h => by
  simp only [List.length_cons] at h
  simp only [List.zipIdx_cons, List.foldl_cons]
  rw [foldl_set off l (j + 1) _ (by simp; omega)]
  have hlt : off + j < z.toList.length := by simp; omega
  simp only [Array.toList_setIfInBounds, List.length_cons]
  rw [List.drop_set_of_lt (by omega), show off + (j + 1) = (off + j) + 1 from by omega, List.take_add_one, List.take_set_of_le (by omega), List.getElem?_set_self hlt]
  simp only [Option.toList_some, List.append_assoc, List.singleton_append]
  congr 3
  omega

theorem fill_step (place : Nat → Option (Nat × Nat)) (z : List Value) (i : Nat) (v : Value) (r : List (Nat × Value)) (off size : Nat) (hp : place i = some (off, size)) (hs : v.cells.toList.length = size)
 (hb : off + v.cells.toList.length ≤ z.length) :
 Instr.fill place ⟨z⟩ ((i, v) :: r) = Instr.fill place ⟨z.take off ++ v.cells.toList ++ z.drop (off + v.cells.toList.length)⟩ r := by
 have hs' : v.cells.size = size := by simpa using hs
 have hb' : off + v.cells.size ≤ z.length := by simpa using hb
 simp only [Instr.fill, hp]
 rw [if_neg (by simp [hs']; omega)]
 congr 1
 apply Array.toList_inj.1
 rw [← Array.foldl_toList, Array.toList_zipIdx]
 have := foldl_set off v.cells.toList 0 ⟨z⟩ (by simpa using hb')
 simpa using this

theorem fillK_sound {P : Program} {ti : TI} {fs : Array Field} (ho : ti.offs = fs.toList.map fun f => (f.offset, P.cellsOf f.type, ((P.underlying f.type).map fun d => (mkTK d).agg).getD false))
 {places : Array (Nat × Nat)} (hp : places.toList = fs.toList.map fun f => (f.offset, P.cellsOf f.type)) :
 ∀ {ps : List (Nat × Value)} {z : List Value} {K : List Value → Prop}, fillK (structPlace ti) ps z K → ∃ z', Instr.fill (places[·]?) ⟨z⟩ ps = some ⟨z'⟩ ∧ K z'
 | [], z, K, h => ⟨z, rfl, h⟩
 | (i, v) :: r, z, K, h => by
  simp only [fillK] at h
  have h := cellsK_iff h
  unfold structPlace at h
  obtain ⟨hn, h⟩ := nthK_iff (0, 0, false) h
  obtain ⟨fd, hf, hm, hnth⟩ := field_of ho hn
  rw [hnth] at h
  obtain ⟨hlen, h⟩ := lenK_iff h
  obtain ⟨hov, h⟩ := overK_iff h
  obtain ⟨z', h1, h2⟩ := fillK_sound ho hp h
  refine ⟨z', ?_, h2⟩
  have hpl : places[i]? = some (fd.offset, P.cellsOf fd.type) := by
   rw [← Array.getElem?_toList, hp, List.getElem?_map, Array.getElem?_toList, hf]
   rfl
  rw [fill_step _ _ _ _ _ _ _ hpl hlen hov]
  exact h1

theorem run_mapM_places {P : Program} (w : World) : ∀ (l : List Field), (∀ f ∈ l, (P.info? f.type).isSome = true) →
 (l.mapM fun f => (do pure (f.offset, ← sizeOf f.type) : Sem (Nat × Nat))).run P w = .ok (l.map fun f => (f.offset, P.cellsOf f.type)) w
 | [], _ => rfl
 | f :: l, h => by
  obtain ⟨i, hi⟩ := Option.isSome_iff_exists.1 (h f (List.mem_cons_self ..))
  have hc : P.cellsOf f.type = i.size := by simp [Program.cellsOf, hi]
  rw [List.mapM_cons]
  rw [run_bind_ok (a := (f.offset, i.size)) (w' := w) (by rw [run_bind_ok (run_sizeOf hi w)]; rfl)]
  rw [run_bind_ok (run_mapM_places w l (fun g hg => h g (List.mem_cons_of_mem _ hg)))]
  simp only [List.map_cons, hc]
  rfl

theorem run_build {P : Program} {t : TypeId} {ti : TI} (hti : mkTI P t = some ti) (hk : ti.k = .struct) {ps : List (Nat × Value)} {K : List Value → Prop}
 (h : fillK (structPlace ti) ps ti.zero K) : ∃ z, (∀ w, (Instr.build t ⟨ps⟩).run P w = .ok (.agg ⟨z⟩) w) ∧ K z := by
 obtain ⟨i, d, z, h1, h2, h3, h4, h5, h6, -, h7⟩ := mkTI_parts hti
 rw [h4] at hk
 obtain ⟨fs, rfl⟩ := struct_of hk
 obtain ⟨hall, ho⟩ := h7 fs rfl
 obtain ⟨z', hz1, hz2⟩ := fillK_sound ho (places := ⟨fs.toList.map fun f => (f.offset, P.cellsOf f.type)⟩) rfl h
 refine ⟨z', fun w => ?_, hz2⟩
 unfold Instr.build
 rw [run_bind_ok (run_zero h1 h3 w), run_bind_ok (run_underlying' h2 w)]
 simp only
 have hm : (fs.mapM fun f => (do pure (f.offset, ← sizeOf f.type) : Sem (Nat × Nat))).run P w = .ok ⟨fs.toList.map fun f => (f.offset, P.cellsOf f.type)⟩ w := by
  rw [Array.mapM_eq_mapM_toList]
  show (List.toArray <$> _ : Sem (Array (Nat × Nat))).run P w = _
  rw [← bind_pure_comp, run_bind_ok (run_mapM_places w fs.toList (fun f hf => (hall f (Array.mem_toList_iff.1 hf)).1))]
  rfl
 rw [run_bind_ok hm]
 have he : z.cells = ⟨ti.zero⟩ := by rw [h6]
 simp only [he, hz1]
 rfl

theorem fillA_sound {n s : Nat} : ∀ {ps : List (Nat × Value)} {z : List Value} {K : List Value → Prop}, fillK (arrPlace n s) ps z K → ∃ z', Instr.fill (fun i => some (i * s, s)) ⟨z⟩ ps = some ⟨z'⟩ ∧ K z'
 | [], z, K, h => ⟨z, rfl, h⟩
 | (i, v) :: r, z, K, h => by
  simp only [fillK] at h
  have h := cellsK_iff h
  unfold arrPlace at h
  split at h
  · obtain ⟨hlen, h⟩ := lenK_iff h
    obtain ⟨hov, h⟩ := overK_iff h
    obtain ⟨z', h1, h2⟩ := fillA_sound h
    refine ⟨z', ?_, h2⟩
    rw [fill_step (fun i => some (i * s, s)) _ _ _ _ _ _ rfl hlen hov]
    exact h1
  · exact h.elim

theorem run_buildA {P : Program} {t : TypeId} {ti te : TI} {n : Nat} {e : TypeId} (hti : mkTI P t = some ti) (hk : ti.k = .arr n e) (hte : mkTI P e = some te) {ps : List (Nat × Value)} {K : List Value → Prop}
 (h : fillK (arrPlace n te.size) ps ti.zero K) : ∃ z, (∀ w, (Instr.build t ⟨ps⟩).run P w = .ok (.agg ⟨z⟩) w) ∧ K z := by
 obtain ⟨i, d, z, h1, h2, h3, h4, h5, h6, -, h7⟩ := mkTI_parts hti
 obtain ⟨i2, d2, z2, q1, q2, q3, q4, q5, q6, q7, q8⟩ := mkTI_parts hte
 rw [h4] at hk
 obtain rfl := arr_of hk
 obtain ⟨z', hz1, hz2⟩ := fillA_sound h
 refine ⟨z', fun w => ?_, hz2⟩
 unfold Instr.build
 rw [run_bind_ok (run_zero h1 h3 w), run_bind_ok (run_underlying' h2 w)]
 simp only
 have he : z.cells = ⟨ti.zero⟩ := by rw [h6]
 rw [run_bind_ok (run_sizeOf q1 w), ← q5]
 simp only [he, hz1]
 rfl

end Go.Sx
namespace Go.Sx
set_option linter.unusedVariables false

section
variable {P : Program} {tab : Tab} {bs : List (Nat × Nat)} {tm : List SV} {a : Array Value} {as : List Nat} {c pol : Bool} {cs : List (List Value)}

theorem lenVK_sound {t : TypeId} {ti : TI} (hti : mkTI P t = some ti) {x : SV} {u : Value} (hx : SVok bs x u) {K : SV → Prop} {E : Prop} (h : lenVK ti x K E) (ty : TypeId) :
 E ∨ ∃ r s, (∀ w, (Builtin.len_ #[t] ty #[u]).run P w = .ok r w) ∧ SVok bs s r ∧ K s := by
 obtain ⟨i, d, z, h1, h2, h3, h4, h5, -, -, -⟩ := mkTI_parts hti
 unfold lenVK at h
 rw [h4] at h
 split at h
 · rename_i e _ n _ hk
   cases hx
   cases d <;> simp [mkTK] at hk
   refine .inr ⟨_, .v _, fun w => ?_, rfl, h⟩
   simp only [Builtin.len_]
   simp only [show (#[t] : Array TypeId)[0]? = some t from rfl, show ∀ v : Value, (#[v] : Array Value)[0]? = some v from fun _ => rfl]
   rw [run_bind_ok (run_underlying' h2 w)]
   rfl
 · rename_i s hk
   cases hx
   cases d <;> simp [mkTK] at hk
   refine .inr ⟨_, .v _, fun w => ?_, rfl, h⟩
   simp only [Builtin.len_]
   simp only [show (#[t] : Array TypeId)[0]? = some t from rfl, show ∀ v : Value, (#[v] : Array Value)[0]? = some v from fun _ => rfl]
   rw [run_bind_ok (run_underlying' h2 w)]
   rfl
 · rename_i n e hk
   cases d <;> simp [mkTK] at hk
   obtain ⟨rfl, rfl⟩ := hk
   refine .inr ⟨_, .v _, fun w => ?_, rfl, h⟩
   simp only [Builtin.len_]
   simp only [show (#[t] : Array TypeId)[0]? = some t from rfl, show ∀ v : Value, (#[v] : Array Value)[0]? = some v from fun _ => rfl]
   rw [run_bind_ok (run_underlying' h2 w)]
   rfl
 · exact .inl h

theorem run_convert_int {s d : TypeId} {ts td : TI} (hs : mkTI P s = some ts) (hd : mkTI P d = some td) {k k0 : IntKind} (hk : td.k = .int k) (n : Int) :
 ∀ w, (convert s d (.int k0 n)).run P w = .ok (.int k (k.wrap n)) w := by
 intro w
 obtain ⟨i, d1, z, h1, h2, h3, h4, h5, -, -, -⟩ := mkTI_parts hs
 obtain ⟨i', d2, z', g1, g2, g3, g4, g5, -, -, -⟩ := mkTI_parts hd
 rw [g4] at hk
 cases d2 <;> simp [mkTK] at hk
 subst hk
 unfold convert
 rw [run_bind_ok (run_underlying' h2 w), run_bind_ok (run_underlying' g2 w)]
 cases d1 <;> rfl

theorem map_toList {α β : Type} (f : α → β) (l : List α) : (⟨l⟩ : Array α).map f = ⟨l.map f⟩ := by simp

theorem xpure_sound (hT : TabOk P tab) (hf : FrameOk bs tm a) (hg : GOk c pol as tm) {o : Oper} {K : SV → Prop} {E : Prop} (h : xpure tab as o.op tm bs cs K E) :
 E ∨ ∃ v s, (∀ w, ((∃ t x, o.op = .load t x) → Boxes w bs cs) → (execOp (Act.eval ⟨a, []⟩) o).run P w = .ok (.value v) w) ∧ SVok bs s v ∧ K s := by
 obtain ⟨dst, op, ty, pos, after, guard⟩ := o
 simp only at h
 unfold xpure at h
 split at h
 · rename_i x
   obtain ⟨s, hs, h⟩ := evG_sound hf hg h
   exact .inr ⟨_, s, fun _ _ => rfl, hs, h⟩
 · rename_i x
   obtain ⟨s, hs, h⟩ := evG_sound hf hg h
   exact .inr ⟨_, s, fun _ _ => rfl, hs, h⟩
 · rename_i x y z
   obtain ⟨sc, hsc, h⟩ := evG_sound hf hg h
   split at h
   · rename_i c'
     obtain ⟨sa, hsa, h⟩ := evG_sound hf hg h
     obtain ⟨sb, hsb, h⟩ := evG_sound hf hg h
     obtain ⟨s, hs, h⟩ := pickK_sound hsa hsb h
     refine .inr ⟨_, s, fun w _ => ?_, hs, h⟩
     simp only [execOp]
     have hsc' : Act.eval ⟨a, []⟩ x = .bool c' := hsc
     rw [hsc']
     rfl
   · exact .inl h
 · rename_i t x
   obtain ⟨sx, hsx, h⟩ := evG_sound hf hg h
   split at h
   · rename_i i o
     split at h
     · rename_i ti hl
       obtain ⟨hsx, _⟩ := hsx
       obtain ⟨v, h1, h2⟩ := loadK_sound (bs := bs) (hT _ _ hl) h
       refine .inr ⟨v, .v v, fun w hb => ?_, rfl, h2⟩
       simp only [execOp]
       rw [hsx]
       exact run_value (h1 w (hb ⟨_, _, rfl⟩))
     · exact .inl h
   · exact .inl h
 · rename_i x
   obtain ⟨sx, hsx, h⟩ := evG_sound hf hg h
   split at h
   · rename_i i o
     refine .inr ⟨_, .p i o, fun w hb => ?_, hsx, h⟩
     obtain ⟨hsx, _⟩ := hsx
     simp only [execOp]
     rw [hsx]
     rfl
   · rename_i ad
     refine .inr ⟨_, .v _, fun w hb => ?_, rfl, h⟩
     have hsx' : Act.eval ⟨a, []⟩ x = .pointer (some ad) := hsx
     simp only [execOp]
     rw [hsx']
     rfl
   · rename_i f u v
     refine .inr ⟨_, .v _, fun w hb => ?_, rfl, h⟩
     have hsx' : Act.eval ⟨a, []⟩ x = .func (.func f) u v := hsx
     simp only [execOp]
     rw [hsx']
     rfl
   · exact .inl h
 · rename_i t x k' n t'
   obtain ⟨sx, hsx, h⟩ := evG_sound hf hg h
   split at h
   · rename_i k u
     split at h
     · rename_i hk
       refine .inr ⟨_, .v _, fun w hb => ?_, rfl, h⟩
       have hsx' : Act.eval ⟨a, []⟩ x = .int k u := hsx
       have hk' := kindIs_eq hk
       subst hk'
       have hy' : Act.eval ⟨a, []⟩ (.const (.int k (.ofNat (n + 1)))) = .int k (.ofNat (n + 1)) := rfl
       simp only [execOp, hsx', hy']
       refine run_value ?_
       rw [run_bind_ok (eqGuard_int _ t _ _ _ _ _ _ w)]
       have hne : (Int.ofNat (n + 1)) ≠ 0 := by simp; omega
       simp only [binOp, Op.intDiv, hne, ne_eq, not_true, if_false]
       rfl
     · exact .inl h
   · exact .inl h
 · rename_i t x k' n t'
   obtain ⟨sx, hsx, h⟩ := evG_sound hf hg h
   split at h
   · rename_i k u
     split at h
     · rename_i hk
       refine .inr ⟨_, .v _, fun w hb => ?_, rfl, h⟩
       have hsx' : Act.eval ⟨a, []⟩ x = .int k u := hsx
       have hk' := kindIs_eq hk
       subst hk'
       have hy' : Act.eval ⟨a, []⟩ (.const (.int k (.ofNat (n + 1)))) = .int k (.ofNat (n + 1)) := rfl
       simp only [execOp, hsx', hy']
       refine run_value ?_
       rw [run_bind_ok (eqGuard_int _ t _ _ _ _ _ _ w)]
       have hne : (Int.ofNat (n + 1)) ≠ 0 := by simp; omega
       simp only [binOp, Op.intDiv, hne, ne_eq, not_true, if_false]
       rfl
     · exact .inl h
   · exact .inl h
 · rename_i op t x y t' _ _
   obtain ⟨sx, hsx, h⟩ := evG_sound hf hg h
   obtain ⟨sy, hsy, h⟩ := evG_sound hf hg h
   rcases binK_sound hT hsx hsy (X := x) (Y := y) h with h | ⟨r, s, h1, h2, h3⟩
   · exact .inl h
   · exact .inr ⟨r, s, fun w _ => run_value (h1 w), h2, h3⟩
 · rename_i op t x
   obtain ⟨sx, hsx, h⟩ := evG_sound hf hg h
   rcases unK_sound (P := P) hsx h with h | ⟨r, s, h1, h2, h3⟩
   · exact .inl h
   · exact .inr ⟨r, s, fun w _ => run_value (h1 w), h2, h3⟩
 · rename_i src dst x
   obtain ⟨sx, hsx, h⟩ := evG_sound hf hg h
   split at h
   · rename_i k0 n
     split at h
     · rename_i ts td hls hld
       split at h
       · rename_i k hk
         refine .inr ⟨_, .v _, fun w hb => ?_, rfl, h⟩
         have hsx' : Act.eval ⟨a, []⟩ x = .int k0 n := hsx
         simp only [execOp]
         rw [hsx']
         exact run_value (run_convert_int (hT _ _ hls) (hT _ _ hld) hk n w)
       · exact .inl h
     · exact .inl h
   · exact .inl h
 · rename_i t x i
   obtain ⟨sx, hsx, h⟩ := evG_sound hf hg h
   split at h
   · obtain ⟨si, hsi, h⟩ := evG_sound hf hg h
     split at h
     · rename_i ti hl
       rcases indexAddrK_sound hT (hT _ _ hl) hsx hsi h with h | ⟨r, s, h1, h2, h3⟩
       · exact .inl h
       · exact .inr ⟨r, s, fun w _ => run_value (h1 w), h2, h3⟩
     · exact .inl h
   · exact .inl h
 · rename_i st x f
   obtain ⟨sx, hsx, h⟩ := evG_sound hf hg h
   split at h
   · rename_i ti hl
     rcases fieldAddrK_sound (hT _ _ hl) hsx h with h | ⟨r, s, h1, h2, h3⟩
     · exact .inl h
     · exact .inr ⟨r, s, fun w _ => run_value (h1 w), h2, h3⟩
   · exact .inl h
 · rename_i st x f
   obtain ⟨sx, hsx, h⟩ := evG_sound hf hg h
   split at h
   · rename_i ti hl
     rcases fieldK_sound (hT _ _ hl) hsx h with h | ⟨r, s, h1, h2, h3⟩
     · exact .inl h
     · exact .inr ⟨r, s, fun w _ => run_value (h1 w), h2, h3⟩
   · exact .inl h
 · rename_i x i
   obtain ⟨sx, hsx, h⟩ := evG_sound hf hg h
   split at h
   · rename_i l
     obtain ⟨hi, h⟩ := nthK_iff (.tuple #[]) h
     refine .inr ⟨_, .v _, fun w hb => ?_, rfl, h⟩
     have hsx' : Act.eval ⟨a, []⟩ x = .tuple ⟨l⟩ := hsx
     simp only [execOp]
     rw [hsx']
     refine run_value ?_
     have : (⟨l⟩ : Array Value)[i]? = some (nth (.tuple #[]) l i) := by
      rw [nth_eq, List.getElem?_toArray, List.getElem?_eq_getElem hi]; rfl
     simp only [Instr.extract, this]
     rfl
   · exact .inl h
 · rename_i fn first cap
   have h := evVs_sound hf hg h
   have h := evVs_sound hf hg h
   refine .inr ⟨_, .v _, fun w hb => ?_, rfl, h⟩
   simp only [execOp, map_toList]
   exact run_value rfl
 · rename_i t ps
   split at h
   · rename_i ti hl
     split at h
     · rename_i hk
       split at h
       · exact .inl h
       have h := evPs_sound hf hg h
       obtain ⟨z, h1, h2⟩ := run_build (hT _ _ hl) hk h
       refine .inr ⟨_, .v _, fun w _ => ?_, rfl, h2⟩
       simp only [execOp, map_toList]
       exact run_value (h1 w)
     · rename_i n e hk
       split at h
       · rename_i te hle
         have h := evPs_sound hf hg h
         obtain ⟨z, h1, h2⟩ := run_buildA (hT _ _ hl) hk (hT _ _ hle) h
         refine .inr ⟨_, .v _, fun w _ => ?_, rfl, h2⟩
         simp only [execOp, map_toList]
         exact run_value (h1 w)
       · exact .inl h
     · exact .inl h
   · exact .inl h
 · rename_i x t
   obtain ⟨sx, hsx, h⟩ := evG_sound hf hg h
   split at h
   · rename_i ti hl
     rcases lenVK_sound (hT _ _ hl) hsx h ty with h | ⟨r, s, h1, h2, h3⟩
     · exact .inl h
     · refine .inr ⟨r, s, fun w _ => ?_, h2, h3⟩
       have e : (⟨[x]⟩ : Array Operand).map (Act.eval ⟨a, []⟩) = #[Act.eval ⟨a, []⟩ x] := by simp
       simp only [execOp, resolve]
       rw [run_bind_ok (run_pure P _ w)]
       simp only [invoke, builtin, e]
       exact run_value (h1 w)
   · exact .inl h
 · rename_i x y t1 t2
   obtain ⟨sx, hsx, h⟩ := evG_sound hf hg h
   obtain ⟨sy, hsy, h⟩ := evG_sound hf hg h
   split at h
   · split at h
     · rename_i hk
       have hk' := kindIs_eq hk
       subst hk'
       refine .inr ⟨_, .v _, fun w _ => ?_, rfl, h⟩
       have e : (⟨[x, y]⟩ : Array Operand).map (Act.eval ⟨a, []⟩) = #[Act.eval ⟨a, []⟩ x, Act.eval ⟨a, []⟩ y] := by simp
       simp only [execOp, resolve]
       rw [run_bind_ok (run_pure P _ w)]
       simp only [invoke, builtin, e]
       have e1 : Act.eval ⟨a, []⟩ x = _ := hsx
       have e2 : Act.eval ⟨a, []⟩ y = _ := hsy
       rw [e1, e2]
       exact run_value rfl
     · exact .inl h
   · exact .inl h
 · exact .inl h

end
end Go.Sx
namespace Go.Sx
set_option linter.unusedVariables false

/-! ### writing a box -/

theorem run_store_cell {P : Program} {w : World} {a : Addr} {u v : Value} (h : w.cell? a = some u) (hf : w.frozen? a = false) (ho : oneCell v = true) : (store a v).run P w = .ok () (w.setCell a v) := by
 cases v <;> simp_all [store, Sem.run, oneCell]

theorem run_storeCells {P : Program} {b o : Nat} : ∀ (l : List Value) (i : Nat) (w : World) (arr : Array Value) (e : TypeId), w.heap[b]? = some (.cells arr e (0, 0)) → (∀ v ∈ l, oneCell v = true) →
 o + i + l.length ≤ arr.size → ∃ w', (storeCells ⟨b, o, none⟩ l i).run P w = .ok () w' ∧ w'.os = w.os ∧ w'.tape = w.tape ∧ w'.output = w.output ∧ w'.heap.size = w.heap.size ∧
  (∀ k, k ≠ b → w'.heap[k]? = w.heap[k]?) ∧ ∃ arr', w'.heap[b]? = some (.cells arr' e (0, 0)) ∧ arr'.size = arr.size ∧
  ∀ j, arr'[j]? = if o + i ≤ j ∧ j < o + i + l.length then l[j - (o + i)]? else arr[j]?
 | [], i, w, arr, e, h, _, _ => ⟨w, rfl, rfl, rfl, rfl, rfl, fun _ _ => rfl, arr, h, rfl, fun j => by rw [if_neg (by simp only [List.length_nil]; omega)]⟩
 | v :: l, i, w, arr, e, h, ho, hs => by
  simp only [List.length_cons] at hs
  obtain ⟨u, hu⟩ := some_of_lt (a := arr) (i := o + i) (by omega)
  have hc : w.cell? ⟨b, o + i, none⟩ = some u := by simp [World.cell?, h, hu]
  have hfz : w.frozen? ⟨b, o + i, none⟩ = false := by simp [World.frozen?, h]
  have h1 : (w.setCell ⟨b, o + i, none⟩ v).heap[b]? = some (.cells (arr.setIfInBounds (o + i) v) e (0, 0)) := by
   simp [World.setCell, Array.getElem?_modify, h]
  obtain ⟨w', g1, g2, g3, g4, g5, g6, arr', g7, g8, g9⟩ := run_storeCells (P := P) (b := b) (o := o) l (i + 1) (w.setCell ⟨b, o + i, none⟩ v) (arr.setIfInBounds (o + i) v) e h1 (fun x hx => ho x (List.mem_cons_of_mem _ hx)) (by simp; omega)
  refine ⟨w', ?_, g2, g3, g4, ?_, ?_, arr', g7, ?_, ?_⟩
  · unfold storeCells
    rw [Addr.add_none, run_bind_ok (run_store_cell hc hfz (ho v (List.mem_cons_self ..)))]
    exact g1
  · rw [g5]; simp [World.setCell]
  · intro k hk
    rw [g6 k hk]
    simp [World.setCell, Array.getElem?_modify, Ne.symm hk]
  · rw [g8]; simp
  · intro j
    rw [g9 j]
    by_cases hj : o + i = j
    · subst hj
      rw [if_neg (by omega), if_pos ⟨by omega, by simp⟩, Array.getElem?_setIfInBounds_self_of_lt (by omega)]
      simp
    · rw [Array.getElem?_setIfInBounds_ne hj]
      by_cases hin : o + (i + 1) ≤ j ∧ j < o + (i + 1) + l.length
      · rw [if_pos hin, if_pos ⟨by omega, by simp; omega⟩]
        rw [show j - (o + i) = (j - (o + (i + 1))) + 1 from by omega]
        simp
      · rw [if_neg hin, if_neg (by simp; omega)]

theorem run_storeVar {P : Program} {w : World} {t : TypeId} {ti : TI} (hti : mkTI P t = some ti) {b o : Nat} {c : List Value} (hr : Range w b o c) {v : Value} (hlen : v.cells.toList.length = ti.size)
 (hone : ∀ u ∈ v.cells.toList, oneCell u = true) {s : Nat} (hs : s + v.cells.toList.length ≤ c.length) :
 ∃ w', (Instr.storeAt t (.pointer (some ⟨b, o + s, none⟩)) v).run P w = .ok () w' ∧ KeepX (fun k i => k = b ∧ o ≤ i ∧ i < o + c.length) w w' ∧
  Range w' b o (c.take s ++ v.cells.toList ++ c.drop (s + v.cells.toList.length)) := by
 obtain ⟨i, d, z, h1, h2, h3, h4, h5, -, -, -⟩ := mkTI_parts hti
 obtain ⟨arr, e, ha, hc⟩ := hr
 have hsz : v.cells.toList.length ≠ 0 → o + s + v.cells.toList.length ≤ arr.size := fun hne => by
  have := hc (s + v.cells.toList.length - 1) (by omega)
  rw [List.getElem?_eq_getElem (by omega)] at this
  have := lt_of_some this
  omega
 have hgo : ∃ w', (storeCells ⟨b, o + s, none⟩ v.cells.toList 0).run P w = .ok () w' ∧ w'.os = w.os ∧ w'.tape = w.tape ∧ w'.output = w.output ∧ w'.heap.size = w.heap.size ∧
  (∀ k, k ≠ b → w'.heap[k]? = w.heap[k]?) ∧ ∃ arr', w'.heap[b]? = some (.cells arr' e (0, 0)) ∧ arr'.size = arr.size ∧
  ∀ j, arr'[j]? = if o + s ≤ j ∧ j < o + s + v.cells.toList.length then v.cells.toList[j - (o + s)]? else arr[j]? := by
  by_cases hne : v.cells.toList.length = 0
  · have : v.cells.toList = [] := List.eq_nil_of_length_eq_zero hne
    rw [this]
    exact ⟨w, rfl, rfl, rfl, rfl, rfl, fun _ _ => rfl, arr, ha, rfl, fun j => by rw [if_neg (by simp only [List.length_nil]; omega)]⟩
  · exact run_storeCells _ 0 w arr e ha hone (hsz hne)
 obtain ⟨w', g1, g2, g3, g4, g5, g6, arr', g7, g8, g9⟩ := hgo
 refine ⟨w', ?_, ⟨g2, g3, g4, by omega, fun k ob hob => ?_⟩, arr', e, g7, fun j hj => ?_⟩
 · show (storeVar t ⟨b, o + s, none⟩ v).run P w = _
   unfold storeVar
   rw [run_bind_ok (run_sizeOf h1 w)]
   have : ¬ v.cells.size ≠ i.size := by
    have : v.cells.toList.length = v.cells.size := by simp
    omega
   rw [if_neg this]
   exact g1
 · by_cases hk : k = b
   · subst hk
     rw [ha] at hob
     cases hob
     refine ⟨_, g7, .inr (.inl ⟨arr, arr', e, (0, 0), rfl, rfl, g8, fun j hj => ?_⟩)⟩
     rw [g9 j, if_neg]
     intro hin
     exact hj ⟨rfl, by omega, by omega⟩
   · exact ⟨ob, by rw [g6 k hk, hob], .refl _ _⟩
 · rw [g9]
   simp only [List.length_append, List.length_take, List.length_drop] at hj
   have hmin : min s c.length = s := by omega
   by_cases hin : s ≤ j ∧ j < s + v.cells.toList.length
   · rw [if_pos (by omega)]
     rw [List.append_assoc, List.getElem?_append_right (by simp only [List.length_take]; omega), List.getElem?_append_left (by simp only [List.length_take]; omega)]
     simp only [List.length_take, hmin]
     congr 1
     omega
   · rw [if_neg (by omega), hc j (by omega)]
     by_cases hlt : j < s
     · rw [List.append_assoc, List.getElem?_append_left (by simp only [List.length_take]; omega), List.getElem?_take, if_pos hlt]
     · rw [List.getElem?_append_right (by simp only [List.length_take, List.length_append]; omega), List.getElem?_drop]
       congr 1
       simp only [List.length_take, List.length_append]
       omega

theorem natLen_iff {α : Type} : ∀ {l : List α} {n : Nat} {K : Nat → Prop}, natLen l n K → K (n + l.length)
 | [], n, K, h => h
 | _ :: xs, n, K, h => by
  have := natLen_iff (l := xs) h
  rw [List.length_cons, show n + (xs.length + 1) = n + 1 + xs.length from by omega]
  exact this

/-! ### one operation -/

section
variable {P : Program} {tab : Tab} {w0 : World} {R : Nat → Nat → Prop} {av : Nat → Prop} {bs : List (Nat × Nat)} {tm : List SV} {a : Array Value} {cs : List (List Value)} {D : Fx} {w : World} {K : KT}

theorem wp_of_value {o : Oper} {act : Act} {w' : World} {v : Value} {next : Act → World → Prop} {Q : Exit → Act → World → Prop}
 (h : (execOp act.eval o).run P w = .ok (.value v) w') (hn : next (act.put o.dst v) w') : o.wp P act w next Q := by
 unfold Oper.wp
 rw [h]
 exact hn

theorem wp_of_skip {o : Oper} {act : Act} {w' : World} {next : Act → World → Prop} {Q : Exit → Act → World → Prop}
 (h : (execOp act.eval o).run P w = .ok .skip w') (hn : next (act.put o.dst undef) w') : o.wp P act w next Q := by
 unfold Oper.wp
 rw [h]
 exact hn

theorem put_defers (act : Act) (d : Option Tmp) (v : Value) : (act.put d v).defers = act.defers := by cases d <;> rfl

theorem lift_put (hf : FrameOk bs tm a) {dst : Option Tmp} {s : SV} {y : Value} (hs : SVok bs s y) {w' : World} (hst : St w0 R av w' bs cs D)
 (hk : fin dst tm s fun tm' => K tm' bs cs D) : LiftN w0 R av K (Act.put ⟨a, []⟩ dst y) w' := by
 obtain ⟨tm', h1, h2⟩ := hf.put dst hs hk
 exact ⟨put_defers _ _ _, tm', bs, cs, D, h1, hst, h2⟩

theorem XVal.sound {m : Sem Value} {o : Oper} (hm : execOp (Act.eval ⟨a, []⟩) o = (do pure (.value (← m)))) (hf : FrameOk bs tm a) (hst : St w0 R av w bs cs D)
 (h : XVal P w0 R av m bs cs D fun v bs cs D => fin o.dst tm (.v v) fun tm' => K tm' bs cs D) (Q : Exit → Act → World → Prop) : o.wp P ⟨a, []⟩ w (LiftN w0 R av K) Q := by
 obtain ⟨v, w', ext, cs', D', h1, h2, h3⟩ := XVal_iff.1 h w hst
 exact wp_of_value (by rw [hm]; exact run_value h1) (lift_put (s := .v _) hf.mono rfl h2 h3)

theorem XUnit.sound {m : Sem Unit} {o : Oper} (hm : execOp (Act.eval ⟨a, []⟩) o = (do m; pure .skip)) (hf : FrameOk bs tm a) (hst : St w0 R av w bs cs D)
 (h : XUnit P w0 R av m bs cs D fun bs cs D => fin o.dst tm (.v undef) fun tm' => K tm' bs cs D) (Q : Exit → Act → World → Prop) : o.wp P ⟨a, []⟩ w (LiftN w0 R av K) Q := by
 obtain ⟨w', ext, cs', D', h1, h2, h3⟩ := XUnit_iff.1 h w hst
 exact wp_of_skip (by rw [hm]; exact run_skip h1) (lift_put (s := .v _) hf.mono rfl h2 h3)

theorem run_callFunc {f : FuncId} (h : Callable P f) (args : Array Value) (w : World) : (callFunc f args).run P w = .ok (.enter f args) w := by
 obtain ⟨fn, h1, h2, h3⟩ := h
 unfold callFunc
 rw [run_bind_ok (m := program) (a := P) (w' := w) rfl]
 simp only [h1, h3]
 have : fn.body.isNone = false := by simpa using h2
 simp only [this]
 rfl

theorem XCall.sound {f : FuncId} {vs : List Value} {o : Oper} (hm : execOp (Act.eval ⟨a, []⟩) o = callFunc f vs.toArray) (hf : FrameOk bs tm a) (hst : St w0 R av w bs cs D)
 (h : XCall P w0 R av f vs bs cs D fun v bs cs D => fin o.dst tm (.v v) fun tm' => K tm' bs cs D) (Q : Exit → Act → World → Prop) : o.wp P ⟨a, []⟩ w (LiftN w0 R av K) Q := by
 obtain ⟨hc, h⟩ := XCall_iff.1 h
 unfold Oper.wp
 rw [hm, run_callFunc hc, Oper.upon_enter]
 refine (h w hst).mono ?_
 rintro e w' ⟨v, ext, cs', D', rfl, h2, h3⟩
 exact lift_put (s := .v _) hf.mono rfl h2 h3

theorem boxK_sound {o : Oper} {c : List Value} {e : TypeId} {v : Value} (hv : v.cells = ⟨c⟩) (hm : (execOp (Act.eval ⟨a, []⟩) o).run P w = ((do pure (Next.value (.pointer (some (← newVar e v))))) : Sem Next).run P w)
 (hf : FrameOk bs tm a) (hst : St w0 R av w bs cs D) (h : boxK o.dst c tm bs cs D K) (Q : Exit → Act → World → Prop) : o.wp P ⟨a, []⟩ w (LiftN w0 R av K) Q := by
 have h := natLen_iff h w.heap.size
 have h := snocK_iff h
 have h := snocK_iff h
 refine wp_of_value (w' := { w with heap := w.heap.push (.cells c.toArray e) }) (v := .pointer (some ⟨w.heap.size, 0, none⟩)) ?_ ?_
 · rw [hm]
   unfold newVar newRow
   rw [hv]
   rfl
 · refine lift_put hf.mono (s := .p (0 + bs.length) 0) ⟨?_, by simp⟩ (hst.new c e) h
   unfold ptr
   rw [nth_eq]
   simp

theorem execOp_call_builtin (ρ : Operand → Value) (dst : Option Tmp) (b : Builtin) (xs : List Operand) (ts : Array TypeId) (ty : TypeId) (pos : String) (after : Array Edge) (guard : Option (Nat × Bool)) :
 execOp ρ ⟨dst, .call ⟨.builtin b, ⟨xs⟩, ts⟩, ty, pos, after, guard⟩ = builtin b ts ty ((⟨xs⟩ : Array Operand).map fun | .const _ => true | _ => false) ⟨xs.map ρ⟩ := by
 simp only [execOp, resolve, invoke, map_toList]
 rfl

theorem execOp_call_func (ρ : Operand → Value) (dst : Option Tmp) (x : Operand) (f : FuncId) (first cap : List Value) (xs : List Operand) (ts : Array TypeId) (ty : TypeId) (pos : String) (after : Array Edge)
 (guard : Option (Nat × Bool)) (hx : ρ x = .func (.func f) ⟨first⟩ ⟨cap⟩) :
 execOp ρ ⟨dst, .call ⟨.value x, ⟨xs⟩, ts⟩, ty, pos, after, guard⟩ = callFunc f ⟨first ++ xs.map ρ ++ cap⟩ := by
 simp only [execOp, resolve, map_toList, hx, Deferred.ofValue]
 show callFunc f _ = _
 simp

theorem xext_sound (hT : TabOk P tab) (hf : FrameOk bs tm a) (hst : St w0 R av w bs cs D) {o : Oper} (h : xext P tab w0 R av o tm bs cs D K) (Q : Exit → Act → World → Prop) :
 o.wp P ⟨a, []⟩ w (LiftN w0 R av K) Q := by
 obtain ⟨dst, op, ty, pos, after, guard⟩ := o
 have hg := GOk.nil tm
 unfold xext at h
 simp only at h
 split at h
 · rename_i e
   split at h
   · rename_i ti hl
     split at h
     · exact XVal.sound (o := ⟨dst, .alloc e, ty, pos, after, guard⟩) rfl hf hst h Q
     obtain ⟨i, d, z, h1, h2, h3, h4, h5, h6, -, -⟩ := mkTI_parts (hT _ _ hl)
     refine boxK_sound (o := ⟨dst, .alloc e, ty, pos, after, guard⟩) (v := z) (e := e) (by rw [h6]) ?_ hf hst h Q
     simp only [execOp, Instr.alloc]
     rw [run_bind, run_bind_ok (run_zero h1 h3 w)]
     rfl
   · exact XRaw_iff.1 h a w Q hf hst
 · rename_i e x
   split at h
   · exact XVal.sound (o := ⟨dst, .box e x, ty, pos, after, guard⟩) rfl hf hst (evV_sound hf hg h) Q
   have h := evV_sound hf hg h
   have h := cellsK_iff h
   exact boxK_sound (o := ⟨dst, .box e x, ty, pos, after, guard⟩) (v := Act.eval ⟨a, []⟩ x) (e := e) rfl rfl hf hst h Q
 · rename_i t ad x
   obtain ⟨sa, hsa, h⟩ := evG_sound hf hg h
   split at h
   · rename_i i s
     split at h
     · rename_i ti hl
       have h := evV_sound hf hg h
       have h := cellsK_iff h
       obtain ⟨hone, h⟩ := onesK_iff h
       obtain ⟨hlen, h⟩ := lenK_iff h
       obtain ⟨hi, h⟩ := nthK_iff [] h
       obtain ⟨hov, h⟩ := overK_iff h
       obtain ⟨_, h⟩ := setK_iff h
       obtain ⟨hr, hib⟩ := hst.box.get i hi
       obtain ⟨hsa, _⟩ := hsa
       obtain ⟨w', g1, g2, g3⟩ := run_storeVar (hT _ _ hl) hr hlen hone hov
       refine wp_of_skip (w' := w') ?_ (lift_put (s := .v _) hf rfl (hst.put i hib _ ?_ g2 g3) h)
       · simp only [execOp]
         rw [hsa]
         exact run_skip g1
       · simp only [List.length_append, List.length_take, List.length_drop]
         omega
     · exact XRaw_iff.1 h a w Q hf hst
   · rename_i av'
     have h := evV_sound hf hg h
     have hsa' : Act.eval ⟨a, []⟩ ad = av' := hsa
     refine XUnit.sound (o := ⟨dst, .store t ad x, ty, pos, after, guard⟩) ?_ hf hst h Q
     simp only [execOp, hsa']
   · exact h.elim
 · rename_i t x
   exact XVal.sound (o := ⟨dst, .load t x, ty, pos, after, guard⟩) rfl hf hst (evV_sound hf hg h) Q
 · rename_i t n ps
   refine XVal.sound (o := ⟨dst, .buildSlice t n ⟨ps⟩, ty, pos, after, guard⟩) ?_ hf hst (evPs_sound hf hg h) Q
   simp only [execOp, map_toList]
 · rename_i t ps
   refine XVal.sound (o := ⟨dst, .build t ⟨ps⟩, ty, pos, after, guard⟩) ?_ hf hst (evPs_sound hf hg h) Q
   simp only [execOp, map_toList]
 · rename_i t x i
   exact XVal.sound (o := ⟨dst, .indexAddr t x i, ty, pos, after, guard⟩) rfl hf hst (evV_sound hf hg (evV_sound hf hg h)) Q
 · rename_i t x i
   exact XVal.sound (o := ⟨dst, .index t x i, ty, pos, after, guard⟩) rfl hf hst (evV_sound hf hg (evV_sound hf hg h)) Q
 · rename_i t x lo hi mx
   exact XVal.sound (o := ⟨dst, .slice t x lo hi mx, ty, pos, after, guard⟩) rfl hf hst (evO_sound hf hg (evO_sound hf hg (evO_sound hf hg (evV_sound hf hg h)))) Q
 · rename_i s d x
   exact XVal.sound (o := ⟨dst, .convert s d x, ty, pos, after, guard⟩) rfl hf hst (evV_sound hf hg h) Q
 · rename_i t l c
   exact XVal.sound (o := ⟨dst, .makeSlice t l c, ty, pos, after, guard⟩) rfl hf hst (evV_sound hf hg (evV_sound hf hg h)) Q
 · rename_i op t x y t'
   exact XVal.sound (o := ⟨dst, .binOp op t x y t', ty, pos, after, guard⟩) rfl hf hst (evV_sound hf hg (evV_sound hf hg h)) Q
 · rename_i op t x
   exact XVal.sound (o := ⟨dst, .unOp op t x, ty, pos, after, guard⟩) rfl hf hst (evV_sound hf hg h) Q
 · rename_i t
   exact XVal.sound (o := ⟨dst, .makeMap t none, ty, pos, after, guard⟩) rfl hf hst h Q
 · rename_i t x i ok
   exact XVal.sound (o := ⟨dst, .lookup t x i ok, ty, pos, after, guard⟩) rfl hf hst (evV_sound hf hg (evV_sound hf hg h)) Q
 · rename_i t m k x
   exact XUnit.sound (o := ⟨dst, .mapUpdate t m k x, ty, pos, after, guard⟩) rfl hf hst (evV_sound hf hg (evV_sound hf hg (evV_sound hf hg h))) Q
 · rename_i t x
   exact XVal.sound (o := ⟨dst, .range t x, ty, pos, after, guard⟩) rfl hf hst (evV_sound hf hg h) Q
 · rename_i it s
   exact XVal.sound (o := ⟨dst, .next it s, ty, pos, after, guard⟩) rfl hf hst (evV_sound hf hg h) Q
 · rename_i it
   exact XVal.sound (o := ⟨dst, .entry it, ty, pos, after, guard⟩) rfl hf hst (evV_sound hf hg h) Q
 · rename_i t x
   exact XVal.sound (o := ⟨dst, .makeInterface t x, ty, pos, after, guard⟩) rfl hf hst (evV_sound hf hg h) Q
 · rename_i b xs ts
   have h := evVs_sound hf hg h
   split at h
   · rename_i m hm
     refine XVal.sound (o := ⟨dst, .call ⟨.builtin b, ⟨xs⟩, ts⟩, ty, pos, after, guard⟩) (m := m) ?_ hf hst h Q
     rw [execOp_call_builtin]
     cases b <;> simp only [semB] at hm <;> first | (cases hm; rfl) | (cases hm)
   · exact XRaw_iff.1 h a w Q hf hst
 · rename_i x xs ts
   obtain ⟨sf, hsf, h⟩ := evG_sound hf hg h
   split at h
   · rename_i f first cap
     have hsf' : Act.eval ⟨a, []⟩ x = .func (.func f) ⟨first⟩ ⟨cap⟩ := hsf
     split at h
     · have h := evVs_sound hf hg h
       refine XCall.sound (o := ⟨dst, .call ⟨.value x, ⟨xs⟩, ts⟩, ty, pos, after, guard⟩) ?_ hf hst h Q
       rw [execOp_call_func _ _ _ _ _ _ _ _ _ _ _ _ hsf']
       simp
     · have h := evVs_sound hf hg h
       refine XCall.sound (o := ⟨dst, .call ⟨.value x, ⟨xs⟩, ts⟩, ty, pos, after, guard⟩) ?_ hf hst h Q
       rw [execOp_call_func _ _ _ _ _ _ _ _ _ _ _ _ hsf']
   · exact XRaw_iff.1 h a w Q hf hst
 · exact XRaw_iff.1 h a w Q hf hst

theorem xop_sound (hT : TabOk P tab) (hf : FrameOk bs tm a) (hst : St w0 R av w bs cs D) {o : Oper} (h : xop P tab w0 R av o tm bs cs D K) (Q : Exit → Act → World → Prop) :
 o.wp P ⟨a, []⟩ w (LiftN w0 R av K) Q := by
 rcases xpure_sound hT hf (GOk.nil tm) h with h | ⟨v, s, h1, h2, h3⟩
 · exact xext_sound hT hf hst h Q
 · exact wp_of_value (h1 w fun _ => hst.box) (lift_put hf h2 hst h3)

end
end Go.Sx
namespace Go.Sx
set_option linter.unusedVariables false

section
variable {P : Program} {tab : Tab} {w0 : World} {R : Nat → Nat → Prop} {av : Nat → Prop}

/-! ### rows of operations -/

theorem guardIs_eq {o : Oper} {j : Nat} {pol : Bool} (h : guardIs o j pol = true) : o.guard = some (j, pol) := by
 unfold guardIs at h
 split at h
 · rename_i j' pol' hg
   split at h
   · rename_i hb
     rw [hg, Nat.eq_of_beq_eq_true hb]
   · rename_i hb
     rw [hg, Nat.eq_of_beq_eq_true hb]
   · cases h
 · cases h

theorem wanted_of {o : Oper} {j : Nat} {pol : Bool} (hg : o.guard = some (j, pol)) (y : Nat → Option Bool) : Region.wanted o y = (y j == some pol) := by
 unfold Region.wanted
 rw [hg]

theorem yielded_of {ops : Array Oper} {j : Nat} {oj : Oper} {t : Nat} (hj : ops[j]? = some oj) (ht : oj.dst = some t) (a : Array Value) :
 yielded ops a j = match a[t]? with | some (.bool b) => some b | _ => none := by
 unfold yielded
 simp only [hj, Option.bind_some, ht]
 rfl

theorem getD_of {a : Array Value} {t : Nat} {x : Value} (ht : t < a.size) (h : a.getD t undef = x) : a[t]? = some x := by
 rw [Array.getElem?_eq_getElem ht]
 simp [ht] at h
 rw [h]

theorem memN_cons {d t : Nat} {as : List Nat} (h : memN (d :: as) t = true) : d = t ∨ memN as t = true := by
 simp only [memN] at h
 split at h
 · rename_i hb
   exact .inl (Nat.eq_of_beq_eq_true hb)
 · exact .inr h

theorem nth_set_ne {α : Type} (x : α) {l : List α} {d t : Nat} {v : α} (h : d ≠ t) : nth x (l.set d v) t = nth x l t := by
 rw [nth_eq, nth_eq, List.getElem?_set_ne h]

theorem nth_set_self {α : Type} (x : α) {l : List α} {d : Nat} {v : α} (h : d < l.length) : nth x (l.set d v) d = v := by
 rw [nth_eq, List.getElem?_set_self h]
 rfl

/-- Whatever the guard: the rest is asked of some value. -/
theorem evG_K {tm : List SV} {as : List Nat} {x : Operand} {K : SV → Prop} (h : evG tm as x K) : ∃ s, K s := by
 cases x with
 | tmp t =>
  obtain ⟨_, h⟩ := nthK_iff SV.any h
  split at h
  · exact ⟨_, h⟩
  · split at h
    · exact ⟨_, h⟩
    · exact h.elim
 | const v => exact ⟨_, h⟩
 | global g => exact ⟨_, h⟩
 | func f => exact ⟨_, h⟩

theorem vK_K {bs : List (Nat × Nat)} {s : SV} {K : Value → Prop} (h : vK bs s K) : ∃ v, K v := by
 cases s with
 | v x => exact ⟨_, h⟩
 | p i o => obtain ⟨_, h⟩ := nthK_iff (0, 0) h; exact ⟨_, h⟩
 | g _ _ _ => exact h.elim
 | any => exact h.elim

theorem evV_K {tm : List SV} {as : List Nat} {bs : List (Nat × Nat)} {x : Operand} {K : Value → Prop} (h : evV tm as bs x K) : ∃ v, K v := by
 obtain ⟨s, h⟩ := evG_K h
 exact vK_K h

theorem evVs_K {tm : List SV} {as : List Nat} {bs : List (Nat × Nat)} : ∀ {xs : List Operand} {K : List Value → Prop}, evVs tm as bs xs K → ∃ vs, K vs
 | [], _, h => ⟨_, h⟩
 | x :: xs, K, h => by
  obtain ⟨v, h⟩ := evV_K h
  obtain ⟨vs, h⟩ := evVs_K (xs := xs) h
  exact ⟨_, h⟩

theorem evPs_K {tm : List SV} {as : List Nat} {bs : List (Nat × Nat)} : ∀ {xs : List (Nat × Operand)} {K : List (Nat × Value) → Prop}, evPs tm as bs xs K → ∃ vs, K vs
 | [], _, h => ⟨_, h⟩
 | (i, x) :: xs, K, h => by
  obtain ⟨v, h⟩ := evV_K h
  obtain ⟨vs, h⟩ := evPs_K (xs := xs) h
  exact ⟨_, h⟩

theorem fillK_K {place : Nat → (Nat → Nat → Prop) → Prop} (hp : ∀ i K, place i K → ∃ a b, K a b) : ∀ {ps : List (Nat × Value)} {z : List Value} {K : List Value → Prop}, fillK place ps z K → ∃ z', K z'
 | [], _, _, h => ⟨_, h⟩
 | (i, v) :: r, z, K, h => by
  simp only [fillK] at h
  have h := cellsK_iff h
  obtain ⟨a, b, h⟩ := hp _ _ h
  obtain ⟨_, h⟩ := lenK_iff h
  obtain ⟨_, h⟩ := overK_iff h
  exact fillK_K hp h

theorem xpure_K {as : List Nat} {op : Op} {tm : List SV} {bs : List (Nat × Nat)} {cs : List (List Value)} {K : SV → Prop} {E : Prop} (h : xpure tab as op tm bs cs K E) : E ∨ ∃ s, K s := by
 unfold xpure at h
 split at h
 · exact .inr (evG_K h)
 · exact .inr (evG_K h)
 · obtain ⟨s, h⟩ := evG_K h
   split at h
   · obtain ⟨s, h⟩ := evG_K h
     obtain ⟨s, h⟩ := evG_K h
     unfold pickK at h
     split at h
     · exact .inr ⟨_, h⟩
     · exact .inr ⟨_, h.rest⟩
     · exact .inr ⟨_, h.rest⟩
     · rename_i c' _ _ _ _ _ _ _
       unfold XIf at h
       split at h
       · exact .inr ⟨_, h⟩
       · exact .inr ⟨_, h⟩
   · exact .inl h
 · obtain ⟨s, h⟩ := evG_K h
   split at h
   · split at h
     · unfold loadK at h
       obtain ⟨_, h⟩ := nthK_iff [] h
       split at h
       · obtain ⟨_, h⟩ := subK_iff h; exact .inr ⟨_, h⟩
       · obtain ⟨_, h⟩ := nthK_iff (.tuple #[]) h; exact .inr ⟨_, h⟩
     · exact .inl h
   · exact .inl h
 · obtain ⟨s, h⟩ := evG_K h
   split at h
   · exact .inr ⟨_, h⟩
   · exact .inr ⟨_, h⟩
   · exact .inr ⟨_, h⟩
   · exact .inl h
 · obtain ⟨s, h⟩ := evG_K h
   split at h
   · split at h
     · exact .inr ⟨_, h⟩
     · exact .inl h
   · exact .inl h
 · obtain ⟨s, h⟩ := evG_K h
   split at h
   · split at h
     · exact .inr ⟨_, h⟩
     · exact .inl h
   · exact .inl h
 · obtain ⟨s, h⟩ := evG_K h
   obtain ⟨s', h⟩ := evG_K h
   unfold binK at h
   split at h
   · split at h
     · unfold binInt at h
       split at h
       all_goals first | exact .inr ⟨_, h⟩ | exact .inr ⟨_, h.rest⟩ | exact .inl h
     · exact .inl h
   · split at h
     · exact .inr ⟨_, h⟩
     · exact .inr ⟨_, h⟩
     · exact .inl h
   · exact .inl h
 · obtain ⟨s, h⟩ := evG_K h
   unfold unK at h
   split at h
   · exact .inr ⟨_, h⟩
   · exact .inr ⟨_, h⟩
   · exact .inl h
 · obtain ⟨s, h⟩ := evG_K h
   split at h
   · split at h
     · split at h
       · exact .inr ⟨_, h⟩
       · exact .inl h
     · exact .inl h
   · exact .inl h
 · obtain ⟨s, h⟩ := evG_K h
   split at h
   · obtain ⟨s, h⟩ := evG_K h
     split at h
     · unfold indexAddrK at h
       simp only at h
       split at h
       · split at h
         · split at h
           · split at h
             · exact .inr ⟨_, h⟩
             · exact .inl h
           · exact .inl h
         · exact .inl h
       · exact .inl h
     · exact .inl h
   · exact .inl h
 · obtain ⟨s, h⟩ := evG_K h
   split at h
   · unfold fieldAddrK at h
     split at h
     · obtain ⟨_, h⟩ := nthK_iff (0, 0, false) h
       split at h
       · exact .inl h
       · split at h
         · exact .inr ⟨_, h⟩
         · exact .inr ⟨_, h⟩
         · exact .inl h
     · exact .inl h
   · exact .inl h
 · obtain ⟨s, h⟩ := evG_K h
   split at h
   · unfold fieldK at h
     split at h
     · obtain ⟨_, h⟩ := nthK_iff (0, 0, false) h
       split at h
       · obtain ⟨_, h⟩ := subK_iff h; exact .inr ⟨_, h⟩
       · obtain ⟨_, h⟩ := nthK_iff (.tuple #[]) h; exact .inr ⟨_, h⟩
     · exact .inl h
   · exact .inl h
 · obtain ⟨s, h⟩ := evG_K h
   split at h
   · obtain ⟨_, h⟩ := nthK_iff (.tuple #[]) h; exact .inr ⟨_, h⟩
   · exact .inl h
 · obtain ⟨vs, h⟩ := evVs_K h
   obtain ⟨us, h⟩ := evVs_K h
   exact .inr ⟨_, h⟩
 · split at h
   · split at h
     · split at h
       · exact .inl h
       obtain ⟨vs, h⟩ := evPs_K h
       obtain ⟨z, h⟩ := fillK_K (fun i K hk => by
        unfold structPlace at hk
        obtain ⟨_, hk⟩ := nthK_iff (0, 0, false) hk
        exact ⟨_, _, hk⟩) h
       exact .inr ⟨_, h⟩
     · split at h
       · obtain ⟨vs, h⟩ := evPs_K h
         obtain ⟨z, h⟩ := fillK_K (fun i K hk => by
          unfold arrPlace at hk
          split at hk
          · exact ⟨_, _, hk⟩
          · exact hk.elim) h
         exact .inr ⟨_, h⟩
       · exact .inl h
     · exact .inl h
   · exact .inl h
 · obtain ⟨s, h⟩ := evG_K h
   split at h
   · unfold lenVK at h
     split at h
     · exact .inr ⟨_, h⟩
     · exact .inr ⟨_, h⟩
     · exact .inr ⟨_, h⟩
     · exact .inl h
   · exact .inl h
 · obtain ⟨s, h⟩ := evG_K h
   obtain ⟨s', h⟩ := evG_K h
   split at h
   · split at h
     · exact .inr ⟨_, h⟩
     · exact .inl h
   · exact .inl h
 · exact .inl h

end
end Go.Sx
namespace Go.Sx
set_option linter.unusedVariables false

section
variable {P : Program} {tab : Tab} {w0 : World} {R : Nat → Nat → Prop} {av : Nat → Prop}

/-- What is known of the group that is being walked. -/
def GI (ops : List Oper) (g : Option Grp) (tm : List SV) (a : Array Value) : Prop :=
 ∀ G, g = some G → (∃ oj, ops[G.j]? = some oj ∧ oj.dst = some G.t) ∧ a[G.t]? = some (.bool G.c) ∧ ∀ s, memN G.as s = true → ∃ x, nth .any tm s = .g G.c G.pol x

theorem GI.none (ops : List Oper) (tm : List SV) (a : Array Value) : GI ops none tm a := fun G h => by cases h

theorem yield_at {ops : Array Oper} {j t : Nat} {oj : Oper} (hj : ops.toList[j]? = some oj) (ht : oj.dst = some t) {a : Array Value} {c : Bool} (ha : a[t]? = some (.bool c)) : yielded ops a j = some c := by
 rw [yielded_of (by rw [← Array.getElem?_toList]; exact hj) ht, ha]

theorem yield_not {ops : Array Oper} {j t : Nat} {oj : Oper} (hj : ops.toList[j]? = some oj) (ht : oj.dst = some t) {a : Array Value} {x : Array Value} (ha : a[t]? = some (.tuple x)) : yielded ops a j = none := by
 rw [yielded_of (by rw [← Array.getElem?_toList]; exact hj) ht, ha]

theorem wpOps_step {ops : Array Oper} {Q : Exit → Act → World → Prop} {k : Nat} {rest : List Nat} {o : Oper} {act : Act} {w : World} (ho : ops[k]? = some o)
 (hw : Region.wanted o (yielded ops act.tmps) = true) (h : o.wp P act w (wpOps P ops Q rest) Q) : wpOps P ops Q (k :: rest) act w := by
 simp only [wpOps, ho, hw, if_true]
 exact .inl h

theorem wpOps_pass {ops : Array Oper} {Q : Exit → Act → World → Prop} {k : Nat} {rest : List Nat} {o : Oper} {act : Act} {w : World} (ho : ops[k]? = some o)
 (hw : Region.wanted o (yielded ops act.tmps) = false) (h : wpOps P ops Q rest (act.put o.dst undef) w) : wpOps P ops Q (k :: rest) act w := by
 simp only [wpOps, ho, hw, Bool.false_eq_true, if_false]
 exact h

theorem FrameOk.same {bs : List (Nat × Nat)} {tm : List SV} {a : Array Value} (h : FrameOk bs tm a) {t : Nat} {s : SV} (hs : SVok bs s (a.getD t undef)) : FrameOk bs (tm.set t s) a := by
 refine ⟨by simp [h.len], fun k => ?_⟩
 by_cases hk : t = k
 · subst hk
   by_cases hlt : t < tm.length
   · rw [nth_set_self _ hlt]; exact hs
   · rw [nth_eq, List.getElem?_eq_none (by simp; omega)]; exact trivial
 · rw [nth_set_ne _ hk]; exact h.ok k

theorem put_get {a : Array Value} {d t : Nat} {v x : Value} (h : a[t]? = some x) (hd : d ≠ t) : (Act.put ⟨a, []⟩ (some d) v).tmps[t]? = some x := by
 show (a.setIfInBounds d v)[t]? = _
 rw [Array.getElem?_setIfInBounds_ne hd, h]

theorem act_eta {act : Act} (h : act.defers = []) : act = ⟨act.tmps, []⟩ := by
 cases act
 simp at h
 subst h
 rfl

theorem xops_sound (hT : TabOk P tab) {ops : Array Oper} {Q : Exit → Act → World → Prop} : ∀ (r : List Oper) (k : Nat), ops.toList.drop k = r → ∀ (g : Option Grp) (tm : List SV) (bs : List (Nat × Nat))
 (cs : List (List Value)) (D : Fx) (K : KT) (a : Array Value) (w : World), (∀ act w, LiftN w0 R av K act w → Q .normal act w) → xops P tab w0 R av ops.toList r g tm bs cs D K →
 FrameOk bs tm a → St w0 R av w bs cs D → GI ops.toList g tm a → wpOps P ops Q (List.range' k r.length) ⟨a, []⟩ w
 | [], k, hd, g, tm, bs, cs, D, K, a, w, hQ, h, hf, hst, hg => by
  simp only [List.length_nil, List.range'_zero, wpOps]
  exact hQ _ _ ⟨rfl, tm, bs, cs, D, hf, hst, h⟩
 | o :: r, k, hd, g, tm, bs, cs, D, K, a, w, hQ, h, hf, hst, hg => by
  have ho : ops[k]? = some o := by
   rw [← Array.getElem?_toList]
   have := List.getElem?_drop (xs := ops.toList) (i := k) (j := 0)
   rw [hd] at this
   simpa using this.symm
  have hd' : ops.toList.drop (k + 1) = r := by
   rw [← List.drop_drop, hd]; rfl
  have hrec := xops_sound hT (ops := ops) (Q := Q) r (k + 1) hd'
  simp only [List.length_cons, List.range'_succ]
  have hnext : ∀ act w', LiftN w0 R av (fun tm bs cs D => xops P tab w0 R av ops.toList r none tm bs cs D K) act w' → wpOps P ops Q (List.range' (k + 1) r.length) act w' := by
   intro act w' ⟨hdf, tm', bs', cs', D', h1, h2, h3⟩
   rw [act_eta hdf]
   exact hrec none tm' bs' cs' D' K act.tmps w' hQ h3 h1 h2 (GI.none _ _ _)
  simp only [xops] at h
  cases hgd : o.guard with
  | none =>
   rw [hgd] at h
   refine wpOps_step ho (by unfold Region.wanted; rw [hgd]) ?_
   exact Oper.wp_mono hnext (xop_sound hT hf hst h Q)
  | some jp =>
   obtain ⟨j, pol⟩ := jp
   rw [hgd] at h
   simp only at h
   have hskip : ∀ {tm : List SV}, FrameOk bs tm a → Region.wanted o (yielded ops a) = false → (fin o.dst tm (.v undef) fun tm => xops P tab w0 R av ops.toList r none tm bs cs D K) →
    wpOps P ops Q (k :: List.range' (k + 1) r.length) ⟨a, []⟩ w := by
    intro tm hf hw h
    refine wpOps_pass ho hw (hnext _ _ ?_)
    exact lift_put (s := .v undef) hf rfl hst h
   have hdo : ∀ {tm : List SV}, FrameOk bs tm a → Region.wanted o (yielded ops a) = true → (xop P tab w0 R av o tm bs cs D fun tm bs cs D => xops P tab w0 R av ops.toList r none tm bs cs D K) →
    wpOps P ops Q (k :: List.range' (k + 1) r.length) ⟨a, []⟩ w := by
    intro tm hf hw h
    exact wpOps_step ho hw (Oper.wp_mono hnext (xop_sound hT hf hst h Q))
   -- one more operation of a group
   have hgrp : ∀ (G : Grp) (E : Prop), guardIs o G.j G.pol = true → (∃ oj, ops.toList[G.j]? = some oj ∧ oj.dst = some G.t) → a[G.t]? = some (.bool G.c) →
    (∀ s, memN G.as s = true → ∃ x, nth .any tm s = .g G.c G.pol x) →
    grpK tab o G tm bs cs D (fun G tm bs cs D => xops P tab w0 R av ops.toList r (some G) tm bs cs D K) E →
    E ∨ wpOps P ops Q (k :: List.range' (k + 1) r.length) ⟨a, []⟩ w := by
    intro G E hgo hoj hat hsl h
    obtain ⟨oj, hoj1, hoj2⟩ := hoj
    have hgd' := guardIs_eq hgo
    have hwt : Region.wanted o (yielded ops a) = (some G.c == some G.pol) := by
     rw [wanted_of hgd', yield_at hoj1 hoj2 hat]
    have hlay : ∀ (s : SV) (d : Nat), o.dst = some d → Nat.beq d G.t = false →
     (setK tm d (.g G.c G.pol s) fun tm' => xops P tab w0 R av ops.toList r (some ⟨G.j, G.pol, G.c, d :: G.as, G.t⟩) tm' bs cs D K) →
     ∀ y, SVok bs (.g G.c G.pol s) y → wpOps P ops Q (List.range' (k + 1) r.length) (Act.put ⟨a, []⟩ o.dst y) w := by
     intro s d hdst hne h y hy
     obtain ⟨hlt, h⟩ := setK_iff h
     have hdne : d ≠ G.t := fun e => by subst e; rw [Nat.beq_refl] at hne; cases hne
     rw [hdst]
     refine hrec _ _ _ _ _ K _ w hQ h (hf.set d hy) hst ?_
     intro G' hG'
     cases hG'
     refine ⟨⟨oj, hoj1, hoj2⟩, put_get hat hdne, fun t ht => ?_⟩
     rcases memN_cons ht with rfl | ht
     · exact ⟨s, nth_set_self _ hlt⟩
     · by_cases hdt : d = t
       · subst hdt; exact ⟨s, nth_set_self _ hlt⟩
       · rw [nth_set_ne _ hdt]; exact hsl t ht
    unfold grpK at h
    by_cases hcp : G.c = G.pol
    · rcases xpure_sound hT hf (c := G.c) (pol := G.pol) ⟨hsl, fun _ => hcp⟩ h with h | ⟨v, s, h1, h2, h3⟩
      · exact .inl h
      · cases hdo' : o.dst with
        | none => rw [hdo'] at h3; exact h3.elim
        | some d =>
         rw [hdo'] at h3
         simp only at h3
         split at h3
         · exact h3.elim
         · rename_i hbq
           refine .inr (wpOps_step ho (by show Region.wanted o (yielded ops a) = true; rw [hwt, hcp]; simp) ?_)
           exact wp_of_value (h1 w fun _ => hst.box) (hlay s d hdo' hbq h3 v (fun _ => h2))
    · rcases xpure_K h with h | ⟨s, h3⟩
      · exact .inl h
      · cases hdo' : o.dst with
        | none => rw [hdo'] at h3; exact h3.elim
        | some d =>
         rw [hdo'] at h3
         simp only at h3
         split at h3
         · exact h3.elim
         · rename_i hbq
           refine .inr (wpOps_pass ho (by show Region.wanted o (yielded ops a) = false; rw [hwt]; simpa using hcp) ?_)
           exact hlay s d hdo' hbq h3 undef (fun e => absurd e hcp)
   have hfresh : freshK P tab w0 R av ops.toList o r j pol tm bs cs D (fun tm bs cs D => xops P tab w0 R av ops.toList r none tm bs cs D K)
    (fun G tm bs cs D => xops P tab w0 R av ops.toList r (some G) tm bs cs D K) → wpOps P ops Q (k :: List.range' (k + 1) r.length) ⟨a, []⟩ w := by
    intro h
    unfold freshK guardK at h
    obtain ⟨hjl, h⟩ := nthK_iff o h
    have hj : ops.toList[j]? = some (nth o ops.toList j) := by rw [nth_eq, List.getElem?_eq_getElem hjl]; rfl
    generalize nth o ops.toList j = oj at h hj
    cases hdj : oj.dst with
    | none => rw [hdj] at h; exact h.elim
    | some t =>
     rw [hdj] at h
     simp only at h
     obtain ⟨htl, h⟩ := nthK_iff SV.any h
     have hta : t < a.size := by rw [← hf.len]; exact htl
     have hok := hf.ok t
     split at h
     · rename_i c hsv
       rw [hsv] at hok
       have hat : a[t]? = some (.bool c) := getD_of hta hok
       have hwt : Region.wanted o (yielded ops a) = (some c == some pol) := by rw [wanted_of hgd, yield_at hj hdj hat]
       have hcut : cutK P tab w0 R av o pol c t tm bs cs D (fun tm bs cs D => xops P tab w0 R av ops.toList r none tm bs cs D K) →
        wpOps P ops Q (k :: List.range' (k + 1) r.length) ⟨a, []⟩ w := by
        intro h
        unfold cutK at h
        cases pol <;> cases c
        · obtain ⟨_, h⟩ := setK_iff h
          exact hdo (hf.same hok) (by rw [hwt]; rfl) h
        · obtain ⟨_, h⟩ := setK_iff h
          exact hskip (hf.same hok) (by rw [hwt]; rfl) h
        · obtain ⟨_, h⟩ := setK_iff h
          exact hskip (hf.same hok) (by rw [hwt]; rfl) h
        · obtain ⟨_, h⟩ := setK_iff h
          exact hdo (hf.same hok) (by rw [hwt]; rfl) h
       split at h
       · rcases hgrp ⟨j, pol, c, [], t⟩ _ (by unfold guardIs; rw [hgd]; simp only [Nat.beq_refl]; cases pol <;> rfl) ⟨oj, hj, hdj⟩ hat (fun s hs => by simp [memN] at hs) h with h | h
         · exact hcut h
         · exact h
       · exact hcut h
     · rename_i x hsv
       rw [hsv] at hok
       have hat : a[t]? = some (.tuple x) := getD_of hta hok
       exact hskip hf (by rw [wanted_of hgd, yield_not hj hdj hat]; rfl) h
     · exact h.elim
   cases hgg : g with
   | none => rw [hgg] at h; exact hfresh h
   | some G =>
    rw [hgg] at h
    simp only at h
    split at h
    · rename_i hgi
      obtain ⟨hoj, hat, hsl⟩ := hg G hgg
      rcases hgrp G _ hgi hoj hat hsl h with h | h
      · exact h.elim
      · exact h
    · exact hfresh h

/-! ### code -/

theorem xc_sound (hT : TabOk P tab) : ∀ (c : Code) (tm : List SV) (bs : List (Nat × Nat)) (cs : List (List Value)) (D : Fx) (K : Exit → KT) (a : Array Value) (w : World),
 xc P tab w0 R av c tm bs cs D K → FrameOk bs tm a → St w0 R av w bs cs D → c.wp P (Lift w0 R av K) ⟨a, []⟩ w := by
 intro c
 induction c with
 | skip => exact fun tm bs cs D K a w h hf hst => wp_skip ⟨rfl, tm, bs, cs, D, hf, hst, h⟩
 | region id ops draw =>
  intro tm bs cs D K a w h hf hst
  cases draw with
  | true =>
   simp only [xc] at h
   exact XStop_iff.1 h a w hf hst
  | false =>
   refine wp_region ?_
   rw [List.range_eq_range']
   have h' : xops P tab w0 R av ops.toList ops.toList none tm bs cs D (K .normal) := by
    obtain ⟨l⟩ := ops
    simpa only [xc] using h
   have := xops_sound hT (ops := ops) (Q := Lift w0 R av K) ops.toList 0 rfl none tm bs cs D (K .normal) a w (fun act w h => h) h' hf hst (GI.none _ _ _)
   rwa [Array.length_toList] at this
 | seq x y ihx ihy =>
  intro tm bs cs D K a w h hf hst
  simp only [xc] at h
  refine wp_seq (wp_mono (ihx _ _ _ _ _ _ _ h hf hst) ?_)
  rintro e act w' ⟨hd, tm', bs', cs', D', h1, h2, h3⟩
  rw [act_eta hd]
  cases e with
  | normal => exact ihy _ _ _ _ _ _ _ h3 h1 h2
  | _ => exact ⟨rfl, tm', bs', cs', D', h1, h2, h3⟩
 | cond c x y ihx ihy =>
  intro tm bs cs D K a w h hf hst
  simp only [xc] at h
  obtain ⟨s, hs, h⟩ := evG_sound hf (GOk.nil tm) h
  split at h
  · rename_i t
    cases t
    · exact wp_cond_false hs (ihy _ _ _ _ _ _ _ h hf hst)
    · exact wp_cond_true hs (ihx _ _ _ _ _ _ _ h hf hst)
  · exact h.elim
 | block id c ih =>
  intro tm bs cs D K a w h hf hst
  simp only [xc] at h
  refine wp_block (wp_mono (ih _ _ _ _ _ _ _ h hf hst) ?_)
  rintro e act w' ⟨hd, tm', bs', cs', D', h1, h2, h3⟩
  cases e with
  | exit i =>
   simp only at h3
   unfold Exit.inBlock
   simp only
   split at h3
   · rename_i hb
     rw [if_pos (Nat.eq_of_beq_eq_true hb)]
     exact ⟨hd, tm', bs', cs', D', h1, h2, h3⟩
   · rename_i hb
     rw [if_neg (fun e => by subst e; rw [Nat.beq_refl] at hb; cases hb)]
     exact ⟨hd, tm', bs', cs', D', h1, h2, h3⟩
  | _ => exact ⟨hd, tm', bs', cs', D', h1, h2, h3⟩
 | ret => exact fun tm bs cs D K a w h hf hst => wp_ret ⟨rfl, tm, bs, cs, D, hf, hst, h⟩
 | exit id => exact fun tm bs cs D K a w h hf hst => wp_exit ⟨rfl, tm, bs, cs, D, hf, hst, h⟩
 | loop c _ => exact fun tm bs cs D K a w h hf hst => by simp only [xc] at h; exact XStop_iff.1 h a w hf hst
 | rangeFunc f ps x y _ _ => exact fun tm bs cs D K a w h hf hst => by simp only [xc] at h; exact XStop_iff.1 h a w hf hst
 | scope c _ => exact fun tm bs cs D K a w h hf hst => by simp only [xc] at h; exact XStop_iff.1 h a w hf hst
 | label l => exact fun tm bs cs D K a w h hf hst => by simp only [xc] at h; exact XStop_iff.1 h a w hf hst
 | goto l => exact fun tm bs cs D K a w h hf hst => by simp only [xc] at h; exact XStop_iff.1 h a w hf hst
 | refuse s => exact fun tm bs cs D K a w h hf hst => by simp only [xc] at h; exact XStop_iff.1 h a w hf hst

end
end Go.Sx
namespace Go.Sx
set_option linter.unusedVariables false

/-! ### the end of a function -/

/-- A result whose variable is a row. -/
def rowK (rs : List (Nat × Row)) (ti : TI) (p : Addr) (K : List Value → Prop) : Prop := ∃ b C, (ti.k.agg = true ∧ p = ⟨b, 0, none⟩ ∧ (b, Row.c C) ∈ rs ∧ C.length = ti.size) ∧ K C

def resK (tab : Tab) (tm : List SV) (bs : List (Nat × Nat)) (cs : List (List Value)) (rs : List (Nat × Row)) : List ResultVar → (List Value → Prop) → Prop
 | [], K => K []
 | .tmp t :: r, K => nthK tm t fun s => vK bs s fun v => resK tab tm bs cs rs r fun vs => K (v :: vs)
 | .cell a t :: r, K => nthK tm a fun s => match s with
  | .p i o => match look tab t with
   | some ti => loadK ti cs i o fun sv => match sv with
    | .v v => resK tab tm bs cs rs r fun vs => K (v :: vs)
    | _ => False
   | none => False
  | .v (.pointer (some p)) => match look tab t with
   | some ti => rowK rs ti p fun C => resK tab tm bs cs rs r fun vs => K (.agg ⟨C⟩ :: vs)
   | none => False
  | _ => False

def oneK (K : Value → Prop) : List Value → Prop
 | [v] => K v
 | vs => K (.tuple ⟨vs⟩)

/-- What is to be shown where the function returns v. -/
abbrev Fin := Value → List (Nat × Nat) → List (List Value) → Fx → Prop

def kEnd (tab : Tab) (rs : List ResultVar) (F : Fin) : Exit → KT := fun e tm bs cs D => match e with
 | .ret => resK tab tm bs cs D.rs rs (oneK fun v => F v bs cs D)
 | .normal => resK tab tm bs cs D.rs rs (oneK fun v => F v bs cs D)
 | _ => False

def anyK : Nat → (List SV → Prop) → Prop
 | 0, K => K []
 | n + 1, K => anyK n fun l => K (.any :: l)

def padK : List SV → Nat → (List SV → Prop) → Prop
 | [], n, K => anyK n K
 | x :: xs, n, K => padK xs n fun l => K (x :: l)

theorem anyK_iff : ∀ {n : Nat} {K : List SV → Prop}, anyK n K → K (List.replicate n .any)
 | 0, K, h => h
 | n + 1, K, h => by
  have := anyK_iff (n := n) h
  simpa [List.replicate_succ] using this

theorem padK_iff : ∀ {l : List SV} {n : Nat} {K : List SV → Prop}, padK l n K → K (l ++ List.replicate n .any)
 | [], n, K, h => anyK_iff h
 | x :: xs, n, K, h => padK_iff (l := xs) h

def resSem (a : Array Value) (r : ResultVar) : Sem Value := match r with
 | .tmp t => pure (a.getD t undef)
 | .cell b t => do loadVar t (← asAddr (a.getD b undef))

section
variable {P : Program} {tab : Tab} {w0 : World} {R : Nat → Nat → Prop} {av : Nat → Prop}

theorem resK_sound (hT : TabOk P tab) {tm : List SV} {bs : List (Nat × Nat)} {cs : List (List Value)} {a : Array Value} {w : World} {rows : List (Nat × Row)} (hf : FrameOk bs tm a) (hb : Boxes w bs cs) (hr : ∀ r ∈ rows, RowIs w r.1 r.2) :
 ∀ {rs : List ResultVar} {K : List Value → Prop}, resK tab tm bs cs rows rs K → ∃ vs, (rs.mapM (resSem a)).run P w = .ok vs w ∧ K vs
 | [], K, h => ⟨[], rfl, h⟩
 | .tmp t :: r, K, h => by
  obtain ⟨_, h⟩ := nthK_iff SV.any h
  have h := vK_sound (hf.ok t) h
  obtain ⟨vs, h1, h2⟩ := resK_sound hT hf hb hr h
  refine ⟨_, ?_, h2⟩
  rw [List.mapM_cons, run_bind_ok (a := a.getD t undef) (w' := w) rfl, run_bind_ok h1]
  rfl
 | .cell b t :: r, K, h => by
  obtain ⟨_, h⟩ := nthK_iff SV.any h
  have hok := hf.ok b
  split at h
  · rename_i i o hs
    rw [hs] at hok
    obtain ⟨hok, _⟩ := hok
    split at h
    · rename_i ti hl
      obtain ⟨v, h1, h⟩ := loadK_sound (bs := bs) (hT _ _ hl) h
      simp only at h
      obtain ⟨vs, h2, h3⟩ := resK_sound hT hf hb hr h
      refine ⟨_, ?_, h3⟩
      rw [List.mapM_cons]
      rw [run_bind_ok (a := v) (w' := w) (by simp only [resSem, hok]; exact h1 w hb), run_bind_ok h2]
      rfl
    · exact h.elim
  · rename_i p hs
    rw [hs] at hok
    have hok : a.getD b undef = .pointer (some p) := hok
    split at h
    · rename_i ti hl
      obtain ⟨b', C, ⟨ha, rfl, hm, hlen⟩, h⟩ := h
      obtain ⟨vs, h2, h3⟩ := resK_sound hT hf hb hr h
      obtain ⟨e, he⟩ := hr _ hm
      refine ⟨_, ?_, h3⟩
      rw [List.mapM_cons]
      rw [run_bind_ok (a := .agg ⟨C⟩) (w' := w) (by
       simp only [resSem, hok]
       exact run_loadVar_agg (hT _ _ hl) ha C hlen fun j hj => by simp [World.cell?, he]), run_bind_ok h2]
      rfl
    · exact h.elim
  · exact h.elim

theorem run_results (hT : TabOk P tab) {fn : Func} {tm : List SV} {bs : List (Nat × Nat)} {cs : List (List Value)} {a : Array Value} {w : World} {rows : List (Nat × Row)} (hf : FrameOk bs tm a) (hb : Boxes w bs cs) (hr : ∀ r ∈ rows, RowIs w r.1 r.2) {K : Value → Prop}
 (h : resK tab tm bs cs rows fn.results.toList (oneK K)) : ∃ v, (results fn a).run P w = .ok v w ∧ K v := by
 obtain ⟨vs, h1, h2⟩ := resK_sound hT hf hb hr h
 have hm : (fn.results.mapM (resSem a)).run P w = .ok ⟨vs⟩ w := by
  rw [Array.mapM_eq_mapM_toList]
  show (List.toArray <$> _ : Sem (Array Value)).run P w = _
  rw [← bind_pure_comp, run_bind_ok h1]
  rfl
 have hres : results fn a = (do let vs ← fn.results.mapM (resSem a); pure (if h : vs.size = 1 then vs[0] else .tuple vs)) := by
  unfold results
  congr 1
 rw [hres, run_bind_ok hm]
 cases vs with
 | nil => exact ⟨_, rfl, h2⟩
 | cons v vs =>
  cases vs with
  | nil => exact ⟨v, rfl, h2⟩
  | cons u us =>
   refine ⟨.tuple ⟨v :: u :: us⟩, ?_, h2⟩
   simp

/-- A function whose end is F, out of its code. -/
theorem calls_of_xc (hT : TabOk P tab) {f : FuncId} {fn : Func} (hfn : P.funcs[f]? = some fn) {c : Code} (hb : fn.body = some c) {vs : List Value} {svs : List SV} {bs : List (Nat × Nat)} {cs : List (List Value)}
 {D : Fx} {F : Fin} {n : Nat} (hn : fn.ntmps = vs.length + n) (hlen : svs.length = vs.length) (hok : ∀ i, i < vs.length → SVok bs (nth .any svs i) (nth undef vs i)) (hst : St w0 R av w0 bs cs D)
 (h : padK svs n fun tm => xc P tab w0 R av c tm bs cs D (kEnd tab fn.results.toList F)) :
 Calls P f vs.toArray w0 fun e w' => ∃ v bs' cs' D', e = .returned v ∧ St w0 R av w' bs' cs' D' ∧ F v bs' cs' D' := by
 have h := padK_iff h
 refine calls_of_wp hfn hb ?_
 have hfr : FrameOk bs (svs ++ List.replicate n .any) (vs.toArray ++ Array.replicate (fn.ntmps - vs.toArray.size) undef) := by
  refine ⟨by simp; omega, fun t => ?_⟩
  rw [nth_eq]
  by_cases ht : t < vs.length
  · rw [List.getElem?_append_left (by omega), ← nth_eq]
    have := hok t ht
    rw [nth_eq undef] at this
    have e : (vs.toArray ++ Array.replicate (fn.ntmps - vs.toArray.size) undef).getD t undef = (vs[t]?).getD undef := by
     rw [Array.getD_eq_getD_getElem?, Array.getElem?_append_left (by simpa using ht)]
     simp
    rw [e]
    exact this
  · have : (svs ++ List.replicate n SV.any)[t]?.getD .any = .any := by
     rw [List.getElem?_append_right (by omega), List.getElem?_replicate]
     split <;> rfl
    rw [this]
    exact trivial
 refine wp_mono (xc_sound hT c _ _ _ _ _ _ _ h hfr hst) ?_
 rintro e act w' ⟨hd, tm', bs', cs', D', h1, h2, h3⟩
 cases e with
 | normal =>
  obtain ⟨v, g1, g2⟩ := run_results hT h1 h2.box (fun r hr => (h2.rows r hr).1) h3
  exact ⟨hd, v, g1, v, bs', cs', D', rfl, h2, g2⟩
 | ret =>
  obtain ⟨v, g1, g2⟩ := run_results hT h1 h2.box (fun r hr => (h2.rows r hr).1) h3
  exact ⟨hd, v, g1, v, bs', cs', D', rfl, h2, g2⟩
 | _ => exact h3.elim

/-! ### contracts -/

/-- A function that leaves alone what was there: where Pre holds of its arguments' memory, it returns some v with facts F, and Rel v F. -/
def PureSpec (P : Program) (f : FuncId) (vs : List Value) (Pre : World → Prop) (Rel : Value → Fx → Prop) : Prop :=
 Callable P f ∧ ∀ (av : Nat → Prop) (w : World), (∀ b, av b → b < w.heap.size) → Holds av w Pre → Calls P f vs.toArray w fun e w' => ∃ v F, e = .returned v ∧ Keep w w' ∧ FxOk av w.heap.size w' F ∧ Rel v F

def pureFin (Rel : Value → Fx → Prop) : Fin := fun v _ _ F => ∃ F', Ent F F' ∧ Rel v F'

theorem Holds.less {av av' : Nat → Prop} {w : World} {D : World → Prop} (h : Holds av w D) (ha : ∀ b, av' b → av b) : Holds av' w D :=
 h.move (Nat.le_refl _) (fun _ _ _ => rfl) (fun b hb => .inl (ha b hb))

theorem St.newRows {w : World} {bs : List (Nat × Nat)} {cs : List (List Value)} {F : Fx} (h : St w0 R av w bs cs F) (hR : ∀ b, ∃ i, ¬ R b i) : ∀ r ∈ F.rs, RowIs w r.1 r.2 ∧ w0.heap.size ≤ r.1 := fun r hr => by
 obtain ⟨h1, h2⟩ := h.rows r hr
 refine ⟨h1, h2.resolve_right fun h3 => ?_⟩
 obtain ⟨i, hi⟩ := hR r.1
 exact hi (h3.2.1 i)

theorem St.fx {w : World} {bs : List (Nat × Nat)} {cs : List (List Value)} {F : Fx} (h : St w0 R av w bs cs F) (hR : ∀ b, ∃ i, ¬ R b i) : FxOk av w0.heap.size w F :=
 ⟨h.newRows hR, (List.nodup_append.1 h.nd).2.1, h.data.less fun b hb => hb.elim .inl (fun hb => .inr (.inr hb))⟩

theorem PureSpec.of_xc (hT : TabOk P tab) {f : FuncId} {fn : Func} (hfn : P.funcs[f]? = some fn) {c : Code} (hb : fn.body = some c) (hnm : (fn.name == "runtime.NumGoroutine") = false) {vs : List Value} {svs : List SV}
 {n : Nat} (hn : fn.ntmps = vs.length + n) (hsv : svs = vs.map SV.v) {Pre : World → Prop} {Rel : Value → Fx → Prop}
 (h : ∀ w0 av, padK svs n fun tm => xc P tab w0 (fun _ _ => False) av c tm [] [] ⟨Pre, []⟩ (kEnd tab fn.results.toList (pureFin Rel))) : PureSpec P f vs Pre Rel := by
 subst hsv
 refine ⟨⟨fn, hfn, by rw [hb]; rfl, hnm⟩, fun av w hav hpre => ?_⟩
 have hst : St w (fun _ _ => False) av w [] [] ⟨Pre, []⟩ :=
  ⟨KeepX.refl _ _, trivial, by simp, fun i hi => by simp at hi, hav, fun r hr => by simp at hr, hpre.less fun b hb => hb.elim id (fun h => h.elim (fun ⟨x, hx, _⟩ => by simp at hx) (fun ⟨x, hx, _⟩ => by simp at hx))⟩
 refine (calls_of_xc hT hfn hb hn (by simp) (fun i hi => ?_) hst (h w av)).mono ?_
 · rw [nth_map SV.v undef .any vs i hi]; rfl
 · rintro e w' ⟨v, bs', cs', F, rfl, h1, F2, h2, h3⟩
   exact ⟨v, F2, rfl, h1.keep, (h1.ent h2).fx fun _ => ⟨0, id⟩, h3⟩

theorem PureSpec.imp {f : FuncId} {vs : List Value} {Pre Pre' : World → Prop} {Rel Rel' : Value → Fx → Prop} (h : PureSpec P f vs Pre Rel) (hp : ∀ w, Pre' w → Pre w)
 (hr : ∀ v D, Rel v D → Rel' v D) : PureSpec P f vs Pre' Rel' :=
 ⟨h.1, fun av w hav hpre => (h.2 av w hav (hpre.imp hp)).mono fun e w' ⟨v, D, h1, h2, h3, h4⟩ => ⟨v, D, h1, h2, h3, hr v D h4⟩⟩

theorem XCall.pure {f : FuncId} {vs : List Value} {Pre : World → Prop} {Rel : Value → Fx → Prop} {bs : List (Nat × Nat)} {cs : List (List Value)} {D : Fx} {K : KV} (spec : PureSpec P f vs Pre Rel)
 (hpre : ∀ w, D.D w → Pre w) (h : ∀ v D', Rel v D' → K v bs cs (D.and D')) : XCall P w0 R av f vs bs cs D K := by
 refine XCall_iff.2 ⟨spec.1, fun w hst => ?_⟩
 refine (spec.2 (Av av bs D.rs) w (fun b hb => hst.avb hb) (hst.data.imp hpre)).mono ?_
 rintro e w' ⟨v, D', rfl, h1, h2, h3⟩
 exact ⟨v, [], cs, _, rfl, by rw [List.append_nil]; exact hst.kept h1 h2, by rw [List.append_nil]; exact h v D' h3⟩

/-- A call that only computes: no new facts. -/
theorem XCall.val {f : FuncId} {vs : List Value} {Pre : World → Prop} {Rel : Value → Fx → Prop} {bs : List (Nat × Nat)} {cs : List (List Value)} {D : Fx} {K : KV} (spec : PureSpec P f vs Pre Rel)
 (hpre : ∀ w, D.D w → Pre w) (h : ∀ v D', Rel v D' → K v bs cs D) : XCall P w0 R av f vs bs cs D K := by
 refine XCall_iff.2 ⟨spec.1, fun w hst => ?_⟩
 refine (spec.2 (Av av bs D.rs) w (fun b hb => hst.avb hb) (hst.data.imp hpre)).mono ?_
 rintro e w' ⟨v, D', rfl, h1, h2, h3⟩
 exact ⟨v, [], cs, _, rfl, by rw [List.append_nil]; exact hst.keptD h1, by rw [List.append_nil]; exact h v D' h3⟩

end
attribute [irreducible] PureSpec
end Go.Sx
namespace Go.Sx
set_option linter.unusedVariables false

/-! ### a pointer to a row of cells -/

def Rg (b o n : Nat) (k i : Nat) : Prop := k = b ∧ o ≤ i ∧ i < o + n

/-- A function that writes the cells at its pointer, and nothing else that was there. The pointer stands behind the arguments pre, ahead of post. -/
def PtrSpec (P : Program) (f : FuncId) (pre post : List Value) (c : List Value) (Pre : World → Prop) (Rel : Value → List Value → Fx → Prop) : Prop :=
 Callable P f ∧ ∀ (av : Nat → Prop) (w : World) (b o : Nat), (∀ x, av x → x < w.heap.size) → Range w b o c → Holds (fun x => av x ∨ x = b) w Pre →
  Calls P f (pre ++ .pointer (some ⟨b, o, none⟩) :: post).toArray w fun e w' => ∃ v c' D, e = .returned v ∧ KeepX (Rg b o c.length) w w' ∧ c'.length = c.length ∧ Range w' b o c' ∧
   FxOk (fun x => av x ∨ x = b) w.heap.size w' D ∧ Rel v c' D

def ptrFin (b o n : Nat) (Rel : Value → List Value → Fx → Prop) : Fin := fun v bs cs D => match bs, cs with
 | (b', o') :: _, c' :: _ => (b' = b ∧ o' = o ∧ c'.length = n) ∧ ∃ D', Ent D D' ∧ Rel v c' D'
 | _, _ => False

theorem nth_append_left {α : Type} (d : α) : ∀ (l m : List α) (i : Nat), i < l.length → nth d (l ++ m) i = nth d l i := by
 intro l m i h
 rw [nth_eq, nth_eq, List.getElem?_append_left h]

section
variable {P : Program} {tab : Tab} {w0 : World} {R : Nat → Nat → Prop} {av : Nat → Prop}

theorem PtrSpec.of_xc (hT : TabOk P tab) {f : FuncId} {fn : Func} (hfn : P.funcs[f]? = some fn) {c : Code} (hb : fn.body = some c) (hnm : (fn.name == "runtime.NumGoroutine") = false) {pre post : List Value} {svs : List SV}
 {n : Nat} (hn : fn.ntmps = pre.length + (post.length + 1) + n) (hsv : svs = pre.map SV.v ++ .p 0 0 :: post.map SV.v) {cells : List Value} {Pre : World → Prop} {Rel : Value → List Value → Fx → Prop}
 (h : ∀ w0 av b o, padK svs n fun tm => xc P tab w0 (Rg b o cells.length) av c tm [(b, o)] [cells] ⟨Pre, []⟩ (kEnd tab fn.results.toList (ptrFin b o cells.length Rel))) : PtrSpec P f pre post cells Pre Rel := by
 subst hsv
 refine ⟨⟨fn, hfn, by rw [hb]; rfl, hnm⟩, fun av w b o hav hr hpre => ?_⟩
 have hst : St w (Rg b o cells.length) av w [(b, o)] [cells] ⟨Pre, []⟩ := by
  refine ⟨KeepX.refl _ _, ⟨hr, trivial⟩, by simp, fun i hi => ?_, hav, fun r hr => by simp at hr, hpre.less fun x hx => ?_⟩
  · have : i = 0 := by simpa using hi
    subst this
    exact .inr fun j hj => ⟨rfl, by simp [nth], by simpa [nth] using hj⟩
  · rcases hx with hx | ⟨y, hy, rfl⟩ | ⟨y, hy, rfl⟩
    · exact .inl hx
    · simp at hy; subst hy; exact .inr rfl
    · simp at hy
 refine (calls_of_xc hT hfn hb (by simp only [List.length_append, List.length_cons]; exact hn) (by simp) (fun i hi => ?_) hst (h w av b o)).mono ?_
 · rw [nth_eq, nth_eq]
   by_cases h1 : i < pre.length
   · rw [List.getElem?_append_left (by simpa using h1), List.getElem?_append_left h1, List.getElem?_map, List.getElem?_eq_getElem h1]
     rfl
   · rw [List.getElem?_append_right (by simp; omega), List.getElem?_append_right (by omega)]
     simp only [List.length_map]
     cases hk : i - pre.length with
     | zero => exact ⟨by simp [ptr, nth], by simp⟩
     | succ k =>
      simp only [List.getElem?_cons_succ, List.getElem?_map]
      have : k < post.length := by simp at hi; omega
      rw [List.getElem?_eq_getElem this]
      rfl
 · rintro e w' ⟨v, bs', cs', D', rfl, h1, h2⟩
   unfold ptrFin at h2
   split at h2
   · rename_i b' o' bs c' cs
     obtain ⟨⟨rfl, rfl, hl⟩, D2, h3, h4⟩ := h2
     have h5 := h1.ent h3
     refine ⟨v, c', D2, rfl, h1.keep, hl, h1.box.1, ⟨h5.newRows fun k => ⟨o' + cells.length, fun hR => by have := hR.2.2; omega⟩, (List.nodup_append.1 h5.nd).2.1, h5.data.less fun x hx => ?_⟩, h4⟩
     rcases hx with (hx | rfl) | hx
     · exact .inl hx
     · exact .inr (.inl ⟨_, List.mem_cons_self .., rfl⟩)
     · exact .inr (.inr hx)
   · exact h2.elim

theorem Range.sub {w : World} {b o s : Nat} {c : List Value} (h : Range w b o c) (n : Nat) (hs : s + n ≤ c.length) : Range w b (o + s) ((c.drop s).take n) := by
 obtain ⟨arr, e, h1, h2⟩ := h
 refine ⟨arr, e, h1, fun j hj => ?_⟩
 simp at hj
 rw [List.getElem?_take, if_pos (by omega), List.getElem?_drop, Nat.add_assoc, h2 _ (by omega)]

/-- The box behind a call that wrote a part of it. -/
theorem Range.after {w w' : World} {b o s : Nat} {c c' : List Value} (h : Range w b o c) (hk : KeepX (Rg b (o + s) c'.length) w w') (hr : Range w' b (o + s) c') (hs : s + c'.length ≤ c.length) :
 Range w' b o (c.take s ++ c' ++ c.drop (s + c'.length)) := by
 obtain ⟨arr, e, h1, h2⟩ := h
 obtain ⟨arr', e', h1', h2'⟩ := hr
 refine ⟨arr', e', h1', fun j hj => ?_⟩
 simp only [List.length_append, List.length_take, List.length_drop] at hj
 by_cases hin : s ≤ j ∧ j < s + c'.length
 · have := h2' (j - s) (by omega)
   rw [show o + s + (j - s) = o + j from by omega] at this
   rw [this, List.append_assoc, List.getElem?_append_right (by simp only [List.length_take]; omega), List.getElem?_append_left (by simp only [List.length_take]; omega)]
   congr 1
   simp only [List.length_take]
   omega
 · obtain ⟨o', ho', hs'⟩ := hk.obj b _ h1
   rw [h1'] at ho'
   have hcell : arr'[o + j]? = arr[o + j]? := by
    rcases hs' with he | ⟨x, y, e1, f1, hx, hy, _, hi⟩ | ⟨_, es, n, es', n', hx, hy⟩
    rotate_left 2
    · cases hx
    · rw [← he] at ho'; cases ho'; rfl
    · rw [hy] at ho'
      cases ho'
      cases hx
      exact hi _ (fun hr => hin ⟨by have := hr.2.1; omega, by have := hr.2.2; omega⟩)
   rw [hcell, h2 j (by omega)]
   by_cases hlt : j < s
   · rw [List.append_assoc, List.getElem?_append_left (by simp only [List.length_take]; omega), List.getElem?_take, if_pos hlt]
   · rw [List.getElem?_append_right (by simp only [List.length_take, List.length_append]; omega), List.getElem?_drop]
     congr 1
     simp only [List.length_take, List.length_append]
     omega

/-- A box takes new cells, and more is known. -/
theorem St.put2 {w w' : World} {bs : List (Nat × Nat)} {cs : List (List Value)} {F F' : Fx} (h : St w0 R av w bs cs F) (i : Nat) (hi : i < bs.length) (c' : List Value) (hlen : c'.length = (nth [] cs i).length)
 (hw : KeepX (fun b o => b = (nth (0, 0) bs i).1 ∧ (nth (0, 0) bs i).2 ≤ o ∧ o < (nth (0, 0) bs i).2 + (nth [] cs i).length) w w')
 (hr : Range w' (nth (0, 0) bs i).1 (nth (0, 0) bs i).2 c') (hd : FxOk (Av av bs F.rs) w.heap.size w' F') : St w0 R av w' bs (cs.set i c') (F.and F') := by
 have hp := h.put i hi c' hlen hw hr
 refine ⟨hp.keep, hp.box, ?_, hp.own, hp.avlt, fun r hr => ?_, ?_⟩
 · show (bs.map (·.1) ++ (F.rs ++ F'.rs).map (·.1)).Nodup
   rw [List.map_append, ← List.append_assoc, List.nodup_append]
   refine ⟨h.nd, hd.nd, fun x hx y hy hxy => ?_⟩
   subst hxy
   obtain ⟨r, hr, rfl⟩ := List.mem_map.1 hy
   have h1 := (hd.rows r hr).2
   rcases List.mem_append.1 hx with hx | hx
   · obtain ⟨z, hz, he⟩ := List.mem_map.1 hx
     have := h.box.lt z hz
     omega
   · obtain ⟨z, hz, he⟩ := List.mem_map.1 hx
     have := (h.rows z hz).1.lt
     omega
 · rcases List.mem_append.1 hr with hr | hr
   · exact hp.rows r hr
   · exact ⟨(hd.rows r hr).1, .inl (Nat.le_trans h.keep.size (hd.rows r hr).2)⟩
 · refine Holds.and ?_ ?_
   · refine h.data.move hw.size (fun b hb hna => hw.same hb (fun _ hR => hna (.inr (.inl ⟨_, mem_nth hi, hR.1.symm⟩)))) (fun b hb => ?_)
     rcases hb with hb | hb | ⟨r, hr, rfl⟩
     · exact .inl (.inl hb)
     · exact .inl (.inr (.inl hb))
     · rcases List.mem_append.1 hr with hr | hr
       · exact .inl (.inr (.inr ⟨r, hr, rfl⟩))
       · exact .inr (hd.rows r hr).2
   · refine hd.data.less fun b hb => ?_
     rcases hb with hb | hb | ⟨r, hr, rfl⟩
     · exact .inl (.inl hb)
     · exact .inl (.inr (.inl hb))
     · rcases List.mem_append.1 hr with hr | hr
       · exact .inl (.inr (.inr ⟨r, hr, rfl⟩))
       · exact .inr ⟨r, hr, rfl⟩

/-- A call that writes a part of a box. -/
theorem XCall.ptr {f : FuncId} {vs pre post c : List Value} {Pre : World → Prop} {Rel : Value → List Value → Fx → Prop} {bs : List (Nat × Nat)} {cs : List (List Value)} {D : Fx} {K : KV}
 (spec : PtrSpec P f pre post c Pre Rel) (i s : Nat) (hvs : vs = pre ++ Sx.ptr bs i s :: post) (hsub : nthK cs i fun l => subK l s c.length fun m => m = c) (hpre : ∀ w, D.D w → Pre w)
 (h : ∀ v c' D', c'.length = c.length → Rel v c' D' → nthK cs i fun l => overK l s c' fun l' => setK cs i l' fun cs' => K v bs cs' (D.and D')) : XCall P w0 R av f vs bs cs D K := by
 subst hvs
 obtain ⟨hi, hsub⟩ := nthK_iff [] hsub
 obtain ⟨hle, hsub⟩ := subK_iff hsub
 refine XCall_iff.2 ⟨spec.1, fun w hst => ?_⟩
 obtain ⟨hr, hib⟩ := hst.box.get i hi
 have hr2 := hr.sub c.length hle
 rw [hsub] at hr2
 have hiff : ∀ x, Av av bs D.rs x ↔ ((Av av bs D.rs x ∧ x ≠ (nth (0, 0) bs i).1) ∨ x = (nth (0, 0) bs i).1) := fun x => by
  constructor
  · intro hx
    by_cases he : x = (nth (0, 0) bs i).1
    · exact .inr he
    · exact .inl ⟨hx, he⟩
  · rintro (hx | rfl)
    · exact hx.1
    · exact .inr (.inl ⟨_, mem_nth hib, rfl⟩)
 refine (spec.2 (fun x => Av av bs D.rs x ∧ x ≠ (nth (0, 0) bs i).1) w _ _ (fun x hx => hst.avb hx.1) hr2 ((hst.data.imp hpre).less fun x hx => (hiff x).2 hx)).mono ?_
 rintro e w' ⟨v, c', D', rfl, h1, h2, h3, h4, h5⟩
 have hk := h v c' D' h2 h5
 obtain ⟨_, hk⟩ := nthK_iff [] hk
 obtain ⟨hov, hk⟩ := overK_iff hk
 obtain ⟨_, hk⟩ := setK_iff hk
 have hka : KeepX (Rg (nth (0, 0) bs i).1 ((nth (0, 0) bs i).2 + s) c'.length) w w' := by rw [h2]; exact h1
 have hput := hst.put2 i hib _ (by simp only [List.length_append, List.length_take, List.length_drop]; omega)
  (h1.mono fun k j hkj => ⟨hkj.1, by have := hkj.2.1; omega, by have := hkj.2.2; omega⟩) (hr.after hka h3 hov)
  ⟨h4.rows, h4.nd, h4.data.less fun x hx => hx.elim (fun hx => .inl ((hiff x).1 hx)) .inr⟩
 exact ⟨v, [], _, _, rfl, by rw [List.append_nil]; exact hput, by rw [List.append_nil]; exact hk⟩

/-! ### loops -/

theorem wp_loop_ghost {c : Code} {Q : Exit → Act → World → Prop} {a : Act} {w : World} {ι : Type} (I : ι → Act → World → Prop) (μ : ι → Nat) (i0 : ι) (h0 : I i0 a w)
 (round : ∀ i a w, I i a w → c.wp P (Exit.then (fun a' w' => ∃ i', I i' a' w' ∧ μ i' < μ i) Q) a w) : (Code.loop c).wp P Q a w := by
 intro b k cs
 have key : ∀ n i a w, μ i = n → I i a w → ∃ e a' w', Q e a' w' ∧ Arrives P (lone (b.at a (.code c :: .inLoop c :: k)) cs w) b k cs e a' w' := by
  intro n
  induction n using Nat.strongRecOn with
  | _ n ih =>
   intro i a w hn hI
   obtain ⟨e, a1, w1, hq, harr⟩ := round i a w hI b (.inLoop c :: k) cs
   cases e with
   | normal =>
    obtain ⟨i1, hI1, hlt⟩ := hq
    obtain ⟨e2, a2, w2, hq2, harr2⟩ := ih (μ i1) (hn ▸ hlt) i1 a1 w1 rfl hI1
    exact ⟨e2, a2, w2, hq2, .of_steps (Steps.trans harr (.one step_inLoop)) harr2⟩
   | exit id => exact ⟨_, a1, w1, hq, .pass (x := .inLoop c) rfl (fun _ _ => .inl (by simp)) harr⟩
   | goto l => exact ⟨_, a1, w1, hq, .pass (x := .inLoop c) rfl (fun _ _ => .inl (by simp)) harr⟩
   | ret => exact ⟨_, a1, w1, hq, .pass (x := .inLoop c) rfl (fun _ _ => .inl (by simp)) harr⟩
   | panic ch => exact ⟨_, a1, w1, hq, .pass (x := .inLoop c) rfl (fun _ _ => .inl (by simp)) harr⟩
   | outgrown => exact ⟨_, a1, w1, hq, .pass (x := .inLoop c) rfl (fun _ _ => .inl (by simp)) harr⟩
 obtain ⟨e, a', w', hq, harr⟩ := key _ i0 a w rfl h0
 exact ⟨e, a', w', hq, .of_steps (.one step_loop) harr⟩

/-- The second frame says no more than the first. -/
def FLe : List SV → List SV → Prop
 | [], [] => True
 | _ :: xs, .any :: ys => FLe xs ys
 | x :: xs, y :: ys => x = y ∧ FLe xs ys
 | _, _ => False

theorem FLe.nil : FLe [] [] := trivial
theorem FLe.any {x : SV} {xs ys : List SV} (h : FLe xs ys) : FLe (x :: xs) (.any :: ys) := by simpa [FLe] using h
theorem FLe.cons {x : SV} {xs ys : List SV} (h : FLe xs ys) : FLe (x :: xs) (x :: ys) := by cases x <;> simp [FLe, h]
theorem FLe.eq {x y : SV} {xs ys : List SV} (e : x = y) (h : FLe xs ys) : FLe (x :: xs) (y :: ys) := e ▸ h.cons

theorem FLe.len : ∀ {xs ys : List SV}, FLe xs ys → xs.length = ys.length
 | [], [], _ => rfl
 | x :: xs, y :: ys, h => by
  have : FLe xs ys := by cases y <;> simp_all [FLe]
  simp [this.len]
 | [], y :: ys, h => by simp [FLe] at h
 | x :: xs, [], h => by simp [FLe] at h

theorem FLe.at : ∀ {xs ys : List SV}, FLe xs ys → ∀ t, nth .any ys t = .any ∨ nth .any xs t = nth .any ys t
 | [], [], _, t => .inl rfl
 | x :: xs, y :: ys, h, 0 => by
  cases y with
  | any => exact .inl rfl
  | _ => exact .inr h.1
 | x :: xs, y :: ys, h, t + 1 => by
  have : FLe xs ys := by cases y <;> simp_all [FLe]
  exact this.at t
 | [], y :: ys, h, _ => by simp [FLe] at h
 | x :: xs, [], h, _ => by simp [FLe] at h

theorem FLe.ok {xs ys : List SV} (h : FLe xs ys) {bs : List (Nat × Nat)} {a : Array Value} (hf : FrameOk bs xs a) : FrameOk bs ys a := by
 refine ⟨by rw [← h.len]; exact hf.len, fun t => ?_⟩
 rcases h.at t with he | he
 · rw [he]; exact trivial
 · rw [← he]; exact hf.ok t

def havocK (A : List Nat) : List SV → Nat → (List SV → Prop) → Prop
 | [], _, K => K []
 | x :: xs, n, K => match memN A n with
  | true => havocK A xs (n + 1) fun l => K (.any :: l)
  | false => havocK A xs (n + 1) fun l => K (x :: l)

theorem havocK_iff {A : List Nat} : ∀ {l : List SV} {n : Nat} {K : List SV → Prop}, havocK A l n K → ∃ m, K m ∧ ∀ K', havocK A l n K' → K' m
 | [], _, K, h => ⟨[], h, fun _ h => h⟩
 | x :: xs, n, K, h => by
  simp only [havocK] at h
  cases hm : memN A n with
  | true =>
   rw [hm] at h
   obtain ⟨m, h1, h2⟩ := havocK_iff h
   exact ⟨_, h1, fun K' h' => by simp only [havocK, hm] at h'; exact h2 _ h'⟩
  | false =>
   rw [hm] at h
   obtain ⟨m, h1, h2⟩ := havocK_iff h
   exact ⟨_, h1, fun K' h' => by simp only [havocK, hm] at h'; exact h2 _ h'⟩

def setsK : List (Nat × SV) → List SV → (List SV → Prop) → Prop
 | [], tm, K => K tm
 | (t, s) :: r, tm, K => setK tm t s fun tm' => setsK r tm' K

theorem setsK_iff : ∀ {r : List (Nat × SV)} {tm : List SV} {K : List SV → Prop}, setsK r tm K → ∃ m, K m ∧ ∀ K', setsK r tm K' → K' m
 | [], tm, K, h => ⟨tm, h, fun _ h => h⟩
 | (t, s) :: r, tm, K, h => by
  obtain ⟨h0, h⟩ := setK_iff h
  obtain ⟨m, h1, h2⟩ := setsK_iff h
  exact ⟨m, h1, fun K' h' => h2 _ (setK_iff h').2⟩

/-- The boxes are those, and perhaps more. -/
def BLe : List (Nat × Nat) → List (List Value) → List (Nat × Nat) → List (List Value) → Prop
 | _, _, [], [] => True
 | b' :: bs', c' :: cs', b :: bs, c :: cs => (b' = b ∧ c' = c) ∧ BLe bs' cs' bs cs
 | _, _, _, _ => False

theorem BLe.parts : ∀ {bs' : List (Nat × Nat)} {cs' : List (List Value)} {bs : List (Nat × Nat)} {cs : List (List Value)}, bs'.length = cs'.length → BLe bs' cs' bs cs →
 ∃ e f, bs' = bs ++ e ∧ cs' = cs ++ f ∧ bs.length = cs.length
 | bs', cs', [], [], _, _ => ⟨bs', cs', rfl, rfl, rfl⟩
 | b' :: bs', c' :: cs', b :: bs, c :: cs, hl, h => by
  obtain ⟨⟨rfl, rfl⟩, h⟩ := h
  obtain ⟨e, f, h1, h2, h3⟩ := BLe.parts (by simpa using hl) h
  exact ⟨e, f, by rw [h1]; rfl, by rw [h2]; rfl, by simp [h3]⟩
 | [], _, _ :: _, _, _, h => by simp [BLe] at h
 | [], _, [], _ :: _, _, h => by simp [BLe] at h
 | _ :: _, [], _ :: _, _, hl, _ => by simp at hl
 | _ :: _, _, [], _ :: _, _, h => by simp [BLe] at h
 | _ :: _, _, _ :: _, [], _, h => by simp [BLe] at h

theorem Boxes.left {w : World} : ∀ {bs : List (Nat × Nat)} {cs : List (List Value)} {e : List (Nat × Nat)} {f : List (List Value)}, bs.length = cs.length → Boxes w (bs ++ e) (cs ++ f) → Boxes w bs cs
 | [], [], _, _, _, _ => trivial
 | (b, o) :: bs, c :: cs, e, f, hl, h => ⟨h.1, Boxes.left (by simpa using hl) h.2⟩
 | [], _ :: _, _, _, hl, _ => by simp at hl
 | _ :: _, [], _, _, hl, _ => by simp at hl

theorem St.left {w : World} {bs e : List (Nat × Nat)} {cs f : List (List Value)} {D : Fx} (h : St w0 R av w (bs ++ e) (cs ++ f) D) (hl : bs.length = cs.length) : St w0 R av w bs cs D := by
 refine ⟨h.keep, h.box.left hl, ?_, fun i hi => ?_, h.avlt, h.rows, h.data.less fun b hb => ?_⟩
 · refine h.nd.sublist (List.Sublist.append ?_ (List.Sublist.refl _))
   rw [List.map_append]
   exact List.sublist_append_left _ _
 · have := h.own i (by simp; omega)
   rw [nth_append_left _ _ _ _ hi, nth_append_left _ _ _ _ (by omega)] at this
   exact this
 · rcases hb with hb | ⟨x, hx, rfl⟩ | hb
   · exact .inl hb
   · exact .inr (.inl ⟨x, List.mem_append_left _ hx, rfl⟩)
   · exact .inr (.inr hb)

def pOk (n : Nat) : SV → Bool
 | .p i _ => Nat.blt i n
 | .g _ _ x => pOk n x
 | _ => true

def pAll (n : Nat) : List SV → Bool
 | [] => true
 | x :: xs => match pOk n x with
  | true => pAll n xs
  | false => false

theorem pAll_at {n : Nat} : ∀ {l : List SV}, pAll n l = true → ∀ t, pOk n (nth .any l t) = true
 | [], _, _ => rfl
 | x :: xs, h, 0 => by
  simp only [pAll] at h
  split at h
  · assumption
  · cases h
 | x :: xs, h, t + 1 => by
  simp only [pAll] at h
  split at h
  · exact pAll_at h t
  · cases h

theorem SVok.back {bs ex : List (Nat × Nat)} : ∀ {s : SV} {y : Value}, pOk bs.length s = true → SVok (bs ++ ex) s y → SVok bs s y
 | .v _, _, _, h => h
 | .p i o, y, hp, h => by
  obtain ⟨h1, h2⟩ := h
  have hi : i < bs.length := by simpa [pOk, Nat.blt_eq] using hp
  refine ⟨?_, hi⟩
  rw [h1]
  unfold ptr
  rw [nth_append_left _ _ _ _ hi]
 | .g c pol x, _, hp, h => fun hc => SVok.back (s := x) hp (h hc)
 | .any, _, _, _ => trivial

def loopK {ι : Type} (I : ι → Prop) (vals : ι → List (Nat × SV)) (csI : ι → List (List Value)) (DI : ι → Fx) (μ : ι → Nat) (i : ι) (tm0 : List SV) (bs : List (Nat × Nat)) (K : Exit → KT) : Exit → KT :=
 fun e tm' bs' cs' D' => match e with
  | .normal => ∃ i', (I i' ∧ μ i' < μ i) ∧ (setsK (vals i') tm0 fun t => FLe tm' t ∧ pAll bs.length t = true) ∧ BLe bs' cs' bs (csI i') ∧ Ent D' (DI i')
  | e => K e tm' bs' cs' D'

theorem XStop.loop (hT : TabOk P tab) {ι : Type} {body : Code} {tm : List SV} {bs : List (Nat × Nat)} {cs : List (List Value)} {D : Fx} {K : Exit → KT} (A : List Nat) (I : ι → Prop)
 (vals : ι → List (Nat × SV)) (csI : ι → List (List Value)) (DI : ι → Fx) (μ : ι → Nat) (i0 : ι) (h0 : I i0)
 (start : havocK A tm 0 fun tm0 => setsK (vals i0) tm0 fun tm1 => FLe tm tm1) (hcs : cs = csI i0) (hD : Ent D (DI i0))
 (round : ∀ i, I i → havocK A tm 0 fun tm0 => setsK (vals i) tm0 fun tm1 => xc P tab w0 R av body tm1 bs (csI i) (DI i) (loopK I vals csI DI μ i tm0 bs K)) :
 XStop P w0 R av (.loop body) tm bs cs D K := by
 obtain ⟨tm0, start, htm0⟩ := havocK_iff start
 refine XStop_iff.2 fun a w hf hst => ?_
 refine wp_loop_ghost (ι := ι) (fun i act w => I i ∧ act.defers = [] ∧ (∃ tmi, FrameOk bs tmi act.tmps ∧ ∀ K', setsK (vals i) tm0 K' → K' tmi) ∧ St w0 R av w bs (csI i) (DI i)) μ i0 ?_ ?_
 · obtain ⟨m, h1, h2⟩ := setsK_iff start
   refine ⟨h0, rfl, ⟨m, h1.ok hf, h2⟩, ?_⟩
   rw [← hcs]
   exact hst.ent hD
 · rintro i act w ⟨hI, hd, ⟨tmi, hfi, hmi⟩, hsti⟩
   have hx := hmi _ (htm0 _ (round i hI))
   rw [act_eta hd]
   refine wp_mono (xc_sound hT body _ _ _ _ _ _ _ hx hfi hsti) ?_
   rintro e act' w' ⟨hd', tm', bs', cs', D', h1, h2, h3⟩
   cases e with
   | normal =>
    obtain ⟨i', ⟨hi1, hi2⟩, hs, hbl, hDD⟩ := h3
    obtain ⟨m, hm1, hm2⟩ := setsK_iff hs
    obtain ⟨ex, fx, rfl, rfl, hl⟩ := hbl.parts h2.box.len.symm
    have hm := hm1.1.ok h1
    exact ⟨i', ⟨hi1, hd', ⟨m, ⟨hm.len, fun t => (hm.ok t).back (pAll_at hm1.2 t)⟩, hm2⟩, (h2.left hl).ent hDD⟩, hi2⟩
   | _ => exact ⟨hd', tm', bs', cs', D', h1, h2, h3⟩

end
attribute [irreducible] FLe PtrSpec
end Go.Sx
namespace Go.Sx
set_option linter.unusedVariables false

/-! ### definitions -/

def edgeOn (e : Edge) : Option Nat := match e.ground with
 | .textOnly _ => none
 | .gcOnly _ => none
 | _ => some e.on

def nthB : List Bool → Nat → Bool
 | [], _ => false
 | x :: _, 0 => x
 | _ :: xs, n + 1 => nthB xs n

/-- All that an operation waits for is listed. -/
def waitsOk (L : List Bool) : List Edge → Bool
 | [] => true
 | e :: r => match edgeOn e with
  | none => waitsOk L r
  | some i => match nthB L i with
   | true => waitsOk L r
   | false => false

def after1 (i : Nat) : List Edge → Bool
 | [] => false
 | e :: r => match edgeOn e with
  | none => after1 i r
  | some k => match Nat.beq i k with
   | true => true
   | false => after1 i r

def readsT (d : Nat) : List Operand → Bool
 | [] => false
 | .tmp t :: r => match Nat.beq t d with
  | true => true
  | false => readsT d r
 | _ :: r => readsT d r

/-- The operation looks at slot d: an operand, or its guard. -/
def looks (all : List Oper) (d : Nat) (o : Oper) : Bool :=
 match readsT d o.op.operands.toList with
 | true => true
 | false => match o.guard with
  | none => false
  | some (j, _) => match ((all[j]?).bind (·.dst)) with
   | some t => Nat.beq t d
   | none => false

def dstIs (d : Nat) (o : Oper) : Bool := match o.dst with
 | some t => Nat.beq t d
 | none => false

/-- The i-th operation, which writes slot d: whoever looks at d waits for it; nobody else writes d; and it looks at nothing that one writes for whom it does not wait. -/
def freeFrom (all : List Oper) (i d : Nat) (oi : Oper) : List Oper → Nat → Bool
 | [], _ => true
 | o :: r, j => match Nat.beq i j with
  | true => match looks all d oi with
   | true => false
   | false => freeFrom all i d oi r (j + 1)
  | false => match looks all d o, after1 i o.after.toList with
   | true, false => false
   | _, _ => match dstIs d o with
    | true => false
    | false => match o.dst with
     | none => freeFrom all i d oi r (j + 1)
     | some t => match looks all t oi, after1 j oi.after.toList with
      | true, false => false
      | _, _ => freeFrom all i d oi r (j + 1)

/-- Edges point back. -/
def backOk : List Edge → Nat → Bool
 | [], _ => true
 | e :: r, i => match edgeOn e with
  | none => backOk r i
  | some k => match Nat.blt k i with
   | true => backOk r i
   | false => false

def allBack : List Oper → Nat → Bool
 | [], _ => true
 | o :: r, i => match backOk o.after.toList i with
  | true => allBack r (i + 1)
  | false => false

def noSel : List Oper → Bool
 | [] => true
 | o :: r => match o.op with
  | .select _ _ => false
  | _ => noSel r

/-- Some flag where the operation only reads; the flag: it reads memory. -/
def readOp (tab : Tab) (tm : List SV) : Op → Option Bool
 | .load _ _ => some true
 | .indexAddr _ _ _ => some true
 | .index _ _ _ => some true
 | .slice _ _ _ _ _ => some true
 | .convert s d _ => match scalarT tab s, scalarT tab d with
  | true, true => some false
  | _, _ => some true
 | .move _ | .assign _ | .fieldAddr _ _ _ | .field _ _ _ | .extract _ _ | .nilCheck _ | .makeFunc _ _ _ | .pick _ _ _ | .build _ _ => some false
 | .unOp _ t _ => match scalarT tab t with
  | true => some false
  | false => none
 | .binOp op t _ _ _ => match op with
  | .shl | .shr => some true
  | _ => match scalarT tab t with
   | true => some false
   | false => some true
 | .call ⟨.builtin .len, ⟨[_]⟩, ⟨[t]⟩⟩ => match lenT tab t with
  | true => some false
  | false => none
 | .call ⟨.builtin .min, _, _⟩ => some true
 | .call ⟨.builtin .max, _, _⟩ => some true
 | .call ⟨.builtin .cap, _, _⟩ => some true
 | _ => none

def findQ (tab : Tab) (all : List Oper) (tm : List SV) (L : List Bool) : List Oper → Nat → Option (Nat × Bool)
 | [], _ => none
 | o :: r, i => match nthB L i, waitsOk L o.after.toList, readOp tab tm o.op, o.dst with
  | false, true, some m, some d => match freeFrom all i d o all 0 with
   | true => some (i, m)
   | false => findQ tab all tm L r (i + 1)
  | _, _, _, _ => findQ tab all tm L r (i + 1)

def readyL (L : List Bool) : List Oper → Nat → List Nat
 | [], _ => []
 | o :: r, i => match nthB L i, waitsOk L o.after.toList with
  | false, true => i :: readyL L r (i + 1)
  | _, _ => readyL L r (i + 1)

def setB : List Bool → Nat → List Bool
 | [], _ => []
 | _ :: xs, 0 => true :: xs
 | x :: xs, n + 1 => x :: setB xs n

/-- What a value that was read early hangs on. -/
inductive Dep where
 | none
 | box (j : Nat)
 | all
 | base
 | fact

def edgesOf : List Oper → Nat → List Edge
 | [], _ => []
 | o :: _, 0 => o.after.toList
 | _ :: r, n + 1 => edgesOf r n

/-- The edges of those that these edges' data come from. -/
def dataBack (all : List Oper) : List Edge → List Edge
 | [] => []
 | e :: r => match e.ground with
  | .data => match edgeOn e with
   | some k => edgesOf all k ++ dataBack all r
   | none => dataBack all r
  | _ => dataBack all r

/-- Operation i comes first, through up to n steps of data. -/
def afterT (all : List Oper) : Nat → Nat → List Edge → Bool
 | 0, i, es => after1 i es
 | n + 1, i, es => match after1 i es with
  | true => true
  | false => afterT all n i (dataBack all es)

/-- The early ones that are still to be held when an operation with these edges has run. -/
def dropE (all : List Oper) (es : List Edge) : List (Nat × Dep) → List (Nat × Dep)
 | [] => []
 | (i, m) :: r => match afterT all 3 i es with
  | true => dropE all es r
  | false => (i, m) :: dropE all es r

def anyAll : List (Nat × Dep) → Bool
 | [] => false
 | (_, .all) :: _ => true
 | (_, .none) :: r => anyAll r
 | (_, .base) :: r => anyAll r
 | (_, .box _) :: r => anyAll r
 | (_, .fact) :: r => anyAll r

def anyFact : List (Nat × Dep) → Bool
 | [] => false
 | (_, .fact) :: _ => true
 | (_, .all) :: r => anyFact r
 | (_, .none) :: r => anyFact r
 | (_, .base) :: r => anyFact r
 | (_, .box _) :: r => anyFact r

/-- A box that was read early is as it was. -/
structure XKeep (b b' : Nat × Nat) (c c' : List Value) (K : Prop) : Prop where
 b : b' = b
 c : c' = c
 rest : K

theorem XKeep.of {b : Nat × Nat} {c : List Value} {K : Prop} (h : K) : XKeep b b c c K := ⟨rfl, rfl, h⟩

def boxesK (bs : List (Nat × Nat)) (cs : List (List Value)) (bs' : List (Nat × Nat)) (cs' : List (List Value)) (K : Prop) : List (Nat × Dep) → Prop
 | [] => K
 | (_, .box j) :: r => nthK bs j fun b => nthK bs' j fun b' => nthK cs j fun c => nthK cs' j fun c' => XKeep b b' c c' (boxesK bs cs bs' cs' K r)
 | (_, .none) :: r => boxesK bs cs bs' cs' K r
 | (_, .base) :: r => boxesK bs cs bs' cs' K r
 | (_, .all) :: r => boxesK bs cs bs' cs' K r
 | (_, .fact) :: r => boxesK bs cs bs' cs' K r

/-- What was read early is still so. -/
structure XHeld (bs : List (Nat × Nat)) (cs : List (List Value)) (D : Fx) (bs' : List (Nat × Nat)) (cs' : List (List Value)) (D' : Fx) (K : Prop) : Prop where
 data : Ent D' D
 rest : K

def wantK (all : List Oper) (o : Oper) (tm : List SV) (Y N : Prop) : Prop := match o.guard with
 | none => Y
 | some (j, pol) => nthK all j fun oj => match oj.dst with
  | none => False
  | some t => nthK tm t fun s => match s with
   | .v (.bool true) => match pol with
    | true => Y
    | false => N
   | .v (.bool false) => match pol with
    | true => N
    | false => Y
   | .v (.tuple _) => N
   | _ => False

def isGuard (i : Nat) : List Oper → Bool
 | [] => false
 | o :: r => match o.guard with
  | some (j, _) => match Nat.beq i j with
   | true => true
   | false => isGuard i r
  | none => isGuard i r

/-- A guard's value is parted at once. -/
def guardSplit (all : List Oper) (i : Nat) (o : Oper) (tm : List SV) (K : List SV → Prop) : Prop := match isGuard i all, o.dst with
 | true, some d => nthK tm d fun s => match s with
  | .v (.bool c) => XIf c (setK tm d (.v (.bool true)) K) (setK tm d (.v (.bool false)) K)
  | _ => K tm
 | _, _ => K tm

section
variable (P : Program) (tab : Tab) (w0 : World) (R : Nat → Nat → Prop) (av : Nat → Prop)

def XRead (m : Sem Value) (bs : List (Nat × Nat)) (cs : List (List Value)) (D : Fx) (K : Value → Prop) : Prop :=
 ∃ v, (∀ w, St w0 R av w bs cs D → m.run P w = .ok v w) ∧ K v

theorem XRead_iff {m : Sem Value} {bs : List (Nat × Nat)} {cs : List (List Value)} {D : Fx} {K : Value → Prop} : XRead P w0 R av m bs cs D K ↔ ∃ v, (∀ w, St w0 R av w bs cs D → m.run P w = .ok v w) ∧ K v := Iff.rfl

/-- What a value that was read early hangs on is chosen: all that is known, or the facts alone. -/
def XDep (m : Sem Value) (D : Fx) (v : Value) (K : Dep → Prop) : Prop :=
 K .all ∨ ((∀ w, St w0 R av w [] [] ⟨D.D, []⟩ → m.run P w = .ok v w) ∧ K .fact)

theorem XDep_iff {m : Sem Value} {D : Fx} {v : Value} {K : Dep → Prop} : XDep P w0 R av m D v K ↔ (K .all ∨ ((∀ w, St w0 R av w [] [] ⟨D.D, []⟩ → m.run P w = .ok v w) ∧ K .fact)) := Iff.rfl

theorem XDep.all {m : Sem Value} {D : Fx} {v : Value} {K : Dep → Prop} (h : K .all) : XDep P w0 R av m D v K := .inl h

theorem XDep.fact {m : Sem Value} {D : Fx} {v : Value} {K : Dep → Prop} (h : XRead P w0 R av m [] [] ⟨D.D, []⟩ fun u => u = v) (k : K .fact) : XDep P w0 R av m D v K := by
 obtain ⟨u, h1, rfl⟩ := (XRead_iff P w0 R av).1 h
 exact .inr ⟨h1, k⟩

def xread (fl : Bool) (o : Oper) (tm : List SV) (bs : List (Nat × Nat)) (cs : List (List Value)) (D : Fx) (K : SV → Dep → Prop) : Prop :=
 let KR : Value → Prop := fun v => K (.v v) .all
 let KB : Value → Prop := fun v => K (.v v) .base
 let F0 : Fx := ⟨fun _ => True, []⟩
 match o.op with
 | .load t x => evG tm [] x fun sx => match sx with
  | .p j s => match look tab t with
   | some ti => loadK ti cs j s fun sv => K sv (.box j)
   | none => False
  | .v v => match fl with
   | false => XRead P w0 R av (Instr.loadAt t v) [] [] D KR
   | true => XRead P w0 R av (Instr.loadAt t v) [] [] D fun u => XDep P w0 R av (Instr.loadAt t v) D u fun dep => K (.v u) dep
  | _ => False
 | op => xpure tab [] op tm bs cs (fun sv => K sv .none) (match op with
  | .indexAddr t x i => evV tm [] bs x fun v => evV tm [] bs i fun n => XRead P w0 R av (Instr.indexAt t v n) [] [] F0 KB
  | .index t x i => evV tm [] bs x fun v => evV tm [] bs i fun n => XRead P w0 R av (Instr.index t v n) [] [] F0 KB
  | .slice t x lo hi mx => evV tm [] bs x fun v => evO tm [] bs lo fun a => evO tm [] bs hi fun b => evO tm [] bs mx fun c => XRead P w0 R av (Instr.sliceAt t v a b c) [] [] F0 KB
  | .convert s d x => evV tm [] bs x fun v => XRead P w0 R av (convert s d v) [] [] D KR
  | .binOp op t x y _ => evV tm [] bs x fun v => evV tm [] bs y fun u => XRead P w0 R av (do eqGuard op t x y v u; binOp op t v u) [] [] F0 KB
  | .build t ⟨ps⟩ => evPs tm [] bs ps fun vs => XRead P w0 R av (Instr.build t ⟨vs⟩) [] [] F0 KB
  | .call ⟨.builtin b, ⟨xs⟩, ts⟩ => evVs tm [] bs xs fun vs => match semB b ts o.type ⟨vs⟩ with
   | some m => XRead P w0 R av m [] [] F0 KB
   | none => False
  | _ => False)

def heldK (E : List (Nat × Dep)) (bs : List (Nat × Nat)) (cs : List (List Value)) (D : Fx) (bs' : List (Nat × Nat)) (cs' : List (List Value)) (D' : Fx) (K : Prop) : Prop :=
 match anyAll E with
 | true => XHeld bs cs D bs' cs' D' (match anyFact E with
  | true => XHeld bs cs ⟨D.D, []⟩ bs' cs' ⟨D'.D, []⟩ (boxesK bs cs bs' cs' K E)
  | false => boxesK bs cs bs' cs' K E)
 | false => match anyFact E with
  | true => XHeld bs cs ⟨D.D, []⟩ bs' cs' ⟨D'.D, []⟩ (boxesK bs cs bs' cs' K E)
  | false => boxesK bs cs bs' cs' K E

def allK (S : Nat → Prop) : List Nat → Prop
 | [] => False
 | [j] => S j
 | j :: r => S j ∧ allK S r

def xany (fl : Bool) (all : List Oper) : Nat → List Bool → List (Nat × Dep) → List SV → List (Nat × Nat) → List (List Value) → Fx → KT → Prop
 | 0, _, _, _, _, _, _, _ => False
 | n + 1, L, E, tm, bs, cs, D, K => match findQ tab all tm L all 0 with
  | some (i, m) => nthK all i fun o => wantK all o tm
   (xread P tab w0 R av fl o tm bs cs D fun sv dep => fin o.dst tm sv fun tm => guardSplit all i o tm fun tm => xany fl all n (setB L i) ((i, dep) :: E) tm bs cs D K)
   (fin o.dst tm (.v undef) fun tm => xany fl all n (setB L i) ((i, .none) :: E) tm bs cs D K)
  | none => match readyL L all 0 with
   | [] => K tm bs cs D
   | j :: r => allK (fun j => nthK all j fun o => wantK all o tm
    (xop P tab w0 R av o tm bs cs D fun tm' bs' cs' D' => heldK (dropE all o.after.toList E) bs cs D bs' cs' D'
     (guardSplit all j o tm' fun tm' => xany fl all n (setB L j) (dropE all o.after.toList E) tm' bs' cs' D' K))
    (fin o.dst tm (.v undef) fun tm' => xany fl all n (setB L j) (dropE all o.after.toList E) tm' bs cs D K)) (j :: r)

end
attribute [irreducible] XRead XDep
end Go.Sx
namespace Go.Sx
set_option linter.unusedVariables false

/-! ### what the definitions say -/

theorem edgeOn_iff {e : Edge} {i : Nat} : edgeOn e = some i ↔ Region.binds .any e = true ∧ e.on = i := by
 unfold edgeOn Region.binds
 cases e.ground <;> simp

theorem edgeOn_none {e : Edge} (h : edgeOn e = none) : Region.binds .any e = false := by
 unfold edgeOn at h
 unfold Region.binds
 cases hg : e.ground <;> rw [hg] at h <;> first | rfl | (cases h)

theorem waitsOk_iff {L : List Bool} : ∀ {es : List Edge}, waitsOk L es = true ↔ ∀ e ∈ es, Region.binds .any e = true → nthB L e.on = true
 | [] => by simp [waitsOk]
 | e :: r => by
  simp only [waitsOk, List.mem_cons, forall_eq_or_imp]
  cases he : edgeOn e with
  | none =>
   simp only
   rw [waitsOk_iff]
   have := edgeOn_none he
   simp [this]
  | some i =>
   obtain ⟨h1, rfl⟩ := edgeOn_iff.1 he
   simp only
   cases hn : nthB L e.on with
   | true => simp only; rw [waitsOk_iff]; simp
   | false => simp [h1]

theorem after1_iff {i : Nat} : ∀ {es : List Edge}, after1 i es = true ↔ ∃ e ∈ es, Region.binds .any e = true ∧ e.on = i
 | [] => by simp [after1]
 | e :: r => by
  simp only [after1, List.mem_cons, exists_eq_or_imp]
  cases he : edgeOn e with
  | none =>
   simp only
   rw [after1_iff]
   have := edgeOn_none he
   simp [this]
  | some k =>
   obtain ⟨h1, rfl⟩ := edgeOn_iff.1 he
   simp only
   cases hb : Nat.beq i e.on with
   | true =>
    have := Nat.eq_of_beq_eq_true hb
    simp [h1, this]
   | false =>
    simp only
    rw [after1_iff]
    have : e.on ≠ i := fun h => by subst h; rw [Nat.beq_refl] at hb; cases hb
    simp [this]

theorem nthB_eq : ∀ (L : List Bool) (i : Nat), nthB L i = (L[i]?).getD false
 | [], _ => by simp [nthB]
 | _ :: _, 0 => by simp [nthB]
 | _ :: xs, n + 1 => by simp [nthB, nthB_eq xs n]

theorem setB_eq : ∀ (L : List Bool) (i : Nat), setB L i = L.set i true
 | [], _ => by simp [setB]
 | _ :: _, 0 => by simp [setB]
 | _ :: xs, n + 1 => by simp [setB, setB_eq xs n]

theorem nthB_setB {L : List Bool} {i j : Nat} (hi : i < L.length) : nthB (setB L i) j = true ↔ j = i ∨ nthB L j = true := by
 rw [nthB_eq, nthB_eq, setB_eq]
 by_cases h : i = j
 · subst h; rw [List.getElem?_set_self hi]; simp
 · rw [List.getElem?_set_ne h]
   constructor
   · exact .inr
   · rintro (rfl | h')
     · exact absurd rfl h
     · exact h'

theorem readsT_iff {d : Nat} : ∀ {xs : List Operand}, readsT d xs = true ↔ Operand.tmp d ∈ xs
 | [] => by simp [readsT]
 | x :: r => by
  cases x with
  | tmp t =>
   simp only [readsT, List.mem_cons, Operand.tmp.injEq]
   cases hb : Nat.beq t d with
   | true => simp [Nat.eq_of_beq_eq_true hb]
   | false =>
    simp only
    rw [readsT_iff]
    have : d ≠ t := fun h => by subst h; rw [Nat.beq_refl] at hb; cases hb
    simp [this]
  | _ =>
   simp only [readsT, List.mem_cons]
   rw [readsT_iff]
   simp

theorem looks_false {all : List Oper} {d : Nat} {o : Oper} (h : looks all d o = false) : Operand.tmp d ∉ o.op.operands.toList ∧ ∀ j pol, o.guard = some (j, pol) → (all[j]?).bind (·.dst) ≠ some d := by
 unfold looks at h
 split at h
 · cases h
 · rename_i hr
   refine ⟨fun hm => ?_, fun j pol hg he => ?_⟩
   · rw [readsT_iff.2 hm] at hr; cases hr
   · rw [hg] at h
     simp only [he] at h
     rw [Nat.beq_refl] at h
     cases h

theorem dstIs_false {d : Nat} {o : Oper} (h : dstIs d o = false) : o.dst ≠ some d := by
 intro he
 unfold dstIs at h
 rw [he] at h
 simp only [Nat.beq_refl] at h
 cases h

structure Free (all : List Oper) (i d : Nat) (oi : Oper) : Prop where
 own : looks all d oi = false
 looked : ∀ j oj, all[j]? = some oj → j ≠ i → looks all d oj = true → after1 i oj.after.toList = true
 alone : ∀ j oj, all[j]? = some oj → j ≠ i → oj.dst ≠ some d
 looking : ∀ j oj t, all[j]? = some oj → j ≠ i → oj.dst = some t → looks all t oi = true → after1 j oi.after.toList = true

theorem freeFrom_parts {all : List Oper} {i d : Nat} {oi : Oper} : ∀ {r : List Oper} {k : Nat}, freeFrom all i d oi r k = true →
 (∀ n oj, r[n]? = some oj → k + n ≠ i → (looks all d oj = true → after1 i oj.after.toList = true) ∧ oj.dst ≠ some d ∧ ∀ t, oj.dst = some t → looks all t oi = true → after1 (k + n) oi.after.toList = true) ∧
 ((∃ n, n < r.length ∧ k + n = i) → looks all d oi = false)
 | [], k, _ => ⟨fun n oj h => by simp at h, fun ⟨n, h, _⟩ => by simp at h⟩
 | o :: r, k, h => by
  simp only [freeFrom] at h
  cases hb : Nat.beq i k with
  | true =>
   have hik := Nat.eq_of_beq_eq_true hb
   rw [hb] at h
   simp only at h
   cases hl : looks all d oi with
   | true => rw [hl] at h; cases h
   | false =>
    rw [hl] at h
    simp only at h
    obtain ⟨h1, h2⟩ := freeFrom_parts h
    refine ⟨fun n oj hn hne => ?_, fun _ => rfl⟩
    cases n with
    | zero => omega
    | succ n =>
     have := h1 n oj (by simpa using hn) (by omega)
     rwa [show k + 1 + n = k + (n + 1) from by omega] at this
  | false =>
   have hik : i ≠ k := fun e => by subst e; rw [Nat.beq_refl] at hb; cases hb
   rw [hb] at h
   simp only at h
   have key : ∀ (hrec : freeFrom all i d oi r (k + 1) = true), (looks all d o = true → after1 i o.after.toList = true) → o.dst ≠ some d →
    (∀ t, o.dst = some t → looks all t oi = true → after1 k oi.after.toList = true) →
    (∀ n oj, (o :: r)[n]? = some oj → k + n ≠ i → (looks all d oj = true → after1 i oj.after.toList = true) ∧ oj.dst ≠ some d ∧ ∀ t, oj.dst = some t → looks all t oi = true → after1 (k + n) oi.after.toList = true) ∧
     ((∃ n, n < (o :: r).length ∧ k + n = i) → looks all d oi = false) := by
    intro hrec p1 p2 p3
    obtain ⟨h1, h2⟩ := freeFrom_parts hrec
    refine ⟨fun n oj hn hne => ?_, fun ⟨n, hn, he⟩ => ?_⟩
    · cases n with
      | zero => simp at hn; subst hn; exact ⟨p1, p2, fun t ht hlk => by simpa using p3 t ht hlk⟩
      | succ n =>
       have := h1 n oj (by simpa using hn) (by omega)
       rwa [show k + 1 + n = k + (n + 1) from by omega] at this
    · cases n with
      | zero => omega
      | succ n => exact h2 ⟨n, by simpa using hn, by omega⟩
   split at h
   · cases h
   · rename_i hnot
     have p1 : looks all d o = true → after1 i o.after.toList = true := fun hl => by
      cases ha : after1 i o.after.toList with
      | true => rfl
      | false => exact absurd ha (hnot hl)
     split at h
     · cases h
     · rename_i hdst
       split at h
       · rename_i hnone
         exact key h p1 (dstIs_false hdst) (fun t ht => by rw [hnone] at ht; cases ht)
       · rename_i t ht
         split at h
         · cases h
         · rename_i hnot2
           refine key h p1 (dstIs_false hdst) (fun t' ht' hl => ?_)
           rw [ht] at ht'
           cases ht'
           cases ha : after1 k oi.after.toList with
           | true => rfl
           | false => exact absurd ha (hnot2 hl)

theorem free_of {all : List Oper} {i d : Nat} {oi : Oper} (hi : i < all.length) (h : freeFrom all i d oi all 0 = true) : Free all i d oi := by
 obtain ⟨h1, h2⟩ := freeFrom_parts h
 refine ⟨h2 ⟨i, hi, by omega⟩, fun j oj hj hne => (h1 j oj hj (by omega)).1, fun j oj hj hne => (h1 j oj hj (by omega)).2.1, fun j oj t hj hne ht hl => ?_⟩
 have := (h1 j oj hj (by omega)).2.2 t ht hl
 rwa [Nat.zero_add] at this

theorem findQ_parts {tab : Tab} {all : List Oper} {tm : List SV} {L : List Bool} : ∀ {r : List Oper} {k : Nat} {i : Nat} {m : Bool}, findQ tab all tm L r k = some (i, m) →
 ∃ n o d, r[n]? = some o ∧ i = k + n ∧ nthB L i = false ∧ waitsOk L o.after.toList = true ∧ readOp tab tm o.op = some m ∧ o.dst = some d ∧ freeFrom all i d o all 0 = true
 | [], _, _, _, h => by simp [findQ] at h
 | o :: r, k, i, m, h => by
  simp only [findQ] at h
  have hrec : findQ tab all tm L r (k + 1) = some (i, m) → ∃ n o' d, (o :: r)[n]? = some o' ∧ i = k + n ∧ nthB L i = false ∧ waitsOk L o'.after.toList = true ∧ readOp tab tm o'.op = some m ∧ o'.dst = some d ∧ freeFrom all i d o' all 0 = true := by
   intro h
   obtain ⟨n, o', d, h1, h2, h3⟩ := findQ_parts h
   exact ⟨n + 1, o', d, by simpa using h1, by omega, h3⟩
  split at h
  · rename_i m' d hL hw hr hd
    split at h
    · rename_i hf
      cases h
      exact ⟨0, o, d, by simp, by omega, hL, hw, hr, hd, hf⟩
    · exact hrec h
  · exact hrec h

theorem readyL_mem {L : List Bool} : ∀ {r : List Oper} {k j : Nat}, j ∈ readyL L r k ↔ ∃ n o, r[n]? = some o ∧ j = k + n ∧ nthB L j = false ∧ waitsOk L o.after.toList = true
 | [], k, j => by simp [readyL]
 | o :: r, k, j => by
  simp only [readyL]
  have hrec := readyL_mem (L := L) (r := r) (k := k + 1) (j := j)
  have hsplit : (∃ n o', (o :: r)[n]? = some o' ∧ j = k + n ∧ nthB L j = false ∧ waitsOk L o'.after.toList = true) ↔
   (j = k ∧ nthB L k = false ∧ waitsOk L o.after.toList = true) ∨ j ∈ readyL L r (k + 1) := by
   rw [hrec]
   constructor
   · rintro ⟨n, o', h1, h2, h3, h4⟩
     cases n with
     | zero =>
      simp at h1; subst h1; left; have : j = k := by omega
      subst this; exact ⟨rfl, h3, h4⟩
     | succ n => right; exact ⟨n, o', by simpa using h1, by omega, h3, h4⟩
   · rintro (⟨rfl, h2, h3⟩ | ⟨n, o', h1, h2, h3⟩)
     · exact ⟨0, o, by simp, by omega, h2, h3⟩
     · exact ⟨n + 1, o', by simpa using h1, by omega, h3⟩
  rw [hsplit]
  cases h1 : nthB L k <;> cases h2 : waitsOk L o.after.toList <;> simp

theorem allK_mem {S : Nat → Prop} : ∀ {l : List Nat}, allK S l → ∀ j ∈ l, S j
 | [], h, _, _ => h.elim
 | [j], h, k, hk => by simp at hk; subst hk; exact h
 | j :: i :: r, h, k, hk => by
  rcases List.mem_cons.1 hk with rfl | hk
  · exact h.1
  · exact allK_mem h.2 k hk

theorem edgesOf_eq : ∀ {all : List Oper} {k : Nat} {e : Edge}, e ∈ edgesOf all k → ∃ o, all[k]? = some o ∧ e ∈ o.after.toList
 | [], _, _, h => by simp [edgesOf] at h
 | o :: _, 0, _, h => ⟨o, rfl, h⟩
 | _ :: r, n + 1, _, h => by
  obtain ⟨o, h1, h2⟩ := edgesOf_eq (all := r) (k := n) h
  exact ⟨o, by simpa using h1, h2⟩

theorem dataBack_done {ops : Array Oper} {L' : Array Bool} (hc : ∀ k ok, ops[k]? = some ok → L'.getD k false = true → ∀ e ∈ ok.after, Region.binds .any e = true → L'.getD e.on false = true) :
 ∀ {es : List Edge}, (∀ e ∈ es, Region.binds .any e = true → L'.getD e.on false = true) → ∀ e ∈ dataBack ops.toList es, Region.binds .any e = true → L'.getD e.on false = true
 | [], _, e, he => by simp [dataBack] at he
 | x :: r, h, e, he => by
  have ih := dataBack_done hc (es := r) fun e he => h e (List.mem_cons_of_mem _ he)
  simp only [dataBack] at he
  split at he
  · split at he
    · rename_i k hk
      rcases List.mem_append.1 he with he | he
      · obtain ⟨o, h1, h2⟩ := edgesOf_eq he
        have hx : Region.binds .any x = true ∧ x.on = k := edgeOn_iff.1 hk
        have hd := h x (List.mem_cons_self ..) hx.1
        rw [hx.2] at hd
        exact hc k o (by rw [← Array.getElem?_toList]; exact h1) hd e (Array.mem_toList_iff.1 h2)
      · exact ih e he
    · exact ih e he
  · exact ih e he

theorem afterT_done {ops : Array Oper} {L' : Array Bool} (hc : ∀ k ok, ops[k]? = some ok → L'.getD k false = true → ∀ e ∈ ok.after, Region.binds .any e = true → L'.getD e.on false = true) {i : Nat} :
 ∀ (n : Nat) {es : List Edge}, (∀ e ∈ es, Region.binds .any e = true → L'.getD e.on false = true) → afterT ops.toList n i es = true → L'.getD i false = true
 | 0, es, h, ha => by
  obtain ⟨e, he, hb, rfl⟩ := after1_iff.1 ha
  exact h e he hb
 | n + 1, es, h, ha => by
  simp only [afterT] at ha
  split at ha
  · rename_i h1
    obtain ⟨e, he, hb, rfl⟩ := after1_iff.1 h1
    exact h e he hb
  · exact afterT_done hc n (dataBack_done hc h) ha

theorem dropE_mem {all : List Oper} {es : List Edge} {i : Nat} {m : Dep} : ∀ {E : List (Nat × Dep)}, (i, m) ∈ E → afterT all 3 i es = false → (i, m) ∈ dropE all es E
 | [], h, _ => by simp at h
 | (k, b) :: r, h, ha => by
  simp only [dropE]
  rcases List.mem_cons.1 h with h | h
  · cases h
    rw [ha]
    exact List.mem_cons_self ..
  · have := dropE_mem h ha
    split
    · exact this
    · exact List.mem_cons_of_mem _ this

theorem anyAll_mem {i : Nat} : ∀ {E : List (Nat × Dep)}, (i, Dep.all) ∈ E → anyAll E = true
 | [], h => by simp at h
 | (k, .all) :: r, _ => rfl
 | (k, .none) :: r, h => by
  rcases List.mem_cons.1 h with h | h
  · cases h
  · show anyAll r = true
    exact anyAll_mem h
 | (k, .base) :: r, h => by
  rcases List.mem_cons.1 h with h | h
  · cases h
  · show anyAll r = true
    exact anyAll_mem h
 | (k, .box _) :: r, h => by
  rcases List.mem_cons.1 h with h | h
  · cases h
  · show anyAll r = true
    exact anyAll_mem h
 | (k, .fact) :: r, h => by
  rcases List.mem_cons.1 h with h | h
  · cases h
  · show anyAll r = true
    exact anyAll_mem h

theorem anyFact_mem {i : Nat} : ∀ {E : List (Nat × Dep)}, (i, Dep.fact) ∈ E → anyFact E = true
 | [], h => by simp at h
 | (k, .fact) :: r, _ => rfl
 | (k, .all) :: r, h => by
  rcases List.mem_cons.1 h with h | h
  · cases h
  · show anyFact r = true
    exact anyFact_mem h
 | (k, .none) :: r, h => by
  rcases List.mem_cons.1 h with h | h
  · cases h
  · show anyFact r = true
    exact anyFact_mem h
 | (k, .base) :: r, h => by
  rcases List.mem_cons.1 h with h | h
  · cases h
  · show anyFact r = true
    exact anyFact_mem h
 | (k, .box _) :: r, h => by
  rcases List.mem_cons.1 h with h | h
  · cases h
  · show anyFact r = true
    exact anyFact_mem h

theorem boxesK_iff {bs : List (Nat × Nat)} {cs : List (List Value)} {bs' : List (Nat × Nat)} {cs' : List (List Value)} {K : Prop} : ∀ {E : List (Nat × Dep)}, boxesK bs cs bs' cs' K E →
 K ∧ ∀ i j, (i, Dep.box j) ∈ E → nth (0, 0) bs' j = nth (0, 0) bs j ∧ nth [] cs' j = nth [] cs j ∧ j < cs'.length
 | [], h => ⟨h, fun i j hi => by simp at hi⟩
 | (k, .none) :: r, h => by
  obtain ⟨h1, h2⟩ := boxesK_iff (E := r) h
  refine ⟨h1, fun i j hi => ?_⟩
  rcases List.mem_cons.1 hi with hi | hi
  · cases hi
  · exact h2 i j hi
 | (k, .base) :: r, h => by
  obtain ⟨h1, h2⟩ := boxesK_iff (E := r) h
  refine ⟨h1, fun i j hi => ?_⟩
  rcases List.mem_cons.1 hi with hi | hi
  · cases hi
  · exact h2 i j hi
 | (k, .fact) :: r, h => by
  obtain ⟨h1, h2⟩ := boxesK_iff (E := r) h
  refine ⟨h1, fun i j hi => ?_⟩
  rcases List.mem_cons.1 hi with hi | hi
  · cases hi
  · exact h2 i j hi
 | (k, .all) :: r, h => by
  obtain ⟨h1, h2⟩ := boxesK_iff (E := r) h
  refine ⟨h1, fun i j hi => ?_⟩
  rcases List.mem_cons.1 hi with hi | hi
  · cases hi
  · exact h2 i j hi
 | (k, .box j') :: r, h => by
  obtain ⟨_, h⟩ := nthK_iff (0, 0) h
  obtain ⟨_, h⟩ := nthK_iff (0, 0) h
  obtain ⟨_, h⟩ := nthK_iff [] h
  obtain ⟨hl, h⟩ := nthK_iff [] h
  obtain ⟨e1, e2, h⟩ := h
  obtain ⟨h1, h2⟩ := boxesK_iff (E := r) h
  refine ⟨h1, fun i j hi => ?_⟩
  rcases List.mem_cons.1 hi with hi | hi
  · cases hi
    exact ⟨e1, e2, hl⟩
  · exact h2 i j hi

theorem noSel_at : ∀ {l : List Oper}, noSel l = true → ∀ (j : Nat) (o : Oper), l[j]? = some o → ∀ cs b, o.op ≠ .select cs b
 | [], _, j, o, h => by simp at h
 | x :: r, h, j, o, hj => by
  simp only [noSel] at h
  cases j with
  | zero =>
   simp at hj
   subst hj
   intro cs b he
   rw [he] at h
   cases h
  | succ j =>
   refine noSel_at (l := r) ?_ j o (by simpa using hj)
   split at h
   · cases h
   · exact h

theorem backOk_iff : ∀ {es : List Edge} {i : Nat}, backOk es i = true → ∀ e ∈ es, Region.binds .any e = true → e.on < i
 | [], _, _, _, h, _ => by simp at h
 | x :: r, i, h, e, he, hb => by
  simp only [backOk] at h
  cases hx : edgeOn x with
  | none =>
   rw [hx] at h
   rcases List.mem_cons.1 he with rfl | he
   · rw [edgeOn_none hx] at hb; cases hb
   · exact backOk_iff h e he hb
  | some k =>
   rw [hx] at h
   simp only at h
   split at h
   · rename_i hk
     rcases List.mem_cons.1 he with rfl | he
     · obtain ⟨_, rfl⟩ := edgeOn_iff.1 hx
       simpa [Nat.blt_eq] using hk
     · exact backOk_iff h e he hb
   · cases h

theorem allBack_at : ∀ {l : List Oper} {k : Nat}, allBack l k = true → ∀ (j : Nat) (o : Oper), l[j]? = some o → ∀ e ∈ o.after.toList, Region.binds .any e = true → e.on < k + j
 | [], _, _, j, o, h => by simp at h
 | x :: r, k, h, j, o, hj => by
  simp only [allBack] at h
  split at h
  · rename_i hx
    cases j with
    | zero => simp at hj; subst hj; exact fun e he hb => by simpa using backOk_iff hx e he hb
    | succ j =>
     intro e he hb
     have := allBack_at h j o (by simpa using hj) e he hb
     omega
  · cases h

/-- Where nothing is ready, all is listed. -/
theorem all_listed {l : List Oper} (hb : allBack l 0 = true) {p : Nat → Bool} (h : ∀ j o, l[j]? = some o → p j = false → ¬ ∀ e ∈ o.after.toList, Region.binds .any e = true → p e.on = true) :
 ∀ j, j < l.length → p j = true := by
 intro j
 induction j using Nat.strongRecOn with
 | _ j ih =>
  intro hj
  cases hp : p j with
  | true => rfl
  | false =>
   exact absurd (fun e he hbd => by
    have := allBack_at hb j l[j] (List.getElem?_eq_getElem hj) e he hbd
    exact ih e.on (by omega) (by omega)) (h j l[j] (List.getElem?_eq_getElem hj) hp)

end Go.Sx
namespace Go.Sx
set_option linter.unusedVariables false

section
variable {P : Program} {tab : Tab} {w0 : World} {R : Nat → Nat → Prop} {av : Nat → Prop}

theorem getD_false {L : Array Bool} {i : Nat} (hi : i < L.size) : L.getD i true = L.getD i false := by
 simp [Array.getD, hi]

/-- The same at two frames that agree at what the operation looks at. -/
theorem same_of_agree {ops : Array Oper} {o : Oper} (hs : ∀ cs b, o.op ≠ .select cs b) {a a' : Array Value} (h : ∀ t, looks ops.toList t o = true → a'[t]? = a[t]?) :
 execOp (Act.eval ⟨a', []⟩) o = execOp (Act.eval ⟨a, []⟩) o ∧ Region.wanted o (yielded ops a') = Region.wanted o (yielded ops a) := by
 constructor
 · refine execOp_congr o hs fun x hx => ?_
   cases x with
   | tmp t =>
    have : looks ops.toList t o = true := by
     cases hl : looks ops.toList t o with
     | true => rfl
     | false => exact absurd (by simpa using hx) (looks_false hl).1
    simp only [Act.eval, Array.getD_eq_getD_getElem?, h t this]
   | _ => rfl
 · unfold Region.wanted
   cases hg : o.guard with
   | none => rfl
   | some jp =>
    obtain ⟨j, pol⟩ := jp
    simp only
    have : yielded ops a' j = yielded ops a j := by
     unfold yielded
     cases hd : (ops[j]?).bind (·.dst) with
     | none => rfl
     | some t =>
      have : looks ops.toList t o = true := by
       cases hl : looks ops.toList t o with
       | true => rfl
       | false => exact absurd (by rw [Array.getElem?_toList]; exact hd) ((looks_false hl).2 j pol hg)
      simp only [Option.bind_some, h t this]
    rw [this]

/-- What a value that was read early asks of a world. -/
def DepOk (w0 : World) (R : Nat → Nat → Prop) (av : Nat → Prop) (bs : List (Nat × Nat)) (cs : List (List Value)) (D : Fx) : Dep → World → Prop
 | .none, _ => True
 | .box j, w => Range w (nth (0, 0) bs j).1 (nth (0, 0) bs j).2 (nth [] cs j)
 | .all, w => St w0 R av w [] [] D
 | .base, w => St w0 R av w [] [] ⟨fun _ => True, []⟩
 | .fact, w => St w0 R av w [] [] ⟨D.D, []⟩

theorem St.base {w0 : World} {R : Nat → Nat → Prop} {av : Nat → Prop} {w : World} {bs : List (Nat × Nat)} {cs : List (List Value)} {D : Fx} (h : St w0 R av w bs cs D) : St w0 R av w [] [] ⟨fun _ => True, []⟩ :=
 (St.left (bs := []) (cs := []) (e := bs) (f := cs) (by simpa using h) rfl).imp ⟨List.nil_sublist _, fun _ _ => trivial⟩

theorem St.bare {w0 : World} {R : Nat → Nat → Prop} {av : Nat → Prop} {w : World} {bs : List (Nat × Nat)} {cs : List (List Value)} {D : Fx} (h : St w0 R av w bs cs D) : St w0 R av w [] [] D :=
 St.left (bs := []) (cs := []) (e := bs) (f := cs) (by simpa using h) rfl

def DepIn (cs : List (List Value)) : Dep → Prop
 | .box j => j < cs.length
 | _ => True

theorem St.dep {w : World} {bs : List (Nat × Nat)} {cs : List (List Value)} {D : Fx} (h : St w0 R av w bs cs D) {dep : Dep} (hd : DepIn cs dep) : DepOk w0 R av bs cs D dep w := by
 cases dep with
 | none => trivial
 | box j => exact (h.box.get j hd).1
 | all => exact h.bare
 | base => exact h.base
 | fact => exact h.bare.imp ⟨List.nil_sublist _, fun _ h => h⟩

structure Sim (P : Program) (w0 : World) (R : Nat → Nat → Prop) (av : Nat → Prop) (ops : Array Oper) (L : List Bool) (L' : Array Bool) (E : List (Nat × Dep)) (bs : List (Nat × Nat)) (cs : List (List Value))
 (D : Fx) (a a' : Array Value) : Prop where
 len : L.length = ops.size
 len' : L'.size = ops.size
 sub : ∀ i, L'.getD i false = true → nthB L i = true
 closed : ∀ i o, ops[i]? = some o → nthB L i = true → waitsOk L o.after.toList = true
 closed' : ∀ k ok, ops[k]? = some ok → L'.getD k false = true → ∀ e ∈ ok.after, Region.binds .any e = true → L'.getD e.on false = true
 size : a'.size = a.size
 agree : ∀ t, (∀ i o, ops[i]? = some o → nthB L i = true → L'.getD i false = false → o.dst ≠ some t) → a'[t]? = a[t]?
 early : ∀ i, nthB L i = true → L'.getD i false = false → ∃ o d m v, ops[i]? = some o ∧ o.dst = some d ∧ (i, m) ∈ E ∧ Free ops.toList i d o ∧ a[d]? = some v ∧ DepIn cs m ∧
  ((Region.wanted o (yielded ops a) = true ∧ ∀ w, DepOk w0 R av bs cs D m w → (execOp (Act.eval ⟨a, []⟩) o).run P w = .ok (.value v) w) ∨ (Region.wanted o (yielded ops a) = false ∧ v = undef))

theorem closed_set {ops : Array Oper} {L' L2 : Array Bool} (hc : ∀ k ok, ops[k]? = some ok → L'.getD k false = true → ∀ e ∈ ok.after, Region.binds .any e = true → L'.getD e.on false = true) {j : Nat} {o : Oper} (hoj : ops[j]? = some o)
 (hset : ∀ k, L2.getD k false = true ↔ k = j ∨ L'.getD k false = true) (hall : ∀ e ∈ o.after, Region.binds .any e = true → L'.getD e.on false = true) :
 ∀ k ok, ops[k]? = some ok → L2.getD k false = true → ∀ e ∈ ok.after, Region.binds .any e = true → L2.getD e.on false = true := by
 intro k ok hk hL e he hb
 refine (hset _).2 (.inr ?_)
 rcases (hset k).1 hL with rfl | hL
 · rw [hoj] at hk
   cases hk
   exact hall e he hb
 · exact hc k ok hk hL e he hb

/-- Whoever is ready agrees at what it looks at. -/
theorem Sim.looked {ops : Array Oper} {L : List Bool} {L' : Array Bool} {E : List (Nat × Dep)} {bs : List (Nat × Nat)} {cs : List (List Value)} {D : Fx} {a a' : Array Value}
 (h : Sim P w0 R av ops L L' E bs cs D a a') {j : Nat} {o : Oper} (hj : ops[j]? = some o) (hw : ∀ e ∈ o.after, Region.binds .any e = true → L'.getD e.on false = true) (hun : L'.getD j false = false)
 (t : Nat) (ht : looks ops.toList t o = true) : a'[t]? = a[t]? := by
 refine h.agree t fun i oi hi hL hL' hd => ?_
 obtain ⟨o1, d, m, v, g1, g2, g3, g4, g5⟩ := h.early i hL hL'
 rw [hi] at g1
 cases g1
 rw [hd] at g2
 cases g2
 by_cases hij : j = i
 · subst hij
   rw [hj] at hi
   cases hi
   rw [g4.own] at ht
   cases ht
 · have := g4.looked j o (by rw [Array.getElem?_toList]; exact hj) hij ht
   obtain ⟨e, he, hb, rfl⟩ := after1_iff.1 this
   have := hw e (Array.mem_toList_iff.1 he) hb
   rw [hL'] at this
   cases this

theorem getD_setB {L' : Array Bool} {i j : Nat} (hi : i < L'.size) : (L'.setIfInBounds i true).getD j false = true ↔ j = i ∨ L'.getD j false = true := by
 by_cases h : i = j
 · subst h; simp [Array.getD, hi]
 · rw [getD_set_ne false h]
   constructor
   · exact .inr
   · rintro (rfl | h')
     · exact absurd rfl h
     · exact h'

theorem put_self {a : Array Value} {d : Nat} {v : Value} (h : d < a.size) : (a.setIfInBounds d v)[d]? = some v := by
 rw [Array.getElem?_setIfInBounds_self_of_lt h]

theorem put_ne {a : Array Value} {d t : Nat} {v : Value} (h : d ≠ t) : (a.setIfInBounds d v)[t]? = a[t]? := Array.getElem?_setIfInBounds_ne h

/-- Carry an operation over to the frame of the real run. -/
theorem wp_carry {o : Oper} {a a' : Array Value} {w : World} {next next' : Act → World → Prop} {Q : Exit → Act → World → Prop} (he : execOp (Act.eval ⟨a', []⟩) o = execOp (Act.eval ⟨a, []⟩) o)
 (hd : ∀ act w, next act w → act.defers = []) (hn : ∀ v w', next (Act.put ⟨a, []⟩ o.dst v) w' → next' (Act.put ⟨a', []⟩ o.dst v) w')
 (h : o.wp P ⟨a, []⟩ w next (fun _ _ _ => False)) : o.wp P ⟨a', []⟩ w next' Q := by
 unfold Oper.wp at h ⊢
 rw [he]
 generalize (execOp (Act.eval ⟨a, []⟩) o).run P w = r at h ⊢
 cases r with
 | ok n w' =>
  cases n <;> simp only [Oper.upon] at h ⊢
  case value v => exact hn _ _ h
  case skip => exact hn _ _ h
  case defer d =>
   have := hd _ _ h
   rw [put_defers] at this
   cases this
  case enter f args =>
   refine Calls.mono h fun e w'' he => ?_
   cases e with
   | returned v => exact hn _ _ he
   | panicked c => exact he.elim
   | outgrown => obtain ⟨_, _, hf⟩ := he; exact hf.elim
  case row row args => exact Rows.mono h fun v w'' he => hn _ _ he
 | halt x w' => cases x <;> simp only [Oper.upon] at h

theorem wantK_sound {ops : Array Oper} {o : Oper} {tm : List SV} {bs : List (Nat × Nat)} {a : Array Value} (hf : FrameOk bs tm a) {Y N : Prop} (h : wantK ops.toList o tm Y N) :
 (Region.wanted o (yielded ops a) = true ∧ Y) ∨ (Region.wanted o (yielded ops a) = false ∧ N) := by
 unfold wantK at h
 split at h
 · rename_i hg
   exact .inl ⟨by unfold Region.wanted; rw [hg], h⟩
 · rename_i j pol hg
   obtain ⟨hjl, h⟩ := nthK_iff o h
   have hj : ops.toList[j]? = some (nth o ops.toList j) := by rw [nth_eq, List.getElem?_eq_getElem hjl]; rfl
   generalize nth o ops.toList j = oj at h hj
   split at h
   · exact h.elim
   · rename_i t ht
     obtain ⟨htl, h⟩ := nthK_iff SV.any h
     have hok := hf.ok t
     have hta : t < a.size := by rw [← hf.len]; exact htl
     split at h
     · rename_i hs
       rw [hs] at hok
       have hw : Region.wanted o (yielded ops a) = (some true == some pol) := by rw [wanted_of hg, yield_at hj ht (getD_of hta hok)]
       split at h
       · exact .inl ⟨by rw [hw]; rfl, h⟩
       · exact .inr ⟨by rw [hw]; rfl, h⟩
     · rename_i hs
       rw [hs] at hok
       have hw : Region.wanted o (yielded ops a) = (some false == some pol) := by rw [wanted_of hg, yield_at hj ht (getD_of hta hok)]
       split at h
       · exact .inr ⟨by rw [hw]; rfl, h⟩
       · exact .inl ⟨by rw [hw]; rfl, h⟩
     · rename_i x hs
       rw [hs] at hok
       exact .inr ⟨by rw [wanted_of hg, yield_not hj ht (getD_of hta hok)]; rfl, h⟩
     · exact h.elim

theorem guardSplit_sound {ops : List Oper} {i : Nat} {o : Oper} {tm : List SV} {bs : List (Nat × Nat)} {a : Array Value} (hf : FrameOk bs tm a) {K : List SV → Prop} (h : guardSplit ops i o tm K) :
 ∃ tm', FrameOk bs tm' a ∧ K tm' := by
 unfold guardSplit at h
 split at h
 · rename_i d _ _
   obtain ⟨_, h⟩ := nthK_iff SV.any h
   have hok := hf.ok d
   split at h
   · rename_i c hs
     rw [hs] at hok
     cases c
     · obtain ⟨_, h⟩ := setK_iff h
       exact ⟨_, hf.same hok, h⟩
     · obtain ⟨_, h⟩ := setK_iff h
       exact ⟨_, hf.same hok, h⟩
   · exact ⟨tm, hf, h⟩
 · exact ⟨tm, hf, h⟩

theorem loadK_box {bs : List (Nat × Nat)} {cs : List (List Value)} {t : TypeId} {x : TI} (hx : mkTI P t = some x) {i o : Nat} {K : SV → Prop}
 (h : loadK x cs i o K) : i < cs.length ∧ ∃ v, (∀ w, Range w (nth (0, 0) bs i).1 (nth (0, 0) bs i).2 (nth [] cs i) → (Instr.loadAt t (ptr bs i o)).run P w = .ok v w) ∧ K (.v v) := by
 obtain ⟨hi, h⟩ := nthK_iff [] h
 have hat : Instr.loadAt t (ptr bs i o) = loadVar t ⟨(nth (0, 0) bs i).1, (nth (0, 0) bs i).2 + o, none⟩ := rfl
 refine ⟨hi, ?_⟩
 split at h
 · rename_i ha
   obtain ⟨h1, h2⟩ := subK_iff h
   refine ⟨_, fun w hr => ?_, h2⟩
   rw [hat]
   refine run_loadVar_agg hx ha _ (by simp; omega) (fun j hj => ?_)
   simp at hj
   rw [Nat.add_assoc, hr.cell (by omega), List.getElem?_take, if_pos (by omega), List.getElem?_drop]
 · rename_i ha
   obtain ⟨h1, h2⟩ := nthK_iff (.tuple #[]) h
   refine ⟨_, fun w hr => ?_, h2⟩
   rw [hat]
   refine run_loadVar_one hx ha ?_
   rw [hr.cell h1, nth_eq (.tuple #[]) (nth [] cs i) o, List.getElem?_eq_getElem h1]
   rfl

theorem xread_sound (hT : TabOk P tab) {tm : List SV} {bs : List (Nat × Nat)} {cs : List (List Value)} {D : Fx} {a : Array Value} (hf : FrameOk bs tm a) {fl : Bool} {o : Oper}
 {K : SV → Dep → Prop} (h : xread P tab w0 R av fl o tm bs cs D K) :
 ∃ v s dep, (∀ w, DepOk w0 R av bs cs D dep w → (execOp (Act.eval ⟨a, []⟩) o).run P w = .ok (.value v) w) ∧ DepIn cs dep ∧ SVok bs s v ∧ K s dep := by
 have hg := GOk.nil tm
 obtain ⟨dst, op, ty, pos, after, guard⟩ := o
 unfold xread at h
 simp only at h
 split at h
 · rename_i t x
   obtain ⟨sx, hsx, h⟩ := evG_sound hf hg h
   split at h
   · rename_i j s
     split at h
     · rename_i ti hl
       obtain ⟨hj, v, h1, h2⟩ := loadK_box (bs := bs) (hT _ _ hl) h
       refine ⟨v, .v v, .box j, fun w hw => ?_, hj, rfl, h2⟩
       obtain ⟨hsx, _⟩ := hsx
       simp only [execOp]
       rw [hsx]
       exact run_value (h1 w hw)
     · exact h.elim
   · rename_i v
     have hsx' : Act.eval ⟨a, []⟩ x = v := hsx
     split at h
     · obtain ⟨u, h1, h2⟩ := (XRead_iff _ _ _ _).1 h
       refine ⟨u, .v u, .all, fun w hw => ?_, trivial, rfl, h2⟩
       simp only [execOp, hsx']
       exact run_value (h1 w hw)
     · obtain ⟨u, h1, h2⟩ := (XRead_iff _ _ _ _).1 h
       rcases (XDep_iff _ _ _ _).1 h2 with h2 | ⟨h3, h2⟩
       · refine ⟨u, .v u, .all, fun w hw => ?_, trivial, rfl, h2⟩
         simp only [execOp, hsx']
         exact run_value (h1 w hw)
       · refine ⟨u, .v u, .fact, fun w hw => ?_, trivial, rfl, h2⟩
         simp only [execOp, hsx']
         exact run_value (h3 w hw)
   · exact h.elim
 · rename_i op' hnl
   rcases xpure_sound (o := ⟨dst, op, ty, pos, after, guard⟩) hT hf hg h with h | ⟨v, s, h1, h2, h3⟩
   · split at h
     · rename_i t x i _
       obtain ⟨v, h1, h2⟩ := (XRead_iff _ _ _ _).1 (evV_sound hf hg (evV_sound hf hg h))
       exact ⟨v, .v v, .base, fun w hw => run_value (h1 w hw), trivial, rfl, h2⟩
     · rename_i t x i _
       obtain ⟨v, h1, h2⟩ := (XRead_iff _ _ _ _).1 (evV_sound hf hg (evV_sound hf hg h))
       exact ⟨v, .v v, .base, fun w hw => run_value (h1 w hw), trivial, rfl, h2⟩
     · rename_i t x lo hi mx _
       obtain ⟨v, h1, h2⟩ := (XRead_iff _ _ _ _).1 (evO_sound hf hg (evO_sound hf hg (evO_sound hf hg (evV_sound hf hg h))))
       exact ⟨v, .v v, .base, fun w hw => run_value (h1 w hw), trivial, rfl, h2⟩
     · rename_i s d x _
       obtain ⟨v, h1, h2⟩ := (XRead_iff _ _ _ _).1 (evV_sound hf hg h)
       exact ⟨v, .v v, .all, fun w hw => run_value (h1 w hw), trivial, rfl, h2⟩
     · rename_i op t x y t' _
       obtain ⟨v, h1, h2⟩ := (XRead_iff _ _ _ _).1 (evV_sound hf hg (evV_sound hf hg h))
       exact ⟨v, .v v, .base, fun w hw => run_value (h1 w hw), trivial, rfl, h2⟩
     · rename_i t ps _
       obtain ⟨v, h1, h2⟩ := (XRead_iff _ _ _ _).1 (evPs_sound hf hg h)
       refine ⟨v, .v v, .base, fun w hw => ?_, trivial, rfl, h2⟩
       have hr := h1 w hw
       simp only [execOp, List.map_toArray]
       exact run_value hr
     · rename_i b xs ts _
       have h := evVs_sound hf hg h
       split at h
       · rename_i mm hmm
         obtain ⟨v, h1, h2⟩ := (XRead_iff _ _ _ _).1 h
         refine ⟨v, .v v, .base, fun w hw => ?_, trivial, rfl, h2⟩
         have hr := h1 w hw
         rw [execOp_call_builtin]
         cases b <;> simp only [semB] at hmm <;> first | (cases hmm; exact run_value hr) | (cases hmm)
       · exact h.elim
     · exact h.elim
   · exact ⟨v, s, .none, fun w _ => h1 w fun ⟨t, x, he⟩ => absurd he (hnl t x), trivial, h2, h3⟩

end
end Go.Sx
