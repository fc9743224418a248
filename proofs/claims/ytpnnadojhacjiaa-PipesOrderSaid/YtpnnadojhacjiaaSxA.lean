/- Sx, part A: worlds that keep what was there, facts with a footprint, boxes (local variables in memory). -/
import Derived.Orders
import Derived.Below
namespace Go.Sx
set_option linter.unusedVariables false

/-! ### lists -/

def nth {α : Type} (d : α) : List α → Nat → α
  | [], _ => d
  | x :: _, 0 => x
  | _ :: xs, n + 1 => nth d xs n

theorem nth_eq {α : Type} (d : α) : ∀ (l : List α) (n : Nat), nth d l n = (l[n]?).getD d
  | [], _ => by simp [nth]
  | _ :: _, 0 => by simp [nth]
  | _ :: xs, n + 1 => by simp [nth, nth_eq d xs n]

/-! ### objects that are alike but for some cells -/

def ObjSame (r : Nat → Prop) (o o' : Obj) : Prop :=
  o = o' ∨ ∃ c c' e f, o = .cells c e f ∧ o' = .cells c' e f ∧ c'.size = c.size ∧ ∀ i, ¬ r i → c'[i]? = c[i]?

theorem ObjSame.refl (r : Nat → Prop) (o : Obj) : ObjSame r o o := .inl rfl

theorem ObjSame.trans {r : Nat → Prop} {a b c : Obj} (h : ObjSame r a b) (k : ObjSame r b c) : ObjSame r a c := by
  rcases h with rfl | ⟨x, y, e, f, rfl, rfl, hs, hi⟩
  · exact k
  · rcases k with rfl | ⟨x', y', e', f', h1, rfl, hs', hi'⟩
    · exact .inr ⟨x, y, e, f, rfl, rfl, hs, hi⟩
    · cases h1
      exact .inr ⟨x, y', e, f, rfl, rfl, by omega, fun i hr => (hi' i hr).trans (hi i hr)⟩

theorem ObjSame.mono {r r' : Nat → Prop} {a b : Obj} (h : ObjSame r a b) (hr : ∀ i, r i → r' i) : ObjSame r' a b := by
  rcases h with rfl | ⟨x, y, e, f, rfl, rfl, hs, hi⟩
  · exact .inl rfl
  · exact .inr ⟨x, y, e, f, rfl, rfl, hs, fun i hn => hi i (fun h => hn (hr i h))⟩

theorem ObjSame.eq {r : Nat → Prop} {a b : Obj} (h : ObjSame r a b) (hr : ∀ i, ¬ r i) : b = a := by
  rcases h with rfl | ⟨x, y, e, f, rfl, rfl, hs, hi⟩
  · rfl
  · have : y = x := Array.ext_getElem? (fun i => hi i (hr i))
    rw [this]

/-! ### worlds that keep what was there -/

structure KeepX (R : Nat → Nat → Prop) (w w' : World) : Prop where
  os : w'.os = w.os
  tape : w'.tape = w.tape
  output : w'.output = w.output
  size : w.heap.size ≤ w'.heap.size
  obj : ∀ b o, w.heap[b]? = some o → ∃ o', w'.heap[b]? = some o' ∧ ObjSame (R b) o o'

theorem KeepX.refl (R : Nat → Nat → Prop) (w : World) : KeepX R w w := ⟨rfl, rfl, rfl, Nat.le_refl _, fun _ o h => ⟨o, h, .refl _ _⟩⟩

theorem KeepX.trans {R : Nat → Nat → Prop} {a b c : World} (h : KeepX R a b) (k : KeepX R b c) : KeepX R a c :=
  ⟨k.os.trans h.os, k.tape.trans h.tape, k.output.trans h.output, Nat.le_trans h.size k.size, fun i o ho => by
    obtain ⟨o1, h1, s1⟩ := h.obj i o ho
    obtain ⟨o2, h2, s2⟩ := k.obj i o1 h1
    exact ⟨o2, h2, s1.trans s2⟩⟩

theorem KeepX.mono {R R' : Nat → Nat → Prop} {w w' : World} (h : KeepX R w w') (hr : ∀ b i, R b i → R' b i) : KeepX R' w w' :=
  ⟨h.os, h.tape, h.output, h.size, fun b o ho => by
    obtain ⟨o', h1, s⟩ := h.obj b o ho
    exact ⟨o', h1, s.mono (hr b)⟩⟩

theorem lt_of_some {α : Type} {a : Array α} {i : Nat} {x : α} (h : a[i]? = some x) : i < a.size := (Array.getElem?_eq_some_iff.1 h).1

theorem some_of_lt {α : Type} {a : Array α} {i : Nat} (h : i < a.size) : ∃ x, a[i]? = some x := ⟨a[i], Array.getElem?_eq_getElem h⟩

theorem KeepX.same {R : Nat → Nat → Prop} {w w' : World} (h : KeepX R w w') {b : Nat} (hb : b < w.heap.size) (hr : ∀ i, ¬ R b i) : w'.heap[b]? = w.heap[b]? := by
  obtain ⟨o, ho⟩ := some_of_lt hb
  obtain ⟨o', h', s⟩ := h.obj b o ho
  rw [h', ho, s.eq hr]

/-- Nothing that was there has changed. -/
abbrev Keep (w w' : World) : Prop := KeepX (fun _ _ => False) w w'

theorem Keep.same {w w' : World} (h : Keep w w') {b : Nat} (hb : b < w.heap.size) : w'.heap[b]? = w.heap[b]? := KeepX.same h hb (fun _ h => h)

theorem Keep.below {w w' : World} (h : Keep w w') : Go.RowKit.Below w.heap.size w w' := ⟨h.os, h.tape, h.output, h.size, fun _ hk => Keep.same h hk⟩

theorem Keep.x {R : Nat → Nat → Prop} {w w' : World} (h : Keep w w') : KeepX R w w' := h.mono (fun _ _ h => h.elim)

theorem keep_of_heap {w w' : World} (h1 : w'.os = w.os) (h2 : w'.tape = w.tape) (h3 : w'.output = w.output) (h4 : w.heap.size ≤ w'.heap.size)
    (h5 : ∀ b, b < w.heap.size → w'.heap[b]? = w.heap[b]?) : Keep w w' :=
  ⟨h1, h2, h3, h4, fun b o ho => ⟨o, by rw [h5 b (lt_of_some ho), ho], .refl _ _⟩⟩

/-! ### facts with a footprint -/

/-- D holds at w, and goes on holding while the blocks of a footprint stay, none of which is among av. -/
def Holds (av : Nat → Prop) (w : World) (D : World → Prop) : Prop :=
  ∃ F : Nat → Prop, (∀ b, F b → b < w.heap.size ∧ ¬ av b) ∧ ∀ w', (∀ b, F b → w'.heap[b]? = w.heap[b]?) → D w'

theorem Holds.now {av : Nat → Prop} {w : World} {D : World → Prop} (h : Holds av w D) : D w := by
  obtain ⟨F, _, h⟩ := h
  exact h w (fun _ _ => rfl)

theorem Holds.imp {av : Nat → Prop} {w : World} {D D' : World → Prop} (h : Holds av w D) (hd : ∀ w, D w → D' w) : Holds av w D' := by
  obtain ⟨F, hF, h⟩ := h
  exact ⟨F, hF, fun w' hw => hd _ (h w' hw)⟩

theorem Holds.pure {av : Nat → Prop} {w : World} {p : Prop} (h : p) : Holds av w (fun _ => p) := ⟨fun _ => False, fun _ h => h.elim, fun _ _ => h⟩

theorem Holds.and {av : Nat → Prop} {w : World} {D D' : World → Prop} (h : Holds av w D) (h' : Holds av w D') : Holds av w (fun w => D w ∧ D' w) := by
  obtain ⟨F, hF, h⟩ := h
  obtain ⟨F', hF', h'⟩ := h'
  exact ⟨fun b => F b ∨ F' b, fun b hb => hb.elim (hF b) (hF' b), fun w' hw => ⟨h w' fun b hb => hw b (.inl hb), h' w' fun b hb => hw b (.inr hb)⟩⟩

theorem Holds.move {av av' : Nat → Prop} {w w' : World} {D : World → Prop} (h : Holds av w D) (hs : w.heap.size ≤ w'.heap.size)
    (hk : ∀ b, b < w.heap.size → ¬ av b → w'.heap[b]? = w.heap[b]?) (ha : ∀ b, av' b → av b ∨ w.heap.size ≤ b) : Holds av' w' D := by
  obtain ⟨F, hF, h⟩ := h
  refine ⟨F, fun b hb => ?_, fun w'' hw => h w'' fun b hb => ?_⟩
  · obtain ⟨h1, h2⟩ := hF b hb
    exact ⟨by omega, fun h3 => (ha b h3).elim h2 (by omega)⟩
  · obtain ⟨h1, h2⟩ := hF b hb
    rw [hw b hb, hk b h1 h2]

theorem Holds.keep {av : Nat → Prop} {w w' : World} {D : World → Prop} (h : Holds av w D) (hk : Keep w w') : Holds av w' D :=
  h.move hk.size (fun _ hb _ => Keep.same hk hb) (fun _ h => .inl h)

/-- A fact on one block. -/
theorem Holds.block {av : Nat → Prop} {w : World} {D : World → Prop} (b : Nat) (hb : b < w.heap.size) (ha : ¬ av b) (h : ∀ w', w'.heap[b]? = w.heap[b]? → D w') : Holds av w D :=
  ⟨fun x => x = b, fun x hx => by subst hx; exact ⟨hb, ha⟩, fun w' hw => h w' (hw b rfl)⟩

/-! ### boxes -/

/-- In block b, from offset o on, lie the cells c; the block may be written. -/
def Range (w : World) (b o : Nat) (c : List Value) : Prop :=
  ∃ arr e, w.heap[b]? = some (.cells arr e (0, 0)) ∧ ∀ j, j < c.length → arr[o + j]? = c[j]?

def Boxes (w : World) : List (Nat × Nat) → List (List Value) → Prop
  | [], [] => True
  | (b, o) :: bs, c :: cs => Range w b o c ∧ Boxes w bs cs
  | _, _ => False

theorem Range.of_same {w w' : World} {b o : Nat} {c : List Value} (h : Range w b o c) (hs : w'.heap[b]? = w.heap[b]?) : Range w' b o c := by
  obtain ⟨arr, e, h1, h2⟩ := h
  exact ⟨arr, e, by rw [hs, h1], h2⟩

theorem Range.lt {w : World} {b o : Nat} {c : List Value} (h : Range w b o c) : b < w.heap.size := by
  obtain ⟨arr, e, h1, _⟩ := h
  exact lt_of_some h1

theorem Boxes.of_same {w w' : World} : ∀ {bs : List (Nat × Nat)} {cs : List (List Value)}, Boxes w bs cs → (∀ x ∈ bs, w'.heap[x.1]? = w.heap[x.1]?) → Boxes w' bs cs
  | [], [], _, _ => trivial
  | (b, o) :: bs, c :: cs, h, hs => ⟨h.1.of_same (hs (b, o) (List.mem_cons_self ..)), Boxes.of_same h.2 (fun x hx => hs x (List.mem_cons_of_mem _ hx))⟩
  | [], _ :: _, h, _ => h.elim
  | _ :: _, [], h, _ => h.elim

theorem Boxes.lt {w : World} : ∀ {bs : List (Nat × Nat)} {cs : List (List Value)}, Boxes w bs cs → ∀ x ∈ bs, x.1 < w.heap.size
  | [], [], _, _, hx => by simp at hx
  | (b, o) :: bs, c :: cs, h, x, hx => by
    rcases List.mem_cons.1 hx with rfl | hx
    · exact h.1.lt
    · exact Boxes.lt h.2 x hx
  | [], _ :: _, h, _, _ => h.elim
  | _ :: _, [], h, _, _ => h.elim

theorem Boxes.get {w : World} : ∀ {bs : List (Nat × Nat)} {cs : List (List Value)}, Boxes w bs cs → ∀ i, i < cs.length → Range w (nth (0, 0) bs i).1 (nth (0, 0) bs i).2 (nth [] cs i) ∧ i < bs.length
  | [], [], _, i, hi => by simp at hi
  | (b, o) :: bs, c :: cs, h, 0, _ => ⟨h.1, by simp⟩
  | (b, o) :: bs, c :: cs, h, i + 1, hi => by
    have := Boxes.get h.2 i (by simpa using hi)
    exact ⟨this.1, by simp [this.2]⟩
  | [], _ :: _, h, _, _ => h.elim
  | _ :: _, [], h, _, _ => h.elim

theorem Boxes.snoc {w : World} {b o : Nat} {c : List Value} (hr : Range w b o c) : ∀ {bs : List (Nat × Nat)} {cs : List (List Value)}, Boxes w bs cs → Boxes w (bs ++ [(b, o)]) (cs ++ [c])
  | [], [], _ => ⟨hr, trivial⟩
  | _ :: _, _ :: _, h => ⟨h.1, Boxes.snoc hr h.2⟩
  | [], _ :: _, h => h.elim
  | _ :: _, [], h => h.elim

theorem Boxes.len {w : World} : ∀ {bs : List (Nat × Nat)} {cs : List (List Value)}, Boxes w bs cs → cs.length = bs.length
  | [], [], _ => rfl
  | _ :: _, _ :: _, h => by simp [Boxes.len h.2]
  | [], _ :: _, h => h.elim
  | _ :: _, [], h => h.elim

/-- One box takes new cells; the others stay. -/
theorem Boxes.put {w w' : World} : ∀ {bs : List (Nat × Nat)} {cs : List (List Value)} (i : Nat) (c' : List Value), Boxes w bs cs → (bs.map (·.1)).Nodup →
    (∀ x ∈ bs, x.1 ≠ (nth (0, 0) bs i).1 → w'.heap[x.1]? = w.heap[x.1]?) → i < bs.length → Range w' (nth (0, 0) bs i).1 (nth (0, 0) bs i).2 c' → Boxes w' bs (cs.set i c')
  | [], [], i, _, _, _, _, hi, _ => by simp at hi
  | (b, o) :: bs, c :: cs, 0, c', h, hn, hs, _, hr => by
    refine ⟨hr, Boxes.of_same h.2 fun x hx => hs x (List.mem_cons_of_mem _ hx) ?_⟩
    simp only [List.map_cons, List.nodup_cons] at hn
    intro he
    exact hn.1 (List.mem_map.2 ⟨x, hx, he⟩)
  | (b, o) :: bs, c :: cs, i + 1, c', h, hn, hs, hi, hr => by
    simp only [List.map_cons, List.nodup_cons] at hn
    have hi' : i < bs.length := by simpa using hi
    refine ⟨h.1.of_same (hs (b, o) (List.mem_cons_self ..) ?_), Boxes.put i c' h.2 hn.2 (fun x hx hne => hs x (List.mem_cons_of_mem _ hx) hne) hi' hr⟩
    intro he
    apply hn.1
    have hm : nth (0, 0) bs i ∈ bs := by
      rw [nth_eq, List.getElem?_eq_getElem hi']; exact List.getElem_mem hi'
    exact List.mem_map.2 ⟨_, hm, he.symm⟩
  | [], _ :: _, _, _, h, _, _, _, _ => h.elim
  | _ :: _, [], _, _, h, _, _, _, _ => h.elim

/-! ### rows of the function's own -/

/-- What lies in a block of the function's own: cells, or a map. -/
inductive Row where
  | c (l : List Value)
  | m (es : Array MapEntry) (clock : Nat)

instance : Coe (List Value) Row := ⟨Row.c⟩

/-- Block b holds just that, and may be written. -/
def RowIs (w : World) (b : Nat) : Row → Prop
  | .c c => ∃ e, w.heap[b]? = some (.cells c.toArray e (0, 0))
  | .m es k => w.heap[b]? = some (.map es k)

theorem RowIs.lt {w : World} {b : Nat} {c : Row} (h : RowIs w b c) : b < w.heap.size := by
  cases c with
  | c l =>
    obtain ⟨e, h⟩ := h
    exact lt_of_some h
  | m es k => exact lt_of_some h

theorem RowIs.of_same {w w' : World} {b : Nat} {c : Row} (h : RowIs w b c) (hs : w'.heap[b]? = w.heap[b]?) : RowIs w' b c := by
  cases c with
  | c l =>
    obtain ⟨e, h⟩ := h
    exact ⟨e, by rw [hs, h]⟩
  | m es k =>
    show w'.heap[b]? = some (.map es k)
    rw [hs]
    exact h

/-- What is known: facts with a footprint, and the rows that are the function's own. -/
structure Fx where
  D : World → Prop
  rs : List (Nat × Row)

structure Fx.Le (F' F : Fx) : Prop where
  rows : F.rs.Sublist F'.rs
  data : ∀ w, F'.D w → F.D w

theorem Fx.Le.refl (F : Fx) : Fx.Le F F := ⟨List.Sublist.refl _, fun _ h => h⟩

def Fx.and (F F' : Fx) : Fx := ⟨fun w => F.D w ∧ F'.D w, F.rs ++ F'.rs⟩

/-! ### the state of a walk -/

/-- The boxes' blocks and the rows', and what is to be left alone besides. -/
def Av (av : Nat → Prop) (bs : List (Nat × Nat)) (rs : List (Nat × Row)) (b : Nat) : Prop := av b ∨ (∃ x ∈ bs, x.1 = b) ∨ ∃ r ∈ rs, r.1 = b

/-- What a call hands back, at the world behind it: rows of its own lie from block n on. -/
structure FxOk (av : Nat → Prop) (n : Nat) (w : World) (F : Fx) : Prop where
  rows : ∀ r ∈ F.rs, RowIs w r.1 r.2 ∧ n ≤ r.1
  nd : (F.rs.map (·.1)).Nodup
  data : Holds (fun b => av b ∨ ∃ r ∈ F.rs, r.1 = b) w F.D

/-- A row that may be written: made since, or handed over. -/
def OwnR (w0 : World) (R : Nat → Nat → Prop) (av : Nat → Prop) (r : Nat × Row) : Prop := w0.heap.size ≤ r.1 ∨ (¬ av r.1 ∧ (∀ i, R r.1 i) ∧ ∃ l, r.2 = Row.c l)

structure St (w0 : World) (R : Nat → Nat → Prop) (av : Nat → Prop) (w : World) (bs : List (Nat × Nat)) (cs : List (List Value)) (F : Fx) : Prop where
  keep : KeepX R w0 w
  box : Boxes w bs cs
  nd : (bs.map (·.1) ++ F.rs.map (·.1)).Nodup
  own : ∀ i, i < bs.length → w0.heap.size ≤ (nth (0, 0) bs i).1 ∨ ∀ j, j < (nth [] cs i).length → R (nth (0, 0) bs i).1 ((nth (0, 0) bs i).2 + j)
  avlt : ∀ b, av b → b < w0.heap.size
  rows : ∀ r ∈ F.rs, RowIs w r.1 r.2 ∧ OwnR w0 R av r
  data : Holds (Av av bs F.rs) w F.D

theorem mem_nth {bs : List (Nat × Nat)} {i : Nat} (h : i < bs.length) : nth (0, 0) bs i ∈ bs := by
  rw [nth_eq, List.getElem?_eq_getElem h]; exact List.getElem_mem h

section St
variable {w0 : World} {R : Nat → Nat → Prop} {av : Nat → Prop} {w w' : World} {bs : List (Nat × Nat)} {cs : List (List Value)} {F : Fx}

theorem St.ndb (h : St w0 R av w bs cs F) : (bs.map (·.1)).Nodup := (List.nodup_append.1 h.nd).1

theorem St.now (h : St w0 R av w bs cs F) : F.D w := h.data.now

theorem St.imp (h : St w0 R av w bs cs F) {F' : Fx} (hd : Fx.Le F F') : St w0 R av w bs cs F' := by
  have hm : ∀ r ∈ F'.rs, r ∈ F.rs := fun r hr => hd.rows.subset hr
  refine ⟨h.keep, h.box, ?_, h.own, h.avlt, fun r hr => h.rows r (hm r hr), ?_⟩
  · exact h.nd.sublist (List.Sublist.append (List.Sublist.refl _) (hd.rows.map _))
  · exact (h.data.imp hd.data).move (Nat.le_refl _) (fun _ _ _ => rfl) (fun b hb => .inl (by
      rcases hb with hb | hb | ⟨r, hr, rfl⟩
      · exact .inl hb
      · exact .inr (.inl hb)
      · exact .inr (.inr ⟨r, hm r hr, rfl⟩)))

theorem St.avb (h : St w0 R av w bs cs F) {b : Nat} (hb : Av av bs F.rs b) : b < w.heap.size := by
  rcases hb with hb | ⟨x, hx, rfl⟩ | ⟨r, hr, rfl⟩
  · exact Nat.lt_of_lt_of_le (h.avlt b hb) h.keep.size
  · exact h.box.lt x hx
  · exact (h.rows r hr).1.lt

theorem St.keptD (h : St w0 R av w bs cs F) (hk : Keep w w') : St w0 R av w' bs cs F :=
  ⟨h.keep.trans hk.x, h.box.of_same fun x hx => Keep.same hk (h.box.lt x hx), h.nd, h.own, h.avlt,
    fun r hr => ⟨(h.rows r hr).1.of_same (Keep.same hk (h.rows r hr).1.lt), (h.rows r hr).2⟩, h.data.keep hk⟩

/-- Nothing that was there has changed, and more is known. -/
theorem St.kept (h : St w0 R av w bs cs F) (hk : Keep w w') {F' : Fx} (hd : FxOk (Av av bs F.rs) w.heap.size w' F') : St w0 R av w' bs cs (F.and F') := by
  have h' := h.keptD hk
  refine ⟨h'.keep, h'.box, ?_, h'.own, h'.avlt, fun r hr => ?_, ?_⟩
  · show (bs.map (·.1) ++ (F.rs ++ F'.rs).map (·.1)).Nodup
    rw [List.map_append, ← List.append_assoc, List.nodup_append]
    refine ⟨h.nd, hd.nd, fun x hx y hy hxy => ?_⟩
    subst hxy
    obtain ⟨r, hr, rfl⟩ := List.mem_map.1 hy
    have h1 := (hd.rows r hr).2
    rcases List.mem_append.1 hx with hx | hx
    · obtain ⟨z, hz, he⟩ := List.mem_map.1 hx
      have := h.box.lt z hz
      omega
    · obtain ⟨z, hz, he⟩ := List.mem_map.1 hx
      have := (h.rows z hz).1.lt
      omega
  · rcases List.mem_append.1 hr with hr | hr
    · exact h'.rows r hr
    · exact ⟨(hd.rows r hr).1, .inl (Nat.le_trans h.keep.size (hd.rows r hr).2)⟩
  · refine Holds.and ?_ ?_
    · refine h.data.move hk.size (fun b hb _ => Keep.same hk hb) (fun b hb => ?_)
      rcases hb with hb | hb | ⟨r, hr, rfl⟩
      · exact .inl (.inl hb)
      · exact .inl (.inr (.inl hb))
      · rcases List.mem_append.1 hr with hr | hr
        · exact .inl (.inr (.inr ⟨r, hr, rfl⟩))
        · exact .inr (hd.rows r hr).2
    · refine hd.data.move (Nat.le_refl _) (fun _ _ _ => rfl) (fun b hb => .inl ?_)
      rcases hb with hb | hb | ⟨r, hr, rfl⟩
      · exact .inl (.inl hb)
      · exact .inl (.inr (.inl hb))
      · rcases List.mem_append.1 hr with hr | hr
        · exact .inl (.inr (.inr ⟨r, hr, rfl⟩))
        · exact .inr ⟨r, hr, rfl⟩

/-- A new box. -/
theorem St.new (h : St w0 R av w bs cs F) (c : List Value) (e : TypeId) :
    St w0 R av { w with heap := w.heap.push (.cells c.toArray e) } (bs ++ [(w.heap.size, 0)]) (cs ++ [c]) F := by
  have hk : Keep w { w with heap := w.heap.push (.cells c.toArray e) } :=
    keep_of_heap rfl rfl rfl (by simp) (fun b hb => by simp [Array.getElem?_push, Nat.ne_of_lt hb])
  have hst := h.keptD hk
  refine ⟨hst.keep, Boxes.snoc ?_ hst.box, ?_, ?_, hst.avlt, hst.rows, ?_⟩
  · exact ⟨c.toArray, e, by simp, fun j hj => by simp⟩
  · have hnd := h.nd
    rw [List.nodup_append] at hnd ⊢
    obtain ⟨n1, n2, n3⟩ := hnd
    refine ⟨?_, n2, fun x hx y hy hxy => ?_⟩
    · rw [List.map_append, List.nodup_append]
      refine ⟨n1, by simp, ?_⟩
      intro a ha b hb
      simp at hb
      obtain ⟨x, hx, rfl⟩ := List.mem_map.1 ha
      have := h.box.lt x hx
      omega
    · rw [List.map_append] at hx
      rcases List.mem_append.1 hx with hx | hx
      · exact n3 x hx y hy hxy
      · simp at hx
        obtain ⟨r, hr, he⟩ := List.mem_map.1 hy
        have := (h.rows r hr).1.lt
        omega
  · intro i hi
    have hl := h.box.len
    rw [nth_eq, nth_eq]
    by_cases hib : i < bs.length
    · rw [List.getElem?_append_left hib, List.getElem?_append_left (by omega)]
      have := h.own i hib
      rwa [nth_eq, nth_eq] at this
    · have : i = bs.length := by simp at hi; omega
      subst this
      left
      have := h.keep.size
      simp
      exact this
  · exact h.data.move hk.size (fun b hb _ => Keep.same hk hb) (fun b hb => by
      rcases hb with hb | ⟨x, hx, rfl⟩ | hb
      · exact .inl (.inl hb)
      · rcases List.mem_append.1 hx with hx | hx
        · exact .inl (.inr (.inl ⟨x, hx, rfl⟩))
        · simp at hx; subst hx; exact .inr (Nat.le_refl _)
      · exact .inl (.inr (.inr hb)))

/-- A box takes new cells. -/
theorem St.put (h : St w0 R av w bs cs F) (i : Nat) (hi : i < bs.length) (c' : List Value) (hlen : c'.length = (nth [] cs i).length)
    (hw : KeepX (fun b o => b = (nth (0, 0) bs i).1 ∧ (nth (0, 0) bs i).2 ≤ o ∧ o < (nth (0, 0) bs i).2 + (nth [] cs i).length) w w')
    (hr : Range w' (nth (0, 0) bs i).1 (nth (0, 0) bs i).2 c') : St w0 R av w' bs (cs.set i c') F := by
  have hoth : ∀ b, b < w.heap.size → b ≠ (nth (0, 0) bs i).1 → w'.heap[b]? = w.heap[b]? := fun b hb hne => hw.same hb (fun _ hR => hne hR.1)
  have hcl := h.box.len
  refine ⟨?_, h.box.put i c' h.ndb (fun x hx hne => hoth _ (h.box.lt x hx) hne) hi hr, h.nd, ?_, h.avlt, fun r hr' => ?_, ?_⟩
  · refine ⟨hw.os.trans h.keep.os, hw.tape.trans h.keep.tape, hw.output.trans h.keep.output, Nat.le_trans h.keep.size hw.size, fun b o ho => ?_⟩
    obtain ⟨o1, h1, s1⟩ := h.keep.obj b o ho
    obtain ⟨o2, h2, s2⟩ := hw.obj b o1 h1
    refine ⟨o2, h2, s1.trans (s2.mono fun k hk => ?_)⟩
    obtain ⟨hb, hk1, hk2⟩ := hk
    rcases h.own i hi with ho' | ho'
    · have := lt_of_some ho
      omega
    · have := ho' (k - (nth (0, 0) bs i).2) (by omega)
      rw [hb]
      rwa [show (nth (0, 0) bs i).2 + (k - (nth (0, 0) bs i).2) = k from by omega] at this
  · intro j hj
    have := h.own j hj
    rw [nth_eq, nth_eq] at this ⊢
    by_cases hij : i = j
    · subst hij
      rw [List.getElem?_set_self (by omega)]
      rw [nth_eq, nth_eq] at *
      simp only [Option.getD_some]
      rw [hlen]
      exact this
    · rw [List.getElem?_set_ne hij]; exact this
  · have hne : r.1 ≠ (nth (0, 0) bs i).1 := fun he => (List.nodup_append.1 h.nd).2.2 _ (List.mem_map.2 ⟨_, mem_nth hi, rfl⟩) _ (List.mem_map.2 ⟨r, hr', rfl⟩) he.symm
    exact ⟨(h.rows r hr').1.of_same (hoth _ (h.rows r hr').1.lt hne), (h.rows r hr').2⟩
  · exact h.data.move hw.size (fun b hb hna => hoth b hb (fun he => hna (.inr (.inl ⟨_, mem_nth hi, he.symm⟩)))) (fun _ h => .inl h)

end St

/-- Whatever the rest: where F is known, F' is. -/
def Ent (F F' : Fx) : Prop := ∀ w0 R av w bs cs, St w0 R av w bs cs F → St w0 R av w bs cs F'

theorem Ent.refl (F : Fx) : Ent F F := fun _ _ _ _ _ _ h => h
theorem Ent.trans {F G H : Fx} (h : Ent F G) (k : Ent G H) : Ent F H := fun _ _ _ _ _ _ hs => k _ _ _ _ _ _ (h _ _ _ _ _ _ hs)
theorem Ent.of_le {F F' : Fx} (h : Fx.Le F F') : Ent F F' := fun _ _ _ _ _ _ hs => hs.imp h
/-- Facts that follow, the rows being the same. -/
theorem Ent.imp {D D' : World → Prop} {rs : List (Nat × Row)} (h : ∀ w, D w → D' w) : Ent ⟨D, rs⟩ ⟨D', rs⟩ := .of_le ⟨List.Sublist.refl _, h⟩
/-- All rows are given up. -/
theorem Ent.bare {D D' : World → Prop} {rs : List (Nat × Row)} (h : ∀ w, D w → D' w) : Ent ⟨D, rs⟩ ⟨D', []⟩ := .of_le ⟨List.nil_sublist _, h⟩
theorem St.ent {w0 : World} {R : Nat → Nat → Prop} {av : Nat → Prop} {w : World} {bs : List (Nat × Nat)} {cs : List (List Value)} {F F' : Fx} (h : St w0 R av w bs cs F) (he : Ent F F') : St w0 R av w bs cs F' := he _ _ _ _ _ _ h

end Go.Sx
