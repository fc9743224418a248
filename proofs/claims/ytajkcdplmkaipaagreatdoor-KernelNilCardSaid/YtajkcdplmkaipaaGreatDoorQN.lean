/- Parts of the proof: AdQ. -/
import Derived.Test.YtajkcdplmkaipaaGreatDoorQH
import Derived.Test.YtajkcdplmkaipaaGreatDoorQL
import Derived.Test.YtajkcdplmkaipaaGreatDoorQM
import Derived.Test.YtajkcdplmkaipaaGreatDoorRows
import Derived.SizedLaws
namespace Go.Proofs.YtajkcdplmkaipaaGreatDoor
open Go Go.Sx Go.ChangeShapes Go.WideShapes
set_option maxRecDepth 100000
set_option maxHeartbeats 2000000
set_option linter.unusedVariables false
set_option linter.unusedSimpArgs false

section
variable {H : Type} (enc : TypeId × Value → H) (w : World) (base : Nat) (spare : Nat → Bool) (held : Bool)

/-- Cells of a type that can be read are those of some datum. -/
structure Op (t : TypeId) (n : Nat) {β : Type} (f : β → List Value) (good : β → Prop) : Prop where
 cells : Tryz.prog.cellsOf t = n
 get : ∀ (m : Nat) (cs : List Value) (x : DataW H × List MemPlace), DataW.trod enc Tryz.prog w base spare held m t cs = some x → cs.length = n → (∀ k ∈ x.1.weights Tryz.prog t, k ≤ reachBytes) → ∃ b : β, cs = f b ∧ good b
end

section
variable {H : Type} {enc : TypeId × Value → H} {w : World} {base : Nat} {spare : Nat → Bool} {held : Bool}

theorem one_of {α : Type} {cs : List α} (h : cs.length = 1) : ∃ v, cs = [v] := by
 rcases cs with _ | ⟨v, _ | ⟨u, r⟩⟩ <;> simp at h
 exact ⟨v, rfl⟩

def iC (z : Int) : List Value := [.int .i64 z]
def uC (z : Nat) : List Value := [.int .u8 z]
def slC {β : Type} (s : Sl β) : List Value := [s.v]
def bsC (x : Bs) : List Value := [bsV x]
def arC {β : Type} (n : Nat) (f : β → List Value) (g : Nat → β) : List Value := (List.range n).flatMap fun i => f (g i)

theorem op_int : Op enc w base spare held 3 1 iC fun _ => True := by
 refine ⟨cellsOf_tab tabOk (t := 3) rfl, fun m cs x h hl _ => ?_⟩
 obtain ⟨v, rfl⟩ := one_of hl
 obtain ⟨z, h1, _, hw⟩ := DataW.trod_int Tryz.underlying3 h
 cases h1
 exact ⟨z, rfl, trivial⟩

theorem op_u8 : Op enc w base spare held 5 1 uC fun _ => True := by
 refine ⟨cellsOf_tab tabOk (t := 5) rfl, fun m cs x h hl _ => ?_⟩
 obtain ⟨v, rfl⟩ := one_of hl
 obtain ⟨z, h1, _, hw⟩ := DataW.trod_int Tryz.underlying5 h
 cases h1
 have hb := bounds_u8 hw
 refine ⟨z.toNat, ?_, trivial⟩
 unfold uC
 congr 2
 omega

/-- A slice that can be read: its elements, each by its cells. -/
theorem slice_openW {P : Program} {t e : TypeId} {n sz : Nat} {v : Value} {x : DataW H × List MemPlace} (ht : P.underlying t = some (.slice e)) (hs : P.cellsOf e = sz) (hsz : 0 < sz)
 (h : DataW.trod enc P w base spare held n t [v] = some x) : ∃ (k : Hd) (L : List (List Value)), v = k.v L.length ∧ k.Ok L.length ∧ RowAt w k.a L.flatten ∧
  (∀ c ∈ L, c.length = sz ∧ ∃ m y, DataW.trod enc P w base spare held m e c = some y ∧ ∃ el sp, x.1 = .slice el sp ∧ y.1 ∈ el) ∧ (L = [] ∨ ∃ el sp, x.1 = .slice el sp ∧ el.length = L.length) := by
 rcases DataW.trod_slice ht h with ⟨h1, _⟩ | ⟨a, len, cap, elems, rest, m, _, h1, hx, _, hle, _, hel, hat, _, _⟩
 · cases h1
   exact ⟨Hd.nil, [], rfl, Hd.nil_ok, rfl, by simp, .inl rfl⟩
 · cases h1
   have hcell : ∀ i, i < len → ∃ c : List Value, c.length = sz ∧ (∀ j, j < sz → w.cell? ((a.add (i * sz)).add j) = c[j]?) ∧ ∃ m y, DataW.trod enc P w base spare held m e c = some y ∧ ∃ el sp, x.1 = .slice el sp ∧ y.1 ∈ el := by
    intro i hi
    have h2 := hat i hi
    rw [hs, List.getElem?_eq_getElem (by omega)] at h2
    cases hcs : w.cells? base (a.add (i * sz)) sz with
    | none => rw [hcs] at h2; cases h2
    | some cs =>
     rw [hcs] at h2
     obtain ⟨_, h4, h3⟩ := World.cells?_some hcs
     exact ⟨cs, h4, h3, m, _, h2, _, _, by rw [hx], List.mem_map.2 ⟨_, List.getElem_mem _, rfl⟩⟩
   obtain ⟨L, hl, hp⟩ := list_of len hcell
   have hlen : ∀ c ∈ L, c.length = sz := fun c hc => by
    obtain ⟨i, hi, rfl⟩ := List.getElem_of_mem hc
    exact (hp i hi).1
   refine ⟨⟨some a, cap⟩, L, by simp [Hd.v, hl], ⟨by simp, by simpa [hl] using hle⟩, ?_, fun c hc => ?_, .inr ⟨_, _, by rw [hx], by simp [hel, hl]⟩⟩
   · rcases Nat.eq_zero_or_pos len with h0 | h0
     · have : L = [] := List.eq_nil_of_length_eq_zero (by omega)
       subst this
       exact .inl rfl
     · have hl0 : 0 < L.length := by omega
       have c0 := (hp 0 hl0).2.1 0 hsz
       have z0 : (a.add (0 * sz)).add 0 = a := by simp [Addr.add]
       rw [z0, List.getElem?_eq_getElem (by rw [(hp 0 hl0).1]; exact hsz)] at c0
       have hh : a.spot = none ∧ ∃ arr e fz, w.heap[a.block]? = some (.cells arr e fz) := by
        unfold World.cell? at c0
        split at c0
        · rename_i c el fz hb
          split at c0
          · cases c0
          · rename_i hsp
            exact ⟨by cases hq : a.spot <;> simp_all, c, el, fz, hb⟩
        · cases c0
       obtain ⟨hsp, arr, el, fz, hb⟩ := hh
       refine .inr ⟨hsp, arr, el, fz, hb, fun j hj => ?_⟩
       rw [flatten_len hlen] at hj
       have hq : j / sz < L.length := (Nat.div_lt_iff_lt_mul hsz).2 hj
       have hr : j % sz < sz := Nat.mod_lt _ hsz
       have e1 : j / sz * sz + j % sz = j := by rw [Nat.mul_comm]; exact Nat.div_add_mod j sz
       have h5 := (hp _ hq).2.1 _ hr
       rw [Addr.addAdd hsp, e1] at h5
       have h6 := flatten_at hlen hq hr
       rw [e1] at h6
       rw [h6, ← h5]
       obtain ⟨b, o, sp⟩ := a
       simp only at hsp hb
       subst hsp
       rw [Addr.add_none]
       simp [World.cell?, hb]
   · obtain ⟨i, hi, rfl⟩ := List.getElem_of_mem hc
     exact ⟨(hp i hi).1, (hp i hi).2.2⟩

theorem weightsAll_mem {P : Program} {e : TypeId} : ∀ {l : List (DataW H)} {d : DataW H}, d ∈ l → ∀ k ∈ d.weights P e, k ∈ DataW.weightsAll P e l
 | d0 :: l, d, hd, k, hk => by
  rcases List.mem_cons.1 hd with rfl | h
  · unfold DataW.weightsAll
    exact List.mem_append.2 (.inl hk)
  · unfold DataW.weightsAll
    exact List.mem_append.2 (.inr (weightsAll_mem h k hk))

/-- What is known of a slice that can be read. -/
structure SlG {β : Type} (w : World) (f : β → List Value) (bz : Nat) (good : β → Prop) (s : Sl β) : Prop where
 h : s.h.Ok s.l.length
 sz : s.l.length * bz ≤ 140737488351232
 row : RowAt w s.h.a (s.l.flatMap f)
 all : ∀ b ∈ s.l, good b

theorem SlG.ok {β : Type} {f : β → List Value} {bz : Nat} {good : β → Prop} {s : Sl β} (h : SlG w f bz good s) (hb : 0 < bz) : s.Ok := by
 refine ⟨h.h, ?_⟩
 have := h.sz
 have : s.l.length * 1 ≤ s.l.length * bz := Nat.mul_le_mul_left _ hb
 omega

theorem op_slice {t e : TypeId} {sz bz : Nat} {β : Type} {f : β → List Value} {good : β → Prop} (ht : Tryz.prog.underlying t = some (.slice e)) (hc : Tryz.prog.cellsOf t = 1) (hbz : Tryz.prog.bytesOf e = bz) (hsz : 0 < sz) (he : Op enc w base spare held e sz f good) :
 Op enc w base spare held t 1 (slC (β := β)) (SlG w f bz good) := by
 refine ⟨hc, fun m cs x h hl hw => ?_⟩
 obtain ⟨v, rfl⟩ := one_of hl
 obtain ⟨k, L, rfl, hk, hr, hcl, hsl⟩ := slice_openW ht he.cells hsz h
 have hwl : L.length * bz ≤ 140737488351232 := by
  rcases hsl with rfl | ⟨el, sp, h1, h2⟩
  · simp
  rw [h1] at hw
  have := hw ((el.length + sp.length) * Tryz.prog.bytesOf e) (by
   unfold DataW.weights
   rw [ht]
   exact List.mem_cons_self ..)
  rw [hbz] at this
  unfold reachBytes at this
  have h3 : L.length * bz ≤ (el.length + sp.length) * bz := Nat.mul_le_mul_right _ (by omega)
  omega
 obtain ⟨l, rfl, hg⟩ := each_of (f := f) (good := good) (L := L) fun c hcm => by
  obtain ⟨h1, m, y, h2, el, sp, h3, h4⟩ := hcl c hcm
  refine he.get m c y h2 h1 fun k hk => hw k ?_
  rw [h3]
  unfold DataW.weights
  rw [ht]
  exact List.mem_cons_of_mem _ (List.mem_append.2 (.inl (weightsAll_mem h4 k hk)))
 rw [List.length_map] at hwl hk
 refine ⟨⟨k, l⟩, ?_, hk, hwl, ?_, hg⟩
 · unfold slC Sl.v
   rw [List.length_map]
 · show RowAt w k.a (l.flatMap f)
   rw [List.flatMap_def]
   exact hr

theorem op_array {t e : TypeId} {n sz : Nat} {β : Type} [Inhabited β] {f : β → List Value} {good : β → Prop} (ht : Tryz.prog.underlying t = some (.array n e)) (hc : Tryz.prog.cellsOf t = n * sz) (he : Op enc w base spare held e sz f good) :
 Op enc w base spare held t (n * sz) (arC n f) fun g => ∀ i, i < n → good (g i) := by
 refine ⟨hc, fun m cs x h hl hw => ?_⟩
 obtain ⟨xs, m', _, hx, _, hxl, hel⟩ := DataW.trod_array ht h
 have hel' : ∀ i, i < n → ∃ b : β, (cs.drop (i * sz)).take sz = f b ∧ good b := fun i hi => by
  have h1 := hel i hi
  rw [he.cells, List.getElem?_eq_getElem (by omega)] at h1
  refine he.get _ _ _ h1 (by
   have : (i + 1) * sz ≤ n * sz := Nat.mul_le_mul_right _ hi
   rw [Nat.succ_mul] at this
   rw [List.length_take, List.length_drop]
   omega) fun k hk => hw k ?_
  rw [hx]
  unfold DataW.weights
  rw [ht]
  exact weightsAll_mem (List.mem_map.2 ⟨_, List.getElem_mem _, rfl⟩) k hk
 obtain ⟨l, hll, hp⟩ := list_of n hel'
 have hg : ∀ i (h : i < l.length), l[i]! = l[i] := fun i h => by simp [h]
 refine ⟨fun i => l[i]!, ?_, fun i hi => by dsimp only; rw [hg i (by omega)]; exact (hp i (by omega)).2⟩
 have key : ∀ j, j ≤ n → cs.take (j * sz) = (List.range j).flatMap fun i => f l[i]! := by
  intro j
  induction j with
  | zero => intro _; simp
  | succ j ih =>
   intro hj
   rw [List.range_succ, List.flatMap_append, ← ih (by omega), Nat.succ_mul, List.take_add]
   congr 1
   rw [(hp j (by omega)).1, ← hg j (by omega)]
   simp
 have := key n (Nat.le_refl _)
 rw [List.take_of_length_le (by omega)] at this
 exact this

theorem op_field {t u : TypeId} {fs : Array Field} {m o n : Nat} {cs : List Value} {x : DataW H × List MemPlace} {β : Type} {f : β → List Value} {good : β → Prop} (ht : Tryz.prog.underlying t = some (.struct fs)) (h : DataW.trod enc Tryz.prog w base spare held m t cs = some x) (hw : ∀ k ∈ x.1.weights Tryz.prog t, k ≤ reachBytes)
 (i : Nat) (hf : (fs[i]?).map (fun f => (f.type, f.offset)) = some (u, o)) (he : Op enc w base spare held u n f good) (hl : o + n ≤ cs.length) : ∃ b : β, (cs.drop o).take n = f b ∧ good b := by
 obtain ⟨xs, m', _, hx, _, hxl, hel⟩ := DataW.trod_struct ht h
 cases hg : fs[i]? with
 | none => rw [hg] at hf; cases hf
 | some fd =>
  rw [hg] at hf
  have hi : i < fs.size := (Array.getElem?_eq_some_iff.1 hg).1
  have h1 := hel i fd hg
  cases hf
  rw [he.cells, List.getElem?_eq_getElem (by omega)] at h1
  refine he.get _ _ _ h1 (by rw [List.length_take, List.length_drop]; omega) fun k hk => hw k ?_
  rw [hx]
  unfold DataW.weights
  rw [ht]
  refine DataW.weights_mem_each (j := i) (t := fd.type) (d := xs[i].1) ?_ ?_ k hk
  · rw [List.getElem?_map]
    have : fs.toList[i]? = some fd := by rw [Array.getElem?_toList]; exact hg
    rw [this]
    rfl
  · rw [List.getElem?_map, List.getElem?_eq_getElem (by omega)]
    rfl

theorem chain {cs a r : List Value} {o n : Nat} (h : (cs.drop o).take n = a) (k : cs.drop (o + n) = r) : cs.drop o = a ++ r := by
 rw [← h, ← k, ← List.drop_drop, List.take_append_drop]

end
end Go.Proofs.YtajkcdplmkaipaaGreatDoor
