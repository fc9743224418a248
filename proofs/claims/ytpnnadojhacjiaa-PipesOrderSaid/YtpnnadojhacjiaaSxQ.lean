/- Sx, part Q: rows of cells in memory: reading them. -/
import Derived.Test.YtpnnadojhacjiaaSxP
namespace Go.Sx
set_option linter.unusedVariables false

def byteV (x : UInt8) : Value := .int .u8 (x.toNat : Int)

/-- From the address on lie the cells L (nil: none). -/
def RowAt (w : World) (a : Option Addr) (L : List Value) : Prop :=
  match a with
  | none => L = []
  | some ad => L = [] ∨ (ad.spot = none ∧ ∃ arr e fz, w.heap[ad.block]? = some (.cells arr e fz) ∧ ∀ j, j < L.length → arr[ad.off + j]? = L[j]?)

/-- Where there is a cell, the block is there. -/
theorem RowAt.there {w : World} {ad : Addr} {L : List Value} (h : RowAt w (some ad) L) (hn : L ≠ []) : ad.spot = none ∧ ∃ arr e fz, w.heap[ad.block]? = some (.cells arr e fz) ∧ ∀ j, j < L.length → arr[ad.off + j]? = L[j]? :=
  h.resolve_left hn

theorem RowAt.none' {w : World} (a : Option Addr) : RowAt w a [] := by
  cases a with
  | none => rfl
  | some ad => exact .inl rfl

theorem ne_of_lt {α : Type} {L : List α} {j : Nat} (h : j < L.length) : L ≠ [] := by
  rintro rfl
  simp at h

theorem RowAt.nilA {w : World} : RowAt w none [] := rfl

theorem RowAt.nil_of {w : World} {L : List Value} (h : RowAt w none L) : L = [] := h

theorem RowAt.cell {w : World} {ad : Addr} {L : List Value} (h : RowAt w (some ad) L) {j : Nat} (hj : j < L.length) : w.cell? (ad.add j) = L[j]? := by
  obtain ⟨hs, arr, e, fz, h1, h2⟩ := h.there (ne_of_lt hj)
  obtain ⟨b, o, s⟩ := ad
  simp at hs
  subst hs
  rw [Addr.add_none]
  simp [World.cell?, h1, h2 j hj]

theorem Addr.add_add {ad : Addr} (h : ad.spot = none) (m n : Nat) : (ad.add m).add n = ad.add (m + n) := by
  obtain ⟨b, o, s⟩ := ad
  simp at h
  subst h
  simp [Addr.add_none, Nat.add_assoc]

theorem Addr.spot_add {ad : Addr} (h : ad.spot = none) (m : Nat) : (ad.add m).spot = none := by
  obtain ⟨b, o, s⟩ := ad
  simp at h
  subst h
  simp [Addr.add_none]

theorem RowAt.drop {w : World} {ad : Addr} {L : List Value} (h : RowAt w (some ad) L) (k : Nat) : RowAt w (some (ad.add k)) (L.drop k) := by
  rcases h with rfl | ⟨hs, arr, e, fz, h1, h2⟩
  · exact .inl (by simp)
  obtain ⟨b, o, s⟩ := ad
  simp at hs
  subst hs
  rw [Addr.add_none]
  refine .inr ⟨rfl, arr, e, fz, h1, fun j hj => ?_⟩
  simp at hj
  rw [Nat.add_assoc, h2 _ (by omega), List.getElem?_drop]

theorem RowAt.take {w : World} {a : Option Addr} {L : List Value} (h : RowAt w a L) (k : Nat) : RowAt w a (L.take k) := by
  cases a with
  | none => rw [RowAt.nil_of h]; simp [RowAt]
  | some ad =>
    rcases h with rfl | ⟨hs, arr, e, fz, h1, h2⟩
    · exact .inl (by simp)
    refine .inr ⟨hs, arr, e, fz, h1, fun j hj => ?_⟩
    simp at hj
    rw [h2 _ (by omega), List.getElem?_take, if_pos (by omega)]

theorem RowAt.nil {w : World} {a : Option Addr} {L : List Value} (h : RowAt w a L) : RowAt w a [] := by simpa using h.take 0

theorem RowAt.of_row {w : World} {b : Nat} {C : List Value} (h : RowIs w b C) : RowAt w (some ⟨b, 0, none⟩) C := by
  obtain ⟨e, h⟩ := h
  exact .inr ⟨rfl, C.toArray, e, _, h, fun j hj => by simp⟩

theorem RowAt.of_range {w : World} {b o : Nat} {C : List Value} (h : Range w b o C) : RowAt w (some ⟨b, o, none⟩) C := by
  obtain ⟨arr, e, h1, h2⟩ := h
  exact .inr ⟨rfl, arr, e, _, h1, h2⟩

theorem RowAt.holds {av : Nat → Prop} {w : World} {ad : Addr} {L : List Value} (h : RowAt w (some ad) L) (ha : ¬ av ad.block) : Holds av w (fun w => RowAt w (some ad) L) := by
  rcases h with rfl | ⟨hs, arr, e, fz, h1, h2⟩
  · exact ⟨fun _ => False, fun _ h => h.elim, fun _ _ => .inl rfl⟩
  exact Holds.block ad.block (lt_of_some h1) ha fun w' hw => .inr ⟨hs, arr, e, fz, by rw [hw, h1], h2⟩

section
variable {P : Program} {tab : Tab} {w0 : World} {R : Nat → Nat → Prop} {av : Nat → Prop} {bs : List (Nat × Nat)} {cs : List (List Value)} {F : Fx}

/-- What a walk sees at an address, whatever the world. -/
def Sees (w0 : World) (R : Nat → Nat → Prop) (av : Nat → Prop) (bs : List (Nat × Nat)) (cs : List (List Value)) (F : Fx) (a : Option Addr) (L : List Value) : Prop := ∀ w, St w0 R av w bs cs F → RowAt w a L

theorem Sees.fact {a : Option Addr} {L : List Value} (h : ∀ w, F.D w → RowAt w a L) : Sees w0 R av bs cs F a L := fun w hst => h w hst.now

theorem Sees.row {b : Nat} {C : List Value} (h : (b, Row.c C) ∈ F.rs) : Sees w0 R av bs cs F (some ⟨b, 0, none⟩) C := fun w hst => .of_row (hst.rows _ h).1

theorem Sees.take {a : Option Addr} {L : List Value} (h : Sees w0 R av bs cs F a L) (k : Nat) : Sees w0 R av bs cs F a (L.take k) := fun w hst => (h w hst).take k

theorem Sees.eq {a : Option Addr} {L L' : List Value} (h : Sees w0 R av bs cs F a L) (e : L = L') : Sees w0 R av bs cs F a L' := e ▸ h

theorem XVal.of_read {m : Sem Value} {K : KV} (h : XRead P w0 R av m bs cs F fun v => K v bs cs F) : XVal P w0 R av m bs cs F K := by
  obtain ⟨v, h1, h2⟩ := (XRead_iff _ _ _ _).1 h
  exact XVal_iff.2 fun w hst => ⟨v, w, [], cs, F, h1 w hst, by rw [List.append_nil]; exact hst, by rw [List.append_nil]; exact h2⟩

theorem slice_of {d : TypeDesc} {e : TypeId} (h : mkTK d = .slice e) : d = .slice e := by
  cases d <;> simp [mkTK] at h
  rw [h]

/-- s[i]'s address. -/
theorem XRead.index (hT : TabOk P tab) {t : TypeId} {ti te : TI} {e : TypeId} (ht : look tab t = some ti) (hk : ti.k = .slice e) (he : look tab e = some te) {a : Option Addr} {n c : Nat} {k : IntKind} {i : Int} {K : Value → Prop}
    (h0 : 0 ≤ i) (h1 : i < n) (ha : a = none → n = 0) (h : ∀ ad, a = some ad → K (.pointer (some (ad.add (i.toNat * te.size))))) :
    XRead P w0 R av (Instr.indexAt t (.slice a n c) (.int k i)) bs cs F K := by
  cases a with
  | none => have := ha rfl; omega
  | some ad =>
    refine (XRead_iff _ _ _ _).2 ⟨_, fun w _ => ?_, h ad rfl⟩
    obtain ⟨i1, d1, z1, p1, p2, p3, p4, p5, p6, p7, p8⟩ := mkTI_parts (hT _ _ ht)
    obtain ⟨i2, d2, z2, q1, q2, q3, q4, q5, q6, q7, q8⟩ := mkTI_parts (hT _ _ he)
    rw [p4] at hk
    obtain rfl := slice_of hk
    unfold Instr.indexAt
    rw [run_bind_ok (m := asIntOf (.int k i)) (a := (k, i)) (w' := w) rfl]
    simp only
    rw [run_bind_ok (run_underlying' p2 w)]
    simp only
    rw [run_bind_ok (run_pure P _ w), run_bind_ok (run_underlying' p2 w)]
    simp only
    rw [if_pos ⟨h0, h1⟩, run_bind_ok (run_sizeOf q1 w), ← q5]
    rfl

/-- A cell that is read through a pointer. -/
theorem XRead.load (hT : TabOk P tab) {t : TypeId} {ti : TI} (ht : look tab t = some ti) (hk : ti.k.agg = false) {p ad : Addr} {k : Nat} {L : List Value} {v : Value} {K : Value → Prop}
    (hs : Sees w0 R av bs cs F (some ad) L) (hp : p = ad.add k) (hv : L[k]? = some v) (h : K v) : XRead P w0 R av (Instr.loadAt t (.pointer (some p))) bs cs F K := by
  subst hp
  refine (XRead_iff _ _ _ _).2 ⟨v, fun w hst => ?_, h⟩
  show (loadVar t (ad.add k)).run P w = _
  have hlt : k < L.length := (List.getElem?_eq_some_iff.1 hv).1
  exact run_loadVar_one (hT _ _ ht) hk (by rw [(hs w hst).cell hlt, hv])

/-- A struct that is read through a pointer. -/
theorem XRead.loads (hT : TabOk P tab) {t : TypeId} {ti : TI} (ht : look tab t = some ti) (hk : ti.k.agg = true) {p ad : Addr} {k : Nat} {L m : List Value} {K : Value → Prop}
    (hs : Sees w0 R av bs cs F (some ad) L) (hp : p = ad.add k) (hm : (L.drop k).take ti.size = m) (hl : m.length = ti.size) (h : K (.agg ⟨m⟩)) : XRead P w0 R av (Instr.loadAt t (.pointer (some p))) bs cs F K := by
  subst hp
  refine (XRead_iff _ _ _ _).2 ⟨_, fun w hst => ?_, h⟩
  show (loadVar t (ad.add k)).run P w = _
  have hr := (hs w hst)
  rcases hr with he | hr
  · subst he
    simp at hm
    subst hm
    obtain ⟨i1, d1, z1, p1, p2, p3, p4, p5, p6, p7, p8⟩ := mkTI_parts (hT _ _ ht)
    unfold loadVar
    rw [run_bind_ok (run_isAgg p2 w), ← p4, hk]
    simp only [if_true]
    rw [run_bind_ok (run_sizeOf p1 w), ← p5, ← hl]
    rfl
  have hsp : ad.spot = none := hr.1
  have hr : RowAt w (some ad) L := .inr hr
  obtain ⟨b, o, s⟩ := ad
  simp at hsp
  subst hsp
  rw [Addr.add_none]
  refine run_loadVar_agg (hT _ _ ht) hk m hl fun j hj => ?_
  have := hr.cell (j := k + j) (by rw [← hm] at hj; simp at hj; omega)
  rw [Addr.add_none, ← Nat.add_assoc] at this
  rw [this, ← hm, List.getElem?_take, if_pos (by omega), List.getElem?_drop]

/-! ### cutting a slice -/

/-- The address of s[l:..:m]. -/
def cutA (a : Option Addr) (l m size : Nat) : Option Addr := if m = l then a else a.map (·.add (l * size))

theorem RowAt.cut {w : World} {a : Option Addr} {L : List Value} (h : RowAt w a L) {l hi m size : Nat} (hm : l ≤ hi ∧ hi ≤ m) : RowAt w (cutA a l m size) ((L.drop (l * size)).take ((hi - l) * size)) := by
  unfold cutA
  split
  · have : hi - l = 0 := by omega
    rw [this]
    simpa using h.nil
  · cases a with
    | none => rw [RowAt.nil_of h]; simp [RowAt]
    | some ad => exact (h.drop _).take _

theorem cutA_none {a : Option Addr} {l m size : Nat} (h : cutA a l m size = none) : a = none := by
  unfold cutA at h
  split at h
  · exact h
  · cases a <;> simp at h ⊢

theorem run_bound {P : Program} {w : World} {k : IntKind} {i : Int} {y : Nat} {code : BoundsCode} (h0 : 0 ≤ i) (h1 : i ≤ y) : (Instr.sliceBound (.int k i) y code).run P w = .ok i.toNat w := by
  unfold Instr.sliceBound
  rw [run_bind_ok (m := asIntOf (.int k i)) (a := (k, i)) (w' := w) rfl]
  simp only
  rw [if_pos ⟨h0, h1⟩]
  rfl

/-- s[lo:hi] of a slice. -/
theorem XRead.slice (hT : TabOk P tab) {t : TypeId} {ti te : TI} {e : TypeId} (ht : look tab t = some ti) (hk : ti.k = .slice e) (he : look tab e = some te) {a : Option Addr} {n c : Nat} {k1 k2 k3 : IntKind}
    {lo hi mx : Option Int} {K : Value → Prop} (l h m : Nat) (hl : lo.getD 0 = l) (hh : hi.getD n = h) (hm : mx.getD c = m) (h1 : l ≤ h) (h2 : h ≤ m) (h3 : m ≤ c) (hx : mx.isSome = true → hi.isSome = true)
    (hK : K (.slice (cutA a l m te.size) (h - l) (m - l))) :
    XRead P w0 R av (Instr.sliceAt t (.slice a n c) (lo.map (.int k1)) (hi.map (.int k2)) (mx.map (.int k3))) bs cs F K := by
  refine (XRead_iff _ _ _ _).2 ⟨_, fun w _ => ?_, hK⟩
  obtain ⟨i1, d1, z1, p1, p2, p3, p4, p5, p6, p7, p8⟩ := mkTI_parts (hT _ _ ht)
  obtain ⟨i2, d2, z2, q1, q2, q3, q4, q5, q6, q7, q8⟩ := mkTI_parts (hT _ _ he)
  rw [p4] at hk
  obtain rfl := slice_of hk
  unfold Instr.sliceAt
  rw [run_bind_ok (run_underlying' p2 w)]
  simp only
  unfold Instr.slice
  rw [run_bind_ok (run_underlying' p2 w)]
  simp only
  have hb : (Instr.sliceBounds true n c (lo.map (.int k1)) (hi.map (.int k2)) (mx.map (.int k3))).run P w = .ok (l, h, m) w := by
    unfold Instr.sliceBounds
    cases mx with
    | none =>
      obtain rfl : m = c := by have : (c : Int) = m := hm; omega
      cases hi with
      | none =>
        obtain rfl : h = n := by have : (n : Int) = h := hh; omega
        simp only [Option.map_none]
        rw [run_bind_ok (run_pure P _ w), run_bind_ok (run_pure P _ w)]
        cases lo with
        | none =>
          obtain rfl : l = 0 := by have : (0 : Int) = l := hl; omega
          rfl
        | some i =>
          obtain rfl : i = (l : Int) := hl
          simp only [Option.map_some]
          rw [run_bind_ok (run_bound (by omega) (by omega))]
          rfl
      | some j =>
        obtain rfl : j = (h : Int) := hh
        simp only [Option.map_none, Option.map_some]
        rw [run_bind_ok (run_pure P _ w), run_bind_ok (run_bound (by omega) (by omega))]
        cases lo with
        | none =>
          obtain rfl : l = 0 := by have : (0 : Int) = l := hl; omega
          rfl
        | some i =>
          obtain rfl : i = (l : Int) := hl
          simp only [Option.map_some]
          rw [run_bind_ok (run_bound (by omega) (by simp; omega))]
          rfl
    | some mm =>
      obtain rfl : mm = (m : Int) := hm
      cases hi with
      | none => simp at hx
      | some j =>
        obtain rfl : j = (h : Int) := hh
        simp only [Option.map_some]
        rw [run_bind_ok (run_bound (by omega) (by omega)), run_bind_ok (run_bound (by omega) (by simp; omega))]
        cases lo with
        | none =>
          obtain rfl : l = 0 := by have : (0 : Int) = l := hl; omega
          rfl
        | some i =>
          obtain rfl : i = (l : Int) := hl
          simp only [Option.map_some]
          rw [run_bind_ok (run_bound (by omega) (by simp; omega))]
          rfl
  rw [run_bind_ok hb]
  simp only
  rw [run_bind_ok (run_sizeOf q1 w), ← q5]
  rfl

end
end Go.Sx
