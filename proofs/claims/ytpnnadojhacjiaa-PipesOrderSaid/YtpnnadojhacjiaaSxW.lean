/- Sx, part W: plain lemmas. -/
import Derived.Test.YtpnnadojhacjiaaSxV
namespace Go.Sx
set_option linter.unusedVariables false

theorem Ent.share1 {D : World → Prop} {b : Nat} {C : List Value} {rs : List (Nat × Row)} : Ent ⟨D, (b, C) :: rs⟩ ⟨fun w => D w ∧ RowAt w (some ⟨b, 0, none⟩) C, rs⟩ :=
  Own.share (sz := 1) (n := C.length) (cap := C.length) (a := some ⟨b, 0, none⟩) (r1 := []) (r2 := rs) (Own.full (by simp))

def RowsAt (w : World) : List (Nat × Row) → Prop
  | [] => True
  | (b, .c l) :: rs => RowAt w (some ⟨b, 0, none⟩) l ∧ RowsAt w rs
  | (_, .m _ _) :: rs => True ∧ RowsAt w rs

theorem Ent.shareAll : ∀ {rs : List (Nat × Row)} {D : World → Prop}, Ent ⟨D, rs⟩ ⟨fun w => D w ∧ RowsAt w rs, []⟩
  | [], D => Ent.imp fun w h => ⟨h, trivial⟩
  | (b, .m es k) :: rs, D => ((show Ent ⟨D, (b, .m es k) :: rs⟩ ⟨D, rs⟩ from Ent.of_le ⟨List.sublist_cons_self _ _, fun _ h => h⟩).trans Ent.shareAll).trans (Ent.imp fun w h => ⟨h.1, trivial, h.2⟩)
  | (b, .c C) :: rs, D => (Ent.share1.trans Ent.shareAll).trans (Ent.imp fun w h => ⟨h.1.1, h.1.2, h.2⟩)

theorem Own.row {w : World} {sz n b cap : Nat} {C L : List Value} (h : Own sz n (some ⟨b, 0, none⟩) cap C L) (hr : RowAt w (some ⟨b, 0, none⟩) C) : RowAt w (some ⟨b, 0, none⟩) L := by
  rcases h.alt with ⟨h1, _⟩ | ⟨b', h1, _, h3⟩
  · cases h1
  · rw [← h3]; exact hr.take _

theorem take_next {α : Type} {l m : List α} {i : Nat} (h : l.take i = m.take i) (h1 : i < l.length) (h2 : i < m.length) (he : l[i] = m[i]) : l.take (i + 1) = m.take (i + 1) := by
  rw [List.take_succ_eq_append_getElem h1, List.take_succ_eq_append_getElem h2, h, he]

theorem eq_of_take {α : Type} {l m : List α} {i : Nat} (h : l.take i = m.take i) (h1 : l.length ≤ i) (h2 : l.length = m.length) : l = m := by
  rw [List.take_of_length_le h1, List.take_of_length_le (by omega)] at h
  exact h

theorem byte_ne {x y : UInt8} (h : iNe (x.toNat : Int) (y.toNat : Int) = true) : x ≠ y := by
  rintro rfl
  simp [iNe_eq] at h

theorem byte_eq {x y : UInt8} (h : iNe (x.toNat : Int) (y.toNat : Int) = false) : x = y := by
  have : (x.toNat : Int) = y.toNat := by simpa [iNe_eq] using h
  exact UInt8.toNat_inj.1 (by omega)

theorem ne_of_get {α : Type} {l m : List α} {i : Nat} (h1 : i < l.length) (h2 : i < m.length) (he : l[i] ≠ m[i]) : l ≠ m := by
  rintro rfl
  exact he rfl

end Go.Sx
