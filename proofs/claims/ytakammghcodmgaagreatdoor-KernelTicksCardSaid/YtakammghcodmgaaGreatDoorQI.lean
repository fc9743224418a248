/- Parts of the proof: SyR, SyS. -/
import Derived.Test.YtakammghcodmgaaGreatDoorQG
namespace Go.Sx
set_option linter.unusedVariables false
section
variable {P : Program} {tab : Tab} {w0 : World} {R : Nat → Nat → Prop} {av : Nat → Prop}

theorem nth_mem_drop {bs0 ex : List (Nat × Nat)} {n : Nat} (h0 : bs0.length ≤ n) (hn : n < (bs0 ++ ex).length) : nth (0, 0) (bs0 ++ ex) n ∈ ex := by
 rw [nth_eq, List.getElem?_append_right h0]
 have : n - bs0.length < ex.length := by simp at hn; omega
 rw [List.getElem?_eq_getElem this]
 exact List.getElem_mem this

theorem St.pick {w : World} {bs0 ex : List (Nat × Nat)} {cs0 fx : List (List Value)} {D : Fx} {n : Nat} (h : St w0 R av w (bs0 ++ ex) (cs0 ++ fx) D) (hl : bs0.length = cs0.length)
 (h0 : bs0.length ≤ n) (hn : n < (bs0 ++ ex).length) : St w0 R av w (bs0 ++ [nth (0, 0) (bs0 ++ ex) n]) (cs0 ++ [nth [] (cs0 ++ fx) n]) D := by
 have hm := nth_mem_drop h0 hn
 have hlen := h.box.len
 have hs : [nth (0, 0) (bs0 ++ ex) n].Sublist ex := List.singleton_sublist.2 hm
 refine ⟨h.keep, Boxes.snoc (Boxes.get h.box n (by omega)).1 (h.box.left hl), ?_, fun i hi => ?_, h.avlt, h.rows, h.data.less fun b hb => ?_⟩
 · exact h.nd.sublist (List.Sublist.append ((List.Sublist.append (List.Sublist.refl _) hs).map _) (List.Sublist.refl _))
 · by_cases hb : i < bs0.length
   · have := h.own i (by simp; omega)
     rw [nth_append_left _ _ _ _ hb, nth_append_left _ _ _ _ (by omega)] at this ⊢
     exact this
   · have hie : i = bs0.length := by simp at hi; omega
     have e1 : nth (0, 0) (bs0 ++ [nth (0, 0) (bs0 ++ ex) n]) i = nth (0, 0) (bs0 ++ ex) n := by
      rw [hie, nth_eq (0, 0) (bs0 ++ [_])]
      simp
     have e2 : nth [] (cs0 ++ [nth [] (cs0 ++ fx) n]) i = nth [] (cs0 ++ fx) n := by
      rw [hie, hl, nth_eq [] (cs0 ++ [_])]
      simp
     rw [e1, e2]
     exact h.own n hn
 · rcases hb with hb | ⟨x, hx, rfl⟩ | hb
   · exact .inl hb
   · rcases List.mem_append.1 hx with hx | hx
     · exact .inr (.inl ⟨x, List.mem_append_left _ hx, rfl⟩)
     · obtain rfl := List.mem_singleton.1 hx
       exact .inr (.inl ⟨_, List.mem_append_right _ hm, rfl⟩)
   · exact .inr (.inr hb)

end
end Go.Sx
namespace Go.Sx
open Go
set_option linter.unusedVariables false
section
variable {P : Program}

/-- Whether two cells are the same: numbers or truth values. -/
def cellEq : Value → Value → Bool
 | .int _ a, .int _ b => a == b
 | .bool a, .bool b => a == b
 | _, _ => false

variable {tab : Tab} {w0 : World} {R : Nat → Nat → Prop} {av : Nat → Prop} {bs : List (Nat × Nat)} {cs : List (List Value)} {F : Fx}

end
end Go.Sx
