/- Parts of the proof: SyR, SyS. -/
import Derived.Test.YtajkcdplmkaipaaGreatDoorQG
namespace Go.Sx
set_option linter.unusedVariables false
section
variable {P : Program} {tab : Tab} {w0 : World} {R : Nat → Nat → Prop} {av : Nat → Prop}

theorem nth_mem_drop {bs0 ex : List (Nat × Nat)} {n : Nat} (h0 : bs0.length ≤ n) (hn : n < (bs0 ++ ex).length) : nth (0, 0) (bs0 ++ ex) n ∈ ex := by
 rw [nth_eq, List.getElem?_append_right h0]
 have : n - bs0.length < ex.length := by simp at hn; omega
 rw [List.getElem?_eq_getElem this]
 exact List.getElem_mem this

theorem St.pick {w : World} {bs0 ex : List (Nat × Nat)} {cs0 fx : List (List Value)} {D : Fx} {n : Nat} (h : St w0 R av w (bs0 ++ ex) (cs0 ++ fx) D) (hl : bs0.length = cs0.length)
 (h0 : bs0.length ≤ n) (hn : n < (bs0 ++ ex).length) : St w0 R av w (bs0 ++ [nth (0, 0) (bs0 ++ ex) n]) (cs0 ++ [nth [] (cs0 ++ fx) n]) D := by
 have hm := nth_mem_drop h0 hn
 have hlen := h.box.len
 have hs : [nth (0, 0) (bs0 ++ ex) n].Sublist ex := List.singleton_sublist.2 hm
 refine ⟨h.keep, Boxes.snoc (Boxes.get h.box n (by omega)).1 (h.box.left hl), ?_, fun i hi => ?_, h.avlt, h.rows, h.data.less fun b hb => ?_⟩
 · exact h.nd.sublist (List.Sublist.append ((List.Sublist.append (List.Sublist.refl _) hs).map _) (List.Sublist.refl _))
 · by_cases hb : i < bs0.length
   · have := h.own i (by simp; omega)
     rw [nth_append_left _ _ _ _ hb, nth_append_left _ _ _ _ (by omega)] at this ⊢
     exact this
   · have hie : i = bs0.length := by simp at hi; omega
     have e1 : nth (0, 0) (bs0 ++ [nth (0, 0) (bs0 ++ ex) n]) i = nth (0, 0) (bs0 ++ ex) n := by
      rw [hie, nth_eq (0, 0) (bs0 ++ [_])]
      simp
     have e2 : nth [] (cs0 ++ [nth [] (cs0 ++ fx) n]) i = nth [] (cs0 ++ fx) n := by
      rw [hie, hl, nth_eq [] (cs0 ++ [_])]
      simp
     rw [e1, e2]
     exact h.own n hn
 · rcases hb with hb | ⟨x, hx, rfl⟩ | hb
   · exact .inl hb
   · rcases List.mem_append.1 hx with hx | hx
     · exact .inr (.inl ⟨x, List.mem_append_left _ hx, rfl⟩)
     · obtain rfl := List.mem_singleton.1 hx
       exact .inr (.inl ⟨_, List.mem_append_right _ hm, rfl⟩)
   · exact .inr (.inr hb)

end
end Go.Sx
namespace Go.Sx
open Go
set_option linter.unusedVariables false
section
variable {P : Program}

/-- Whether two cells are the same: numbers or truth values. -/
def cellEq : Value → Value → Bool
 | .int _ a, .int _ b => a == b
 | .bool a, .bool b => a == b
 | _, _ => false
def cellsEq : List Value → List Value → Bool
 | [], [] => true
 | x :: xs, y :: ys => cellEq x y && cellsEq xs ys
 | _, _ => false

/-- The types of the fields of a struct: numbers and truth values. -/
def FlatT (P : Program) : List Field → Nat → List Value → List Value → Prop
 | [], _, [], [] => True
 | f :: fs, k, x :: xs, y :: ys => (f.name ≠ "_" ∧ f.offset = k ∧ ((P.underlying f.type = some (.int .i64) ∧ ∃ a b, x = .int .i64 a ∧ y = .int .i64 b) ∨ (P.underlying f.type = some .bool ∧ ∃ a b, x = .bool a ∧ y = .bool b))) ∧ FlatT P fs (k + 1) xs ys
 | _, _, _, _ => False

theorem run_eqFields_cells {d : Nat} {X Y : List Value} (w : World) : ∀ (fs : List Field) (k : Nat) (xs ys : List Value), X.drop k = xs → Y.drop k = ys → FlatT P fs k xs ys → (Op.eqFields (d + 1) ⟨X⟩ ⟨Y⟩ fs).run P w = .ok (cellsEq xs ys) w
 | [], k, [], [], _, _, _ => by simp [Op.eqFields, cellsEq]
 | f :: fs, k, x :: xs, y :: ys, hx, hy, h => by
  obtain ⟨⟨hn, ho, hu⟩, hr⟩ := h
  have px : (⟨X⟩ : Array Value)[f.offset]? = some x := by
   rw [ho, List.getElem?_toArray]
   have := congrArg (·[0]?) hx
   simpa using this
  have py : (⟨Y⟩ : Array Value)[f.offset]? = some y := by
   rw [ho, List.getElem?_toArray]
   have := congrArg (·[0]?) hy
   simpa using this
  have hx' : X.drop (k + 1) = xs := by
   have := congrArg (List.drop 1) hx
   simpa using this
  have hy' : Y.drop (k + 1) = ys := by
   have := congrArg (List.drop 1) hy
   simpa using this
  have ih := run_eqFields_cells (d := d) w fs (k + 1) xs ys hx' hy' hr
  unfold Op.eqFields
  rcases hu with ⟨hu, a, b, rfl, rfl⟩ | ⟨hu, a, b, rfl, rfl⟩
  · rw [if_pos hn, run_bind_ok (run_part1 hu rfl px w), run_bind_ok (run_part1 hu rfl py w), run_bind_ok (run_equalIn_int w d f.type .i64 .i64 _ _ hu)]
    show _ = Result.ok ((a == b) && cellsEq xs ys) w
    cases hb : (a == b) with
    | true =>
     simp only [Bool.not_true, Bool.false_eq_true, if_false, Bool.true_and]
     exact ih
    | false => simp
  · rw [if_pos hn, run_bind_ok (run_part1 hu rfl px w), run_bind_ok (run_part1 hu rfl py w), run_bind_ok (run_equalIn_bool (P := P) hu d a b w)]
    show _ = Result.ok ((a == b) && cellsEq xs ys) w
    cases hb : (a == b) with
    | true =>
     simp only [Bool.not_true, Bool.false_eq_true, if_false, Bool.true_and]
     exact ih
    | false => simp
 | [], _, _ :: _, _, _, _, h => h.elim
 | [], _, [], _ :: _, _, _, h => h.elim
 | _ :: _, _, [], _, _, _, h => h.elim
 | _ :: _, _, _ :: _, [], _, _, h => h.elim

variable {tab : Tab} {w0 : World} {R : Nat → Nat → Prop} {av : Nat → Prop} {bs : List (Nat × Nat)} {cs : List (List Value)} {F : Fx}

theorem run_equal_cells {t : TypeId} {fs : Array Field} (hu : P.underlying t = some (.struct fs)) (hp : P.stoodInHeld t = false) {xs ys : List Value} (hf : FlatT P fs.toList 0 xs ys) (w : World) :
 (Op.equalIn 10000 t (.agg ⟨xs⟩) (.agg ⟨ys⟩)).run P w = .ok (cellsEq xs ys) w := by
 have he : P.fieldsOf t = fs := by
  unfold Program.fieldsOf
  rw [hu]
 show (Op.equalIn (9999 + 1) t _ _).run P w = _
 rw [run_equalIn_struct w 9999 t _ _ (by rw [he]; exact hu) hp, he]
 exact run_eqFields_cells (d := 9998) w fs.toList 0 xs ys rfl rfl hf

end
end Go.Sx
