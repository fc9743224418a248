/- Parts of the proof: SyK. -/
import Derived.Test.YtfeoedkmndkbjaaGreatDoorQF
import Derived.ChangeKeysEq
import Derived.Laws.StructEq
namespace Go.Sx
open Go
set_option linter.unusedVariables false
set_option linter.unusedSimpArgs false
variable {P : Program}

theorem run_part1 {t : TypeId} {d : TypeDesc} (ht : P.underlying t = some d) (ha : (mkTK d).agg = false) {cs : Array Value} {o : Nat} {v : Value} (hv : cs[o]? = some v) (w : World) : (part t cs o).run P w = .ok v w := by
  unfold part
  rw [run_bind_ok (run_isAgg ht w), ha]
  simp [hv]

theorem run_partA {t : TypeId} {d : TypeDesc} {i : TypeInfo} (ht : P.underlying t = some d) (ha : (mkTK d).agg = true) (hi : P.info? t = some i) {cs : Array Value} {o : Nat} (w : World) :
    (part t cs o).run P w = .ok (.agg (cs.extract o (o + i.size))) w := by
  unfold part
  rw [run_bind_ok (run_isAgg ht w), ha]
  simp only [if_true]
  rw [run_bind_ok (run_sizeOf hi w)]
  rfl

theorem run_eqItems_int {e : TypeId} {k : IntKind} (he : P.underlying e = some (.int k)) (d c : Nat) (xs ys : Array Value) (f g : Nat → Int) (w : World) : ∀ (is : List Nat),
    (∀ i ∈ is, xs[i * c]? = some (.int k (f i)) ∧ ys[i * c]? = some (.int k (g i))) → (Op.eqItems (d + 1) e c xs ys is).run P w = .ok (is.all fun i => f i == g i) w
  | [], _ => by simp [Op.eqItems]
  | i :: is, h => by
    obtain ⟨h1, h2⟩ := h i (List.mem_cons_self ..)
    unfold Op.eqItems
    rw [run_bind_ok (run_part1 he rfl h1 w), run_bind_ok (run_part1 he rfl h2 w), run_bind_ok (run_equalIn_int w d e k k _ _ he)]
    have ih := run_eqItems_int he d c xs ys f g w is fun j hj => h j (List.mem_cons_of_mem _ hj)
    rw [List.all_cons]
    cases hb : (f i == g i) with
    | true =>
      simp only [Bool.not_true, Bool.false_eq_true, if_false, Bool.true_and]
      exact ih
    | false => simp

end Go.Sx
