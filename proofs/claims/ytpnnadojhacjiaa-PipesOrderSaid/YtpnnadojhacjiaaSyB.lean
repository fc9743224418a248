/- Symbolic execution, part SyB: calls that look at the function's own rows. -/
import Derived.Test.YtpnnadojhacjiaaSyA
namespace Go.Sx
open Go
set_option linter.unusedVariables false
variable {P : Program} {tab : Tab} {w0 : World} {R : Nat → Nat → Prop} {av : Nat → Prop} {bs : List (Nat × Nat)} {cs : List (List Value)} {F : Fx}

/-- A fact that only asks about blocks that are there. -/
def Loc (D : World → Prop) : Prop := ∀ w w' : World, (∀ b, b < w.heap.size → w'.heap[b]? = w.heap[b]?) → D w → D w'

theorem Loc.row (a : Option Addr) (L : List Value) : Loc fun w => RowAt w a L := by
  intro w w' hw h
  cases a with
  | none => exact h
  | some ad =>
    rcases h with rfl | ⟨h1, arr, e, fz, h2, h3⟩
    · exact .inl rfl
    exact .inr ⟨h1, arr, e, fz, by rw [hw _ (Array.getElem?_eq_some_iff.1 h2).1]; exact h2, h3⟩

theorem Loc.and {D E : World → Prop} (h : Loc D) (k : Loc E) : Loc fun w => D w ∧ E w := fun w w' hw hd => ⟨h w w' hw hd.1, k w w' hw hd.2⟩

theorem Loc.all {α : Type} {l : List α} {D : α → World → Prop} (h : ∀ x ∈ l, Loc (D x)) : Loc fun w => ∀ x ∈ l, D x w := fun w w' hw hd x hx => h x hx w w' hw (hd x hx)

/-- A call whose arguments may lie in the function's own rows or boxes; what it hands back are new rows and no facts. -/
theorem XCall.from {f : FuncId} {vs : List Value} {Pre : World → Prop} {Rel : Value → Fx → Prop} {K : KV} (spec : PureSpec P f vs Pre Rel) (hloc : Loc Pre) (hpre : ∀ w, St w0 R av w bs cs F → Pre w)
    (h : ∀ v F', Rel v F' → (∀ w, F'.D w) ∧ K v bs cs (F.and F')) : XCall P w0 R av f vs bs cs F K := by
  unfold PureSpec at spec
  refine XCall_iff.2 ⟨spec.1, fun w hst => ?_⟩
  refine (spec.2 (fun _ => False) w (fun _ h => h.elim) ⟨fun b => b < w.heap.size, fun b hb => ⟨hb, id⟩, fun w' hw => hloc w w' hw (hpre w hst)⟩).mono ?_
  rintro e w' ⟨v, F', rfl, h1, h2, h3⟩
  obtain ⟨h4, h5⟩ := h v F' h3
  exact ⟨v, [], cs, _, rfl, by rw [List.append_nil]; exact hst.kept h1 ⟨h2.rows, h2.nd, ⟨fun _ => False, fun _ h => h.elim, fun w _ => h4 w⟩⟩, by rw [List.append_nil]; exact h5⟩

/-- The same, where only the value counts. -/
theorem XCall.look {f : FuncId} {vs : List Value} {Pre : World → Prop} {x : Value} {K : KV} (spec : PureSpec P f vs Pre (fun v _ => v = x)) (hloc : Loc Pre) (hpre : ∀ w, St w0 R av w bs cs F → Pre w)
    (h : K x bs cs F) : XCall P w0 R av f vs bs cs F K := by
  unfold PureSpec at spec
  refine XCall_iff.2 ⟨spec.1, fun w hst => ?_⟩
  refine (spec.2 (fun _ => False) w (fun _ h => h.elim) ⟨fun b => b < w.heap.size, fun b hb => ⟨hb, id⟩, fun w' hw => hloc w w' hw (hpre w hst)⟩).mono ?_
  rintro e w' ⟨v, F', rfl, h1, h2, rfl⟩
  exact ⟨_, [], cs, _, rfl, by rw [List.append_nil]; exact hst.keptD h1, by rw [List.append_nil]; exact h⟩

end Go.Sx
