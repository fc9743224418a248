/- Sx, part I: rows of operations, code, functions. -/
import Derived.Test.YtpnnadojhacjiaaSxH
namespace Go.Sx
set_option linter.unusedVariables false

section
variable {P : Program} {tab : Tab} {w0 : World} {R : Nat → Nat → Prop} {av : Nat → Prop}

/-! ### rows of operations -/

theorem guardIs_eq {o : Oper} {j : Nat} {pol : Bool} (h : guardIs o j pol = true) : o.guard = some (j, pol) := by
  unfold guardIs at h
  split at h
  · rename_i j' pol' hg
    split at h
    · rename_i hb
      rw [hg, Nat.eq_of_beq_eq_true hb]
    · rename_i hb
      rw [hg, Nat.eq_of_beq_eq_true hb]
    · cases h
  · cases h

theorem wanted_of {o : Oper} {j : Nat} {pol : Bool} (hg : o.guard = some (j, pol)) (y : Nat → Option Bool) : Region.wanted o y = (y j == some pol) := by
  unfold Region.wanted
  rw [hg]

theorem yielded_of {ops : Array Oper} {j : Nat} {oj : Oper} {t : Nat} (hj : ops[j]? = some oj) (ht : oj.dst = some t) (a : Array Value) :
    yielded ops a j = match a[t]? with | some (.bool b) => some b | _ => none := by
  unfold yielded
  simp only [hj, Option.bind_some, ht]
  rfl

theorem getD_of {a : Array Value} {t : Nat} {x : Value} (ht : t < a.size) (h : a.getD t undef = x) : a[t]? = some x := by
  rw [Array.getElem?_eq_getElem ht]
  simp [ht] at h
  rw [h]

theorem memN_cons {d t : Nat} {as : List Nat} (h : memN (d :: as) t = true) : d = t ∨ memN as t = true := by
  simp only [memN] at h
  split at h
  · rename_i hb
    exact .inl (Nat.eq_of_beq_eq_true hb)
  · exact .inr h

theorem nth_set_ne {α : Type} (x : α) {l : List α} {d t : Nat} {v : α} (h : d ≠ t) : nth x (l.set d v) t = nth x l t := by
  rw [nth_eq, nth_eq, List.getElem?_set_ne h]

theorem nth_set_self {α : Type} (x : α) {l : List α} {d : Nat} {v : α} (h : d < l.length) : nth x (l.set d v) d = v := by
  rw [nth_eq, List.getElem?_set_self h]
  rfl

/-- Whatever the guard: the rest is asked of some value. -/
theorem evG_K {tm : List SV} {as : List Nat} {x : Operand} {K : SV → Prop} (h : evG tm as x K) : ∃ s, K s := by
  cases x with
  | tmp t =>
    obtain ⟨_, h⟩ := nthK_iff SV.any h
    split at h
    · exact ⟨_, h⟩
    · split at h
      · exact ⟨_, h⟩
      · exact h.elim
  | const v => exact ⟨_, h⟩
  | global g => exact ⟨_, h⟩
  | func f => exact ⟨_, h⟩

theorem vK_K {bs : List (Nat × Nat)} {s : SV} {K : Value → Prop} (h : vK bs s K) : ∃ v, K v := by
  cases s with
  | v x => exact ⟨_, h⟩
  | p i o => obtain ⟨_, h⟩ := nthK_iff (0, 0) h; exact ⟨_, h⟩
  | g _ _ _ => exact h.elim
  | any => exact h.elim

theorem evV_K {tm : List SV} {as : List Nat} {bs : List (Nat × Nat)} {x : Operand} {K : Value → Prop} (h : evV tm as bs x K) : ∃ v, K v := by
  obtain ⟨s, h⟩ := evG_K h
  exact vK_K h

theorem evVs_K {tm : List SV} {as : List Nat} {bs : List (Nat × Nat)} : ∀ {xs : List Operand} {K : List Value → Prop}, evVs tm as bs xs K → ∃ vs, K vs
  | [], _, h => ⟨_, h⟩
  | x :: xs, K, h => by
    obtain ⟨v, h⟩ := evV_K h
    obtain ⟨vs, h⟩ := evVs_K (xs := xs) h
    exact ⟨_, h⟩

theorem evPs_K {tm : List SV} {as : List Nat} {bs : List (Nat × Nat)} : ∀ {xs : List (Nat × Operand)} {K : List (Nat × Value) → Prop}, evPs tm as bs xs K → ∃ vs, K vs
  | [], _, h => ⟨_, h⟩
  | (i, x) :: xs, K, h => by
    obtain ⟨v, h⟩ := evV_K h
    obtain ⟨vs, h⟩ := evPs_K (xs := xs) h
    exact ⟨_, h⟩

theorem fillK_K {place : Nat → (Nat → Nat → Prop) → Prop} (hp : ∀ i K, place i K → ∃ a b, K a b) : ∀ {ps : List (Nat × Value)} {z : List Value} {K : List Value → Prop}, fillK place ps z K → ∃ z', K z'
  | [], _, _, h => ⟨_, h⟩
  | (i, v) :: r, z, K, h => by
    simp only [fillK] at h
    have h := cellsK_iff h
    obtain ⟨a, b, h⟩ := hp _ _ h
    obtain ⟨_, h⟩ := lenK_iff h
    obtain ⟨_, h⟩ := overK_iff h
    exact fillK_K hp h

theorem xpure_K {as : List Nat} {op : Op} {tm : List SV} {bs : List (Nat × Nat)} {cs : List (List Value)} {K : SV → Prop} {E : Prop} (h : xpure tab as op tm bs cs K E) : E ∨ ∃ s, K s := by
  unfold xpure at h
  split at h
  · exact .inr (evG_K h)
  · exact .inr (evG_K h)
  · obtain ⟨s, h⟩ := evG_K h
    split at h
    · obtain ⟨s, h⟩ := evG_K h
      obtain ⟨s, h⟩ := evG_K h
      unfold pickK at h
      split at h
      · exact .inr ⟨_, h⟩
      · exact .inr ⟨_, h.rest⟩
      · exact .inr ⟨_, h.rest⟩
      · rename_i c' _ _ _ _ _ _ _
        unfold XIf at h
        split at h
        · exact .inr ⟨_, h⟩
        · exact .inr ⟨_, h⟩
    · exact .inl h
  · obtain ⟨s, h⟩ := evG_K h
    split at h
    · split at h
      · unfold loadK at h
        obtain ⟨_, h⟩ := nthK_iff [] h
        split at h
        · obtain ⟨_, h⟩ := subK_iff h; exact .inr ⟨_, h⟩
        · obtain ⟨_, h⟩ := nthK_iff (.tuple #[]) h; exact .inr ⟨_, h⟩
      · exact .inl h
    · exact .inl h
  · obtain ⟨s, h⟩ := evG_K h
    split at h
    · exact .inr ⟨_, h⟩
    · exact .inr ⟨_, h⟩
    · exact .inr ⟨_, h⟩
    · exact .inl h
  · obtain ⟨s, h⟩ := evG_K h
    split at h
    · split at h
      · exact .inr ⟨_, h⟩
      · exact .inl h
    · exact .inl h
  · obtain ⟨s, h⟩ := evG_K h
    split at h
    · split at h
      · exact .inr ⟨_, h⟩
      · exact .inl h
    · exact .inl h
  · obtain ⟨s, h⟩ := evG_K h
    obtain ⟨s', h⟩ := evG_K h
    unfold binK at h
    split at h
    · split at h
      · unfold binInt at h
        split at h
        all_goals first | exact .inr ⟨_, h⟩ | exact .inr ⟨_, h.rest⟩ | exact .inl h
      · exact .inl h
    · split at h
      · exact .inr ⟨_, h⟩
      · exact .inr ⟨_, h⟩
      · exact .inl h
    · exact .inl h
  · obtain ⟨s, h⟩ := evG_K h
    unfold unK at h
    split at h
    · exact .inr ⟨_, h⟩
    · exact .inr ⟨_, h⟩
    · exact .inl h
  · obtain ⟨s, h⟩ := evG_K h
    split at h
    · split at h
      · split at h
        · exact .inr ⟨_, h⟩
        · exact .inl h
      · exact .inl h
    · exact .inl h
  · obtain ⟨s, h⟩ := evG_K h
    split at h
    · obtain ⟨s, h⟩ := evG_K h
      split at h
      · unfold indexAddrK at h
        simp only at h
        split at h
        · split at h
          · split at h
            · split at h
              · exact .inr ⟨_, h⟩
              · exact .inl h
            · exact .inl h
          · exact .inl h
        · exact .inl h
      · exact .inl h
    · exact .inl h
  · obtain ⟨s, h⟩ := evG_K h
    split at h
    · unfold fieldAddrK at h
      split at h
      · obtain ⟨_, h⟩ := nthK_iff (0, 0, false) h
        split at h
        · exact .inl h
        · split at h
          · exact .inr ⟨_, h⟩
          · exact .inr ⟨_, h⟩
          · exact .inl h
      · exact .inl h
    · exact .inl h
  · obtain ⟨s, h⟩ := evG_K h
    split at h
    · unfold fieldK at h
      split at h
      · obtain ⟨_, h⟩ := nthK_iff (0, 0, false) h
        split at h
        · obtain ⟨_, h⟩ := subK_iff h; exact .inr ⟨_, h⟩
        · obtain ⟨_, h⟩ := nthK_iff (.tuple #[]) h; exact .inr ⟨_, h⟩
      · exact .inl h
    · exact .inl h
  · obtain ⟨s, h⟩ := evG_K h
    split at h
    · obtain ⟨_, h⟩ := nthK_iff (.tuple #[]) h; exact .inr ⟨_, h⟩
    · exact .inl h
  · obtain ⟨vs, h⟩ := evVs_K h
    obtain ⟨us, h⟩ := evVs_K h
    exact .inr ⟨_, h⟩
  · split at h
    · split at h
      · obtain ⟨vs, h⟩ := evPs_K h
        obtain ⟨z, h⟩ := fillK_K (fun i K hk => by
          unfold structPlace at hk
          obtain ⟨_, hk⟩ := nthK_iff (0, 0, false) hk
          exact ⟨_, _, hk⟩) h
        exact .inr ⟨_, h⟩
      · split at h
        · obtain ⟨vs, h⟩ := evPs_K h
          obtain ⟨z, h⟩ := fillK_K (fun i K hk => by
            unfold arrPlace at hk
            split at hk
            · exact ⟨_, _, hk⟩
            · exact hk.elim) h
          exact .inr ⟨_, h⟩
        · exact .inl h
      · exact .inl h
    · exact .inl h
  · obtain ⟨s, h⟩ := evG_K h
    split at h
    · unfold lenVK at h
      split at h
      · exact .inr ⟨_, h⟩
      · exact .inr ⟨_, h⟩
      · exact .inr ⟨_, h⟩
      · exact .inl h
    · exact .inl h
  · obtain ⟨s, h⟩ := evG_K h
    obtain ⟨s', h⟩ := evG_K h
    split at h
    · split at h
      · exact .inr ⟨_, h⟩
      · exact .inl h
    · exact .inl h
  · exact .inl h

end
end Go.Sx
