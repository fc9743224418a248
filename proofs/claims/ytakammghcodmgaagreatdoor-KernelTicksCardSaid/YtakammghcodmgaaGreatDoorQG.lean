/- Parts of the proof: SyQ. -/
import Derived.Test.YtakammghcodmgaaGreatDoorQE
namespace Go.Sx
open Go
set_option linter.unusedVariables false

/-- The entries of a map are those of a function. -/
structure MapF {κ : Type} (key : κ → Value) (kv : KVs) (f : κ → Option Value) : Prop where
 inj : ∀ a b, key a = key b → a = b
 keys : ∀ p ∈ kv, ∃ a v, p = (key a, v) ∧ f a = some v
 has : ∀ a v, f a = some v → ∃ p ∈ kv, p.1 = key a
 nd : (kv.map (·.1)).Nodup

section
variable {κ : Type} {key : κ → Value} {kv : KVs} {f g : κ → Option Value}

theorem MapF.empty (hinj : ∀ a b : κ, key a = key b → a = b) (hf : ∀ a, f a = none) : MapF key [] f := MapF.mk hinj (by simp) (fun a v h => by rw [hf a] at h; cases h) (by simp)

theorem MapF.all (h : MapF key kv f) {S : Value → Prop} (hS : ∀ a, S (key a)) : ∀ p ∈ kv, S p.1 := fun p hp => by
 obtain ⟨a, v, rfl, -⟩ := h.keys p hp
 exact hS a

theorem MapF.val (h : MapF key kv f) {a : κ} {v : Value} (hf : f a = some v) (i : Nat) (u : Value) (hi : kv[i]? = some (key a, u)) : u = v := by
 obtain ⟨a', v', he, hf'⟩ := h.keys _ (List.mem_of_getElem? hi)
 injection he with h1 h2
 obtain rfl := h.inj _ _ h1
 rw [hf] at hf'
 cases hf'
 exact h2

theorem MapF.no (h : MapF key kv f) {a : κ} (hf : f a = none) : ∀ p ∈ kv, p.1 ≠ key a := fun p hp he => by
 obtain ⟨a', v', rfl, hf'⟩ := h.keys p hp
 obtain rfl := h.inj _ _ he
 rw [hf] at hf'
 cases hf'

open Classical in
theorem MapF.push (h : MapF key kv f) {a : κ} {v : Value} (hf : f a = none) (hg : ∀ b, g b = if a = b then some v else f b) : MapF key (kv ++ [(key a, v)]) g where
 inj := h.inj
 keys p hp := by
  rcases List.mem_append.1 hp with hp | hp
  · obtain ⟨b, u, rfl, hf'⟩ := h.keys p hp
    refine ⟨b, u, rfl, ?_⟩
    rw [hg, if_neg (fun hc => by rw [← hc, hf] at hf'; cases hf'), hf']
  · rw [List.mem_singleton.1 hp]
    exact ⟨a, v, rfl, by rw [hg, if_pos rfl]⟩
 has b u hn := by
  rw [hg] at hn
  split at hn
  · rename_i hc
    exact ⟨_, List.mem_append.2 (.inr (List.mem_singleton.2 rfl)), by rw [hc]⟩
  · obtain ⟨p, hp, he⟩ := h.has b u hn
    exact ⟨p, List.mem_append.2 (.inl hp), he⟩
 nd := by
  rw [List.map_append, List.nodup_append]
  refine ⟨h.nd, by simp, ?_⟩
  intro x ha b hb hab
  simp at hb
  subst hb
  subst hab
  obtain ⟨p, hp, he⟩ := List.mem_map.1 ha
  exact h.no hf p hp he

open Classical in
theorem MapF.put (h : MapF key kv f) {a : κ} {v : Value} (hg : ∀ b, g b = if a = b then some v else f b) (i : Nat) (u : Value) (hi : kv[i]? = some (key a, u)) : MapF key (kv.set i (key a, v)) g where
 inj := h.inj
 keys p hp := by
  rw [List.mem_iff_getElem?] at hp
  obtain ⟨j, hj⟩ := hp
  rw [List.getElem?_set] at hj
  by_cases hij : i = j
  · rw [if_pos hij] at hj
    split at hj
    · cases hj
      exact ⟨a, v, rfl, by rw [hg, if_pos rfl]⟩
    · cases hj
  · rw [if_neg hij] at hj
    obtain ⟨b, u', rfl, hf'⟩ := h.keys p (List.mem_of_getElem? hj)
    refine ⟨b, u', rfl, ?_⟩
    rw [hg, if_neg (fun hc => ?_), hf']
    subst hc
    apply hij
    have h1 : (kv.map (·.1))[i]? = some (key a) := by rw [List.getElem?_map, hi]; rfl
    have h2 : (kv.map (·.1))[j]? = some (key a) := by rw [List.getElem?_map, hj]; rfl
    have hil := (List.getElem?_eq_some_iff.1 h1).1
    exact (List.getElem?_inj hil h.nd).1 (h1.trans h2.symm)
 has b u' hn := by
  have hil := (List.getElem?_eq_some_iff.1 hi).1
  rw [hg] at hn
  split at hn
  · rename_i hc
    exact ⟨(key a, v), List.mem_iff_getElem?.2 ⟨i, by rw [List.getElem?_set, if_pos rfl, if_pos hil]⟩, by rw [hc]⟩
  · obtain ⟨p, hp, he⟩ := h.has b u' hn
    obtain ⟨j, hj⟩ := List.mem_iff_getElem?.1 hp
    by_cases hij : i = j
    · subst hij
      rw [hi] at hj
      cases hj
      exact ⟨(key a, v), List.mem_iff_getElem?.2 ⟨i, by rw [List.getElem?_set, if_pos rfl, if_pos hil]⟩, he⟩
    · exact ⟨p, List.mem_iff_getElem?.2 ⟨j, by rw [List.getElem?_set, if_neg hij, hj]⟩, he⟩
 nd := by
  have : (kv.set i (key a, v)).map (·.1) = kv.map (·.1) := by
   apply List.ext_getElem?
   intro j
   rw [List.getElem?_map, List.getElem?_map, List.getElem?_set]
   by_cases hij : i = j
   · subst hij
     have hil := (List.getElem?_eq_some_iff.1 hi).1
     rw [if_pos rfl, if_pos hil, hi]
     rfl
   · rw [if_neg hij]
  rw [this]
  exact h.nd
end

end Go.Sx
