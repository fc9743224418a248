/- Sx: copies by append to an empty slice; facts changed behind a head. -/
import Derived.Test.YtpnnadojhacjiaaSyD
namespace Go.Sx
set_option linter.unusedVariables false

section
variable {P : Program} {tab : Tab} {w0 : World} {R : Nat → Nat → Prop} {av : Nat → Prop} {bs : List (Nat × Nat)} {cs : List (List Value)} {F : Fx}

/-- Behind the head the facts may be changed. -/
theorem XVal.post {m : Sem Value} {K K' : KV} (h : XVal P w0 R av m bs cs F K') (hk : ∀ v bs' cs' F', K' v bs' cs' F' → ∃ F'', Ent F' F'' ∧ K v bs' cs' F'') : XVal P w0 R av m bs cs F K := by
  refine XVal_iff.2 fun w hst => ?_
  obtain ⟨v, w', ext, cs', D', h1, h2, h3⟩ := XVal_iff.1 h w hst
  obtain ⟨F'', he, h4⟩ := hk _ _ _ _ h3
  exact ⟨v, w', ext, cs', F'', h1, h2.ent he, h4⟩

/-- append([]T{}, x...): a copy, as a fact. -/
theorem XVal.copyZ (hT : TabOk P tab) {t xt ty : TypeId} {ti tx te : TI} {e xe : TypeId} (ht : look tab t = some ti) (hk : ti.k = .slice e) (hx : look tab xt = some tx) (hxk : tx.k = .slice xe) (he : look tab e = some te)
    (hzl : te.zero.length = te.size) {a p : Option Addr} {m cx : Nat} {M : List Value} {K : KV} (hM : Sees w0 R av bs cs F p M) (hm : M.length = m * te.size) (hlen : m ≤ 4611686018427387904) (hroom : (2 * m + 1000) * te.bytes ≤ 2 ^ 48)
    (h : ∀ k : Hd, k.Ok m → K (k.v m) bs cs ⟨fun w => F.D w ∧ RowAt w k.a M, F.rs⟩) :
    XVal P w0 R av (Builtin.append_ #[t, xt] ty #[.slice a 0 0, .slice p m cx]) bs cs F K := by
  rcases Nat.eq_zero_or_pos m with h0 | h0
  · have hMn : M = [] := List.eq_nil_of_length_eq_zero (by rw [hm, h0, Nat.zero_mul])
    subst hMn
    have h' := h ⟨a, 0⟩ ⟨fun _ => h0, by simp [h0]⟩
    rw [h0] at h'
    refine XVal.post (XVal.append0 hT ht hk hx hxk he (K := fun v bs' cs' F' => v = .slice a 0 0 ∧ bs' = bs ∧ cs' = cs ∧ F' = F) (Nat.le_refl _) h0 hM ⟨rfl, rfl, rfl, rfl⟩) ?_
    rintro v bs' cs' F' ⟨rfl, rfl, rfl, rfl⟩
    refine ⟨⟨fun w => F'.D w ∧ RowAt w a [], F'.rs⟩, Ent.of_le ⟨List.Sublist.refl _, fun w hw => ⟨hw, RowAt.none' _⟩⟩, h'⟩
  · refine XVal.post (XVal.appendNew hT ht hk hx hxk he hzl (K := fun v bs' cs' F' => ∃ b cap' C', Own te.size (0 + m) (some ⟨b, 0, none⟩) cap' C' ([] ++ M) ∧ v = .slice (some ⟨b, 0, none⟩) (0 + m) cap' ∧ bs' = bs ∧ cs' = cs ∧ F' = ⟨F.D, F.rs ++ [(b, Row.c C')]⟩) (L := []) (M := M) (fun w _ => RowAt.none' _) (by simp) hM hm (by omega) (by omega) (by simpa using hroom) (fun b cap' C' hO => ⟨b, cap', C', hO, rfl, rfl, rfl, rfl⟩)) ?_
    rintro v bs' cs' F' ⟨b, cap', C', hO, rfl, rfl, rfl, rfl⟩
    rw [Nat.zero_add, List.nil_append] at hO
    rw [Nat.zero_add]
    refine ⟨_, ?_, h ⟨some ⟨b, 0, none⟩, cap'⟩ ⟨(fun h => by cases h), hO.fit⟩⟩
    have := Own.share hO (r1 := F.rs) (r2 := []) (D := F.D)
    simpa [orow] using this

theorem Ent.mid {D : World → Prop} {rs rs' : List (Nat × Row)} : Ent ⟨D, (rs ++ []) ++ rs'⟩ ⟨D, rs ++ rs'⟩ := by
  rw [List.append_nil]
  exact Ent.refl _

theorem Own.gives {sz n : Nat} {a : Option Addr} {cap : Nat} {C L : List Value} (h : Own sz n a cap C L) {D : World → Prop} : Ent ⟨D, orow a C⟩ ⟨fun w => D w ∧ RowAt w a L, []⟩ := by
  simpa using Own.share h (r1 := []) (r2 := []) (D := D)

end
end Go.Sx
