/- Symbolic execution, part X: appending nothing. -/
import Derived.Test.YtpnnadojhacjiaaSxW
namespace Go.Sx
open Go
variable {P : Program} {tab : Tab} {w0 : World} {R : Nat → Nat → Prop} {av : Nat → Prop} {bs : List (Nat × Nat)} {cs : List (List Value)} {F : Fx}

/-- Appending no element to a slice changes nothing. -/
theorem XVal.append0 (hT : TabOk P tab) {t xt ty : TypeId} {ti tx te : TI} {e xe : TypeId} (ht : look tab t = some ti) (hk : ti.k = .slice e) (hx : look tab xt = some tx) (hxk : tx.k = .slice xe) (he : look tab e = some te)
    {a p : Option Addr} {n cap m cx : Nat} {K : KV} (hfit : n ≤ cap) (hm : m = 0) (hM : Sees w0 R av bs cs F p [])
    (h : K (.slice a n cap) bs cs F) : XVal P w0 R av (Builtin.append_ #[t, xt] ty #[.slice a n cap, .slice p m cx]) bs cs F K := by
  subst hm
  refine XVal_iff.2 fun w hst => ?_
  obtain ⟨i1, d1, z1, p1, p2, p3, p4, p5, p6, p7, p8⟩ := mkTI_parts (hT _ _ ht)
  obtain ⟨i3, d3, z3, o1, o2, o3, o4, o5, o6, o7, o8⟩ := mkTI_parts (hT _ _ hx)
  obtain ⟨i2, d2, z2, q1, q2, q3, q4, q5, q6, q7, q8⟩ := mkTI_parts (hT _ _ he)
  rw [p4] at hk
  rw [o4] at hxk
  obtain rfl := slice_of hk
  obtain rfl := slice_of hxk
  exact ⟨_, w, [], cs, _, run_append_fits p2 o2 q1 (m := 0) (M := []) hfit (hM w hst) (by simp) (w' := w) (fun ad _ => rfl) (fun _ => rfl), by rw [List.append_nil]; exact hst, by rw [List.append_nil]; exact h⟩

end Go.Sx
