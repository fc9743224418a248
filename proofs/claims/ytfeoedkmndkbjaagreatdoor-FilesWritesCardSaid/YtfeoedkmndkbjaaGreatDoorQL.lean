/- Parts of the proof: SyM. -/
import Derived.Test.YtfeoedkmndkbjaaGreatDoorQF
namespace Go.Sx
open Go
set_option linter.unusedVariables false
set_option linter.unusedSimpArgs false

variable {P : Program} {tab : Tab} {w0 : World} {R : Nat → Nat → Prop} {av : Nat → Prop} {bs : List (Nat × Nat)} {cs : List (List Value)} {F : Fx}
/-- copy(s, t) of a string into a row of the function's own. -/
theorem XVal.copyStr (hT : TabOk P tab) {t xt ty : TypeId} {ti te : TI} {e : TypeId} (ht : look tab t = some ti) (hk : ti.k = .slice e) (he : look tab e = some te) (hsz : te.size = 1) {D : World → Prop} {r1 r2 : List (Nat × Row)} {b k n c : Nat} {l m : List UInt8} {Z : List Value} {p : Addr}
    {K : KV} (hp : p = ⟨b, k, none⟩) (hmn : m.length ≤ n) (hle : k + m.length ≤ l.length)
    (h : K (.int .i64 (m.length : Int)) bs cs ⟨D, r1 ++ [(b, Row.c ((lay l k m).map byteV ++ Z))] ++ r2⟩) :
    XVal P w0 R av (Builtin.copy_ #[t, xt] ty #[.slice (some p) n c, strV m]) bs cs ⟨D, r1 ++ [(b, Row.c (l.map byteV ++ Z))] ++ r2⟩ K := by
  subst hp
  refine XVal_iff.2 fun w hst => ?_
  obtain ⟨i1, d1, z1, p1, p2, p3, p4, p5, p6, p7, p8⟩ := mkTI_parts (hT _ _ ht)
  obtain ⟨i2, d2, z2, q1, q2, q3, q4, q5, q6, q7, q8⟩ := mkTI_parts (hT _ _ he)
  rw [p4] at hk
  obtain rfl := slice_of hk
  obtain ⟨w', g1, g2⟩ := St.laidRow (P := P) (w' := w) (k := k) hst (l := m.map byteV) (fun v hv => byte_one v hv) (by simp; omega)
  rw [laid_bytes hle] at g2
  refine ⟨_, w', [], cs, _, ?_, by rw [List.append_nil]; exact g2, by rw [List.append_nil]; exact h⟩
  unfold Builtin.copy_
  simp only [show (#[t, xt] : Array TypeId)[0]? = some t from rfl, show ∀ u v : Value, (#[u, v] : Array Value)[0]? = some u from fun _ _ => rfl, show ∀ u v : Value, (#[u, v] : Array Value)[1]? = some v from fun _ _ => rfl]
  rw [run_bind_ok (run_underlying' p2 w)]
  simp only
  rw [run_bind_ok (m := Builtin.lenOf (strV m)) (a := m.length) (w' := w) rfl, run_bind_ok (run_sizeOf q1 w), ← q5]
  rw [show Nat.min m.length n = m.length from Nat.min_eq_left hmn]
  have hf : (Builtin.firstCells te.size m.length (strV m)).run P w = .ok ⟨m.map byteV⟩ w := by
    show Result.ok _ w = _
    congr 1
    rw [mk_extract]
    simp
    intro x hx
    rfl
  rw [run_bind_ok hf]
  simp only
  rw [run_bind_ok g1]
  rfl

end Go.Sx
