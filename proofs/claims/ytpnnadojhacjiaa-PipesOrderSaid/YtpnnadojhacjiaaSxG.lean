/- Sx, part G: what the executor asks of one operation is enough. -/
import Derived.Test.YtpnnadojhacjiaaSxF
namespace Go.Sx
set_option linter.unusedVariables false

section
variable {P : Program} {tab : Tab} {bs : List (Nat × Nat)} {tm : List SV} {a : Array Value} {as : List Nat} {c pol : Bool} {cs : List (List Value)}

theorem lenVK_sound {t : TypeId} {ti : TI} (hti : mkTI P t = some ti) {x : SV} {u : Value} (hx : SVok bs x u) {K : SV → Prop} {E : Prop} (h : lenVK ti x K E) (ty : TypeId) :
    E ∨ ∃ r s, (∀ w, (Builtin.len_ #[t] ty #[u]).run P w = .ok r w) ∧ SVok bs s r ∧ K s := by
  obtain ⟨i, d, z, h1, h2, h3, h4, h5, -, -, -⟩ := mkTI_parts hti
  unfold lenVK at h
  rw [h4] at h
  split at h
  · rename_i e _ n _ hk
    cases hx
    cases d <;> simp [mkTK] at hk
    refine .inr ⟨_, .v _, fun w => ?_, rfl, h⟩
    simp only [Builtin.len_]
    simp only [show (#[t] : Array TypeId)[0]? = some t from rfl, show ∀ v : Value, (#[v] : Array Value)[0]? = some v from fun _ => rfl]
    rw [run_bind_ok (run_underlying' h2 w)]
    rfl
  · rename_i s hk
    cases hx
    cases d <;> simp [mkTK] at hk
    refine .inr ⟨_, .v _, fun w => ?_, rfl, h⟩
    simp only [Builtin.len_]
    simp only [show (#[t] : Array TypeId)[0]? = some t from rfl, show ∀ v : Value, (#[v] : Array Value)[0]? = some v from fun _ => rfl]
    rw [run_bind_ok (run_underlying' h2 w)]
    rfl
  · rename_i n e hk
    cases d <;> simp [mkTK] at hk
    obtain ⟨rfl, rfl⟩ := hk
    refine .inr ⟨_, .v _, fun w => ?_, rfl, h⟩
    simp only [Builtin.len_]
    simp only [show (#[t] : Array TypeId)[0]? = some t from rfl, show ∀ v : Value, (#[v] : Array Value)[0]? = some v from fun _ => rfl]
    rw [run_bind_ok (run_underlying' h2 w)]
    rfl
  · exact .inl h

theorem run_convert_int {s d : TypeId} {ts td : TI} (hs : mkTI P s = some ts) (hd : mkTI P d = some td) {k k0 : IntKind} (hk : td.k = .int k) (n : Int) :
    ∀ w, (convert s d (.int k0 n)).run P w = .ok (.int k (k.wrap n)) w := by
  intro w
  obtain ⟨i, d1, z, h1, h2, h3, h4, h5, -, -, -⟩ := mkTI_parts hs
  obtain ⟨i', d2, z', g1, g2, g3, g4, g5, -, -, -⟩ := mkTI_parts hd
  rw [g4] at hk
  cases d2 <;> simp [mkTK] at hk
  subst hk
  unfold convert
  rw [run_bind_ok (run_underlying' h2 w), run_bind_ok (run_underlying' g2 w)]
  cases d1 <;> rfl

theorem map_toList {α β : Type} (f : α → β) (l : List α) : (⟨l⟩ : Array α).map f = ⟨l.map f⟩ := by simp

theorem xpure_sound (hT : TabOk P tab) (hf : FrameOk bs tm a) (hg : GOk c pol as tm) {o : Oper} {K : SV → Prop} {E : Prop} (h : xpure tab as o.op tm bs cs K E) :
    E ∨ ∃ v s, (∀ w, ((∃ t x, o.op = .load t x) → Boxes w bs cs) → (execOp (Act.eval ⟨a, []⟩) o).run P w = .ok (.value v) w) ∧ SVok bs s v ∧ K s := by
  obtain ⟨dst, op, ty, pos, after, guard⟩ := o
  simp only at h
  unfold xpure at h
  split at h
  · rename_i x
    obtain ⟨s, hs, h⟩ := evG_sound hf hg h
    exact .inr ⟨_, s, fun _ _ => rfl, hs, h⟩
  · rename_i x
    obtain ⟨s, hs, h⟩ := evG_sound hf hg h
    exact .inr ⟨_, s, fun _ _ => rfl, hs, h⟩
  · rename_i x y z
    obtain ⟨sc, hsc, h⟩ := evG_sound hf hg h
    split at h
    · rename_i c'
      obtain ⟨sa, hsa, h⟩ := evG_sound hf hg h
      obtain ⟨sb, hsb, h⟩ := evG_sound hf hg h
      obtain ⟨s, hs, h⟩ := pickK_sound hsa hsb h
      refine .inr ⟨_, s, fun w _ => ?_, hs, h⟩
      simp only [execOp]
      have hsc' : Act.eval ⟨a, []⟩ x = .bool c' := hsc
      rw [hsc']
      rfl
    · exact .inl h
  · rename_i t x
    obtain ⟨sx, hsx, h⟩ := evG_sound hf hg h
    split at h
    · rename_i i o
      split at h
      · rename_i ti hl
        obtain ⟨hsx, _⟩ := hsx
        obtain ⟨v, h1, h2⟩ := loadK_sound (bs := bs) (hT _ _ hl) h
        refine .inr ⟨v, .v v, fun w hb => ?_, rfl, h2⟩
        simp only [execOp]
        rw [hsx]
        exact run_value (h1 w (hb ⟨_, _, rfl⟩))
      · exact .inl h
    · exact .inl h
  · rename_i x
    obtain ⟨sx, hsx, h⟩ := evG_sound hf hg h
    split at h
    · rename_i i o
      refine .inr ⟨_, .p i o, fun w hb => ?_, hsx, h⟩
      obtain ⟨hsx, _⟩ := hsx
      simp only [execOp]
      rw [hsx]
      rfl
    · rename_i ad
      refine .inr ⟨_, .v _, fun w hb => ?_, rfl, h⟩
      have hsx' : Act.eval ⟨a, []⟩ x = .pointer (some ad) := hsx
      simp only [execOp]
      rw [hsx']
      rfl
    · rename_i f u v
      refine .inr ⟨_, .v _, fun w hb => ?_, rfl, h⟩
      have hsx' : Act.eval ⟨a, []⟩ x = .func (.func f) u v := hsx
      simp only [execOp]
      rw [hsx']
      rfl
    · exact .inl h
  · rename_i t x k' n t'
    obtain ⟨sx, hsx, h⟩ := evG_sound hf hg h
    split at h
    · rename_i k u
      split at h
      · rename_i hk
        refine .inr ⟨_, .v _, fun w hb => ?_, rfl, h⟩
        have hsx' : Act.eval ⟨a, []⟩ x = .int k u := hsx
        have hk' := kindIs_eq hk
        subst hk'
        have hy' : Act.eval ⟨a, []⟩ (.const (.int k (.ofNat (n + 1)))) = .int k (.ofNat (n + 1)) := rfl
        simp only [execOp, hsx', hy']
        refine run_value ?_
        rw [run_bind_ok (eqGuard_int _ t _ _ _ _ _ _ w)]
        have hne : (Int.ofNat (n + 1)) ≠ 0 := by simp; omega
        simp only [binOp, Op.intDiv, hne, ne_eq, not_true, if_false]
        rfl
      · exact .inl h
    · exact .inl h
  · rename_i t x k' n t'
    obtain ⟨sx, hsx, h⟩ := evG_sound hf hg h
    split at h
    · rename_i k u
      split at h
      · rename_i hk
        refine .inr ⟨_, .v _, fun w hb => ?_, rfl, h⟩
        have hsx' : Act.eval ⟨a, []⟩ x = .int k u := hsx
        have hk' := kindIs_eq hk
        subst hk'
        have hy' : Act.eval ⟨a, []⟩ (.const (.int k (.ofNat (n + 1)))) = .int k (.ofNat (n + 1)) := rfl
        simp only [execOp, hsx', hy']
        refine run_value ?_
        rw [run_bind_ok (eqGuard_int _ t _ _ _ _ _ _ w)]
        have hne : (Int.ofNat (n + 1)) ≠ 0 := by simp; omega
        simp only [binOp, Op.intDiv, hne, ne_eq, not_true, if_false]
        rfl
      · exact .inl h
    · exact .inl h
  · rename_i op t x y t' _ _
    obtain ⟨sx, hsx, h⟩ := evG_sound hf hg h
    obtain ⟨sy, hsy, h⟩ := evG_sound hf hg h
    rcases binK_sound hT hsx hsy (X := x) (Y := y) h with h | ⟨r, s, h1, h2, h3⟩
    · exact .inl h
    · exact .inr ⟨r, s, fun w _ => run_value (h1 w), h2, h3⟩
  · rename_i op t x
    obtain ⟨sx, hsx, h⟩ := evG_sound hf hg h
    rcases unK_sound (P := P) hsx h with h | ⟨r, s, h1, h2, h3⟩
    · exact .inl h
    · exact .inr ⟨r, s, fun w _ => run_value (h1 w), h2, h3⟩
  · rename_i src dst x
    obtain ⟨sx, hsx, h⟩ := evG_sound hf hg h
    split at h
    · rename_i k0 n
      split at h
      · rename_i ts td hls hld
        split at h
        · rename_i k hk
          refine .inr ⟨_, .v _, fun w hb => ?_, rfl, h⟩
          have hsx' : Act.eval ⟨a, []⟩ x = .int k0 n := hsx
          simp only [execOp]
          rw [hsx']
          exact run_value (run_convert_int (hT _ _ hls) (hT _ _ hld) hk n w)
        · exact .inl h
      · exact .inl h
    · exact .inl h
  · rename_i t x i
    obtain ⟨sx, hsx, h⟩ := evG_sound hf hg h
    split at h
    · obtain ⟨si, hsi, h⟩ := evG_sound hf hg h
      split at h
      · rename_i ti hl
        rcases indexAddrK_sound hT (hT _ _ hl) hsx hsi h with h | ⟨r, s, h1, h2, h3⟩
        · exact .inl h
        · exact .inr ⟨r, s, fun w _ => run_value (h1 w), h2, h3⟩
      · exact .inl h
    · exact .inl h
  · rename_i st x f
    obtain ⟨sx, hsx, h⟩ := evG_sound hf hg h
    split at h
    · rename_i ti hl
      rcases fieldAddrK_sound (hT _ _ hl) hsx h with h | ⟨r, s, h1, h2, h3⟩
      · exact .inl h
      · exact .inr ⟨r, s, fun w _ => run_value (h1 w), h2, h3⟩
    · exact .inl h
  · rename_i st x f
    obtain ⟨sx, hsx, h⟩ := evG_sound hf hg h
    split at h
    · rename_i ti hl
      rcases fieldK_sound (hT _ _ hl) hsx h with h | ⟨r, s, h1, h2, h3⟩
      · exact .inl h
      · exact .inr ⟨r, s, fun w _ => run_value (h1 w), h2, h3⟩
    · exact .inl h
  · rename_i x i
    obtain ⟨sx, hsx, h⟩ := evG_sound hf hg h
    split at h
    · rename_i l
      obtain ⟨hi, h⟩ := nthK_iff (.tuple #[]) h
      refine .inr ⟨_, .v _, fun w hb => ?_, rfl, h⟩
      have hsx' : Act.eval ⟨a, []⟩ x = .tuple ⟨l⟩ := hsx
      simp only [execOp]
      rw [hsx']
      refine run_value ?_
      have : (⟨l⟩ : Array Value)[i]? = some (nth (.tuple #[]) l i) := by
        rw [nth_eq, List.getElem?_toArray, List.getElem?_eq_getElem hi]; rfl
      simp only [Instr.extract, this]
      rfl
    · exact .inl h
  · rename_i fn first cap
    have h := evVs_sound hf hg h
    have h := evVs_sound hf hg h
    refine .inr ⟨_, .v _, fun w hb => ?_, rfl, h⟩
    simp only [execOp, map_toList]
    exact run_value rfl
  · rename_i t ps
    split at h
    · rename_i ti hl
      split at h
      · rename_i hk
        have h := evPs_sound hf hg h
        obtain ⟨z, h1, h2⟩ := run_build (hT _ _ hl) hk h
        refine .inr ⟨_, .v _, fun w _ => ?_, rfl, h2⟩
        simp only [execOp, map_toList]
        exact run_value (h1 w)
      · rename_i n e hk
        split at h
        · rename_i te hle
          have h := evPs_sound hf hg h
          obtain ⟨z, h1, h2⟩ := run_buildA (hT _ _ hl) hk (hT _ _ hle) h
          refine .inr ⟨_, .v _, fun w _ => ?_, rfl, h2⟩
          simp only [execOp, map_toList]
          exact run_value (h1 w)
        · exact .inl h
      · exact .inl h
    · exact .inl h
  · rename_i x t
    obtain ⟨sx, hsx, h⟩ := evG_sound hf hg h
    split at h
    · rename_i ti hl
      rcases lenVK_sound (hT _ _ hl) hsx h ty with h | ⟨r, s, h1, h2, h3⟩
      · exact .inl h
      · refine .inr ⟨r, s, fun w _ => ?_, h2, h3⟩
        have e : (⟨[x]⟩ : Array Operand).map (Act.eval ⟨a, []⟩) = #[Act.eval ⟨a, []⟩ x] := by simp
        simp only [execOp, resolve]
        rw [run_bind_ok (run_pure P _ w)]
        simp only [invoke, builtin, e]
        exact run_value (h1 w)
    · exact .inl h
  · rename_i x y t1 t2
    obtain ⟨sx, hsx, h⟩ := evG_sound hf hg h
    obtain ⟨sy, hsy, h⟩ := evG_sound hf hg h
    split at h
    · split at h
      · rename_i hk
        have hk' := kindIs_eq hk
        subst hk'
        refine .inr ⟨_, .v _, fun w _ => ?_, rfl, h⟩
        have e : (⟨[x, y]⟩ : Array Operand).map (Act.eval ⟨a, []⟩) = #[Act.eval ⟨a, []⟩ x, Act.eval ⟨a, []⟩ y] := by simp
        simp only [execOp, resolve]
        rw [run_bind_ok (run_pure P _ w)]
        simp only [invoke, builtin, e]
        have e1 : Act.eval ⟨a, []⟩ x = _ := hsx
        have e2 : Act.eval ⟨a, []⟩ y = _ := hsy
        rw [e1, e2]
        exact run_value rfl
      · exact .inl h
    · exact .inl h
  · exact .inl h

end
end Go.Sx
