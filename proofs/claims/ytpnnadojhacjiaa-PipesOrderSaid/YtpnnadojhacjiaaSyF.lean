/- Sx: strings put together, and cut. -/
import Derived.Test.YtpnnadojhacjiaaSyE
namespace Go.Sx
set_option linter.unusedVariables false

section
variable {P : Program} {tab : Tab} {w0 : World} {R : Nat → Nat → Prop} {av : Nat → Prop} {bs : List (Nat × Nat)} {cs : List (List Value)} {F : Fx}

theorem mk_append (l m : List UInt8) : (ByteArray.mk ⟨l⟩) ++ (ByteArray.mk ⟨m⟩) = ByteArray.mk ⟨l ++ m⟩ := by
  apply ByteArray.ext
  rw [ByteArray.data_append]
  simp

theorem mk_size (l : List UInt8) : (ByteArray.mk ⟨l⟩).size = l.length := rfl

theorem mk_extract (l : List UInt8) (a b : Nat) : (ByteArray.mk ⟨l⟩).extract a b = ByteArray.mk ⟨(l.drop a).take (b - a)⟩ := by
  apply ByteArray.ext
  rw [ByteArray.data_extract]
  simp [List.extract_eq_take_drop]

/-- s + t -/
theorem XRead.strAdd {t : TypeId} {x y : Operand} {l m : List UInt8} {K : Value → Prop} (hn : l.length + m.length ≤ 9223372036854775807) (h : K (strV (l ++ m))) :
    XRead P w0 R av (do eqGuard .add t x y (strV l) (strV m); binOp .add t (strV l) (strV m)) bs cs F K := by
  refine (XRead_iff _ _ _ _).2 ⟨_, fun w _ => ?_, h⟩
  unfold strV
  rw [run_bind_ok (eqGuard_str _ _ _ _ _ _ w)]
  simp only [binOp, Op.stringOp, mk_append, mk_size]
  rw [if_neg (by have : IntKind.i64.max = 9223372036854775807 := by decide
                 rw [this]; omega)]
  rfl

/-- s[:n] of a string -/
theorem XRead.strTake (hT : TabOk P tab) {t : TypeId} {ti : TI} (ht : look tab t = some ti) (hk : ti.k = .str) {l : List UInt8} {k : IntKind} {n : Int} {K : Value → Prop} (j : Nat) (hj : n = (j : Int)) (hle : j ≤ l.length) (h : K (strV (l.take j))) :
    XRead P w0 R av (Instr.sliceAt t (strV l) none (some (.int k n)) none) bs cs F K := by
  subst hj
  refine (XRead_iff _ _ _ _).2 ⟨_, fun w _ => ?_, h⟩
  obtain ⟨i1, d1, z1, p1, p2, p3, p4, p5, p6, p7, p8⟩ := mkTI_parts (hT _ _ ht)
  rw [p4] at hk
  obtain rfl := string_of hk
  unfold Instr.sliceAt
  rw [run_bind_ok (run_underlying' p2 w)]
  simp only
  unfold Instr.slice strV
  rw [run_bind_ok (run_underlying' p2 w)]
  simp only [Option.isSome_none, Bool.false_eq_true, if_false, mk_size]
  unfold Instr.sliceBounds
  simp only [Bool.false_eq_true, if_false]
  rw [run_bind_ok (show (do
      let m ← (pure l.length : Sem Nat)
      let h ← Instr.sliceBound (.int k (j : Int)) m .sliceAlen
      let l ← (pure 0 : Sem Nat)
      pure (l, h, m)).run P w = .ok (0, j, l.length) w from by
        rw [run_bind_ok (run_pure P _ w), run_bind_ok (run_bound (by omega) (by omega))]
        rfl)]
  simp only [mk_extract]
  rfl

end
end Go.Sx
