/- Parts of the proof: SyV. -/
import Derived.Test.YtakammghcodmgaaGreatDoorQK
namespace Go.Sx
set_option linter.unusedVariables false

section
variable {P : Program} {tab : Tab} {w0 : World} {R : Nat → Nat → Prop} {av : Nat → Prop} {bs : List (Nat × Nat)} {cs : List (List Value)} {F : Fx}

theorem ptr_of {d : TypeDesc} {e : TypeId} (h : mkTK d = .ptr e) : d = .pointer e := by
 cases d <;> simp [mkTK] at h
 rw [h]

theorem eqGuard_ptr (op : BinOp) (t : TypeId) (x y : Operand) (a b : Option Addr) (w : World) : (eqGuard op t x y (.pointer a) (.pointer b)).run P w = .ok () w := by
 cases op <;> rfl

theorem run_equalIn_ptrNil {t e : TypeId} (h : P.underlying t = some (.pointer e)) (d : Nat) (a : Option Addr) (w : World) : (Op.equalIn (d + 1) t (.pointer a) (.pointer none)).run P w = .ok a.isNone w := by
 unfold Op.equalIn
 rw [run_bind_ok (run_underlying' h w)]
 cases a <;> rfl

/-- p == nil -/
theorem XRead.ptrNil (hT : TabOk P tab) {t e : TypeId} {ti : TI} (ht : look tab t = some ti) (hk : ti.k = .ptr e) {x y : Operand} {a : Option Addr} {K : Value → Prop} (h : K (.bool a.isNone)) :
 XRead P w0 R av (do eqGuard .eql t x y (.pointer a) (.pointer none); binOp .eql t (.pointer a) (.pointer none)) bs cs F K := by
 refine (XRead_iff _ _ _ _).2 ⟨_, fun w _ => ?_, h⟩
 obtain ⟨i1, d1, z1, p1, p2, p3, p4, p5, p6, p7, p8⟩ := mkTI_parts (hT _ _ ht)
 rw [p4] at hk
 obtain rfl := ptr_of hk
 rw [run_bind_ok (eqGuard_ptr _ _ _ _ _ _ w)]
 show (do pure (Value.bool (← Op.equal t (.pointer a) (.pointer none))) : Sem Value).run P w = _
 rw [run_bind_ok (show (Op.equal t (.pointer a) (.pointer none)).run P w = .ok a.isNone w from run_equalIn_ptrNil p2 9999 a w)]
 rfl

end
end Go.Sx
