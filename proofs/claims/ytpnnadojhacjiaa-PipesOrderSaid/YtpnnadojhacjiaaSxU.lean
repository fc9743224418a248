/- Sx, part U: more operations. -/
import Derived.Test.YtpnnadojhacjiaaSxT
import Derived.Laws.Strings
namespace Go.Sx
set_option linter.unusedVariables false

section
variable {P : Program} {tab : Tab} {w0 : World} {R : Nat → Nat → Prop} {av : Nat → Prop} {bs : List (Nat × Nat)} {cs : List (List Value)} {F : Fx}

theorem eqGuard_slice (op : BinOp) (t : TypeId) (x y : Operand) (a b : Option Addr) (n m c d : Nat) (w : World) : (eqGuard op t x y (.slice a n c) (.slice b m d)).run P w = .ok () w := by
  cases op <;> rfl

theorem run_equalIn_nil {t e : TypeId} (h : P.underlying t = some (.slice e)) (d : Nat) (a : Option Addr) (n c : Nat) (w : World) : (Op.equalIn (d + 1) t (.slice a n c) (.slice none 0 0)).run P w = .ok a.isNone w := by
  unfold Op.equalIn
  rw [run_bind_ok (run_underlying' h w)]
  cases a <;> rfl

theorem run_equal_nil {t e : TypeId} (h : P.underlying t = some (.slice e)) (a : Option Addr) (n c : Nat) (w : World) : (Op.equal t (.slice a n c) (.slice none 0 0)).run P w = .ok a.isNone w :=
  run_equalIn_nil h 9999 a n c w

/-- s == nil -/
theorem XRead.eqNil (hT : TabOk P tab) {t e : TypeId} {ti : TI} (ht : look tab t = some ti) (hk : ti.k = .slice e) {x y : Operand} {a : Option Addr} {n c : Nat} {K : Value → Prop} (h : K (.bool a.isNone)) :
    XRead P w0 R av (do eqGuard .eql t x y (.slice a n c) (.slice none 0 0); binOp .eql t (.slice a n c) (.slice none 0 0)) bs cs F K := by
  refine (XRead_iff _ _ _ _).2 ⟨_, fun w _ => ?_, h⟩
  obtain ⟨i1, d1, z1, p1, p2, p3, p4, p5, p6, p7, p8⟩ := mkTI_parts (hT _ _ ht)
  rw [p4] at hk
  obtain rfl := slice_of hk
  rw [run_bind_ok (eqGuard_slice _ _ _ _ _ _ _ _ _ _ w)]
  show (do pure (Value.bool (← Op.equal t (.slice a n c) (.slice none 0 0))) : Sem Value).run P w = _
  rw [run_bind_ok (run_equal_nil p2 a n c w)]
  rfl

/-! ### strings out of bytes -/

def strV (l : List UInt8) : Value := .string ⟨⟨l⟩⟩

def stepB (c : Value) (s : ByteArray) : Sem (ForInStep ByteArray) := match c with
  | .int .u8 n => pure (ForInStep.yield (s.push (UInt8.ofNat n.toNat)))
  | _ => do
    stuck "bytesToString: byte expected"
    pure (ForInStep.yield s)

theorem stepB_byte (x : UInt8) (acc : List UInt8) : stepB (byteV x) ⟨⟨acc⟩⟩ = pure (ForInStep.yield ⟨⟨acc ++ [x]⟩⟩) := by
  unfold stepB byteV
  simp only
  congr 2
  have : UInt8.ofNat (x.toNat : Int).toNat = x := by simp
  rw [this]
  show ByteArray.mk (Array.push ⟨acc⟩ x) = _
  congr 1
  apply Array.toList_inj.1
  simp

theorem run_bytes_loop (w : World) : ∀ (l acc : List UInt8), (forIn (l.map byteV) (⟨⟨acc⟩⟩ : ByteArray) stepB : Sem ByteArray).run P w = .ok ⟨⟨acc ++ l⟩⟩ w
  | [], acc => by simp
  | x :: l, acc => by
    simp only [List.map_cons, List.forIn_cons, stepB_byte]
    rw [run_bind_ok (run_pure P _ w)]
    simp only
    rw [run_bytes_loop w l (acc ++ [x])]
    simp

theorem run_bytesToString {w : World} {a : Option Addr} {n c : Nat} {l : List UInt8} (h : RowAt w a (l.map byteV)) (hn : n = l.length) : (Conv.bytesToString (.slice a n c)).run P w = .ok (strV l) w := by
  cases a with
  | none =>
    have : l = [] := by simpa using RowAt.nil_of h
    subst this
    rfl
  | some ad =>
    have e : Conv.bytesToString (.slice (some ad) n c) = (do let cells ← loadCells ad n; let s ← forIn cells ByteArray.empty stepB; pure (.string s)) := rfl
    have hl : (loadCells ad n).run P w = .ok ⟨l.map byteV⟩ w := by
      have := run_firstCells (P := P) (n := n) (c := c) (m := n) (sz := 1) h (by simp [hn])
      simpa [Builtin.firstCells] using this
    rw [e, run_bind_ok hl, ← Array.forIn_toList]
    have hz := run_bytes_loop (P := P) w l []
    have he : (ByteArray.mk ⟨[]⟩) = ByteArray.empty := rfl
    rw [he] at hz
    rw [run_bind_ok hz]
    rfl

theorem string_of {d : TypeDesc} (h : mkTK d = .str) : d = .string := by
  cases d <;> simp [mkTK] at h
  rfl

/-- string(b) -/
theorem XRead.bytes (hT : TabOk P tab) {t u e : TypeId} {ti tu te : TI} (ht : look tab t = some ti) (hk : ti.k = .slice e) (hu : look tab u = some tu) (hs : tu.k = .str) (he : look tab e = some te) (hb : te.k = .int .u8)
    {a : Option Addr} {n c : Nat} {l : List UInt8} {K : Value → Prop} (hr : Sees w0 R av bs cs F a (l.map byteV)) (hn : n = l.length) (h : K (strV l)) : XRead P w0 R av (convert t u (.slice a n c)) bs cs F K := by
  refine (XRead_iff _ _ _ _).2 ⟨_, fun w hst => ?_, h⟩
  obtain ⟨i1, d1, z1, p1, p2, p3, p4, p5, p6, p7, p8⟩ := mkTI_parts (hT _ _ ht)
  obtain ⟨i3, d3, z3, o1, o2, o3, o4, o5, o6, o7, o8⟩ := mkTI_parts (hT _ _ hu)
  obtain ⟨i2, d2, z2, q1, q2, q3, q4, q5, q6, q7, q8⟩ := mkTI_parts (hT _ _ he)
  rw [p4] at hk
  rw [o4] at hs
  rw [q4] at hb
  obtain rfl := slice_of hk
  obtain rfl := string_of hs
  have hb' : d2 = .int .u8 := by cases d2 <;> simp [mkTK] at hb; rw [hb]
  subst hb'
  unfold convert
  rw [run_bind_ok (run_underlying' p2 w), run_bind_ok (run_underlying' o2 w)]
  simp only
  rw [run_bind_ok (run_underlying' q2 w)]
  exact run_bytesToString (hr w hst) hn

theorem eqGuard_str (op : BinOp) (t : TypeId) (x y : Operand) (a b : ByteArray) (w : World) : (eqGuard op t x y (.string a) (.string b)).run P w = .ok () w := by
  cases op <;> rfl

theorem toList_mk (l : List UInt8) : (ByteArray.mk ⟨l⟩).toList = l := by
  rw [ByteArray.toList_eq]

theorem XRead.strEq {t : TypeId} {x y : Operand} {l m : List UInt8} {K : Value → Prop} (h : K (.bool (l == m))) :
    XRead P w0 R av (do eqGuard .eql t x y (strV l) (strV m); binOp .eql t (strV l) (strV m)) bs cs F K := by
  refine (XRead_iff _ _ _ _).2 ⟨_, fun w _ => ?_, h⟩
  unfold strV
  rw [run_bind_ok (eqGuard_str _ _ _ _ _ _ w)]
  simp only [binOp, Op.stringOp, toList_mk]
  rfl

theorem XRead.strNe {t : TypeId} {x y : Operand} {l m : List UInt8} {K : Value → Prop} (h : K (.bool (!(l == m)))) :
    XRead P w0 R av (do eqGuard .neq t x y (strV l) (strV m); binOp .neq t (strV l) (strV m)) bs cs F K := by
  refine (XRead_iff _ _ _ _).2 ⟨_, fun w _ => ?_, h⟩
  unfold strV
  rw [run_bind_ok (eqGuard_str _ _ _ _ _ _ w)]
  simp only [binOp, Op.stringOp, toList_mk]
  rfl

theorem XRead.min {ts : Array TypeId} {ty : TypeId} {k : IntKind} {a b : Int} {K : Value → Prop} (h : K (.int k (if b < a then b else a))) :
    XRead P w0 R av (Builtin.min_ ts ty #[.int k a, .int k b]) bs cs F K := (XRead_iff _ _ _ _).2 ⟨_, fun w _ => rfl, h⟩

theorem int_of {d : TypeDesc} {k : IntKind} (h : mkTK d = .int k) : d = .int k := by
  cases d <;> simp [mkTK] at h
  rw [h]

end
end Go.Sx
