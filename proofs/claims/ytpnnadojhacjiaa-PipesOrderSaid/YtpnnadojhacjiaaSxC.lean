/- Sx, part C: the executor's definitions. -/
import Derived.Test.YtpnnadojhacjiaaSxB
namespace Go.Sx
set_option linter.unusedVariables false

abbrev KT := List SV → List (Nat × Nat) → List (List Value) → Fx → Prop
abbrev KV := Value → List (Nat × Nat) → List (List Value) → Fx → Prop
abbrev KU := List (Nat × Nat) → List (List Value) → Fx → Prop

def XIf : Bool → Prop → Prop → Prop
  | true, A, _ => A
  | false, _, B => B

theorem XIf.split {b : Bool} {A B : Prop} (h : b = true → A) (h' : b = false → B) : XIf b A B := by
  cases b
  · exact h' rfl
  · exact h rfl

theorem XIf.yes {b : Bool} {A B : Prop} (hb : b = true) (h : A) : XIf b A B := by subst hb; exact h
theorem XIf.no {b : Bool} {A B : Prop} (hb : b = false) (h : B) : XIf b A B := by subst hb; exact h

/-- Two tests that are one and the same. -/
structure XSame (a b : Bool) (K : Prop) : Prop where
  same : a = b
  rest : K

theorem XSame.of {a : Bool} {K : Prop} (h : K) : XSame a a K := ⟨rfl, h⟩

/-- A divisor that is not nought. -/
structure XDiv (b : Int) (K : Prop) : Prop where
  ne : b ≠ 0
  rest : K

/-! ### operands -/

def memN : List Nat → Nat → Bool
  | [], _ => false
  | x :: xs, n => match Nat.beq x n with
    | true => true
    | false => memN xs n

def evG (tm : List SV) (as : List Nat) : Operand → (SV → Prop) → Prop
  | .tmp t, K => nthK tm t fun sv => match memN as t with
    | false => K sv
    | true => match sv with
      | .g _ _ x => K x
      | _ => False
  | .const v, K => K (.v v)
  | .global g, K => K (.v (.pointer (some ⟨g, 0, none⟩)))
  | .func f, K => K (.v (.func (.func f) #[] #[]))

def vK (bs : List (Nat × Nat)) : SV → (Value → Prop) → Prop
  | .v x, K => K x
  | .p i o, K => nthK bs i fun b => match b with
    | (k, s) => K (.pointer (some ⟨k, s + o, none⟩))
  | _, _ => False

def evV (tm : List SV) (as : List Nat) (bs : List (Nat × Nat)) (x : Operand) (K : Value → Prop) : Prop := evG tm as x fun sv => vK bs sv K

def evVs (tm : List SV) (as : List Nat) (bs : List (Nat × Nat)) : List Operand → (List Value → Prop) → Prop
  | [], K => K []
  | x :: xs, K => evV tm as bs x fun v => evVs tm as bs xs fun vs => K (v :: vs)

def evO (tm : List SV) (as : List Nat) (bs : List (Nat × Nat)) : Option Operand → (Option Value → Prop) → Prop
  | none, K => K none
  | some x, K => evV tm as bs x fun v => K (some v)

def evPs (tm : List SV) (as : List Nat) (bs : List (Nat × Nat)) : List (Nat × Operand) → (List (Nat × Value) → Prop) → Prop
  | [], K => K []
  | (i, x) :: xs, K => evV tm as bs x fun v => evPs tm as bs xs fun vs => K ((i, v) :: vs)

/-! ### operations that only compute -/

def pickK (c : Bool) (sa sb : SV) (K : SV → Prop) : Prop :=
  match sa, sb with
  | .v (.bool x), .v (.bool y) => K (.v (.bool (cond c x y)))
  | .g c1 true (.v (.bool x)), .v (.bool false) => XSame c c1 (K (.v (.bool (c && x))))
  | .v (.bool true), .g c1 false (.v (.bool y)) => XSame c c1 (K (.v (.bool (c || y))))
  | a, b => XIf c (K a) (K b)

def bits (op : BinOp) (k : IntKind) (a b : Int) : Int :=
  let x := BitVec.ofInt k.bits a
  let y := BitVec.ofInt k.bits b
  match op with
  | .and => k.wrap (x &&& y).toNat
  | .or => k.wrap (x ||| y).toNat
  | .xor => k.wrap (x ^^^ y).toNat
  | _ => k.wrap (x &&& ~~~y).toNat

/-! Tests on numbers: shut, so that nothing computes behind them. -/
def iEq (a b : Int) : Bool := a == b
def iNe (a b : Int) : Bool := a != b
def iLt (a b : Int) : Bool := decide (a < b)
def iLe (a b : Int) : Bool := decide (a ≤ b)
def iGt (a b : Int) : Bool := decide (a > b)
def iGe (a b : Int) : Bool := decide (a ≥ b)
theorem iEq_eq (a b : Int) : iEq a b = (a == b) := rfl
theorem iNe_eq (a b : Int) : iNe a b = (a != b) := rfl
theorem iLt_eq (a b : Int) : iLt a b = decide (a < b) := rfl
theorem iLe_eq (a b : Int) : iLe a b = decide (a ≤ b) := rfl
theorem iGt_eq (a b : Int) : iGt a b = decide (a > b) := rfl
theorem iGe_eq (a b : Int) : iGe a b = decide (a ≥ b) := rfl
attribute [irreducible] iEq iNe iLt iLe iGt iGe

def binInt (op : BinOp) (k : IntKind) (a b : Int) (K : SV → Prop) (E : Prop) : Prop :=
  match op with
  | .add => K (.v (.int k (k.wrap (a + b))))
  | .sub => K (.v (.int k (k.wrap (a - b))))
  | .mul => K (.v (.int k (k.wrap (a * b))))
  | .quo => XDiv b (K (.v (.int k (k.wrap (a.tdiv b)))))
  | .rem => XDiv b (K (.v (.int k (a.tmod b))))
  | .and => K (.v (.int k (bits .and k a b)))
  | .or => K (.v (.int k (bits .or k a b)))
  | .xor => K (.v (.int k (bits .xor k a b)))
  | .andNot => K (.v (.int k (bits .andNot k a b)))
  | .eql => K (.v (.bool (iEq a b)))
  | .neq => K (.v (.bool (iNe a b)))
  | .lss => K (.v (.bool (iLt a b)))
  | .leq => K (.v (.bool (iLe a b)))
  | .gtr => K (.v (.bool (iGt a b)))
  | .geq => K (.v (.bool (iGe a b)))
  | _ => E

def kindIs : IntKind → IntKind → Bool
  | .i8, .i8 | .i16, .i16 | .i32, .i32 | .i64, .i64 | .u8, .u8 | .u16, .u16 | .u32, .u32 | .u64, .u64 => true
  | _, _ => false

def boolT (tab : Tab) (t : TypeId) : Bool := match look tab t with
  | some ti => match ti.k with
    | .bool => true
    | _ => false
  | none => false

def binK (tab : Tab) (op : BinOp) (t : TypeId) (x y : SV) (K : SV → Prop) (E : Prop) : Prop :=
  match x, y with
  | .v (.int k a), .v (.int k' b) => match kindIs k k' with
    | true => binInt op k a b K E
    | false => E
  | .v (.bool a), .v (.bool b) => match op, boolT tab t with
    | .eql, true => K (.v (.bool (a == b)))
    | .neq, true => K (.v (.bool (!(a == b))))
    | _, _ => E
  | _, _ => E

def unK (op : UnOp) (x : SV) (K : SV → Prop) (E : Prop) : Prop :=
  match op, x with
  | .not, .v (.bool b) => K (.v (.bool (!b)))
  | .neg, .v (.int k n) => K (.v (.int k (k.wrap (0 - n))))
  | _, _ => E

def fieldAddrK (ti : TI) (x : SV) (f : Nat) (K : SV → Prop) (E : Prop) : Prop :=
  match ti.k with
  | .struct => nthK ti.offs f fun z => match z with
    | (off, 0, _) => E
    | (off, _ + 1, _) => match x with
      | .p i o => K (.p i (o + off))
      | .v (.pointer (some a)) => K (.v (.pointer (some (a.add off))))
      | _ => E
  | _ => E

/-- The address of an element of an array in a box, at a place that is known. -/
def indexAddrK (tab : Tab) (ti : TI) (x i : SV) (K : SV → Prop) (E : Prop) : Prop :=
  match x with
  | .p b o => match i with
    | .v (.int _ (.ofNat j)) => match ti.k with
      | .arr n e => match look tab e with
        | some te => match Nat.blt j n with
          | true => K (.p b (o + j * te.size))
          | false => E
        | none => E
      | _ => E
    | _ => E
  | _ => E

def fieldK (ti : TI) (x : SV) (f : Nat) (K : SV → Prop) (E : Prop) : Prop :=
  match ti.k, x with
  | .struct, .v (.agg ⟨l⟩) => nthK ti.offs f fun z => match z with
    | (off, sz, true) => subK l off sz fun m => K (.v (.agg ⟨m⟩))
    | (off, _, false) => nthK l off fun v => K (.v v)
  | _, _ => E

def loadK (ti : TI) (cs : List (List Value)) (i o : Nat) (K : SV → Prop) : Prop :=
  nthK cs i fun c => match ti.k.agg with
    | true => subK c o ti.size fun l => K (.v (.agg ⟨l⟩))
    | false => nthK c o fun v => K (.v v)

def lenVK (ti : TI) (x : SV) (K : SV → Prop) (E : Prop) : Prop :=
  match ti.k, x with
  | .slice _, .v (.slice _ n _) => K (.v (.int .i64 (n : Int)))
  | .str, .v (.string s) => K (.v (.int .i64 (s.size : Int)))
  | .arr n _, _ => K (.v (.int .i64 (n : Int)))
  | _, _ => E

def fillK (place : Nat → (Nat → Nat → Prop) → Prop) : List (Nat × Value) → List Value → (List Value → Prop) → Prop
  | [], z, K => K z
  | (i, v) :: r, z, K => cellsK v fun l => place i fun off size => lenK l size (overK z off l fun z' => fillK place r z' K)

def structPlace (ti : TI) (i : Nat) (K : Nat → Nat → Prop) : Prop := nthK ti.offs i fun z => match z with
  | (off, sz, _) => K off sz

def arrPlace (n s : Nat) (i : Nat) (K : Nat → Nat → Prop) : Prop := match Nat.blt i n with
  | true => K (i * s) s
  | false => False

def xpure (tab : Tab) (as : List Nat) (op : Op) (tm : List SV) (bs : List (Nat × Nat)) (cs : List (List Value)) (K : SV → Prop) (E : Prop) : Prop :=
  match op with
  | .move x => evG tm as x K
  | .assign x => evG tm as x K
  | .pick c a b => evG tm as c fun sc => match sc with
    | .v (.bool c') => evG tm as a fun sa => evG tm as b fun sb => pickK c' sa sb K
    | _ => E
  | .load t x => evG tm as x fun sx => match sx with
    | .p i o => match look tab t with
      | some ti => loadK ti cs i o K
      | none => E
    | _ => E
  | .nilCheck x => evG tm as x fun sx => match sx with
    | .p i o => K (.p i o)
    | .v (.pointer (some a)) => K (.v (.pointer (some a)))
    | .v (.func (.func f) a b) => K (.v (.func (.func f) a b))
    | _ => E
  | .binOp .rem t x (.const (.int k' (.ofNat (n + 1)))) _ => evG tm as x fun sx => match sx with
    | .v (.int k a) => match kindIs k k' with
      | true => K (.v (.int k (a.tmod (.ofNat (n + 1)))))
      | false => E
    | _ => E
  | .binOp .quo t x (.const (.int k' (.ofNat (n + 1)))) _ => evG tm as x fun sx => match sx with
    | .v (.int k a) => match kindIs k k' with
      | true => K (.v (.int k (k.wrap (a.tdiv (.ofNat (n + 1))))))
      | false => E
    | _ => E
  | .binOp op t x y _ => evG tm as x fun sx => evG tm as y fun sy => binK tab op t sx sy K E
  | .unOp op _ x => evG tm as x fun sx => unK op sx K E
  | .convert src dst x => evG tm as x fun sx => match sx with
    | .v (.int _ n) => match look tab src, look tab dst with
      | some _, some ti => match ti.k with
        | .int k => K (.v (.int k (k.wrap n)))
        | _ => E
      | _, _ => E
    | _ => E
  | .indexAddr t x i => evG tm as x fun sx => match sx with
    | .p b o => evG tm as i fun si => match look tab t with
      | some ti => indexAddrK tab ti (.p b o) si K E
      | none => E
    | _ => E
  | .fieldAddr s x f => evG tm as x fun sx => match look tab s with
    | some ti => fieldAddrK ti sx f K E
    | none => E
  | .field s x f => evG tm as x fun sx => match look tab s with
    | some ti => fieldK ti sx f K E
    | none => E
  | .extract x i => evG tm as x fun sx => match sx with
    | .v (.tuple ⟨l⟩) => nthK l i fun v => K (.v v)
    | _ => E
  | .makeFunc fn ⟨first⟩ ⟨cap⟩ => evVs tm as bs first fun vs => evVs tm as bs cap fun us => K (.v (.func fn ⟨vs⟩ ⟨us⟩))
  | .build t ⟨ps⟩ => match look tab t with
    | some ti => match ti.k with
      | .struct => evPs tm as bs ps fun vs => fillK (structPlace ti) vs ti.zero fun z => K (.v (.agg ⟨z⟩))
      | .arr n e => match look tab e with
        | some te => evPs tm as bs ps fun vs => fillK (arrPlace n te.size) vs ti.zero fun z => K (.v (.agg ⟨z⟩))
        | none => E
      | _ => E
    | none => E
  | .call ⟨.builtin .len, ⟨[x]⟩, ⟨[t]⟩⟩ => evG tm as x fun sx => match look tab t with
    | some ti => lenVK ti sx K E
    | none => E
  | .call ⟨.builtin .min, ⟨[x, y]⟩, ⟨[_, _]⟩⟩ => evG tm as x fun sx => evG tm as y fun sy => match sx, sy with
    | .v (.int k a), .v (.int k' b) => match kindIs k k' with
      | true => K (.v (.int k (if b < a then b else a)))
      | false => E
    | _, _ => E
  | _ => E

/-! ### the heads that stop the computing -/

section
variable (P : Program) (w0 : World) (R : Nat → Nat → Prop) (av : Nat → Prop)

def XVal (m : Sem Value) (bs : List (Nat × Nat)) (cs : List (List Value)) (D : Fx) (K : KV) : Prop :=
  ∀ w, St w0 R av w bs cs D → ∃ v w' ext cs' D', m.run P w = .ok v w' ∧ St w0 R av w' (bs ++ ext) cs' D' ∧ K v (bs ++ ext) cs' D'

def XUnit (m : Sem Unit) (bs : List (Nat × Nat)) (cs : List (List Value)) (D : Fx) (K : KU) : Prop :=
  ∀ w, St w0 R av w bs cs D → ∃ w' ext cs' D', m.run P w = .ok () w' ∧ St w0 R av w' (bs ++ ext) cs' D' ∧ K (bs ++ ext) cs' D'

def Callable (f : FuncId) : Prop := ∃ fn, P.funcs[f]? = some fn ∧ fn.body.isSome = true ∧ (fn.name == "runtime.NumGoroutine") = false

def XCall (f : FuncId) (vs : List Value) (bs : List (Nat × Nat)) (cs : List (List Value)) (D : Fx) (K : KV) : Prop :=
  Callable P f ∧ ∀ w, St w0 R av w bs cs D → Calls P f vs.toArray w fun e w' => ∃ v ext cs' D', e = .returned v ∧ St w0 R av w' (bs ++ ext) cs' D' ∧ K v (bs ++ ext) cs' D'

def LiftN (K : KT) (a : Act) (w : World) : Prop :=
  a.defers = [] ∧ ∃ tm bs cs D, FrameOk bs tm a.tmps ∧ St w0 R av w bs cs D ∧ K tm bs cs D

def Lift (K : Exit → KT) (e : Exit) (a : Act) (w : World) : Prop := LiftN w0 R av (K e) a w

def XRaw (o : Oper) (tm : List SV) (bs : List (Nat × Nat)) (cs : List (List Value)) (D : Fx) (K : KT) : Prop :=
  ∀ a w Q, FrameOk bs tm a → St w0 R av w bs cs D → o.wp P ⟨a, []⟩ w (LiftN w0 R av K) Q

def XStop (c : Code) (tm : List SV) (bs : List (Nat × Nat)) (cs : List (List Value)) (D : Fx) (K : Exit → KT) : Prop :=
  ∀ a w, FrameOk bs tm a → St w0 R av w bs cs D → c.wp P (Lift w0 R av K) ⟨a, []⟩ w

end

section
variable {P : Program} {w0 : World} {R : Nat → Nat → Prop} {av : Nat → Prop} {bs : List (Nat × Nat)} {cs : List (List Value)} {D : Fx}
theorem XVal_iff {m : Sem Value} {K : KV} : XVal P w0 R av m bs cs D K ↔ ∀ w, St w0 R av w bs cs D → ∃ v w' ext cs' D', m.run P w = .ok v w' ∧ St w0 R av w' (bs ++ ext) cs' D' ∧ K v (bs ++ ext) cs' D' := Iff.rfl
theorem XUnit_iff {m : Sem Unit} {K : KU} : XUnit P w0 R av m bs cs D K ↔ ∀ w, St w0 R av w bs cs D → ∃ w' ext cs' D', m.run P w = .ok () w' ∧ St w0 R av w' (bs ++ ext) cs' D' ∧ K (bs ++ ext) cs' D' := Iff.rfl
theorem XCall_iff {f : FuncId} {vs : List Value} {K : KV} : XCall P w0 R av f vs bs cs D K ↔ Callable P f ∧ ∀ w, St w0 R av w bs cs D → Calls P f vs.toArray w fun e w' => ∃ v ext cs' D', e = .returned v ∧ St w0 R av w' (bs ++ ext) cs' D' ∧ K v (bs ++ ext) cs' D' := Iff.rfl
theorem XRaw_iff {o : Oper} {tm : List SV} {K : KT} : XRaw P w0 R av o tm bs cs D K ↔ ∀ a w Q, FrameOk bs tm a → St w0 R av w bs cs D → o.wp P ⟨a, []⟩ w (LiftN w0 R av K) Q := Iff.rfl
theorem XStop_iff {c : Code} {tm : List SV} {K : Exit → KT} : XStop P w0 R av c tm bs cs D K ↔ ∀ a w, FrameOk bs tm a → St w0 R av w bs cs D → c.wp P (Lift w0 R av K) ⟨a, []⟩ w := Iff.rfl
end
attribute [irreducible] XCall XVal XUnit XRaw XStop

/-! ### all operations -/

def fin (dst : Option Tmp) (tm : List SV) (sv : SV) (K : List SV → Prop) : Prop := match dst with
  | some d => setK tm d sv K
  | none => K tm

def semB (b : Builtin) (ts : Array TypeId) (t : TypeId) (vs : Array Value) : Option (Sem Value) :=
  match b with
  | .append => some (Builtin.append_ ts t vs)
  | .cap => some (Builtin.cap_ ts t vs)
  | .copy => some (Builtin.copy_ ts t vs)
  | .max => some (Builtin.max_ ts t vs)
  | .min => some (Builtin.min_ ts t vs)
  | .len => some (Builtin.len_ ts t vs)
  | .delete => some (Builtin.delete_ ts t vs)
  | .clear => some (Builtin.clear_ ts t vs)
  | _ => none

def oneCell : Value → Bool
  | .agg _ | .tuple _ => false
  | _ => true

/-- Each is the value of one cell. -/
def onesK : List Value → Prop → Prop
  | [], K => K
  | x :: xs, K => match x with
    | .agg _ => False
    | .tuple _ => False
    | _ => onesK xs K

theorem onesK_iff : ∀ {l : List Value} {K : Prop}, onesK l K → (∀ v ∈ l, oneCell v = true) ∧ K
  | [], K, h => ⟨by simp, h⟩
  | x :: xs, K, h => by
    have h' : oneCell x = true ∧ onesK xs K := by cases x <;> simp_all [onesK, oneCell]
    have := onesK_iff h'.2
    refine ⟨fun v hv => ?_, this.2⟩
    rcases List.mem_cons.1 hv with rfl | hv
    · exact h'.1
    · exact this.1 v hv

def natLen {α : Type} : List α → Nat → (Nat → Prop) → Prop
  | [], n, K => K n
  | _ :: xs, n, K => natLen xs (n + 1) K

section
variable (P : Program) (tab : Tab) (w0 : World) (R : Nat → Nat → Prop) (av : Nat → Prop)

def boxK (dst : Option Tmp) (c : List Value) (tm : List SV) (bs : List (Nat × Nat)) (cs : List (List Value)) (D : Fx) (K : KT) : Prop :=
  natLen bs 0 fun n => ∀ b : Nat, snocK bs (b, 0) fun bs' => snocK cs c fun cs' => fin dst tm (.p n 0) fun tm' => K tm' bs' cs' D

def xext (o : Oper) (tm : List SV) (bs : List (Nat × Nat)) (cs : List (List Value)) (D : Fx) (K : KT) : Prop :=
  let KF : KV := fun v bs cs D => fin o.dst tm (.v v) fun tm' => K tm' bs cs D
  let KS : KU := fun bs cs D => fin o.dst tm (.v undef) fun tm' => K tm' bs cs D
  match o.op with
  | .alloc e => match look tab e with
    | some ti => boxK o.dst ti.zero tm bs cs D K
    | none => XRaw P w0 R av o tm bs cs D K
  | .box e x => evV tm [] bs x fun v => cellsK v fun c => boxK o.dst c tm bs cs D K
  | .store t a x => evG tm [] a fun sa => match sa with
    | .p i s => match look tab t with
      | some ti => evV tm [] bs x fun v => cellsK v fun l => onesK l (lenK l ti.size (nthK cs i fun c => overK c s l fun c' => setK cs i c' fun cs' => KS bs cs' D))
      | none => XRaw P w0 R av o tm bs cs D K
    | .v av' => evV tm [] bs x fun v => XUnit P w0 R av (Instr.storeAt t av' v) bs cs D KS
    | _ => False
  | .load t x => evV tm [] bs x fun v => XVal P w0 R av (Instr.loadAt t v) bs cs D KF
  | .buildSlice t n ⟨ps⟩ => evPs tm [] bs ps fun vs => XVal P w0 R av (Instr.buildSlice t n ⟨vs⟩) bs cs D KF
  | .build t ⟨ps⟩ => evPs tm [] bs ps fun vs => XVal P w0 R av (Instr.build t ⟨vs⟩) bs cs D KF
  | .indexAddr t x i => evV tm [] bs x fun v => evV tm [] bs i fun n => XVal P w0 R av (Instr.indexAt t v n) bs cs D KF
  | .index t x i => evV tm [] bs x fun v => evV tm [] bs i fun n => XVal P w0 R av (Instr.index t v n) bs cs D KF
  | .slice t x lo hi mx => evV tm [] bs x fun v => evO tm [] bs lo fun a => evO tm [] bs hi fun b => evO tm [] bs mx fun c => XVal P w0 R av (Instr.sliceAt t v a b c) bs cs D KF
  | .convert s d x => evV tm [] bs x fun v => XVal P w0 R av (convert s d v) bs cs D KF
  | .makeSlice t l c => evV tm [] bs l fun v => evV tm [] bs c fun u => XVal P w0 R av (Instr.makeSlice t v u) bs cs D KF
  | .binOp op t x y _ => evV tm [] bs x fun v => evV tm [] bs y fun u => XVal P w0 R av (do eqGuard op t x y v u; binOp op t v u) bs cs D KF
  | .unOp op _ x => evV tm [] bs x fun v => XVal P w0 R av (Op.unary op v) bs cs D KF
  | .makeMap t none => XVal P w0 R av (Instr.makeMap t none) bs cs D KF
  | .lookup t x i ok => evV tm [] bs x fun v => evV tm [] bs i fun n => XVal P w0 R av (Instr.lookup t v n ok) bs cs D KF
  | .mapUpdate t m k x => evV tm [] bs m fun v => evV tm [] bs k fun n => evV tm [] bs x fun u => XUnit P w0 R av (Instr.mapUpdate t v n u) bs cs D KS
  | .range t x => evV tm [] bs x fun v => XVal P w0 R av (Instr.range t v) bs cs D KF
  | .next it s => evV tm [] bs it fun v => XVal P w0 R av (Instr.next v s o.type) bs cs D KF
  | .makeInterface t x => evV tm [] bs x fun v => XVal P w0 R av (Instr.makeInterface t v) bs cs D KF
  | .call ⟨.builtin b, ⟨xs⟩, ts⟩ => evVs tm [] bs xs fun vs => match semB b ts o.type ⟨vs⟩ with
    | some m => XVal P w0 R av m bs cs D KF
    | none => XRaw P w0 R av o tm bs cs D K
  | .call ⟨.value x, ⟨xs⟩, ts⟩ => evG tm [] x fun sf => match sf with
    | .v (.func (.func f) ⟨first⟩ ⟨cap⟩) => match first, cap with
      | [], [] => evVs tm [] bs xs fun vs => XCall P w0 R av f vs bs cs D KF
      | _, _ => evVs tm [] bs xs fun vs => XCall P w0 R av f (first ++ vs ++ cap) bs cs D KF
    | _ => XRaw P w0 R av o tm bs cs D K
  | _ => XRaw P w0 R av o tm bs cs D K

def xop (o : Oper) (tm : List SV) (bs : List (Nat × Nat)) (cs : List (List Value)) (D : Fx) (K : KT) : Prop :=
  xpure tab [] o.op tm bs cs (fun sv => fin o.dst tm sv fun tm' => K tm' bs cs D) (xext P tab w0 R av o tm bs cs D K)

/-! ### guarded operations: which rows of them only compute -/

def boxOf (tm : List SV) (as : List (Nat × Bool)) : Operand → Bool
  | .tmp t => match as.find? (fun x => Nat.beq x.1 t) with
    | some x => x.2
    | none => match nth .any tm t with
      | .p _ _ => true
      | _ => false
  | _ => false

def scalarT (tab : Tab) (t : TypeId) : Bool := match look tab t with
  | some ti => match ti.k with
    | .bool | .int _ => true
    | _ => false
  | none => false

def lenT (tab : Tab) (t : TypeId) : Bool := match look tab t with
  | some ti => match ti.k with
    | .slice _ | .str => true
    | _ => false
  | none => false

/-- Some flag where the operation only computes; the flag: its value is an address in a box. -/
def quietOp (tm : List SV) (as : List (Nat × Bool)) : Op → Option Bool
  | .move x | .assign x => some (boxOf tm as x)
  | .load _ x => match boxOf tm as x with
    | true => some false
    | false => none
  | .fieldAddr _ x _ => some (boxOf tm as x)
  | .field _ _ _ | .extract _ _ => some false
  | .unOp _ t _ => match scalarT tab t with
    | true => some false
    | false => none
  | .convert s d _ => match scalarT tab s, scalarT tab d with
    | true, true => some false
    | _, _ => none
  | .binOp op t _ y _ => match scalarT tab t with
    | true => match op with
      | .shl | .shr => none
      | .quo | .rem => match y with
        | .const (.int _ (.ofNat (n + 1))) => some false
        | _ => none
      | _ => some false
    | false => none
  | .call ⟨.builtin .len, ⟨[_]⟩, ⟨[t]⟩⟩ => match lenT tab t with
    | true => some false
    | false => none
  | _ => none

def guardIs (o : Oper) (j : Nat) (pol : Bool) : Bool := match o.guard with
  | some (j', pol') => match Nat.beq j j', pol, pol' with
    | true, true, true => true
    | true, false, false => true
    | _, _, _ => false
  | none => false

/-- The row of operations under one guard only computes. -/
def quietRow (j : Nat) (pol : Bool) (tm : List SV) : List Oper → List (Nat × Bool) → Bool
  | [], _ => true
  | o :: r, as => match guardIs o j pol with
    | false => match o.guard with
      | none => true
      | some _ => false
    | true => match quietOp tab tm as o.op with
      | some f => quietRow j pol tm r (match o.dst with | some d => (d, f) :: as | none => as)
      | none => false

/-- The group that is being walked: its guard, the guard's value, the slots that it has written. -/
structure Grp where
  j : Nat
  pol : Bool
  c : Bool
  as : List Nat
  t : Nat

/-- A guard that is not known parts the ways. -/
def cutK (o : Oper) (pol c : Bool) (t : Nat) (tm : List SV) (bs : List (Nat × Nat)) (cs : List (List Value)) (D : Fx) (KN : KT) : Prop :=
  match pol with
  | true => XIf c (setK tm t (.v (.bool true)) fun tm => xop P tab w0 R av o tm bs cs D KN)
      (setK tm t (.v (.bool false)) fun tm => fin o.dst tm (.v undef) fun tm => KN tm bs cs D)
  | false => XIf c (setK tm t (.v (.bool true)) fun tm => fin o.dst tm (.v undef) fun tm => KN tm bs cs D)
      (setK tm t (.v (.bool false)) fun tm => xop P tab w0 R av o tm bs cs D KN)

/-- One more operation of a group. -/
def grpK (o : Oper) (G : Grp) (tm : List SV) (bs : List (Nat × Nat)) (cs : List (List Value)) (D : Fx) (KG : Grp → KT) (E : Prop) : Prop :=
  xpure tab G.as o.op tm bs cs (fun sv => match o.dst with
    | some d => match Nat.beq d G.t with
      | true => False
      | false => setK tm d (.g G.c G.pol sv) fun tm' => KG ⟨G.j, G.pol, G.c, d :: G.as, G.t⟩ tm' bs cs D
    | none => False) E

def guardK (all : List Oper) (j : Nat) (tm : List SV) (K : Nat → Bool → Prop) (N : Prop) : Prop :=
  nthK all j fun oj => match oj.dst with
    | none => False
    | some t => nthK tm t fun sg => match sg with
      | .v (.bool c) => K t c
      | .v (.tuple _) => N
      | _ => False

def freshK (all : List Oper) (o : Oper) (r : List Oper) (j : Nat) (pol : Bool) (tm : List SV) (bs : List (Nat × Nat)) (cs : List (List Value)) (D : Fx) (KN : KT) (KG : Grp → KT) : Prop :=
  guardK all j tm (fun t c => match quietRow tab j pol tm (o :: r) [] with
    | true => grpK tab o ⟨j, pol, c, [], t⟩ tm bs cs D KG (cutK P tab w0 R av o pol c t tm bs cs D KN)
    | false => cutK P tab w0 R av o pol c t tm bs cs D KN) (fin o.dst tm (.v undef) fun tm => KN tm bs cs D)

def xops (all : List Oper) : List Oper → Option Grp → List SV → List (Nat × Nat) → List (List Value) → Fx → KT → Prop
  | [], _, tm, bs, cs, D, K => K tm bs cs D
  | o :: r, g, tm, bs, cs, D, K => match o.guard with
    | none => xop P tab w0 R av o tm bs cs D fun tm bs cs D => xops all r none tm bs cs D K
    | some (j, pol) => match g with
      | none => freshK P tab w0 R av all o r j pol tm bs cs D (fun tm bs cs D => xops all r none tm bs cs D K) (fun G tm bs cs D => xops all r (some G) tm bs cs D K)
      | some G => match guardIs o G.j G.pol with
        | true => grpK tab o G tm bs cs D (fun G tm bs cs D => xops all r (some G) tm bs cs D K) False
        | false => freshK P tab w0 R av all o r j pol tm bs cs D (fun tm bs cs D => xops all r none tm bs cs D K) (fun G tm bs cs D => xops all r (some G) tm bs cs D K)

def xc : Code → List SV → List (Nat × Nat) → List (List Value) → Fx → (Exit → KT) → Prop
  | .skip, tm, bs, cs, D, K => K .normal tm bs cs D
  | .region _ ⟨ops⟩ false, tm, bs, cs, D, K => xops P tab w0 R av ops ops none tm bs cs D (K .normal)
  | .seq a b, tm, bs, cs, D, K => xc a tm bs cs D fun e tm bs cs D => match e with
    | .normal => xc b tm bs cs D K
    | e => K e tm bs cs D
  | .cond c a b, tm, bs, cs, D, K => evG tm [] c fun sv => match sv with
    | .v (.bool t) => XIf t (xc a tm bs cs D K) (xc b tm bs cs D K)
    | _ => False
  | .block id c, tm, bs, cs, D, K => xc c tm bs cs D fun e tm bs cs D => match e with
    | .exit i => match Nat.beq i id with
      | true => K .normal tm bs cs D
      | false => K (.exit i) tm bs cs D
    | e => K e tm bs cs D
  | .ret, tm, bs, cs, D, K => K .ret tm bs cs D
  | .exit id, tm, bs, cs, D, K => K (.exit id) tm bs cs D
  | c, tm, bs, cs, D, K => XStop P w0 R av c tm bs cs D K

end
end Go.Sx
