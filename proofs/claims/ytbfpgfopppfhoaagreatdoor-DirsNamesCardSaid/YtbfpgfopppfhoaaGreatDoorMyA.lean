/- The executors, part MyA: many small texts in one. -/
import Derived.Test.YtbfpgfopppfhoaaGreatDoorMxB

/- Ye, part A: an evaluator for calls whose arguments are known: values, trees, frames, memory. -/
namespace Go.Ye
set_option linter.unusedVariables false
noncomputable section

/-! ### values -/

/-- A value; addresses are labels. A slice: label, offset, length, where its room ends (none: where its block ends), cells of an element. -/
inductive YV where
  | b (x : Bool)
  | i (k : IntKind) (n : Int)
  | s (l : List Nat)
  | p (l o : Nat)
  | pn
  | sl (l o n : Nat) (e : Option Nat) (z : Nat)
  | sn
  | m (l : Nat)
  | mn
  | f (g : FuncId) (us : List YV)
  | fn
  | ag (l : List YV)
  | tu (l : List YV)
  | u
  deriving Inhabited

/-- What an evaluation answers. -/
inductive R where
  | ok (v : YV)
  | no (why : String)

/-! ### numbers are computed before one goes on -/

def natK (n : Nat) (K : Nat → R) : R := Nat.rec (motive := fun _ => R) (K 0) (fun m _ => K (Nat.succ m)) n

def intK (n : Int) (K : Int → R) : R := Int.rec (motive := fun _ => R) (fun m => natK m fun m => K (.ofNat m)) (fun m => natK m fun m => K (.negSucc m)) n

def boolK (b : Bool) (K : Bool → R) : R := Bool.rec (motive := fun _ => R) (K false) (K true) b

/-- A choice. -/
def IF (b : Bool) (Y N : R) : R := Bool.rec (motive := fun _ => R) N Y b

@[simp] theorem IF_true (Y N : R) : IF true Y N = Y := rfl
@[simp] theorem IF_false (Y N : R) : IF false Y N = N := rfl
@[simp] theorem natK_eq (n : Nat) (K : Nat → R) : natK n K = K n := by cases n <;> rfl
@[simp] theorem intK_eq (n : Int) (K : Int → R) : intK n K = K n := by cases n <;> simp [intK]
@[simp] theorem boolK_eq (b : Bool) (K : Bool → R) : boolK b K = K b := by cases b <;> rfl

/-! ### trees of eight branches -/

inductive T (α : Type) where
  | l
  | n (x : Option α) (a b c d e f g h : T α)

def sel8 {α : Type} (k : Nat) (a b c d e f g h : α) : α := match k with
  | 0 => a
  | 1 => b
  | 2 => c
  | 3 => d
  | 4 => e
  | 5 => f
  | 6 => g
  | _ => h

def T.get {α : Type} : Nat → T α → Nat → Option α
  | 0, _, _ => none
  | w + 1, t, k => match t with
    | .l => none
    | .n x a b c d e f g h => match k with
      | 0 => x
      | k + 1 => T.get w (sel8 (Nat.mod k 8) a b c d e f g h) (Nat.div k 8)

def T.getK {α : Type} (w : Nat) : T α → Nat → (Option α → R) → R :=
  Nat.rec (motive := fun _ => T α → Nat → (Option α → R) → R) (fun _ _ K => K none) (fun _ ih t k K =>
    T.rec (motive := fun _ => R) (K none) (fun x a b c d e f g h _ _ _ _ _ _ _ _ => Nat.rec (motive := fun _ => R) (K x) (fun k _ => Nat.rec (motive := fun _ => R) (ih a (Nat.div k 8) K) (fun d1 _ => Nat.rec (motive := fun _ => R) (ih b (Nat.div k 8) K) (fun d2 _ => Nat.rec (motive := fun _ => R) (ih c (Nat.div k 8) K) (fun d3 _ => Nat.rec (motive := fun _ => R) (ih d (Nat.div k 8) K) (fun d4 _ => Nat.rec (motive := fun _ => R) (ih e (Nat.div k 8) K) (fun d5 _ => Nat.rec (motive := fun _ => R) (ih f (Nat.div k 8) K) (fun d6 _ => Nat.rec (motive := fun _ => R) (ih g (Nat.div k 8) K) (fun d7 _ => ih h (Nat.div k 8) K) d6) d5) d4) d3) d2) d1) (Nat.mod k 8)) k) t) w

theorem T.getK_node {α : Type} (w : Nat) (x : Option α) (a b c d e f g h : T α) (k : Nat) (K : Option α → R) : T.getK (w + 1) (.n x a b c d e f g h) (k + 1) K = T.getK w (sel8 (Nat.mod k 8) a b c d e f g h) (Nat.div k 8) K := by
  show (Nat.rec (motive := fun _ => R) _ _ (Nat.mod k 8) : R) = _
  unfold T.getK sel8
  rcases hk : Nat.mod k 8 with _ | _ | _ | _ | _ | _ | _ | n <;> rfl

theorem T.getK_eq {α : Type} : ∀ (w : Nat) (t : T α) (k : Nat) (K : Option α → R), T.getK w t k K = K (T.get w t k)
  | 0, _, _, _ => rfl
  | w + 1, .l, _, _ => rfl
  | w + 1, .n x a b c d e f g h, 0, _ => rfl
  | w + 1, .n x a b c d e f g h, k + 1, K => by rw [T.getK_node, T.getK_eq w]; rfl

def T.setK {α : Type} (w : Nat) : T α → Nat → Option α → (T α → R) → R :=
  Nat.rec (motive := fun _ => T α → Nat → Option α → (T α → R) → R) (fun _ _ _ _ => .no "deep") (fun _ ih t k v K =>
    T.rec (motive := fun _ => R)
      (Nat.rec (motive := fun _ => R) (K (.n v .l .l .l .l .l .l .l .l)) (fun k _ => ih .l (Nat.div k 8) v fun t => Nat.rec (motive := fun _ => R) (K (.n none t .l .l .l .l .l .l .l)) (fun d1 _ => Nat.rec (motive := fun _ => R) (K (.n none .l t .l .l .l .l .l .l)) (fun d2 _ => Nat.rec (motive := fun _ => R) (K (.n none .l .l t .l .l .l .l .l)) (fun d3 _ => Nat.rec (motive := fun _ => R) (K (.n none .l .l .l t .l .l .l .l)) (fun d4 _ => Nat.rec (motive := fun _ => R) (K (.n none .l .l .l .l t .l .l .l)) (fun d5 _ => Nat.rec (motive := fun _ => R) (K (.n none .l .l .l .l .l t .l .l)) (fun d6 _ => Nat.rec (motive := fun _ => R) (K (.n none .l .l .l .l .l .l t .l)) (fun d7 _ => K (.n none .l .l .l .l .l .l .l t)) d6) d5) d4) d3) d2) d1) (Nat.mod k 8)) k)
      (fun x a b c d e f g h _ _ _ _ _ _ _ _ => Nat.rec (motive := fun _ => R) (K (.n v a b c d e f g h)) (fun k _ => Nat.rec (motive := fun _ => R) (ih a (Nat.div k 8) v fun t => K (.n x t b c d e f g h)) (fun d1 _ => Nat.rec (motive := fun _ => R) (ih b (Nat.div k 8) v fun t => K (.n x a t c d e f g h)) (fun d2 _ => Nat.rec (motive := fun _ => R) (ih c (Nat.div k 8) v fun t => K (.n x a b t d e f g h)) (fun d3 _ => Nat.rec (motive := fun _ => R) (ih d (Nat.div k 8) v fun t => K (.n x a b c t e f g h)) (fun d4 _ => Nat.rec (motive := fun _ => R) (ih e (Nat.div k 8) v fun t => K (.n x a b c d t f g h)) (fun d5 _ => Nat.rec (motive := fun _ => R) (ih f (Nat.div k 8) v fun t => K (.n x a b c d e t g h)) (fun d6 _ => Nat.rec (motive := fun _ => R) (ih g (Nat.div k 8) v fun t => K (.n x a b c d e f t h)) (fun d7 _ => ih h (Nat.div k 8) v fun t => K (.n x a b c d e f g t)) d6) d5) d4) d3) d2) d1) (Nat.mod k 8)) k) t) w

/-! ### frames -/

inductive D where
  | a | b | c | d | e | f | g | h

structure N (α : Type) where
  a : α
  b : α
  c : α
  d : α
  e : α
  f : α
  g : α
  h : α

def N.all {α : Type} (x : α) : N α := ⟨x, x, x, x, x, x, x, x⟩

def N.get {α : Type} (n : N α) (i : D) : α := match n with
  | ⟨a, b, c, d, e, f, g, h⟩ => match i with
    | .a => a
    | .b => b
    | .c => c
    | .d => d
    | .e => e
    | .f => f
    | .g => g
    | .h => h

def N.setK {α : Type} (n : N α) (i : D) (v : α) (K : N α → R) : R := N.rec (motive := fun _ => R) (fun a b c d e f g h =>
  D.rec (motive := fun _ => R) (K ⟨v, b, c, d, e, f, g, h⟩) (K ⟨a, v, c, d, e, f, g, h⟩) (K ⟨a, b, v, d, e, f, g, h⟩) (K ⟨a, b, c, v, e, f, g, h⟩)
    (K ⟨a, b, c, d, v, f, g, h⟩) (K ⟨a, b, c, d, e, v, g, h⟩) (K ⟨a, b, c, d, e, f, v, h⟩) (K ⟨a, b, c, d, e, f, g, v⟩) i) n

/-- The place of a slot: 8, 64 and 512 of them. -/
inductive Q where
  | x (i : D)
  | y (i j : D)
  | z (i j k : D)

structure Fr where
  x : N YV
  y : N (N YV)
  z : N (N (N YV))

def Fr.new : Fr := ⟨N.all .u, N.all (N.all .u), N.all (N.all (N.all .u))⟩

def Fr.get (r : Fr) (q : Q) : YV := match q with
  | .x i => match r with
    | ⟨x, _, _⟩ => x.get i
  | .y i j => match r with
    | ⟨_, y, _⟩ => (y.get i).get j
  | .z i j k => match r with
    | ⟨_, _, z⟩ => ((z.get i).get j).get k

def N.getK {α : Type} (n : N α) (i : D) (K : α → R) : R := N.rec (motive := fun _ => R) (fun a b c d e f g h =>
  D.rec (motive := fun _ => R) (K a) (K b) (K c) (K d) (K e) (K f) (K g) (K h) i) n

def Fr.getK (r : Fr) (q : Q) (K : YV → R) : R := Fr.rec (motive := fun _ => R) (fun x y z =>
  Q.rec (motive := fun _ => R) (fun i => x.getK i K) (fun i j => y.getK i fun n => n.getK j K) (fun i j k => z.getK i fun n => n.getK j fun n => n.getK k K) q) r

@[simp] theorem N.getK_eq {α : Type} (n : N α) (i : D) (K : α → R) : n.getK i K = K (n.get i) := by cases n; cases i <;> rfl
@[simp] theorem Fr.getK_eq (r : Fr) (q : Q) (K : YV → R) : r.getK q K = K (r.get q) := by cases q <;> simp [Fr.getK, Fr.get]

def Fr.setK (r : Fr) (q : Q) (v : YV) (K : Fr → R) : R := Fr.rec (motive := fun _ => R) (fun x y z =>
  Q.rec (motive := fun _ => R) (fun i => x.setK i v fun x => K ⟨x, y, z⟩) (fun i j => y.getK i fun n => n.setK j v fun n => y.setK i n fun y => K ⟨x, y, z⟩)
    (fun i j k => z.getK i fun m => m.getK j fun n => n.setK k v fun n => m.setK j n fun m => z.setK i m fun z => K ⟨x, y, z⟩) q) r

/-! ### operands -/

/-- A slot of the frame, a constant, a place of the stack (0 is the newest). -/
inductive X where
  | t (q : Q)
  | c (v : YV)
  | k0
  | k1
  | k (n : Nat)

def nthK {α : Type} (l : List α) : Nat → (α → R) → R :=
  List.rec (motive := fun _ => Nat → (α → R) → R) (fun _ _ => .no "short list") (fun x _ ih n K => Nat.rec (motive := fun _ => R) (K x) (fun n _ => ih n K) n) l

def evK (s : List YV) (r : Fr) (x : X) (K : YV → R) : R := X.rec (motive := fun _ => R) (fun q => r.getK q K) (fun v => K v)
  (List.rec (motive := fun _ => R) (.no "stack") (fun v _ _ => K v) s)
  (List.rec (motive := fun _ => R) (.no "stack") (fun _ s _ => List.rec (motive := fun _ => R) (.no "stack") (fun v _ _ => K v) s) s)
  (fun n => nthK s n K) x

abbrev Ev := X → (YV → R) → R

def evsK (ev : Ev) (xs : List X) : (List YV → R) → R :=
  List.rec (motive := fun _ => (List YV → R) → R) (fun K => K []) (fun x _ ih K => ev x fun v => ih fun vs => K (v :: vs)) xs

def evoK (ev : Ev) (x : Option X) (K : Option YV → R) : R := match x with
  | none => K none
  | some x => ev x fun v => K (some v)

/-! ### memory -/

structure ME where
  k : YV
  v : YV
  n : Nat

/-- What a label stands for: cells (a label that may share its block; how many; the pattern where nothing was written; what was written), a map, a way through a map or a string. -/
inductive YB where
  | c (kin : Option Nat) (w : Bool) (z : Nat) (zs : List YV) (es : Nat) (t : T YV)
  | m (es : List ME) (clock : Nat)
  | im (m : Nat) (since : Nat) (seen : List Nat) (last : Nat)
  | is (s : List Nat) (pos : Nat)

/-- The blocks by their labels, the next label; labels below lo are left alone. -/
structure YM where
  h : T YB
  n : Nat
  lo : Nat

def YM.getK (m : YM) (l : Nat) (K : YB → R) : R := YM.rec (motive := fun _ => R) (fun h _ _ => T.getK 8 h l fun b =>
  Option.rec (motive := fun _ => R) (.no "no block") (fun b => K b) b) m

def YM.setK (m : YM) (l : Nat) (b : YB) (K : YM → R) : R := YM.rec (motive := fun _ => R) (fun h n lo =>
  IF (Nat.ble lo l) (T.setK 8 h l (some b) fun h => K ⟨h, n, lo⟩) (.no "a block that is to be left alone")) m

def YM.delK (m : YM) (l : Nat) (K : YM → R) : R := YM.rec (motive := fun _ => R) (fun h n lo =>
  IF (Nat.ble lo l) (T.setK 8 h l none fun h => K ⟨h, n, lo⟩) (.no "a block that is to be left alone")) m

def YM.newK (m : YM) (b : YB) (K : Nat → YM → R) : R := YM.rec (motive := fun _ => R) (fun h n lo =>
  T.setK 8 h n (some b) fun h => natK (Nat.succ n) fun k => K n ⟨h, k, lo⟩) m

/-- A cell. -/
def cellK (zs : List YV) (es z : Nat) (t : T YV) (k : Nat) (K : YV → R) : R := IF (Nat.blt k z)
  (T.getK 8 t k fun v => Option.rec (motive := fun _ => R) (nthK zs (Nat.mod k es) K) (fun v => K v) v) (.no "no cell")

def cellsK (zs : List YV) (es z : Nat) (t : T YV) (k n : Nat) : (List YV → R) → R :=
  Nat.rec (motive := fun _ => Nat → (List YV → R) → R) (fun _ K => K []) (fun _ ih k K => cellK zs es z t k fun v => natK (Nat.succ k) fun k => ih k fun l => K (v :: l)) n k

def putsK (l : List YV) : Nat → T YV → (T YV → R) → R :=
  List.rec (motive := fun _ => Nat → T YV → (T YV → R) → R) (fun _ t K => K t) (fun v _ ih k t K => T.setK 8 t k (some v) fun t => natK (Nat.succ k) fun k => ih k t K) l

def YM.loadK (m : YM) (l o n : Nat) (K : List YV → R) : R := m.getK l fun b => match b with
  | .c _ _ z zs es t => cellsK zs es z t o n K
  | _ => .no "no cells"

def YM.load1K (m : YM) (l o : Nat) (K : YV → R) : R := m.getK l fun b => match b with
  | .c _ _ z zs es t => cellK zs es z t o K
  | _ => .no "no cells"

/-- A label that may share the block is given up. -/
def YM.killK (m : YM) (kin : Option Nat) (K : YM → R) : R := match kin with
  | none => K m
  | some j => m.delK j K

def YM.storeK (m : YM) (l o : Nat) (vs : List YV) (K : YM → R) : R := m.getK l fun b => match b with
  | .c kin w z zs es t => match w with
    | true => natK vs.length fun n => match Nat.ble (Nat.add o n) z with
      | true => m.killK kin fun m => putsK vs o t fun t => m.setK l (.c none true z zs es t) K
      | false => .no "store: no cells"
    | false => .no "store: not to be written"
  | _ => .no "store: no cells"

end
end Go.Ye

/- Ye, part B: operations, code, calls. -/
namespace Go.Ye
set_option linter.unusedVariables false
noncomputable section

inductive O where
  | mv (x : X)
  | pick (c a b : X)
  | al (zs : List YV)
  | bx (x : X)
  | bd (zs : List YV) (ps : List (Nat × Nat × X))
  | bs (z n : Nat) (zs : List YV) (ps : List (Nat × Nat × X))
  | ld (x : X)
  | ldn (n : Nat) (x : X)
  | st (n : Nat) (x v : X)
  | nc (x : X)
  | ib (op : BinOp) (x y : X)
  | eq (kd : Nat) (neg : Bool) (x y : X)
  | un (op : UnOp) (x : X)
  | cv (k : IntKind) (x : X)
  | b2s (x : X)
  | mf (g : FuncId) (us : List X)
  | mm
  | ms (z by_ : Nat) (zs : List YV) (l c : X)
  | ss (x : X) (lo hi : Option X)
  | sl (z : Nat) (x : X) (lo hi mx : Option X)
  | sa (n z : Nat) (x : X) (lo hi mx : Option X)
  | fa (off : Nat) (x : X)
  | fd (off size : Nat) (agg : Bool) (x : X)
  | ia (z : Nat) (x i : X)
  | iA (n z : Nat) (x i : X)
  | ix (n z : Nat) (agg : Bool) (x i : X)
  | is (x i : X)
  | lu (zv : YV) (x k : X) (ok : Bool)
  | mu (x k v : X)
  | rg (x : X)
  | nx (it : X)
  | en (it : X)
  | ex (x : X) (i : Nat)
  | ca (g : FuncId) (xs : List X)
  | cc (x : X) (xs : List X)
  | ln (x : X)
  | ls (x : X)
  | lk (n : Nat)
  | ap (z by_ : Nat) (zs : List YV) (x y : X)
  | cp (z : Nat) (x y : X)
  | cl (z : Nat) (zs : List YV) (x : X)
  | mi (x y : X)
  | ma (x y : X)
  | bb (x : X)
  | az (z by_ : Nat) (zs : List YV) (x y : X)
  | xn (x y : X)
  | xi (x y : X)
  | bad

/-- An operation: where its value goes, whether it goes on the stack, under which guard it stands. -/
structure Op1 where
  o : O
  d : Option Q
  p : Bool
  g : Option (X × Bool)

/-- An operation of an open order: its place in the statement, whether it changes memory; what is looked at again behind it. -/
structure Op2 where
  o : Op1
  ix : Nat
  eff : Bool
  chk : List Op1

inductive C where
  | skip
  | reg (ops : List Op1)
  | drw (ops : List Op2)
  | seq (a b : C)
  | cond (x : X) (a b : C)
  | blk (id : Nat) (c : C)
  | loop (c : C)
  | ret
  | ext (id : Nat)

inductive E where
  | nrm
  | ret
  | ext (id : Nat)

structure F where
  args : List (Option Q)
  c : C
  res : List (Q ⊕ (Q × Option Nat))

/-! ### values -/

/-- A value of one cell. -/
def one1 : YV → Bool
  | .ag _ | .tu _ | .u => false
  | _ => true

/-- The cells of a value. -/
def cellsVK (v : YV) (K : List YV → R) : R := match v with
  | .ag l => K l
  | v => IF (one1 v) (K [v]) (.no "cells")

def takeK {α : Type} : Nat → List α → (List α → R) → R
  | 0, _, K => K []
  | n + 1, l, K => match l with
    | [] => .no "take"
    | x :: l => takeK n l fun r => K (x :: r)

def dropK {α : Type} : Nat → List α → (List α → R) → R
  | 0, l, K => K l
  | n + 1, l, K => match l with
    | [] => .no "drop"
    | _ :: l => dropK n l K

/-- The cells m laid over l from o on. -/
def overK : Nat → List YV → List YV → (List YV → R) → R
  | 0, m, l, K => match m with
    | [] => K l
    | y :: m => match l with
      | [] => .no "over"
      | _ :: l => overK 0 m l fun r => K (y :: r)
  | o + 1, m, l, K => match l with
    | [] => .no "over"
    | x :: l => overK o m l fun r => K (x :: r)

def fillK (ev : Ev) : List (Nat × Nat × X) → List YV → (List YV → R) → R
  | [], zs, K => K zs
  | (off, size, x) :: ps, zs, K => ev x fun v => cellsVK v fun vs => natK vs.length fun n => match Nat.beq n size with
    | true => overK off vs zs fun zs => fillK ev ps zs K
    | false => .no "fill"

def eqList : List Nat → List Nat → Bool
  | [], [] => true
  | a :: x, b :: y => match Nat.beq a b with
    | true => eqList x y
    | false => false
  | _, _ => false

def ltList : List Nat → List Nat → Bool
  | _, [] => false
  | [], _ :: _ => true
  | a :: x, b :: y => match Nat.blt a b with
    | true => true
    | false => match Nat.beq a b with
      | true => ltList x y
      | false => false

def appList : List Nat → List Nat → List Nat
  | [], y => y
  | a :: x, y => a :: appList x y

def kindIs : IntKind → IntKind → Bool
  | .i8, .i8 | .i16, .i16 | .i32, .i32 | .i64, .i64 | .u8, .u8 | .u16, .u16 | .u32, .u32 | .u64, .u64 => true
  | _, _ => false

/-- Equality of keys: numbers. -/
def eqPlain : YV → YV → Option Bool
  | .i k a, .i j b => match kindIs k j with
    | true => some (a == b)
    | false => none
  | _, _ => none

/-- Comparing with nil, or two truths. -/
def eqV (kd : Nat) (x y : YV) : Option Bool := match kd with
  | 0 => match x, y with
    | .b x, .b y => some (x == y)
    | _, _ => none
  | 1 => match x, y with
    | .sn, .sn => some true
    | .sl .., .sn => some false
    | .sn, .sl .. => some false
    | _, _ => none
  | 2 => match x, y with
    | .pn, .pn => some true
    | .p .., .pn => some false
    | .pn, .p .. => some false
    | _, _ => none
  | 3 => match x, y with
    | .mn, .mn => some true
    | .m _, .mn => some false
    | .mn, .m _ => some false
    | _, _ => none
  | _ => match x, y with
    | .fn, .fn => some true
    | .f .., .fn => some false
    | .fn, .f .. => some false
    | _, _ => none

def retI (k : IntKind) (n : Int) (K : YV → R) : R := intK n fun n => K (.i k n)
def retB (b : Bool) (K : YV → R) : R := boolK b fun b => K (.b b)
def retO (b : Option Bool) (neg : Bool) (K : YV → R) : R := match b with
  | some b => retB (neg != b) K
  | none => .no "equal"

def bitsI (op : BinOp) (k : IntKind) (a b : Int) : Int :=
  let x := BitVec.ofInt k.bits a
  let y := BitVec.ofInt k.bits b
  match op with
  | .and => k.wrap (x &&& y).toNat
  | .or => k.wrap (x ||| y).toNat
  | .xor => k.wrap (x ^^^ y).toNat
  | _ => k.wrap (x &&& ~~~y).toNat

def intOpK (op : BinOp) (k : IntKind) (a b : Int) (K : YV → R) : R := match op with
  | .add => retI k (k.wrap (a + b)) K
  | .sub => retI k (k.wrap (a - b)) K
  | .mul => retI k (k.wrap (a * b)) K
  | .quo => match decide (b = 0) with
    | true => .no "quo"
    | false => retI k (k.wrap (a.tdiv b)) K
  | .rem => match decide (b = 0) with
    | true => .no "rem"
    | false => retI k (a.tmod b) K
  | .and => retI k (bitsI .and k a b) K
  | .or => retI k (bitsI .or k a b) K
  | .xor => retI k (bitsI .xor k a b) K
  | .andNot => retI k (bitsI .andNot k a b) K
  | .eql => retB (a == b) K
  | .neq => retB (a != b) K
  | .lss => retB (decide (a < b)) K
  | .leq => retB (decide (a ≤ b)) K
  | .gtr => retB (decide (a > b)) K
  | .geq => retB (decide (a ≥ b)) K
  | _ => .no "intOp"

def shiftK (op : BinOp) (k : IntKind) (a b : Int) (K : YV → R) : R := match b with
  | .negSucc _ => .no "shift"
  | .ofNat n => match op with
    | .shl => retI k (k.wrap (a * 2 ^ (min n k.bits))) K
    | .shr => retI k (a.fdiv (2 ^ (min n k.bits))) K
    | _ => .no "shift"

def isShift : BinOp → Bool
  | .shl | .shr => true
  | _ => false

/-- The length of a string. -/
def lenL (l : List Nat) (n : Nat) (K : Nat → R) : R := match l with
  | [] => K n
  | _ :: l => lenL l (Nat.succ n) K

def strOpK (op : BinOp) (a b : List Nat) (K : YV → R) : R := match op with
  | .add => lenL a 0 fun n => lenL b 0 fun k => IF (Nat.ble (Nat.add n k) 1000000) (K (.s (appList a b))) (.no "string")
  | .eql => retB (eqList a b) K
  | .neq => retB (!eqList a b) K
  | .lss => retB (ltList a b) K
  | .leq => retB (ltList a b || eqList a b) K
  | .gtr => retB (!(ltList a b || eqList a b)) K
  | .geq => retB (!ltList a b) K
  | _ => .no "strOp"

def binK (op : BinOp) (x y : YV) (K : YV → R) : R := match x, y with
  | .i k a, .i j b => IF (isShift op) (shiftK op k a b K) (IF (kindIs k j) (intOpK op k a b K) (.no "kinds"))
  | .s a, .s b => strOpK op a b K
  | _, _ => .no "bin"

def unK (op : UnOp) (x : YV) (K : YV → R) : R := match op, x with
  | .not, .b b => retB (!b) K
  | .neg, .i k n => retI k (k.wrap (0 - n)) K
  | _, _ => .no "un"

/-- A bound of a slice: a number up to y. -/
def boundK (x : YV) (y : Nat) (K : Nat → R) : R := match x with
  | .i _ (.ofNat n) => match Nat.ble n y with
    | true => K n
    | false => .no "bound"
  | _ => .no "bound"

def bndK (x : Option YV) (d y : Nat) (K : Nat → R) : R := match x with
  | none => K d
  | some x => boundK x y K

def bytesK : List YV → (List Nat → R) → R
  | [], K => K []
  | .i .u8 (.ofNat n) :: l, K => match Nat.blt n 256 with
    | true => bytesK l fun r => K (n :: r)
    | false => .no "byte"
  | _ :: _, _ => .no "byte"

def bytesV : List Nat → List YV
  | [] => []
  | n :: l => .i .u8 (.ofNat n) :: bytesV l

/-! ### operations that look at memory, or change it -/

/-- The n elements of a slice or a string. -/
def firstK (m : YM) (z n : Nat) (x : YV) (K : List YV → R) : R := match x with
  | .sn => K []
  | .sl l o _ _ z' => IF (Nat.beq z z') (natK (Nat.mul n z) fun c => m.loadK l o c K) (.no "first")
  | .s s => IF (Nat.beq z 1) (takeK n s fun r => K (bytesV r)) (.no "first")
  | _ => .no "first"

def lenOfK (x : YV) (K : Nat → R) : R := match x with
  | .sn => K 0
  | .sl _ _ n _ _ => K n
  | .s s => lenL s 0 K
  | _ => .no "len"

def kinOf : YB → Option Nat
  | .c kin .. => kin
  | _ => none

/-- A slice that may have grown in place: its label stays (what it holds is not touched), or is given up; the new one is made. -/
def growK (m : YM) (l : Nat) (kin : Option Nat) (keep : Bool) (s : Nat) (zs : List YV) (es : Nat) (t : T YV) (sz : Nat) (zs' : List YV) (es' : Nat) (t' : T YV) (K : Nat → YM → R) : R :=
  m.killK kin fun m => IF keep
    (natK m.n fun l' => m.setK l (.c (some l') true s zs es t) fun m => m.newK (.c (some l) true sz zs' es' t') K)
    (m.delK l fun m => m.newK (.c none true sz zs' es' t') K)

/-- append: the k elements vs come behind the n elements of a slice. -/
def appK (m : YM) (z : Nat) (x : YV) (k : Nat) (vs : List YV) (K : YV → YM → R) : R := match x with
  | .sn => match k with
    | 0 => K .sn m
    | k + 1 => IF (Nat.ble (Nat.succ k) 1000000) (m.newK (.c none true vs.length vs vs.length .l) fun l m => K (.sl l 0 (Nat.succ k) none z) m) (.no "append")
  | .sl l o n e z' => IF (Nat.beq z z') (m.getK l fun b => match b with
    | .c kin w s zs es t => natK (Nat.add n k) fun need => IF (Nat.ble need 1000000) (natK (Nat.add o (Nat.mul n z)) fun at_ => natK (Nat.add o (Nat.mul need z)) fun end_ => IF (Nat.ble end_ (e.getD s))
      (m.storeK l at_ vs fun m => K (.sl l o need e z) m)
      (match e with
        | some _ => cellsK zs es s t o (Nat.mul n z) fun old => m.newK (.c none true (old ++ vs).length (old ++ vs) (old ++ vs).length .l) fun l' m => K (.sl l' 0 need none z) m
        | none => IF w (IF (Nat.beq at_ s)
          (match o with
            | 0 => putsK vs at_ t fun t' => growK m l kin true s zs es t end_ zs es t' fun l' m => K (.sl l' 0 need none z) m
            | _ => cellsK zs es s t o (Nat.mul n z) fun old => growK m l kin true s zs es t (old ++ vs).length (old ++ vs) (old ++ vs).length .l fun l' m => K (.sl l' 0 need none z) m)
          (cellsK zs es s t o (Nat.mul n z) fun old => growK m l kin false s zs es t (old ++ vs).length (old ++ vs) (old ++ vs).length .l fun l' m => K (.sl l' 0 need none z) m))
          (.no "append: not to be written"))) (.no "append")
    | _ => .no "append") (.no "append")
  | _ => .no "append"

/-- append of a whole block to nothing: its cells are shared. -/
def shareK (m : YM) (z : Nat) (y : YV) (K : YV → YM → R) (E : Unit → R) : R := match y with
  | .sl l 0 k _ z' => IF (Nat.beq z z') (match k with
    | 0 => E ()
    | k + 1 => m.getK l fun b => match b with
      | .c _ _ s zs es t => natK (Nat.mul (Nat.succ k) z) fun c => match Nat.ble c s with
        | true => IF (Nat.ble (Nat.succ k) 1000000) (m.newK (.c none true c zs es t) fun l m => K (.sl l 0 (Nat.succ k) none z) m) (.no "append")
        | false => E ()
      | _ => E ()) (E ())
  | _ => E ()

/-- The slice is empty, and has no room. -/
def noRoom : YV → Bool
  | .sn => true
  | .sl _ o 0 (some e) _ => Nat.ble e o
  | _ => false

def apK (m : YM) (z : Nat) (x y : YV) (K : YV → YM → R) : R := match noRoom x with
  | true => shareK m z y K fun _ => (lenOfK y fun k => firstK m z k y fun vs => appK m z x k vs K)
  | false => lenOfK y fun k => firstK m z k y fun vs => appK m z x k vs K

def findK (k : YV) : List ME → (Option YV → R) → R
  | [], K => K none
  | e :: es, K => match eqPlain k e.k with
    | some true => K (some e.v)
    | some false => findK k es K
    | none => .no "key"

def updK (k v : YV) (clock : Nat) : List ME → (List ME → Nat → R) → R
  | [], K => K [⟨k, v, clock⟩] (Nat.succ clock)
  | e :: es, K => match eqPlain k e.k with
    | some true => K (⟨k, v, e.n⟩ :: es) clock
    | some false => updK k v clock es fun es c => K (e :: es) c
    | none => .no "key"

def memN : List Nat → Nat → Bool
  | [], _ => false
  | x :: xs, n => match Nat.beq x n with
    | true => true
    | false => memN xs n

def bornK (n : Nat) : List ME → (ME → R) → R
  | [], _ => .no "entry"
  | e :: es, K => match Nat.beq e.n n with
    | true => K e
    | false => bornK n es K

/-- Two answers that are the same. -/
def sameR (eq : YV → YV → Bool) (a b : R) : R := match a with
  | .no w => .no w
  | .ok x => match b with
    | .no w => .no w
    | .ok y => match eq x y with
      | true => .ok x
      | false => .no "answers differ"

/-- Equality of answers. -/
def beq1 : YV → YV → Bool
  | .b x, .b y => x == y
  | .i k a, .i j b => kindIs k j && a == b
  | .s a, .s b => eqList a b
  | .pn, .pn => true
  | .sn, .sn => true
  | .mn, .mn => true
  | .p l o, .p l' o' => Nat.beq l l' && Nat.beq o o'
  | .sl l o n (some e) z, .sl l' o' n' (some e') z' => Nat.beq l l' && (Nat.beq o o' && (Nat.beq n n' && (Nat.beq e e' && Nat.beq z z')))
  | .sl l o n none z, .sl l' o' n' none z' => Nat.beq l l' && (Nat.beq o o' && (Nat.beq n n' && Nat.beq z z'))
  | .m l, .m l' => Nat.beq l l'
  | _, _ => false

def beqL : List YV → List YV → Bool
  | [], [] => true
  | a :: x, b :: y => match beq1 a b with
    | true => beqL x y
    | false => false
  | _, _ => false

def beqV : YV → YV → Bool
  | .ag x, .ag y => beqL x y
  | .tu x, .tu y => beqL x y
  | x, y => beq1 x y

/-- Each entry that is left comes next; or the way is over. -/
def eachK (K : ME → R) : List ME → R
  | [] => .no "each"
  | [e] => K e
  | e :: r => sameR beqV (K e) (eachK K r)

/-- All entries are older than n. -/
def allLt (n : Nat) : List ME → Bool
  | [] => true
  | e :: r => match Nat.blt e.n n with
    | true => allLt n r
    | false => false

def leftOf (seen : List Nat) : List ME → List ME
  | [] => []
  | e :: r => match memN seen e.n with
    | true => leftOf seen r
    | false => e :: leftOf seen r

def countL (c : Nat) : List Nat → Nat → (Nat → R) → R
  | [], n, K => K n
  | x :: l, n, K => match Nat.beq x c with
    | true => countL c l (Nat.succ n) K
    | false => countL c l n K

def indexL (c : Nat) : List Nat → Nat → (Option Nat → R) → R
  | [], _, K => K none
  | x :: l, n, K => match Nat.beq x c with
    | true => K (some n)
    | false => indexL c l (Nat.succ n) K

def op_mv (x : X) (ev : Ev) (m : YM) (K : YV → YM → R) : R := ev x fun v => K v m

def op_pick (c : X) (a : X) (b : X) (ev : Ev) (m : YM) (K : YV → YM → R) : R := ev c fun c => match c with
    | .b true => ev a fun v => K v m
    | .b false => ev b fun v => K v m
    | _ => .no "pick"

def op_al (zs : List YV) (ev : Ev) (m : YM) (K : YV → YM → R) : R := m.newK (.c none true zs.length zs zs.length .l) fun l m => K (.p l 0) m

def op_bx (x : X) (ev : Ev) (m : YM) (K : YV → YM → R) : R := ev x fun v => cellsVK v fun vs => natK vs.length fun n => m.newK (.c none true n vs n .l) fun l m => K (.p l 0) m

def op_bd (zs : List YV) (ps : List (Nat × Nat × X)) (ev : Ev) (m : YM) (K : YV → YM → R) : R := fillK ev ps zs fun zs => K (.ag zs) m

def op_bs (z : Nat) (n : Nat) (zs : List YV) (ps : List (Nat × Nat × X)) (ev : Ev) (m : YM) (K : YV → YM → R) : R := fillK ev ps zs fun zs => m.newK (.c none true zs.length zs zs.length .l) fun l m => K (.sl l 0 n (some zs.length) z) m

def op_ld (x : X) (ev : Ev) (m : YM) (K : YV → YM → R) : R := ev x fun v => match v with
    | .p l o => m.load1K l o fun v => K v m
    | _ => .no "load"

def op_ldn (n : Nat) (x : X) (ev : Ev) (m : YM) (K : YV → YM → R) : R := ev x fun v => match v with
    | .p l o => m.loadK l o n fun vs => K (.ag vs) m
    | _ => .no "load"

def op_st (n : Nat) (x : X) (v : X) (ev : Ev) (m : YM) (K : YV → YM → R) : R := ev x fun a => match a with
    | .p l o => ev v fun v => cellsVK v fun vs => match Nat.beq vs.length n with
      | true => m.storeK l o vs fun m => K (.tu []) m
      | false => .no "store: size"
    | _ => .no "store"

def op_nc (x : X) (ev : Ev) (m : YM) (K : YV → YM → R) : R := ev x fun v => match v with
    | .p l o => K (.p l o) m
    | .f g us => K (.f g us) m
    | _ => .no "nil"

def op_ib (op : BinOp) (x : X) (y : X) (ev : Ev) (m : YM) (K : YV → YM → R) : R := ev x fun a => ev y fun b => binK op a b fun v => K v m

def op_eq (kd : Nat) (neg : Bool) (x y : X) (ev : Ev) (m : YM) (K : YV → YM → R) : R := ev x fun a => ev y fun b => retO (eqV kd a b) neg fun v => K v m

def op_un (op : UnOp) (x : X) (ev : Ev) (m : YM) (K : YV → YM → R) : R := ev x fun a => unK op a fun v => K v m

def op_cv (k : IntKind) (x : X) (ev : Ev) (m : YM) (K : YV → YM → R) : R := ev x fun a => match a with
    | .i _ n => retI k (k.wrap n) fun v => K v m
    | _ => .no "convert"

def op_b2s (x : X) (ev : Ev) (m : YM) (K : YV → YM → R) : R := ev x fun a => match a with
    | .sn => K (.s []) m
    | .sl l o n _ _ => m.loadK l o n fun vs => bytesK vs fun s => K (.s s) m
    | _ => .no "string"

def op_mf (g : FuncId) (us : List X) (ev : Ev) (m : YM) (K : YV → YM → R) : R := evsK ev us fun us => K (.f g us) m

def op_mm  (ev : Ev) (m : YM) (K : YV → YM → R) : R := m.newK (.m [] 0) fun l m => K (.m l) m

def op_ms (z : Nat) (by_ : Nat) (zs : List YV) (l : X) (c : X) (ev : Ev) (m : YM) (K : YV → YM → R) : R := ev l fun l => ev c fun c => match l with
    | .i _ (.ofNat n) => match c with
      | .i _ (.ofNat k) => match Nat.ble n k with
        | true => match Nat.ble k 1000000 with
          | true => match Nat.ble (Nat.mul by_ k) 1000000000 with
            | true => natK (Nat.mul k z) fun s => m.newK (.c none true s zs z .l) fun l m => K (.sl l 0 n (some s) z) m
            | false => .no "make"
          | false => .no "make"
        | false => .no "make"
      | _ => .no "make"
    | _ => .no "make"

def op_ss (x : X) (lo : Option X) (hi : Option X) (ev : Ev) (m : YM) (K : YV → YM → R) : R := ev x fun v => evoK ev lo fun lo => evoK ev hi fun hi => match v with
    | .s s => lenL s 0 fun n => bndK hi n n fun h => bndK lo 0 h fun l => dropK l s fun t => takeK (Nat.sub h l) t fun t => K (.s t) m
    | _ => .no "slice"

def op_sl (z : Nat) (x : X) (lo : Option X) (hi : Option X) (mx : Option X) (ev : Ev) (m : YM) (K : YV → YM → R) : R := ev x fun v => evoK ev lo fun lo => evoK ev hi fun hi => evoK ev mx fun mx => match v with
    | .sl l o n e z' => IF (Nat.beq z z') (m.getK l fun b => match b with
      | .c _ _ s _ _ _ => natK (Nat.div (Nat.sub (e.getD s) o) z) fun cap => match mx with
        | none => bndK hi n cap fun h => bndK lo 0 h fun l0 => natK (Nat.add o (Nat.mul l0 z)) fun o' => natK (Nat.sub h l0) fun n' => K (.sl l o' n' e z) m
        | some mx => boundK mx cap fun c => bndK hi n c fun h => bndK lo 0 h fun l0 => natK (Nat.add o (Nat.mul l0 z)) fun o' => natK (Nat.sub h l0) fun n' =>
              natK (Nat.add o (Nat.mul c z)) fun e' => K (.sl l o' n' (some e') z) m
      | _ => .no "slice") (.no "slice")
    | .sn => match mx with
      | none => bndK hi 0 0 fun h => bndK lo 0 h fun _ => K .sn m
      | some mx => boundK mx 0 fun c => bndK hi 0 c fun h => bndK lo 0 h fun _ => K .sn m
    | _ => .no "slice"

def op_sa (n : Nat) (z : Nat) (x : X) (lo : Option X) (hi : Option X) (mx : Option X) (ev : Ev) (m : YM) (K : YV → YM → R) : R := ev x fun v => evoK ev lo fun lo => evoK ev hi fun hi => evoK ev mx fun mx => match v with
    | .p l o => match mx with
      | none => bndK hi n n fun h => bndK lo 0 h fun l0 => natK (Nat.add o (Nat.mul l0 z)) fun o' => natK (Nat.sub h l0) fun n' => natK (Nat.add o (Nat.mul n z)) fun e' => m.getK l fun b => match b with
        | .c _ _ s _ _ _ => IF (Nat.ble e' s) (K (.sl l o' n' (some e') z) m) (.no "slice")
        | _ => .no "slice"
      | some _ => .no "slice"
    | _ => .no "slice"

def op_fa (off : Nat) (x : X) (ev : Ev) (m : YM) (K : YV → YM → R) : R := ev x fun v => match v with
    | .p l o => natK (Nat.add o off) fun o => K (.p l o) m
    | _ => .no "field"

def op_fd (off : Nat) (size : Nat) (agg : Bool) (x : X) (ev : Ev) (m : YM) (K : YV → YM → R) : R := ev x fun v => match v with
    | .ag l => dropK off l fun l => match agg with
      | true => takeK size l fun l => K (.ag l) m
      | false => nthK l 0 fun v => K v m
    | _ => .no "field"

def op_ia (z : Nat) (x : X) (i : X) (ev : Ev) (m : YM) (K : YV → YM → R) : R := ev x fun v => ev i fun i => match i with
    | .i _ (.ofNat k) => match v with
      | .sl l o n _ _ => match Nat.blt k n with
        | true => natK (Nat.add o (Nat.mul k z)) fun o => K (.p l o) m
        | false => .no "index"
      | _ => .no "index"
    | _ => .no "index"

def op_iA (n : Nat) (z : Nat) (x : X) (i : X) (ev : Ev) (m : YM) (K : YV → YM → R) : R := ev x fun v => ev i fun i => match i with
    | .i _ (.ofNat k) => match v with
      | .p l o => match Nat.blt k n with
        | true => natK (Nat.add o (Nat.mul k z)) fun o => K (.p l o) m
        | false => .no "index"
      | _ => .no "index"
    | _ => .no "index"

def op_ix (n : Nat) (z : Nat) (agg : Bool) (x : X) (i : X) (ev : Ev) (m : YM) (K : YV → YM → R) : R := ev x fun v => ev i fun i => match i with
    | .i _ (.ofNat k) => match v with
      | .ag l => match Nat.blt k n with
        | true => dropK (Nat.mul k z) l fun l => match agg with
          | true => takeK z l fun l => K (.ag l) m
          | false => nthK l 0 fun v => K v m
        | false => .no "index"
      | _ => .no "index"
    | _ => .no "index"

def op_is (x : X) (i : X) (ev : Ev) (m : YM) (K : YV → YM → R) : R := ev x fun v => ev i fun i => match i with
    | .i _ (.ofNat k) => match v with
      | .s s => nthK s k fun c => K (.i .u8 (.ofNat c)) m
      | _ => .no "index"
    | _ => .no "index"

def op_lu (zv : YV) (x : X) (k : X) (ok : Bool) (ev : Ev) (m : YM) (K : YV → YM → R) : R := ev x fun v => ev k fun k => match v with
    | .mn => match ok with
      | true => K (.tu [zv, .b false]) m
      | false => K zv m
    | .m l => m.getK l fun b => match b with
      | .m es _ => findK k es fun a => match a with
        | some v => match ok with
          | true => K (.tu [v, .b true]) m
          | false => K v m
        | none => match ok with
          | true => K (.tu [zv, .b false]) m
          | false => K zv m
      | _ => .no "lookup"
    | _ => .no "lookup"

def op_mu (x : X) (k : X) (v : X) (ev : Ev) (m : YM) (K : YV → YM → R) : R := ev x fun x => ev k fun k => ev v fun v => match x with
    | .m l => m.getK l fun b => match b with
      | .m es c => match k with
        | .i j n => updK (.i j n) v c es fun es c => m.setK l (.m es c) fun m => K (.tu []) m
        | _ => .no "update"
      | _ => .no "update"
    | _ => .no "update"

def op_rg (x : X) (ev : Ev) (m : YM) (K : YV → YM → R) : R := ev x fun v => match v with
    | .m l => m.getK l fun b => match b with
      | .m es c => m.newK (.im l c [] c) fun l m => K (.p l 0) m
      | _ => .no "range"
    | _ => .no "range"

def op_nx (it : X) (ev : Ev) (m : YM) (K : YV → YM → R) : R := ev it fun v => match v with
    | .p l 0 => m.getK l fun b => match b with
      | .im ml since seen last => m.getK ml fun b => match b with
        | .m es c => match Nat.beq c since && (Nat.beq c last && allLt c es) with
          | true => match leftOf seen es with
            | [] => K (.tu [.b false]) m
            | e :: rest => eachK (fun e => m.setK l (.im ml since (e.n :: seen) c) fun m => K (.tu [.b true, e.k, e.v]) m) (e :: rest)
          | false => .no "next: the map has changed"
        | _ => .no "next"
      | _ => .no "next"
    | _ => .no "next"

def op_en (it : X) (ev : Ev) (m : YM) (K : YV → YM → R) : R := ev it fun v => match v with
    | .p l 0 => m.getK l fun b => match b with
      | .im ml since (n :: _) last => m.getK ml fun b => match b with
        | .m es c => match Nat.beq c last with
          | true => bornK n es fun e => K (.tu [e.k, e.v]) m
          | false => .no "entry: the map has changed"
        | _ => .no "entry"
      | _ => .no "entry"
    | _ => .no "entry"

def op_ex (x : X) (i : Nat) (ev : Ev) (m : YM) (K : YV → YM → R) : R := ev x fun v => match v with
    | .tu l => nthK l i fun v => K v m
    | _ => .no "extract"

def op_ca (call : FuncId → List YV → YM → (YV → YM → R) → R) (g : FuncId) (xs : List X) (ev : Ev) (m : YM) (K : YV → YM → R) : R := evsK ev xs fun vs => call g vs m K

def op_cc (call : FuncId → List YV → YM → (YV → YM → R) → R) (x : X) (xs : List X) (ev : Ev) (m : YM) (K : YV → YM → R) : R := ev x fun v => evsK ev xs fun vs => match v with
    | .f g us => call g (vs ++ us) m K
    | _ => .no "call"

def op_ln (x : X) (ev : Ev) (m : YM) (K : YV → YM → R) : R := ev x fun v => match v with
    | .sl _ _ n _ _ => K (.i .i64 (.ofNat n)) m
    | .sn => K (.i .i64 (.ofNat 0)) m
    | _ => .no "len"

def op_ls (x : X) (ev : Ev) (m : YM) (K : YV → YM → R) : R := ev x fun v => match v with
    | .s s => lenL s 0 fun n => K (.i .i64 (.ofNat n)) m
    | _ => .no "len"

def op_lk (n : Nat) (ev : Ev) (m : YM) (K : YV → YM → R) : R := K (.i .i64 (.ofNat n)) m

def op_ap (z : Nat) (by_ : Nat) (zs : List YV) (x : X) (y : X) (ev : Ev) (m : YM) (K : YV → YM → R) : R := ev x fun x => ev y fun y => apK m z x y K

def op_cp (z : Nat) (x : X) (y : X) (ev : Ev) (m : YM) (K : YV → YM → R) : R := ev x fun x => ev y fun y => lenOfK y fun k => lenOfK x fun n => natK (Nat.min k n) fun c => firstK m z c y fun vs => match x with
    | .sl l o _ _ _ => m.storeK l o vs fun m => K (.i .i64 (.ofNat c)) m
    | .sn => K (.i .i64 (.ofNat c)) m
    | _ => .no "copy"

def op_cl (z : Nat) (zs : List YV) (x : X) (ev : Ev) (m : YM) (K : YV → YM → R) : R := ev x fun x => match x with
    | .sn => K (.tu []) m
    | .sl l o n _ _ => m.storeK l o ((List.replicate n zs).flatten) fun m => K (.tu []) m
    | _ => .no "clear"

def op_mi (x : X) (y : X) (ev : Ev) (m : YM) (K : YV → YM → R) : R := ev x fun a => ev y fun b => match a, b with
    | .i k a, .i j b => match kindIs k j with
      | true => retI k (if b < a then b else a) fun v => K v m
      | false => .no "min"
    | _, _ => .no "min"

def op_ma (x : X) (y : X) (ev : Ev) (m : YM) (K : YV → YM → R) : R := ev x fun a => ev y fun b => match a, b with
    | .i k a, .i j b => match kindIs k j with
      | true => retI k (if b > a then b else a) fun v => K v m
      | false => .no "max"
    | _, _ => .no "max"

def op_bb (x : X) (ev : Ev) (m : YM) (K : YV → YM → R) : R := ev x fun v => match v with
    | .sl l o n e z => match n with
      | 0 => .no "bytes"
      | n + 1 => m.getK l fun b => match b with
        | .c _ w _ _ _ _ => IF w (K (.sl l o (Nat.succ n) e z) m) (.no "bytes")
        | _ => .no "bytes"
    | _ => .no "bytes"

def op_az (z : Nat) (by_ : Nat) (zs : List YV) (x : X) (y : X) (ev : Ev) (m : YM) (K : YV → YM → R) : R := ev x fun x => ev y fun y => match y with
    | .i .i64 (.ofNat n) => match Nat.ble n 100000 with
      | true => appK m z x n ((List.replicate n zs).flatten) K
      | false => .no "append"
    | _ => .no "append"

def op_xn (x : X) (y : X) (ev : Ev) (m : YM) (K : YV → YM → R) : R := ev x fun x => ev y fun y => match x with
    | .s l => match y with
      | .i .u8 (.ofNat c) => IF (Nat.blt c 256) (countL c l 0 fun n => K (.i .i64 (.ofNat n)) m) (.no "count")
      | _ => .no "count"
    | _ => .no "count"

def op_xi (x : X) (y : X) (ev : Ev) (m : YM) (K : YV → YM → R) : R := ev x fun x => ev y fun y => match x with
    | .s l => match y with
      | .i .u8 (.ofNat c) => IF (Nat.blt c 256) (indexL c l 0 fun n => match n with
        | some n => K (.i .i64 (.ofNat n)) m
        | none => K (.i .i64 (.negSucc 0)) m) (.no "index")
      | _ => .no "index"
    | _ => .no "index"

def op_bad  (ev : Ev) (m : YM) (K : YV → YM → R) : R := .no "an operation that is not covered"

def opK (call : FuncId → List YV → YM → (YV → YM → R) → R) (o : O) (ev : Ev) (m : YM) (K : YV → YM → R) : R := match o with
  | .mv x => op_mv x ev m K
  | .pick c a b => op_pick c a b ev m K
  | .al zs => op_al zs ev m K
  | .bx x => op_bx x ev m K
  | .bd zs ps => op_bd zs ps ev m K
  | .bs z n zs ps => op_bs z n zs ps ev m K
  | .ld x => op_ld x ev m K
  | .ldn n x => op_ldn n x ev m K
  | .st n x v => op_st n x v ev m K
  | .nc x => op_nc x ev m K
  | .ib op x y => op_ib op x y ev m K
  | .eq kd neg x y => op_eq kd neg x y ev m K
  | .un op x => op_un op x ev m K
  | .cv k x => op_cv k x ev m K
  | .b2s x => op_b2s x ev m K
  | .mf g us => op_mf g us ev m K
  | .mm  => op_mm  ev m K
  | .ms z by_ zs l c => op_ms z by_ zs l c ev m K
  | .ss x lo hi => op_ss x lo hi ev m K
  | .sl z x lo hi mx => op_sl z x lo hi mx ev m K
  | .sa n z x lo hi mx => op_sa n z x lo hi mx ev m K
  | .fa off x => op_fa off x ev m K
  | .fd off size agg x => op_fd off size agg x ev m K
  | .ia z x i => op_ia z x i ev m K
  | .iA n z x i => op_iA n z x i ev m K
  | .ix n z agg x i => op_ix n z agg x i ev m K
  | .is x i => op_is x i ev m K
  | .lu zv x k ok => op_lu zv x k ok ev m K
  | .mu x k v => op_mu x k v ev m K
  | .rg x => op_rg x ev m K
  | .nx it => op_nx it ev m K
  | .en it => op_en it ev m K
  | .ex x i => op_ex x i ev m K
  | .ca g xs => op_ca call g xs ev m K
  | .cc x xs => op_cc call x xs ev m K
  | .ln x => op_ln x ev m K
  | .ls x => op_ls x ev m K
  | .lk n => op_lk n ev m K
  | .ap z by_ zs x y => op_ap z by_ zs x y ev m K
  | .cp z x y => op_cp z x y ev m K
  | .cl z zs x => op_cl z zs x ev m K
  | .mi x y => op_mi x y ev m K
  | .ma x y => op_ma x y ev m K
  | .bb x => op_bb x ev m K
  | .az z by_ zs x y => op_az z by_ zs x y ev m K
  | .xn x y => op_xn x y ev m K
  | .xi x y => op_xi x y ev m K
  | .bad  => op_bad  ev m K

def finK (r : Fr) (d : Option Q) (v : YV) (K : Fr → R) : R := Option.rec (motive := fun _ => R) (K r) (fun q => r.setK q v K) d

/-- Whether an operation is wanted. -/
def wantK (ev : Ev) (g : Option (X × Bool)) (Y N : Unit → R) : R := Option.rec (motive := fun _ => R) (Y ()) (fun g => ev g.1 fun v => match v with
    | .b b => IF (b == g.2) (Y ()) (N ())
    | .tu [] => N ()
    | _ => .no "guard") g

def pushK (s : List YV) (p : Bool) (v : YV) (K : List YV → R) : R := Bool.rec (motive := fun _ => R) (K s) (K (v :: s)) p

def opsK (call : FuncId → List YV → YM → (YV → YM → R) → R) (os : List Op1) : List YV → Fr → YM → (Fr → YM → R) → R :=
  List.rec (motive := fun _ => List YV → Fr → YM → (Fr → YM → R) → R) (fun _ r m K => K r m) (fun o _ ih s r m K =>
    Op1.rec (motive := fun _ => R) (fun o d p g => wantK (evK s r) g
      (fun _ => opK call o (evK s r) m fun v m => finK r d v fun r => pushK s p v fun s => ih s r m K)
      (fun _ => finK r d (.tu []) fun r => pushK s p (.tu []) fun s => ih s r m K)) o) os

def plain1 : YV → Bool
  | .b _ | .i .. | .s _ => true
  | _ => false

/-- A value without addresses. -/
def plainV : YV → Bool
  | .tu l => List.rec (motive := fun _ => Bool) true (fun v _ ih => Bool.rec (motive := fun _ => Bool) false ih (plain1 v)) l
  | v => plain1 v

def isCall : O → Bool
  | .ca .. => true
  | _ => false

/-- The value of an operation that changes nothing. -/
def valK (call : FuncId → List YV → YM → (YV → YM → R) → R) (o : Op1) (r : Fr) (m : YM) : R :=
  wantK (evK [] r) o.g (fun _ => opK call o.o (evK [] r) m fun v _ => IF (isCall o.o) (IF (plainV v) (.ok v) (.no "plain")) (.ok v)) (fun _ => .ok (.tu []))

/-- Operations that read read what they have read. -/
def chkK (call : FuncId → List YV → YM → (YV → YM → R) → R) (r : Fr) (m : YM) (N : Unit → R) : List Op1 → R
  | [] => N ()
  | o :: os => match valK call o r m with
    | .ok v => match o.d with
      | none => chkK call r m N os
      | some q => r.getK q fun x => IF (beqV v x) (chkK call r m N os) (.no "held: differs")
    | .no w => .no w

def drawK (call : FuncId → List YV → YM → (YV → YM → R) → R) : List Op2 → Fr → YM → (Fr → YM → R) → R
  | [], r, m, K => K r m
  | o :: os, r, m, K => match o.eff with
    | true => wantK (evK [] r) o.o.g
      (fun _ => opK call o.o.o (evK [] r) m fun v m => finK r o.o.d v fun r => chkK call r m (fun _ => drawK call os r m K) o.chk)
      (fun _ => finK r o.o.d (.tu []) fun r => drawK call os r m K)
    | false => match valK call o.o r m with
      | .ok v => finK r o.o.d v fun r => drawK call os r m K
      | .no w => .no w

def rounds (body : Fr → YM → (E → Fr → YM → R) → R) (K : E → Fr → YM → R) (n : Nat) : Fr → YM → R :=
  Nat.rec (motive := fun _ => Fr → YM → R) (fun _ _ => .no "rounds") (fun _ ih r m => body r m fun e r m => E.rec (motive := fun _ => R) (ih r m) (K .ret r m) (fun i => K (.ext i) r m) e) n

def codeK (call : FuncId → List YV → YM → (YV → YM → R) → R) (c : C) : Fr → YM → (E → Fr → YM → R) → R :=
  C.rec (motive := fun _ => Fr → YM → (E → Fr → YM → R) → R)
    (fun r m K => K .nrm r m)
    (fun ops r m K => opsK call ops [] r m fun r m => K .nrm r m)
    (fun ops r m K => drawK call ops r m fun r m => K .nrm r m)
    (fun _ _ iha ihb r m K => iha r m fun e r m => E.rec (motive := fun _ => R) (ihb r m K) (K .ret r m) (fun i => K (.ext i) r m) e)
    (fun x _ _ iha ihb r m K => evK [] r x fun v => match v with
      | .b b => IF b (iha r m K) (ihb r m K)
      | _ => .no "cond")
    (fun id _ ih r m K => ih r m fun e r m => E.rec (motive := fun _ => R) (K .nrm r m) (K .ret r m) (fun i => IF (Nat.beq i id) (K .nrm r m) (K (.ext i) r m)) e)
    (fun _ ih r m K => rounds ih K 100000 r m)
    (fun r m K => K .ret r m)
    (fun id r m K => K (.ext id) r m) c

def argsK : List (Option Q) → List YV → Fr → (Fr → R) → R
  | [], [], r, K => K r
  | q :: qs, v :: vs, r, K => finK r q v fun r => argsK qs vs r K
  | _, _, _, _ => .no "args"

def resK (r : Fr) (m : YM) : List (Q ⊕ (Q × Option Nat)) → (List YV → R) → R
  | [], K => K []
  | .inl q :: rs, K => r.getK q fun v => resK r m rs fun vs => K (v :: vs)
  | .inr (q, none) :: rs, K => r.getK q fun v => match v with
    | .p l o => m.load1K l o fun v => resK r m rs fun vs => K (v :: vs)
    | _ => .no "result"
  | .inr (q, some n) :: rs, K => r.getK q fun v => match v with
    | .p l o => m.loadK l o n fun v => resK r m rs fun vs => K (.ag v :: vs)
    | _ => .no "result"

def oneV : List YV → YV
  | [v] => v
  | vs => .tu vs

/-- The table of functions, and those whose calls give up what they made. -/
structure Tb where
  t : T F
  pure : FuncId → Bool

def bodyK (call : FuncId → List YV → YM → (YV → YM → R) → R) (f : F) (vs : List YV) (m : YM) (K : YV → YM → R) : R :=
  argsK f.args vs Fr.new fun r => codeK call f.c r m fun e r m => match e with
    | .ext _ => .no "exit"
    | _ => resK r m f.res fun vs => K (oneV vs) m

def gap : Nat := 600

def callK (tb : Tb) (d : Nat) : FuncId → List YV → YM → (YV → YM → R) → R :=
  Nat.rec (motive := fun _ => FuncId → List YV → YM → (YV → YM → R) → R) (fun _ _ _ _ => .no "depth") (fun _ ih g vs m K => T.getK 8 tb.t g fun f =>
    Option.rec (motive := fun _ => R) (.no "no function") (fun f => IF (tb.pure g)
      (match bodyK ih f vs ⟨m.h, m.n, m.n⟩ (fun v m' => IF (Nat.ble m'.n (m.n + gap)) (IF (Nat.ble m.n m'.lo) (.ok v) (.no "low")) (.no "gap")) with
        | .ok v => natK (m.n + gap) fun n => K v ⟨m.h, n, m.lo⟩
        | .no w => .no w)
      (bodyK ih f vs m K)) f) d

end
end Go.Ye

/- Ye, part C: from the program's code to the evaluator's. -/
namespace Go.Ye
open Go.Sx (TI TK mkTI)
set_option linter.unusedVariables false

def digOf : Nat → D
  | 0 => .a
  | 1 => .b
  | 2 => .c
  | 3 => .d
  | 4 => .e
  | 5 => .f
  | 6 => .g
  | _ => .h

def qAt (t : Nat) : Option Q :=
  if t < 8 then some (.x (digOf t)) else
  if t < 72 then some (.y (digOf ((t - 8) / 8)) (digOf ((t - 8) % 8))) else
  if t < 584 then some (.z (digOf ((t - 72) / 64)) (digOf ((t - 72) / 8 % 8)) (digOf ((t - 72) % 8))) else none

def idxIn (t : Nat) : List Nat → Nat → Option Nat
  | [], _ => none
  | x :: r, i => match Nat.beq x t with
    | true => some i
    | false => idxIn t r (i + 1)

/-- The place of a slot in the frame; S: the slots that have one. -/
def qOf (S : List Nat) (t : Nat) : Option Q := (idxIn t S 0).bind qAt

def vOf1 : Value → Option YV
  | .bool b => some (.b b)
  | .int k n => some (.i k n)
  | .string s => some (.s (s.data.toList.map UInt8.toNat))
  | .pointer none => some .pn
  | .slice none 0 0 => some .sn
  | .map none => some .mn
  | .nilFunc => some .fn
  | _ => none

def vOf : Value → Option YV
  | .agg c => (c.toList.mapM vOf1).map .ag
  | v => vOf1 v

/-- Where a slot's value is found: on the stack (counted from below), in the frame, a constant. -/
inductive Src where
  | s (n : Nat)
  | q (q : Q)
  | c (v : YV)

abbrev Env := List (Nat × Src)

def look (t : Nat) : Env → Option Src
  | [] => none
  | (u, x) :: r => match Nat.beq u t with
    | true => some x
    | false => look t r

def srcOf (S : List Nat) (env : Env) : Operand → Option Src
  | .tmp t => match look t env with
    | some x => some x
    | none => (qOf S t).map .q
  | .const v => (vOf v).map .c
  | .func f => some (.c (.f f []))
  | .global _ => none

def xAt (n : Nat) : X := match n with
  | 0 => .k0
  | 1 => .k1
  | n => .k n

def xSrc (h : Nat) : Src → Option X
  | .s n => if n < h then some (xAt (h - 1 - n)) else none
  | .q q => some (.t q)
  | .c v => some (.c v)

def xIn (S : List Nat) (env : Env) (h : Nat) (x : Operand) : Option X := (srcOf S env x).bind (xSrc h)

def zeroOf (ti : TI) : Option (List YV) := ti.zero.mapM vOf1

def zvOf (P : Program) (t : TypeId) : Option YV := ((P.info? t).bind (·.zero)).bind vOf

def plainK (P : Program) (t : TypeId) : Bool := match P.underlying t with
  | some (.int _) => true
  | _ => false

/-- How two values of a type are compared with '=='. -/
def eqKd (P : Program) (t : TypeId) : Option Nat := match P.underlying t with
  | some .bool => some 0
  | some (.slice _) => some 1
  | some (.pointer _) => some 2
  | some (.map ..) => some 3
  | some (.func ..) => some 4
  | _ => none

def numT (P : Program) (t : TypeId) : Bool := match P.underlying t with
  | some (.int _) | some .string => true
  | _ => false

def xoOf (xOf : Operand → Option X) : Option Operand → Option (Option X)
  | none => some none
  | some x => (xOf x).map some

def partsOf (xOf : Operand → Option X) (place : Nat → Option (Nat × Nat)) : List (Nat × Operand) → Option (List (Nat × Nat × X))
  | [] => some []
  | (i, x) :: r => do
    let (off, size) ← place i
    let x ← xOf x
    let r ← partsOf xOf place r
    some ((off, size, x) :: r)

def isInt (P : Program) (t : TypeId) : Bool := match P.underlying t with
  | some (.int _) => true
  | _ => false

def compO (P : Program) (xOf : Operand → Option X) (o : Op) : Option O := match o with
  | .move x => (xOf x).map .mv
  | .assign x => (xOf x).map .mv
  | .pick c a b => do some (.pick (← xOf c) (← xOf a) (← xOf b))
  | .alloc t => do
    let ti ← mkTI P t
    some (.al (← zeroOf ti))
  | .box _ x => (xOf x).map .bx
  | .build t ⟨ps⟩ => do
    let ti ← mkTI P t
    match ti.k with
    | .struct => do some (.bd (← zeroOf ti) (← partsOf xOf (fun i => (ti.offs[i]?).map fun z => (z.1, z.2.1)) ps))
    | .arr n e => do
      let te ← mkTI P e
      some (.bd (← zeroOf ti) (← partsOf xOf (fun i => if i < n then some (i * te.size, te.size) else none) ps))
    | _ => none
  | .buildSlice t n ⟨ps⟩ => do
    let ti ← mkTI P t
    match ti.k with
    | .slice e => do
      let te ← mkTI P e
      if te.size = 0 ∨ te.zero.length ≠ te.size ∨ n * te.size > 100000 then none else
      some (.bs te.size n ((List.replicate n (← zeroOf te)).flatten) (← partsOf xOf (fun i => if i < n then some (i * te.size, te.size) else none) ps))
    | _ => none
  | .load t x => do
    let ti ← mkTI P t
    let x ← xOf x
    match ti.k.agg with
    | true => some (.ldn ti.size x)
    | false => some (.ld x)
  | .store t a v => do
    let ti ← mkTI P t
    some (.st ti.size (← xOf a) (← xOf v))
  | .nilCheck x => (xOf x).map .nc
  | .binOp op t x y _ => if numT P t then do some (.ib op (← xOf x) (← xOf y)) else match op, eqKd P t with
    | .eql, some kd => do some (.eq kd false (← xOf x) (← xOf y))
    | .neq, some kd => do some (.eq kd true (← xOf x) (← xOf y))
    | _, _ => none
  | .unOp op _ x => (xOf x).map (.un op)
  | .convert s d x => match P.underlying s, P.underlying d with
    | some (.int _), some (.int k) => (xOf x).map (.cv k)
    | some (.slice e), some .string => match P.underlying e with
      | some (.int .u8) => (xOf x).map .b2s
      | _ => none
    | some (.slice _), some (.slice e) => match s == d, P.underlying e with
      | true, some (.int .u8) => (xOf x).map .bb
      | _, _ => none
    | _, _ => none
  | .makeFunc (.func f) ⟨[]⟩ ⟨us⟩ => (us.mapM xOf).map (.mf f)
  | .makeMap t none => some .mm
  | .makeSlice t l c => do
    let ti ← mkTI P t
    match ti.k with
    | .slice e => do
      let te ← mkTI P e
      if te.size = 0 ∨ te.zero.length ≠ te.size then none else some (.ms te.size te.bytes (← zeroOf te) (← xOf l) (← xOf c))
    | _ => none
  | .slice t x lo hi mx => do
    let ti ← mkTI P t
    match ti.k with
    | .str => if mx.isSome then none else do some (.ss (← xOf x) (← xoOf xOf lo) (← xoOf xOf hi))
    | .slice e => do
      let te ← mkTI P e
      if te.size = 0 ∨ (mx.isSome = true ∧ hi.isNone = true) then none else some (.sl te.size (← xOf x) (← xoOf xOf lo) (← xoOf xOf hi) (← xoOf xOf mx))
    | .arr n e => do
      let te ← mkTI P e
      if te.size = 0 ∨ mx.isSome = true then none else some (.sa n te.size (← xOf x) (← xoOf xOf lo) (← xoOf xOf hi) (← xoOf xOf mx))
    | _ => none
  | .fieldAddr s x f => do
    let ti ← mkTI P s
    match ti.k with
    | .struct => do
      let z ← ti.offs[f]?
      if z.2.1 = 0 then none else some (.fa z.1 (← xOf x))
    | _ => none
  | .field s x f => do
    let ti ← mkTI P s
    match ti.k with
    | .struct => do
      let z ← ti.offs[f]?
      some (.fd z.1 z.2.1 z.2.2 (← xOf x))
    | _ => none
  | .indexAddr t x i => do
    let ti ← mkTI P t
    match ti.k with
    | .slice e => do
      let te ← mkTI P e
      some (.ia te.size (← xOf x) (← xOf i))
    | .arr n e => do
      let te ← mkTI P e
      some (.iA n te.size (← xOf x) (← xOf i))
    | _ => none
  | .index t x i => do
    let ti ← mkTI P t
    match ti.k with
    | .arr n e => do
      let te ← mkTI P e
      some (.ix n te.size te.k.agg (← xOf x) (← xOf i))
    | .str => do some (.is (← xOf x) (← xOf i))
    | _ => none
  | .lookup t x k ok => do
    let ti ← mkTI P t
    match ti.k with
    | .map kt et => if plainK P kt then do some (.lu (← zvOf P et) (← xOf x) (← xOf k) ok) else none
    | _ => none
  | .mapUpdate t x k v => do
    let ti ← mkTI P t
    match ti.k with
    | .map kt _ => if plainK P kt then do some (.mu (← xOf x) (← xOf k) (← xOf v)) else none
    | _ => none
  | .range t x => do
    let ti ← mkTI P t
    match ti.k with
    | .map _ _ => (xOf x).map .rg
    | _ => none
  | .next it s => if s then none else (xOf it).map .nx
  | .entry it => (xOf it).map .en
  | .extract x i => do some (.ex (← xOf x) i)
  | .call ⟨.builtin .len, ⟨[x]⟩, ⟨[t]⟩⟩ => do
    let ti ← mkTI P t
    match ti.k with
    | .slice _ => (xOf x).map .ln
    | .str => (xOf x).map .ls
    | .arr n _ => some (.lk n)
    | _ => none
  | .call ⟨.builtin .append, ⟨[x, y]⟩, ⟨[t, u]⟩⟩ => do
    let ti ← mkTI P t
    match ti.k with
    | .slice e => do
      let te ← mkTI P e
      if te.size = 0 ∨ te.zero.length ≠ te.size ∨ te.bytes > 100000 then none else
      match P.underlying u with
      | some (.int _) => do some (.az te.size te.bytes (← zeroOf te) (← xOf x) (← xOf y))
      | some (.slice _) => do some (.ap te.size te.bytes (← zeroOf te) (← xOf x) (← xOf y))
      | some .string => do some (.ap te.size te.bytes (← zeroOf te) (← xOf x) (← xOf y))
      | _ => none
    | _ => none
  | .call ⟨.builtin .copy, ⟨[x, y]⟩, ⟨[t, _]⟩⟩ => do
    let ti ← mkTI P t
    match ti.k with
    | .slice e => do
      let te ← mkTI P e
      some (.cp te.size (← xOf x) (← xOf y))
    | _ => none
  | .call ⟨.builtin .clear, ⟨[x]⟩, ⟨[t]⟩⟩ => do
    let ti ← mkTI P t
    match ti.k with
    | .slice e => do
      let te ← mkTI P e
      if te.zero.length ≠ te.size then none else some (.cl te.size (← zeroOf te) (← xOf x))
    | _ => none
  | .call ⟨.builtin .min, ⟨[x, y]⟩, _⟩ => do some (.mi (← xOf x) (← xOf y))
  | .call ⟨.builtin .max, ⟨[x, y]⟩, _⟩ => do some (.ma (← xOf x) (← xOf y))
  | .call ⟨.value (.func f), ⟨xs⟩, _⟩ => do
    let fn ← P.funcs[f]?
    match fn.body with
    | some _ => (xs.mapM xOf).map (.ca f)
    | none => match xs with
      | [x, y] => if fn.origin ≠ "" then none else if fn.name = "internal/bytealg.CountString" then do some (.xn (← xOf x) (← xOf y)) else
          if fn.name = "internal/bytealg.IndexByteString" then do some (.xi (← xOf x) (← xOf y)) else none
      | _ => none
  | .call ⟨.value (.tmp t), ⟨xs⟩, _⟩ => do some (.cc (← xOf (.tmp t)) (← xs.mapM xOf))
  | _ => none

def qoOf (S : List Nat) : Option Tmp → Option Q
  | none => none
  | some t => qOf S t

def gOf (xOf : Operand → Option X) (all : List Oper) (o : Oper) : Option (Option (X × Bool)) := match o.guard with
  | none => some none
  | some (j, pol) => do
    let oj ← all[j]?
    let t ← oj.dst
    let x ← xOf (.tmp t)
    some (some (x, pol))

/-- What stays known when a slot is written. -/
def forget (d : Nat) (q : Option Q) : Env → Env
  | [] => []
  | (t, x) :: r => match Nat.beq t d with
    | true => forget d q r
    | false => match x, q with
      | .q p, some q => if qEq p q then forget d (some q) r else (t, x) :: forget d (some q) r
      | _, q => (t, x) :: forget d q r
where
  dEq : D → D → Bool
    | .a, .a | .b, .b | .c, .c | .d, .d | .e, .e | .f, .f | .g, .g | .h, .h => true
    | _, _ => false
  qEq : Q → Q → Bool
    | .x i, .x j => dEq i j
    | .y i j, .y k l => dEq i k && dEq j l
    | .z i j k, .z l m n => dEq i l && (dEq j m && dEq k n)
    | _, _ => false

def movesOf : Op → Option Operand
  | .move x => some x
  | .assign x => some x
  | _ => none

/-- The operations of a region, in order: env: where slots are found; h: how high the stack is. A move that stands under no guard, into a slot without a place in the frame, is no operation. -/
def compR (P : Program) (S : List Nat) (all : List Oper) : List Oper → Env → Nat → Option (List Op1)
  | [], _, _ => some []
  | o :: r, env, h => match movesOf o.op, o.guard, o.dst with
    | some x, none, some d => match srcOf S env x, qOf S d with
      | some s, none => compR P S all r ((d, s) :: forget d none env) h
      | some s, some q => do
        let x ← xSrc h s
        let r ← compR P S all r (forget d (some q) env) h
        some (⟨.mv x, some q, false, none⟩ :: r)
      | none, _ => none
    | _, _, _ => match o.dst with
      | none => do
        let g ← gOf (xIn S env h) all o
        let r ← compR P S all r env h
        some (⟨(compO P (xIn S env h) o.op).getD .bad, none, false, g⟩ :: r)
      | some d => do
        let g ← gOf (xIn S env h) all o
        let r ← compR P S all r ((d, .s h) :: forget d (qOf S d) env) (h + 1)
        some (⟨(compO P (xIn S env h) o.op).getD .bad, qOf S d, true, g⟩ :: r)

/-! ### statements whose order is open -/

def edgeOn (e : Edge) : Option Nat := match e.ground with
  | .textOnly _ => none
  | .gcOnly _ => none
  | _ => some e.on

/-- Whom an operation waits for, as a set of bits, out of those of the operations ahead. -/
def waits (ms : List Nat) : List Edge → Nat
  | [] => 0
  | e :: r => match edgeOn e with
    | none => waits ms r
    | some k => (2 ^ k) ||| ((ms[k]?).getD 0) ||| waits ms r

def ancs : List Oper → List Nat → List Nat
  | [], ms => ms
  | o :: r, ms => ancs r (ms ++ [waits ms o.after.toList])

/-- 0 computes, 1 reads, 2 makes, 3 changes. -/
def cls (pu : List Nat) : O → Nat
  | .ca g _ => match pu.contains g with
    | true => 1
    | false => 3
  | .al _ | .bx _ | .bs .. | .mm | .ms .. => 2
  | .ld _ | .ldn .. | .b2s _ | .lu .. | .en _ | .sl .. | .sa .. => 1
  | .st .. | .mu .. | .rg _ | .nx _ | .cc .. | .ap .. | .az .. | .cp .. | .cl .. | .bb _ | .bad => 3
  | _ => 0

def clss (P : Program) (pu : List Nat) (xOf : Operand → Option X) : List Oper → List Nat
  | [] => []
  | o :: r => cls pu ((compO P xOf o.op).getD .bad) :: clss P pu xOf r

/-- What an operation looks at. -/
def xsO : O → List X
  | .mv x | .bx x | .ld x | .ldn _ x | .nc x | .un _ x | .cv _ x | .b2s x | .fa _ x | .fd _ _ _ x | .rg x | .nx x | .en x | .ex x _ | .ln x | .ls x | .cl _ _ x | .bb x => [x]
  | .pick c a b => [c, a, b]
  | .al _ | .mm | .lk _ | .bad => []
  | .bd _ ps | .bs _ _ _ ps => ps.map fun p => p.2.2
  | .st _ x v => [x, v]
  | .ib _ x y | .eq _ _ x y | .ia _ x y | .iA _ _ x y | .ix _ _ _ x y | .is x y | .lu _ x y _ | .ap _ _ _ x y | .cp _ x y | .mi x y | .ma x y | .az _ _ _ x y | .xn x y | .xi x y | .ms _ _ _ x y => [x, y]
  | .mf _ us => us
  | .ss x lo hi => x :: (lo.toList ++ hi.toList)
  | .sl _ x lo hi mx | .sa _ _ x lo hi mx => x :: (lo.toList ++ (hi.toList ++ mx.toList))
  | .mu x k v => [x, k, v]
  | .ca _ xs => xs
  | .cc x xs => x :: xs

def xsG : Option (X × Bool) → List X
  | none => []
  | some (x, _) => [x]

def isQ (q : Q) : X → Bool
  | .t p => forget.qEq p q
  | _ => false

/-- Whether an operation looks at a place of the frame, or writes it. -/
def usesQ (o : Op1) (q : Q) : Bool := (xsO o.o).any (isQ q) || (xsG o.g).any (isQ q)

def writesQ (o : Op1) (q : Q) : Bool := match o.d with
  | none => false
  | some p => forget.qEq p q

def looksAt (all : List Oper) (o : Oper) : List Tmp :=
  (o.op.operands.toList.filterMap fun | .tmp t => some t | _ => none) ++ (match o.guard with
   | some (g, _) => ((all[g]?).bind (·.dst)).toList
   | none => [])

/-- Whom an operation waits for. -/
def ancOf (ms : List Nat) (i j : Nat) : Bool := ((ms[i]?).getD 0).testBit j

/-- Operations that stand in one row: those that change memory, and those that write what another one looks at before. -/
def effOf (all : List Oper) (ms cs : List Nat) (i : Nat) : Bool := Nat.ble 2 ((cs[i]?).getD 0) || (match (all[i]?).bind (·.dst) with
  | none => false
  | some d => all.zipIdx.any fun (o, j) => (looksAt all o).contains d && !ancOf ms j i)

def orderOf (ms : List Nat) (eff : Nat → Bool) (n : Nat) : List Nat :=
  let effs := (List.range n).filter eff
  (List.range (effs.length + 1)).flatMap fun g => ((List.range n).filter fun i => !eff i && (effs.filter fun e => ancOf ms i e).length == g) ++ (effs[g]?).toList

/-- What must hold of an operation a and of one, b, that is done behind it. -/
def pairOk (ms : List Nat) (a b : Op2) : Bool := !Nat.beq a.ix b.ix && (match a.eff with
  | true => ancOf ms b.ix a.ix
  | false => (match b.o.d with
    | none => true
    | some q => (b.eff && ancOf ms b.ix a.ix) || (!usesQ a.o q && !writesQ a.o q)) &&
    (match a.o.d with
    | none => true
    | some q => !usesQ b.o q || ancOf ms b.ix a.ix))

def pairsOk (ms : List Nat) : List Op2 → Bool
  | [] => true
  | a :: r => r.all (pairOk ms a) && pairsOk ms r

def selfOk (pu : List Nat) (a : Op2) : Bool := a.eff || (Nat.ble (cls pu a.o.o) 1 && (match a.o.d with
  | none => true
  | some q => !usesQ a.o q))

def framed (S : List Nat) : List Oper → Bool
  | [] => true
  | o :: r => (match o.dst with
    | none => true
    | some d => (qOf S d).isSome) && framed S r

def op1Of (P : Program) (S : List Nat) (all : List Oper) (o : Oper) : Option Op1 := do
  let g ← gOf (xIn S [] 0) all o
  some ⟨(compO P (xIn S [] 0) o.op).getD .bad, qoOf S o.dst, false, g⟩

/-- The operations in their order; pre: those ahead. -/
def rowOf (P : Program) (pu : List Nat) (S : List Nat) (all : List Oper) (ms : List Nat) (eff : Nat → Bool) : List Nat → List Op2 → Option (List Op2)
  | [], _ => some []
  | i :: r, pre => do
    let o ← all[i]?
    let o1 ← op1Of P S all o
    let e := eff i
    let o2 : Op2 := ⟨o1, i, e, if e then (pre.filter fun a => !a.eff && !ancOf ms i a.ix && !Nat.beq (cls pu a.o.o) 0).map (·.o) else []⟩
    let l ← rowOf P pu S all ms eff r (pre ++ [o2])
    some (o2 :: l)

def drawOf (P : Program) (pu : List Nat) (S : List Nat) (all : List Oper) : Option (List Op2) :=
  let cs := clss P pu (xIn S [] 0) all
  let ms := ancs all []
  let eff := effOf all ms cs
  let ord := orderOf ms eff all.length
  match rowOf P pu S all ms eff ord [] with
  | none => none
  | some l => if pairsOk ms l && (l.all (selfOk pu) && (Go.Sx.allBack all 0 && (framed S all && (List.range all.length).all (fun i => ord.contains i)))) then some l else none

def compC (P : Program) (pu : List Nat) (S : List Nat) : Code → Option C
  | .skip => some .skip
  | .region _ ⟨ops⟩ false => (compR P S ops ops [] 0).map .reg
  | .region _ ⟨ops⟩ true => (drawOf P pu S ops).map .drw
  | .seq a b => do some (.seq (← compC P pu S a) (← compC P pu S b))
  | .cond x a b => do some (.cond (← xIn S [] 0 x) (← compC P pu S a) (← compC P pu S b))
  | .block id c => (compC P pu S c).map (.blk id)
  | .loop c => (compC P pu S c).map .loop
  | .ret => some .ret
  | .exit id => some (.ext id)
  | _ => none

def resOf (P : Program) (S : List Nat) : ResultVar → Option (Q ⊕ (Q × Option Nat))
  | .tmp t => (qOf S t).map .inl
  | .cell a t => do
    let q ← qOf S a
    let ti ← mkTI P t
    some (.inr (q, if ti.k.agg then some ti.size else none))

/-- Every slot that is written is one of the n slots of the function. -/
def dstsC (n : Nat) : Code → Bool
  | .region _ ⟨ops⟩ _ => ops.all fun o => match o.dst with
    | none => true
    | some d => Nat.blt d n
  | .seq a b => dstsC n a && dstsC n b
  | .cond _ a b => dstsC n a && dstsC n b
  | .block _ c => dstsC n c
  | .loop c => dstsC n c
  | _ => true

/-- A function's code, its slots S having places in the frame. -/
def compF (P : Program) (pu : List Nat) (S : List Nat) (fn : Func) : Option F := do
  let c ← fn.body
  let n := fn.params.size + fn.nfree
  if n ≤ fn.ntmps && S.length ≤ 584 && dstsC fn.ntmps c && fn.name != "runtime.NumGoroutine" then
    some ⟨(List.range n).map (qOf S), ← compC P pu S c, ← fn.results.toList.mapM (resOf P S)⟩
  else none

end Go.Ye

/- Ye, part D: what the evaluator's memory has to do with a world. -/
namespace Go.Ye
open Go.Sx
set_option linter.unusedVariables false
set_option linter.constructorNameAsVariable false
set_option linter.unusedSimpArgs false

/-! ### trees -/

def up8 {α : Type} (k : Nat) (x : Option α) (a b c d e f g h t : T α) : T α := match k with
  | 0 => .n x t b c d e f g h
  | 1 => .n x a t c d e f g h
  | 2 => .n x a b t d e f g h
  | 3 => .n x a b c t e f g h
  | 4 => .n x a b c d t f g h
  | 5 => .n x a b c d e t g h
  | 6 => .n x a b c d e f t h
  | _ => .n x a b c d e f g t

theorem T.setK_node {α : Type} (w : Nat) (x : Option α) (a b c d e f g h : T α) (k : Nat) (v : Option α) (K : T α → R) :
    T.setK (w + 1) (.n x a b c d e f g h) (k + 1) v K = T.setK w (sel8 (Nat.mod k 8) a b c d e f g h) (Nat.div k 8) v fun t => K (up8 (Nat.mod k 8) x a b c d e f g h t) := by
  show (Nat.rec (motive := fun _ => R) _ _ (Nat.mod k 8) : R) = _
  unfold T.setK sel8 up8
  rcases hk : Nat.mod k 8 with _ | _ | _ | _ | _ | _ | _ | n <;> rfl

theorem T.setK_leaf {α : Type} (w : Nat) (k : Nat) (v : Option α) (K : T α → R) :
    T.setK (w + 1) .l (k + 1) v K = T.setK w .l (Nat.div k 8) v fun t => K (up8 (Nat.mod k 8) none .l .l .l .l .l .l .l .l t) := by
  unfold T.setK up8
  show T.setK w .l (Nat.div k 8) v (fun t => (Nat.rec (motive := fun _ => R) _ _ (Nat.mod k 8) : R)) = T.setK w .l (Nat.div k 8) v _
  congr 1
  funext t
  rcases hk : Nat.mod k 8 with _ | _ | _ | _ | _ | _ | _ | n <;> rfl

theorem get_up8 {α : Type} (w k : Nat) (x : Option α) (a b c d e f g h t : T α) (hk : k < 8) (j : Nat) :
    T.get (w + 1) (up8 k x a b c d e f g h t) (j + 1) = if j % 8 = k then T.get w t (j / 8) else T.get w (sel8 (j % 8) a b c d e f g h) (j / 8) := by
  have hj : j % 8 < 8 := Nat.mod_lt _ (by omega)
  have key : ∀ n, n < 8 → ∀ k, k < 8 → (match up8 k x a b c d e f g h t with
      | .l => none
      | .n x a b c d e f g h => T.get w (sel8 n a b c d e f g h) (j / 8)) = if n = k then T.get w t (j / 8) else T.get w (sel8 n a b c d e f g h) (j / 8) := by
    intro n hn k hk
    rcases k with _ | _ | _ | _ | _ | _ | _ | _ | k <;> first | omega | (rcases n with _ | _ | _ | _ | _ | _ | _ | _ | n <;> first | omega | simp [up8, sel8])
  have := key (j % 8) hj k hk
  rw [← this]
  rcases k with _ | _ | _ | _ | _ | _ | _ | _ | k <;> first | omega | rfl

theorem T.get_leaf {α : Type} (w j : Nat) : T.get w (.l : T α) j = none := by cases w <;> rfl

theorem T.setK_ok {α : Type} {r : YV} : ∀ {w : Nat} {t : T α} {k : Nat} {v : Option α} {K : T α → R}, T.setK w t k v K = .ok r →
    ∃ t', K t' = .ok r ∧ ∀ j, T.get w t' j = if j = k then v else T.get w t j
  | 0, t, k, v, K, h => by cases h
  | w + 1, .l, 0, v, K, h => ⟨_, h, fun j => by
      cases j with
      | zero => rfl
      | succ j => simp [T.get, T.get_leaf, sel8]; split <;> exact T.get_leaf ..⟩
  | w + 1, .n x a b c d e f g h', 0, v, K, h => ⟨_, h, fun j => by cases j <;> rfl⟩
  | w + 1, .l, k + 1, v, K, h => by
    rw [T.setK_leaf] at h
    obtain ⟨t', h1, h2⟩ := T.setK_ok h
    have hk : Nat.mod k 8 < 8 := Nat.mod_lt _ (by omega)
    refine ⟨_, h1, fun j => ?_⟩
    cases j with
    | zero =>
      rcases hk' : Nat.mod k 8 with _ | _ | _ | _ | _ | _ | _ | n <;> simp [up8, T.get]
    | succ j =>
      rw [get_up8 _ _ _ _ _ _ _ _ _ _ _ _ hk, h2]
      have e1 : Nat.mod k 8 = k % 8 := rfl
      have e2 : Nat.div k 8 = k / 8 := rfl
      rw [e1, e2, T.get_leaf, T.get_leaf]
      by_cases hj : j = k
      · subst hj; simp
      · have : ¬ (j % 8 = k % 8 ∧ j / 8 = k / 8) := fun ⟨a, b⟩ => hj (by omega)
        simp only [Nat.add_right_cancel_iff, hj, if_false]
        split
        · split
          · rename_i a b; exact absurd ⟨a, b⟩ this
          · rfl
        · have : sel8 (j % 8) (.l : T α) .l .l .l .l .l .l .l = .l := by unfold sel8; split <;> rfl
          rw [this, T.get_leaf]
  | w + 1, .n x a b c d e f g h', k + 1, v, K, h => by
    rw [T.setK_node] at h
    obtain ⟨t', h1, h2⟩ := T.setK_ok h
    have hk : Nat.mod k 8 < 8 := Nat.mod_lt _ (by omega)
    refine ⟨_, h1, fun j => ?_⟩
    cases j with
    | zero =>
      rcases hk' : Nat.mod k 8 with _ | _ | _ | _ | _ | _ | _ | n <;> simp [up8, T.get]
    | succ j =>
      rw [get_up8 _ _ _ _ _ _ _ _ _ _ _ _ hk, h2]
      have e1 : Nat.mod k 8 = k % 8 := rfl
      have e2 : Nat.div k 8 = k / 8 := rfl
      rw [e1, e2]
      by_cases hj : j = k
      · subst hj; simp
      · have : ¬ (j % 8 = k % 8 ∧ j / 8 = k / 8) := fun ⟨a, b⟩ => hj (by omega)
        simp only [Nat.add_right_cancel_iff, hj, if_false]
        show _ = T.get w (sel8 (j % 8) a b c d e f g h') (j / 8)
        split
        · rename_i hh
          split
          · rename_i b'; exact absurd ⟨hh, b'⟩ this
          · rw [hh]
        · rfl

/-! ### frames -/

theorem N.setK_ok {α : Type} {n : N α} {i : D} {v : α} {K : N α → R} {r : YV} (h : n.setK i v K = .ok r) :
    ∃ n', K n' = .ok r ∧ n'.get i = v ∧ ∀ j, j ≠ i → n'.get j = n.get j := by
  cases n
  cases i <;> exact ⟨_, h, rfl, fun j hj => by cases j <;> first | rfl | exact absurd rfl hj⟩

theorem Fr.setK_ok {f : Fr} {q : Q} {v : YV} {K : Fr → R} {r : YV} (h : f.setK q v K = .ok r) : ∃ f', K f' = .ok r ∧ f'.get q = v ∧ ∀ p, p ≠ q → f'.get p = f.get p := by
  cases f with
  | mk x y z =>
    cases q with
    | x i =>
      have h : x.setK i v (fun x => K ⟨x, y, z⟩) = .ok r := h
      obtain ⟨n, h1, h2, h3⟩ := N.setK_ok h
      refine ⟨_, h1, h2, fun p hp => ?_⟩
      cases p with
      | x j => exact h3 j (fun e => hp (by rw [e]))
      | y _ _ => rfl
      | z _ _ _ => rfl
    | y i j =>
      have h : y.getK i (fun n => n.setK j v fun n => y.setK i n fun y => K ⟨x, y, z⟩) = .ok r := h
      rw [N.getK_eq] at h
      obtain ⟨n, h1, h2, h3⟩ := N.setK_ok h
      obtain ⟨y', h4, h5, h6⟩ := N.setK_ok h1
      refine ⟨_, h4, by show (y'.get i).get j = v; rw [h5, h2], fun p hp => ?_⟩
      cases p with
      | x _ => rfl
      | y k l =>
        show (y'.get k).get l = (y.get k).get l
        by_cases hk : k = i
        · subst hk
          rw [h5]
          exact h3 l (fun e => hp (by rw [e]))
        · rw [h6 k hk]
      | z _ _ _ => rfl
    | z i j k =>
      have h : z.getK i (fun m => m.getK j fun n => n.setK k v fun n => m.setK j n fun m => z.setK i m fun z => K ⟨x, y, z⟩) = .ok r := h
      rw [N.getK_eq, N.getK_eq] at h
      obtain ⟨n, h1, h2, h3⟩ := N.setK_ok h
      obtain ⟨m, h4, h5, h6⟩ := N.setK_ok h1
      obtain ⟨z', h7, h8, h9⟩ := N.setK_ok h4
      refine ⟨_, h7, by show ((z'.get i).get j).get k = v; rw [h8, h5, h2], fun p hp => ?_⟩
      cases p with
      | x _ => rfl
      | y _ _ => rfl
      | z a b c =>
        show ((z'.get a).get b).get c = ((z.get a).get b).get c
        by_cases ha : a = i
        · subst ha
          rw [h8]
          by_cases hb : b = j
          · subst hb
            rw [h5]
            exact h3 c (fun e => hp (by rw [e]))
          · rw [h6 b hb]
        · rw [h9 a ha]

/-! ### memory -/

def YM.get (m : YM) (l : Nat) : Option YB := T.get 8 m.h l

theorem YM.getK_ok {m : YM} {l : Nat} {K : YB → R} {r : YV} (h : m.getK l K = .ok r) : ∃ b, m.get l = some b ∧ K b = .ok r := by
  cases m with
  | mk t n lo =>
    have h : T.getK 8 t l (fun b => Option.rec (motive := fun _ => R) (.no "no block") (fun b => K b) b) = .ok r := h
    rw [T.getK_eq] at h
    cases hb : T.get 8 t l with
    | none => rw [hb] at h; cases h
    | some b => rw [hb] at h; exact ⟨b, hb, h⟩

theorem YM.setK_ok {m : YM} {l : Nat} {b : YB} {K : YM → R} {r : YV} (h : m.setK l b K = .ok r) :
    ∃ m', K m' = .ok r ∧ m'.n = m.n ∧ m'.lo = m.lo ∧ m.lo ≤ l ∧ ∀ j, m'.get j = if j = l then some b else m.get j := by
  cases m with
  | mk t n lo =>
    have h : IF (Nat.ble lo l) (T.setK 8 t l (some b) fun h => K ⟨h, n, lo⟩) (.no "a block that is to be left alone") = .ok r := h
    cases hb : Nat.ble lo l with
    | false => rw [hb] at h; cases h
    | true =>
      rw [hb, IF_true] at h
      obtain ⟨t', h1, h2⟩ := T.setK_ok h
      exact ⟨_, h1, rfl, rfl, Nat.le_of_ble_eq_true hb, h2⟩

theorem YM.delK_ok {m : YM} {l : Nat} {K : YM → R} {r : YV} (h : m.delK l K = .ok r) :
    ∃ m', K m' = .ok r ∧ m'.n = m.n ∧ m'.lo = m.lo ∧ m.lo ≤ l ∧ ∀ j, m'.get j = if j = l then none else m.get j := by
  cases m with
  | mk t n lo =>
    have h : IF (Nat.ble lo l) (T.setK 8 t l none fun h => K ⟨h, n, lo⟩) (.no "a block that is to be left alone") = .ok r := h
    cases hb : Nat.ble lo l with
    | false => rw [hb] at h; cases h
    | true =>
      rw [hb, IF_true] at h
      obtain ⟨t', h1, h2⟩ := T.setK_ok h
      exact ⟨_, h1, rfl, rfl, Nat.le_of_ble_eq_true hb, h2⟩

theorem YM.newK_ok {m : YM} {b : YB} {K : Nat → YM → R} {r : YV} (h : m.newK b K = .ok r) :
    ∃ m', K m.n m' = .ok r ∧ m'.n = m.n + 1 ∧ m'.lo = m.lo ∧ ∀ j, m'.get j = if j = m.n then some b else m.get j := by
  cases m with
  | mk t n lo =>
    have h : (T.setK 8 t n (some b) fun h => natK (Nat.succ n) fun k => K n ⟨h, k, lo⟩) = .ok r := h
    obtain ⟨t', h1, h2⟩ := T.setK_ok h
    rw [natK_eq] at h1
    exact ⟨_, h1, rfl, rfl, h2⟩

theorem nthK_ok {α : Type} {r : YV} : ∀ {l : List α} {n : Nat} {K : α → R}, nthK l n K = .ok r → ∃ x, l[n]? = some x ∧ K x = .ok r
  | [], _, _, h => by cases h
  | x :: _, 0, K, h => ⟨x, rfl, h⟩
  | _ :: xs, n + 1, K, h => by
    obtain ⟨y, h1, h2⟩ := nthK_ok (l := xs) (n := n) h
    exact ⟨y, by simpa using h1, h2⟩

/-- A cell of a block. -/
def cellAt (zs : List YV) (es : Nat) (t : T YV) (k : Nat) : Option YV := match T.get 8 t k with
  | some v => some v
  | none => zs[k % es]?

theorem IF_ok {c : Bool} {Y N : R} {r : YV} (h : IF c Y N = .ok r) : (c = true ∧ Y = .ok r) ∨ (c = false ∧ N = .ok r) := by
  cases c
  · exact .inr ⟨rfl, h⟩
  · exact .inl ⟨rfl, h⟩

theorem cellK_ok {zs : List YV} {es z : Nat} {t : T YV} {k : Nat} {K : YV → R} {r : YV} (h : cellK zs es z t k K = .ok r) :
    k < z ∧ ∃ v, cellAt zs es t k = some v ∧ K v = .ok r := by
  rcases IF_ok h with ⟨hb, h⟩ | ⟨_, h⟩
  · have hk : k < z := by
      have := Nat.le_of_ble_eq_true hb
      omega
    refine ⟨hk, ?_⟩
    rw [T.getK_eq] at h
    unfold cellAt
    cases hg : T.get 8 t k with
    | some v => rw [hg] at h; exact ⟨v, rfl, h⟩
    | none =>
      rw [hg] at h
      obtain ⟨v, h1, h2⟩ := nthK_ok h
      exact ⟨v, h1, h2⟩
  · cases h

theorem cellsK_ok {zs : List YV} {es z : Nat} {t : T YV} {r : YV} : ∀ {n k : Nat} {K : List YV → R}, cellsK zs es z t k n K = .ok r →
    ∃ l, l.length = n ∧ (∀ j, j < n → k + j < z ∧ cellAt zs es t (k + j) = l[j]?) ∧ K l = .ok r
  | 0, k, K, h => ⟨[], rfl, fun j hj => by omega, h⟩
  | n + 1, k, K, h => by
    have h : cellK zs es z t k (fun v => natK (Nat.succ k) fun k => cellsK zs es z t k n fun l => K (v :: l)) = .ok r := h
    obtain ⟨h1, v, h2, h3⟩ := cellK_ok h
    rw [natK_eq] at h3
    obtain ⟨l, h4, h5, h6⟩ := cellsK_ok h3
    refine ⟨v :: l, by simp [h4], fun j hj => ?_, h6⟩
    cases j with
    | zero => exact ⟨h1, by simpa using h2⟩
    | succ j =>
      have := h5 j (by omega)
      rw [Nat.succ_eq_add_one, show k + 1 + j = k + (j + 1) from by omega] at this
      exact ⟨this.1, by simpa using this.2⟩

theorem putsK_ok {r : YV} : ∀ {l : List YV} {k : Nat} {t : T YV} {K : T YV → R}, putsK l k t K = .ok r →
    ∃ t', K t' = .ok r ∧ ∀ j, T.get 8 t' j = if k ≤ j ∧ j < k + l.length then l[j - k]? else T.get 8 t j
  | [], k, t, K, h => ⟨t, h, fun j => by rw [if_neg (by simp only [List.length_nil]; omega)]⟩
  | v :: l, k, t, K, h => by
    have h : (T.setK 8 t k (some v) fun t => natK (Nat.succ k) fun k => putsK l k t K) = .ok r := h
    obtain ⟨t1, h1, h2⟩ := T.setK_ok h
    rw [natK_eq] at h1
    obtain ⟨t2, h3, h4⟩ := putsK_ok h1
    refine ⟨t2, h3, fun j => ?_⟩
    rw [h4 j, h2 j]
    by_cases hj : j = k
    · subst hj
      rw [if_neg (by omega), if_pos rfl, if_pos ⟨by omega, by simp⟩]
      simp
    · by_cases hin : Nat.succ k ≤ j ∧ j < Nat.succ k + l.length
      · rw [if_pos hin, if_pos ⟨by omega, by simp; omega⟩, show j - k = (j - Nat.succ k) + 1 from by omega]
        simp
      · rw [if_neg hin, if_neg hj, if_neg (by simp; omega)]

/-! ### values and worlds -/

/-- Where a label lies: its block, from which cell on, how many cells there are. -/
structure Loc where
  blk : Nat
  base : Nat
  ext : Nat

abbrev Lm := Nat → Option Loc

def str (l : List Nat) : ByteArray := ⟨(l.map UInt8.ofNat).toArray⟩

mutual
def VR (φ : Lm) : YV → Value → Prop
  | .b x, v => v = .bool x
  | .i k n, v => v = .int k n
  | .s l, v => v = .string (str l) ∧ ∀ c ∈ l, c < 256
  | .p l o, v => ∃ L, φ l = some L ∧ v = .pointer (some ⟨L.blk, L.base + o, none⟩)
  | .pn, v => v = .pointer none
  | .sl l o n e z, v => ∃ L a cap, φ l = some L ∧ v = .slice (some a) n cap ∧ 0 < z ∧ o + cap * z = e.getD L.ext ∧ e.getD L.ext ≤ L.ext ∧ n ≤ cap ∧ (0 < cap → a = ⟨L.blk, L.base + o, none⟩)
  | .sn, v => v = .slice none 0 0
  | .m l, v => ∃ L, φ l = some L ∧ v = .map (some L.blk)
  | .mn, v => v = .map none
  | .f g us, v => ∃ vs, v = .func (.func g) #[] ⟨vs⟩ ∧ VRs φ us vs
  | .fn, v => v = .nilFunc
  | .ag l, v => ∃ vs, v = .agg ⟨vs⟩ ∧ VRs φ l vs ∧ ∀ x ∈ l, one1 x = true
  | .tu l, v => ∃ vs, v = .tuple ⟨vs⟩ ∧ VRs φ l vs
  | .u, _ => True
def VRs (φ : Lm) : List YV → List Value → Prop
  | [], vs => vs = []
  | y :: ys, vs => ∃ x xs, vs = x :: xs ∧ VR φ y x ∧ VRs φ ys xs
end

def Ext (φ φ' : Lm) : Prop := ∀ l L, φ l = some L → φ' l = some L

theorem Ext.refl (φ : Lm) : Ext φ φ := fun _ _ h => h
theorem Ext.trans {a b c : Lm} (h : Ext a b) (k : Ext b c) : Ext a c := fun l L hl => k l L (h l L hl)

mutual
theorem VR.ext {φ φ' : Lm} (h : Ext φ φ') : ∀ {y : YV} {x : Value}, VR φ y x → VR φ' y x
  | .b _, _, hv => by unfold VR at *; exact hv
  | .i _ _, _, hv => by unfold VR at *; exact hv
  | .s _, _, hv => by unfold VR at *; exact hv
  | .p l o, _, hv => by
    unfold VR at *
    obtain ⟨L, h1, h2⟩ := hv
    exact ⟨L, h _ _ h1, h2⟩
  | .pn, _, hv => by unfold VR at *; exact hv
  | .sl l o n e z, _, hv => by
    unfold VR at *
    obtain ⟨L, a, cap, h1, h2⟩ := hv
    exact ⟨L, a, cap, h _ _ h1, h2⟩
  | .sn, _, hv => by unfold VR at *; exact hv
  | .m l, _, hv => by
    unfold VR at *
    obtain ⟨L, h1, h2⟩ := hv
    exact ⟨L, h _ _ h1, h2⟩
  | .mn, _, hv => by unfold VR at *; exact hv
  | .f g us, _, hv => by
    unfold VR at *
    obtain ⟨vs, h1, h2⟩ := hv
    exact ⟨vs, h1, VRs.ext h h2⟩
  | .fn, _, hv => by unfold VR at *; exact hv
  | .ag l, _, hv => by
    unfold VR at *
    obtain ⟨vs, h1, h2, h3⟩ := hv
    exact ⟨vs, h1, VRs.ext h h2, h3⟩
  | .tu l, _, hv => by
    unfold VR at *
    obtain ⟨vs, h1, h2⟩ := hv
    exact ⟨vs, h1, VRs.ext h h2⟩
  | .u, _, _ => by unfold VR; exact trivial
theorem VRs.ext {φ φ' : Lm} (h : Ext φ φ') : ∀ {ys : List YV} {xs : List Value}, VRs φ ys xs → VRs φ' ys xs
  | [], _, hv => by unfold VRs at *; exact hv
  | y :: ys, _, hv => by
    unfold VRs at *
    obtain ⟨x, xs, h1, h2, h3⟩ := hv
    exact ⟨x, xs, h1, VR.ext h h2, VRs.ext h h3⟩
end

mutual
theorem VR.back {φ φ' : Lm} (h : Ext φ φ') : ∀ {y : YV} {x x' : Value}, VR φ y x → VR φ' y x' → VR φ y x'
  | .b _, _, _, hv, hw => by unfold VR at *; exact hw
  | .i _ _, _, _, hv, hw => by unfold VR at *; exact hw
  | .s _, _, _, hv, hw => by unfold VR at *; exact hw
  | .p l o, _, _, hv, hw => by
    unfold VR at *
    obtain ⟨L, h1, h2⟩ := hv
    obtain ⟨L', h3, h4⟩ := hw
    rw [h _ _ h1] at h3
    cases h3
    exact ⟨L, h1, h4⟩
  | .pn, _, _, hv, hw => by unfold VR at *; exact hw
  | .sl l o n e z, _, _, hv, hw => by
    unfold VR at *
    obtain ⟨L, a, cap, h1, h2⟩ := hv
    obtain ⟨L', a', cap', h3, h4⟩ := hw
    rw [h _ _ h1] at h3
    cases h3
    exact ⟨L, a', cap', h1, h4⟩
  | .sn, _, _, hv, hw => by unfold VR at *; exact hw
  | .m l, _, _, hv, hw => by
    unfold VR at *
    obtain ⟨L, h1, h2⟩ := hv
    obtain ⟨L', h3, h4⟩ := hw
    rw [h _ _ h1] at h3
    cases h3
    exact ⟨L, h1, h4⟩
  | .mn, _, _, hv, hw => by unfold VR at *; exact hw
  | .f g us, _, _, hv, hw => by
    unfold VR at *
    obtain ⟨vs, h1, h2⟩ := hv
    obtain ⟨vs', h3, h4⟩ := hw
    exact ⟨vs', h3, VRs.back h h2 h4⟩
  | .fn, _, _, hv, hw => by unfold VR at *; exact hw
  | .ag l, _, _, hv, hw => by
    unfold VR at *
    obtain ⟨vs, h1, h2, h3⟩ := hv
    obtain ⟨vs', h4, h5, h6⟩ := hw
    exact ⟨vs', h4, VRs.back h h2 h5, h6⟩
  | .tu l, _, _, hv, hw => by
    unfold VR at *
    obtain ⟨vs, h1, h2⟩ := hv
    obtain ⟨vs', h3, h4⟩ := hw
    exact ⟨vs', h3, VRs.back h h2 h4⟩
  | .u, _, _, _, _ => by unfold VR; exact trivial
theorem VRs.back {φ φ' : Lm} (h : Ext φ φ') : ∀ {ys : List YV} {xs xs' : List Value}, VRs φ ys xs → VRs φ' ys xs' → VRs φ ys xs'
  | [], _, _, hv, hw => by unfold VRs at *; exact hw
  | y :: ys, _, _, hv, hw => by
    unfold VRs at *
    obtain ⟨x, xs, h1, h2, h3⟩ := hv
    obtain ⟨x', xs', h4, h5, h6⟩ := hw
    exact ⟨x', xs', h4, VR.back h h2 h5, VRs.back h h3 h6⟩
end

theorem VRs.len {φ : Lm} : ∀ {ys : List YV} {xs : List Value}, VRs φ ys xs → xs.length = ys.length
  | [], _, h => by unfold VRs at h; subst h; rfl
  | y :: ys, _, h => by
    unfold VRs at h
    obtain ⟨x, xs, rfl, _, h3⟩ := h
    simp [VRs.len h3]

theorem VRs.get {φ : Lm} : ∀ {ys : List YV} {xs : List Value}, VRs φ ys xs → ∀ {i : Nat} {y : YV}, ys[i]? = some y → ∃ x, xs[i]? = some x ∧ VR φ y x
  | [], _, _, i, y, hy => by simp at hy
  | y :: ys, _, h, i, y', hy => by
    unfold VRs at h
    obtain ⟨x, xs, rfl, h2, h3⟩ := h
    cases i with
    | zero => simp at hy; subst hy; exact ⟨x, rfl, h2⟩
    | succ i =>
      obtain ⟨x', h4, h5⟩ := VRs.get h3 (i := i) (by simpa using hy)
      exact ⟨x', by simpa using h4, h5⟩

theorem VRs.of {φ : Lm} : ∀ {ys : List YV} {xs : List Value}, xs.length = ys.length → (∀ (i : Nat) (y : YV), ys[i]? = some y → ∃ x, xs[i]? = some x ∧ VR φ y x) → VRs φ ys xs
  | [], xs, hl, _ => by unfold VRs; simpa using hl
  | y :: ys, [], hl, _ => by simp at hl
  | y :: ys, x :: xs, hl, h => by
    unfold VRs
    obtain ⟨x', h1, h2⟩ := h 0 y rfl
    simp at h1
    subst h1
    exact ⟨x, xs, rfl, h2, VRs.of (by simpa using hl) fun i y hy => by
      obtain ⟨x', h3, h4⟩ := h (i + 1) y (by simpa using hy)
      exact ⟨x', by simpa using h3, h4⟩⟩

theorem VRs.append {φ : Lm} : ∀ {ys ys' : List YV} {xs xs' : List Value}, VRs φ ys xs → VRs φ ys' xs' → VRs φ (ys ++ ys') (xs ++ xs')
  | [], ys', xs, xs', h, h' => by unfold VRs at h; subst h; exact h'
  | y :: ys, ys', _, xs', h, h' => by
    unfold VRs at h
    obtain ⟨x, xs, rfl, h2, h3⟩ := h
    show VRs φ (y :: (ys ++ ys')) (x :: (xs ++ xs'))
    unfold VRs
    exact ⟨x, _, rfl, h2, VRs.append h3 h'⟩

/-- A cell and what it holds. -/
def VC (φ : Lm) (y : YV) (x : Value) : Prop := VR φ y x ∧ one1 y = true

theorem VC.one {φ : Lm} {y : YV} {x : Value} (h : VC φ y x) : oneCell x = true := by
  obtain ⟨h1, h2⟩ := h
  cases y with
  | b _ => unfold VR at h1; subst h1; rfl
  | i _ _ => unfold VR at h1; subst h1; rfl
  | s _ => unfold VR at h1; obtain ⟨rfl, _⟩ := h1; rfl
  | p _ _ => unfold VR at h1; obtain ⟨L, _, rfl⟩ := h1; rfl
  | pn => unfold VR at h1; subst h1; rfl
  | sl _ _ _ _ _ => unfold VR at h1; obtain ⟨L, a, c, _, rfl, _⟩ := h1; rfl
  | sn => unfold VR at h1; subst h1; rfl
  | m _ => unfold VR at h1; obtain ⟨L, _, rfl⟩ := h1; rfl
  | mn => unfold VR at h1; subst h1; rfl
  | f _ _ => unfold VR at h1; obtain ⟨vs, rfl, _⟩ := h1; rfl
  | fn => unfold VR at h1; subst h1; rfl
  | ag _ => cases h2
  | tu _ => cases h2
  | u => cases h2

def EntR (φ : Lm) : List ME → List MapEntry → Prop
  | [], es => es = []
  | e :: r, es => ∃ x xs, es = x :: xs ∧ VC φ e.k x.key ∧ VR φ e.v x.val ∧ x.born = e.n ∧ EntR φ r xs

theorem EntR.ext {φ φ' : Lm} (h : Ext φ φ') : ∀ {ys : List ME} {xs : List MapEntry}, EntR φ ys xs → EntR φ' ys xs
  | [], _, hv => hv
  | y :: ys, _, hv => by
    obtain ⟨x, xs, h1, h2, h3, h4, h5⟩ := hv
    exact ⟨x, xs, h1, ⟨h2.1.ext h, h2.2⟩, h3.ext h, h4, EntR.ext h h5⟩

/-- What lies where a label stands. -/
def BR (φ : Lm) (w : World) (L : Loc) : YB → Prop
  | .c _ _ z zs es t => ∃ arr e fz, w.heap[L.blk]? = some (.cells arr e fz) ∧ (fz.1 = fz.2 ∨ arr.size ≤ fz.1) ∧ arr.size = L.base + L.ext ∧ z ≤ L.ext ∧
      ∀ j, j < z → ∃ y x, cellAt zs es t j = some y ∧ arr[L.base + j]? = some x ∧ VC φ y x
  | .m es c => ∃ ents, w.heap[L.blk]? = some (.map ⟨ents⟩ c) ∧ EntR φ es ents
  | .im ml since seen last => L.base = 0 ∧ ∃ Lm, φ ml = some Lm ∧ w.heap[L.blk]? = some (.mapIter (some Lm.blk) since ⟨seen.reverse⟩ last)
  | .is _ _ => False

def owned : YB → Bool
  | .c _ w .. => w
  | _ => true

structure Ok (w0 : World) (O : Nat → Prop) (B : Nat → Option YB) (φ : Lm) (m : YM) (w : World) : Prop where
  os : w.os = w0.os
  tape : w.tape = w0.tape
  output : w.output = w0.output
  size : w0.heap.size ≤ w.heap.size
  keep : ∀ b, b < w0.heap.size → ¬ O b → w.heap[b]? = w0.heap[b]?
  fresh : ∀ l L, φ l = some L → l < m.n
  lon : m.lo ≤ m.n
  blk : ∀ l b, m.get l = some b → ∃ L, φ l = some L ∧ BR φ w L b ∧ (owned b = true → O L.blk ∨ w0.heap.size ≤ L.blk)
  apart : ∀ l l' b b' L L', l ≠ l' → m.get l = some b → m.get l' = some b' → φ l = some L → φ l' = some L' → L.blk = L'.blk → kinOf b = some l'
  low : ∀ l, l < m.lo → m.get l = B l

theorem BR.lt {φ : Lm} {w : World} {L : Loc} {b : YB} (h : BR φ w L b) : L.blk < w.heap.size := by
  cases b with
  | c _ _ z zs es t => obtain ⟨arr, e, fz, h, _⟩ := h; exact lt_of_some h
  | m es c => obtain ⟨_, h, _⟩ := h; exact lt_of_some h
  | im _ _ _ _ => obtain ⟨_, _, _, h⟩ := h; exact lt_of_some h
  | is _ _ => exact h.elim

theorem BR.same {φ φ' : Lm} {w w' : World} {L : Loc} {b : YB} (h : BR φ w L b) (hx : Ext φ φ') (hw : w'.heap[L.blk]? = w.heap[L.blk]?) : BR φ' w' L b := by
  cases b with
  | c _ _ z zs es t =>
    obtain ⟨arr, e, fz, h1, h2, h3, h4, h5⟩ := h
    exact ⟨arr, e, fz, by rw [hw, h1], h2, h3, h4, fun j hj => by
      obtain ⟨y, x, h6, h7, h8⟩ := h5 j hj
      exact ⟨y, x, h6, h7, h8.1.ext hx, h8.2⟩⟩
  | m es c =>
    obtain ⟨ents, h1, h2⟩ := h
    exact ⟨ents, by rw [hw, h1], h2.ext hx⟩
  | im ml _ _ _ =>
    obtain ⟨h0, Lm, h1, h2⟩ := h
    exact ⟨h0, Lm, hx _ _ h1, by rw [hw, h2]⟩
  | is _ _ => exact h.elim

theorem EntR.back {φ φ' : Lm} (h : Ext φ φ') : ∀ {ys : List ME} {xs xs' : List MapEntry}, EntR φ ys xs → EntR φ' ys xs' → EntR φ ys xs'
  | [], _, _, hv, hw => hw
  | y :: ys, _, _, hv, hw => by
    obtain ⟨x, xs, h1, h2, h3, h4, h5⟩ := hv
    obtain ⟨x', xs', g1, g2, g3, g4, g5⟩ := hw
    exact ⟨x', xs', g1, ⟨VR.back h h2.1 g2.1, g2.2⟩, VR.back h h3 g3, g4, EntR.back h h5 g5⟩

theorem BR.back {φ φ' : Lm} {w w' : World} {L : Loc} {b : YB} (hx : Ext φ φ') (h : BR φ w L b) (h' : BR φ' w' L b) : BR φ w' L b := by
  cases b with
  | c _ _ z zs es t =>
    obtain ⟨arr, e, fz, h1, h2, h3, h4, h5⟩ := h
    obtain ⟨arr', e', fz', g1, g2, g3, g4, g5⟩ := h'
    exact ⟨arr', e', fz', g1, g2, g3, g4, fun j hj => by
      obtain ⟨y, x, h6, h7, h8⟩ := h5 j hj
      obtain ⟨y', x', g6, g7, g8⟩ := g5 j hj
      rw [h6] at g6
      cases g6
      exact ⟨y, x', h6, g7, VR.back hx h8.1 g8.1, g8.2⟩⟩
  | m es c =>
    obtain ⟨ents, h1, h2⟩ := h
    obtain ⟨ents', g1, g2⟩ := h'
    exact ⟨ents', g1, EntR.back hx h2 g2⟩
  | im ml _ _ _ =>
    obtain ⟨h0, Lm, h1, h2⟩ := h
    obtain ⟨g0, Lm', g1, g2⟩ := h'
    rw [hx _ _ h1] at g1
    cases g1
    exact ⟨h0, Lm, h1, g2⟩
  | is _ _ => exact h.elim

/-- What changes no block of the evaluator's. -/
theorem Ok.back {w0 : World} {O : Nat → Prop} {B : Nat → Option YB} {φ φ' : Lm} {m m' : YM} {w w' : World} (h : Ok w0 O B φ m w) (hx : Ext φ φ') (h' : Ok w0 O B φ' m' w') (hg : ∀ l, m'.get l = m.get l) : Ok w0 O B φ m w' :=
  ⟨h'.os, h'.tape, h'.output, h'.size, h'.keep, h.fresh, h.lon, fun l b hb => by
    obtain ⟨L, h1, h2, h3⟩ := h.blk l b hb
    obtain ⟨L', g1, g2, g3⟩ := h'.blk l b (by rw [hg, hb])
    rw [hx _ _ h1] at g1
    cases g1
    exact ⟨L, h1, BR.back hx h2 g2, h3⟩, h.apart, h.low⟩

theorem VR.plain1 {φ φ' : Lm} {y : YV} {x : Value} (hp : Go.Ye.plain1 y = true) (h : VR φ' y x) : VR φ y x := by
  cases y <;> first | (unfold VR at *; exact h) | cases hp

theorem VRs.plain {φ φ' : Lm} : ∀ {l : List YV} {vs : List Value}, (List.rec (motive := fun _ => Bool) true (fun v _ ih => Bool.rec (motive := fun _ => Bool) false ih (Go.Ye.plain1 v)) l : Bool) = true → VRs φ' l vs → VRs φ l vs
  | [], vs, _, h => by unfold VRs at *; exact h
  | v :: l, vs, hp, h => by
    unfold VRs at *
    obtain ⟨x, xs, h3, h4, h5⟩ := h
    cases hv : Go.Ye.plain1 v with
    | false =>
      simp only [hv] at hp
      cases hp
    | true =>
      simp only [hv] at hp
      exact ⟨x, xs, h3, VR.plain1 hv h4, VRs.plain hp h5⟩

theorem VR.plain {φ φ' : Lm} {y : YV} {x : Value} (hp : plainV y = true) (h : VR φ' y x) : VR φ y x := by
  cases y with
  | tu l =>
    unfold VR at *
    obtain ⟨vs, h1, h2⟩ := h
    exact ⟨vs, h1, VRs.plain hp h2⟩
  | _ => exact VR.plain1 hp h

/-- A cell that is known. -/
theorem cells_at {φ : Lm} {z : Nat} {zs : List YV} {es : Nat} {t : T YV} {arr : Array Value} {b : Nat} (g : ∀ j, j < z → ∃ y x, cellAt zs es t j = some y ∧ arr[b + j]? = some x ∧ VC φ y x) (j : Nat) (y : YV) (hj : j < z)
    (hy : cellAt zs es t j = some y) : ∃ x, arr[b + j]? = some x ∧ VC φ y x := by
  obtain ⟨y', x, h1, h2, h3⟩ := g j hj
  rw [hy] at h1
  cases h1
  exact ⟨x, h2, h3⟩

end Go.Ye

/- Ye, part E: memory is read and changed. -/
namespace Go.Ye
open Go.Sx
set_option linter.unusedVariables false
set_option linter.constructorNameAsVariable false
set_option linter.unusedSimpArgs false

section
variable {P : Program} {w0 : World} {O : Nat → Prop} {B : Nat → Option YB} {φ : Lm} {m : YM} {w : World} {r : YV}

/-! ### reading -/

theorem cell_at {arr : Array Value} {e : TypeId} {fz : Nat × Nat} {b k : Nat} (h : w.heap[b]? = some (.cells arr e fz)) : w.cell? ⟨b, k, none⟩ = arr[k]? := by
  simp [World.cell?, h]

theorem load1K_ok (hok : Ok w0 O B φ m w) {l o : Nat} {K : YV → R} (h : m.load1K l o K = .ok r) {L : Loc} (hL : φ l = some L) :
    ∃ y x, w.cell? ⟨L.blk, L.base + o, none⟩ = some x ∧ VC φ y x ∧ K y = .ok r := by
  obtain ⟨b, h1, h2⟩ := YM.getK_ok h
  obtain ⟨L', h3, h4, -⟩ := hok.blk l b h1
  rw [hL] at h3
  cases h3
  cases b with
  | c kin wr z zs es t =>
    obtain ⟨hz, y, h5, h6⟩ := cellK_ok h2
    obtain ⟨arr, e, fz, g1, g2, g3, g4, g5'⟩ := h4
    have g5 := cells_at g5'
    obtain ⟨x, h7, h8⟩ := g5 o y hz h5
    exact ⟨y, x, by rw [cell_at g1, h7], h8, h6⟩
  | m _ _ => cases h2
  | im _ _ _ _ => cases h2
  | is _ _ => cases h2

theorem loadK_ok (hok : Ok w0 O B φ m w) {l o n : Nat} {K : List YV → R} (h : m.loadK l o n K = .ok r) {L : Loc} (hL : φ l = some L) :
    ∃ ys xs, xs.length = n ∧ (∀ j, j < n → w.cell? ⟨L.blk, L.base + o + j, none⟩ = xs[j]?) ∧ VRs φ ys xs ∧ (∀ y ∈ ys, one1 y = true) ∧ K ys = .ok r := by
  obtain ⟨b, h1, h2⟩ := YM.getK_ok h
  obtain ⟨L', h3, h4, -⟩ := hok.blk l b h1
  rw [hL] at h3
  cases h3
  cases b with
  | c kin wr z zs es t =>
    obtain ⟨ys, hlen, h5, h6⟩ := cellsK_ok h2
    obtain ⟨arr, e, fz, g1, g2, g3, g4, g5'⟩ := h4
    have g5 := cells_at g5'
    have hx : ∀ j, j < n → ∃ y x, ys[j]? = some y ∧ arr[L.base + o + j]? = some x ∧ VC φ y x := fun j hj => by
      obtain ⟨hz, hc⟩ := h5 j hj
      have hy : ys[j]? = some ys[j] := List.getElem?_eq_getElem (by omega)
      rw [hy] at hc
      obtain ⟨x, h7, h8⟩ := g5 (o + j) _ hz hc
      exact ⟨_, x, hy, by rw [Nat.add_assoc]; exact h7, h8⟩
    refine ⟨ys, (List.range n).map fun j => (arr[L.base + o + j]?).getD undef, by simp, fun j hj => ?_, VRs.of (by simp [hlen]) fun i y hy => ?_, fun y hy => ?_, h6⟩
    · obtain ⟨y, x, _, h8, _⟩ := hx j hj
      rw [cell_at g1, h8, List.getElem?_map, List.getElem?_range hj]
      simp [h8]
    · have hi : i < n := by
        have := (List.getElem?_eq_some_iff.1 hy).1
        omega
      obtain ⟨y', x, h7, h8, h9⟩ := hx i hi
      rw [hy] at h7
      cases h7
      exact ⟨x, by rw [List.getElem?_map, List.getElem?_range hi]; simp [h8], h9.1⟩
    · obtain ⟨i, hi, rfl⟩ := List.mem_iff_getElem.1 hy
      obtain ⟨y', x, h7, h8, h9⟩ := hx i (by omega)
      rw [List.getElem?_eq_getElem hi] at h7
      cases h7
      exact h9.2
  | m _ _ => cases h2
  | im _ _ _ _ => cases h2
  | is _ _ => cases h2

/-! ### changing -/

theorem Ok.change (hok : Ok w0 O B φ m w) {φ' : Lm} {m' : YM} {w' : World} {Ch New : Nat → Prop} (os : w'.os = w.os) (tape : w'.tape = w.tape) (output : w'.output = w.output)
    (size : w.heap.size ≤ w'.heap.size) (same : ∀ b, b < w.heap.size → ¬ Ch b → w'.heap[b]? = w.heap[b]?) (own : ∀ b, Ch b → O b ∨ w0.heap.size ≤ b) (ext : Ext φ φ')
    (fresh : ∀ l L, φ' l = some L → l < m'.n) (lo : m'.lo = m.lo) (n : m.n ≤ m'.n)
    (old : ∀ l b, m'.get l = some b → ¬ New l → m.get l = some b ∧ ∀ L, φ l = some L → ¬ Ch L.blk)
    (new : ∀ l b, m'.get l = some b → New l → ∃ L, φ' l = some L ∧ BR φ' w' L b ∧ (owned b = true → O L.blk ∨ w0.heap.size ≤ L.blk))
    (apart : ∀ l l' b b' L L', New l → l ≠ l' → m'.get l = some b → m'.get l' = some b' → φ' l = some L → φ' l' = some L' → L.blk = L'.blk → kinOf b = some l' ∧ kinOf b' = some l)
    (low : ∀ l, l < m.lo → m'.get l = m.get l) : Ok w0 O B φ' m' w' := by
  have hold : ∀ l b, m'.get l = some b → ¬ New l → ∃ L, φ l = some L ∧ φ' l = some L ∧ BR φ' w' L b ∧ (owned b = true → O L.blk ∨ w0.heap.size ≤ L.blk) := fun l b hb hn => by
    obtain ⟨h1, h2⟩ := old l b hb hn
    obtain ⟨L, h3, h4, h5⟩ := hok.blk l b h1
    exact ⟨L, h3, ext _ _ h3, h4.same ext (same _ h4.lt (h2 L h3)), h5⟩
  refine ⟨os.trans hok.os, tape.trans hok.tape, output.trans hok.output, Nat.le_trans hok.size size, fun b hb ho => ?_, fresh, by rw [lo]; exact Nat.le_trans hok.lon n, fun l b hb => ?_, fun l l' b b' L L' hne hb hb' hL hL' he => ?_, fun l hl => ?_⟩
  · have hc : ¬ Ch b := fun hc => (own b hc).elim ho (by omega)
    rw [same b (Nat.lt_of_lt_of_le hb hok.size) hc, hok.keep b hb ho]
  · by_cases hn : New l
    · exact new l b hb hn
    · obtain ⟨L, _, h2, h3, h4⟩ := hold l b hb hn
      exact ⟨L, h2, h3, h4⟩
  · by_cases hn : New l
    · exact (apart l l' b b' L L' hn hne hb hb' hL hL' he).1
    · by_cases hn' : New l'
      · exact (apart l' l b' b L' L hn' hne.symm hb' hb hL' hL he.symm).2
      · obtain ⟨M, h1, h2, _⟩ := hold l b hb hn
        obtain ⟨M', h1', h2', _⟩ := hold l' b' hb' hn'
        rw [hL] at h2
        cases h2
        rw [hL'] at h2'
        cases h2'
        exact hok.apart l l' b b' L L' hne (old l b hb hn).1 (old l' b' hb' hn').1 h1 h1' he
  · rw [low l (by rw [← lo]; exact hl)]
    exact hok.low l (by rw [← lo]; exact hl)

def upd (φ : Lm) (l : Nat) (L : Loc) : Lm := fun j => if j = l then some L else φ j

theorem upd_self (φ : Lm) (l : Nat) (L : Loc) : upd φ l L l = some L := by simp [upd]

theorem Ok.ext_upd (hok : Ok w0 O B φ m w) (L : Loc) : Ext φ (upd φ m.n L) := fun l M h => by
  have := hok.fresh l M h
  unfold upd
  rw [if_neg (by omega)]
  exact h

theorem push_same {w : World} {o : Obj} {b : Nat} (hb : b < w.heap.size) : ({ w with heap := w.heap.push o } : World).heap[b]? = w.heap[b]? := by
  simp [Array.getElem?_push, Nat.ne_of_lt hb]

theorem push_new {w : World} {o : Obj} : ({ w with heap := w.heap.push o } : World).heap[w.heap.size]? = some o := by simp

/-- A new block. -/
theorem Ok.new (hok : Ok w0 O B φ m w) {m' : YM} {b : YB} {o : Obj} {L : Loc} (hn : m'.n = m.n + 1) (hlo : m'.lo = m.lo) (hg : ∀ j, m'.get j = if j = m.n then some b else m.get j)
    (hL : L.blk = w.heap.size) (hb : BR (upd φ m.n L) { w with heap := w.heap.push o } L b) : Ok w0 O B (upd φ m.n L) m' { w with heap := w.heap.push o } := by
  have hget : ∀ l c, m'.get l = some c → ¬ l = m.n → m.get l = some c := fun l c hc hne => by
    rw [hg, if_neg hne] at hc
    exact hc
  refine hok.change (Ch := fun _ => False) (New := fun l => l = m.n) rfl rfl rfl (by simp) (fun k hk _ => push_same hk) (fun _ h => h.elim) (hok.ext_upd L) (fun l M h => ?_) hlo (by omega)
    (fun l c hc hne => ⟨hget l c hc hne, fun _ _ h => h⟩) (fun l c hc he => ?_) (fun l l' c c' M M' he hne hc hc' hM hM' hbl => ?_) (fun l hl => ?_)
  · unfold upd at h
    split at h
    · omega
    · have := hok.fresh l M h
      omega
  · subst he
    rw [hg, if_pos rfl] at hc
    cases hc
    exact ⟨L, upd_self .., hb, fun _ => .inr (by rw [hL]; exact hok.size)⟩
  · subst he
    rw [upd_self] at hM
    cases hM
    have h1 := hget l' c' hc' hne.symm
    obtain ⟨N, h2, h3, _⟩ := hok.blk l' c' h1
    have h4 := (hok.ext_upd L) l' N h2
    rw [hM'] at h4
    cases h4
    have := h3.lt
    omega
  · have := hok.lon
    rw [hg, if_neg (by omega)]

/-! ### writing cells -/

theorem frozen_not {arr : Array Value} {e : TypeId} {fz : Nat × Nat} {b k : Nat} (h : w.heap[b]? = some (.cells arr e fz)) (hf : fz.1 = fz.2 ∨ arr.size ≤ fz.1) (hk : k < arr.size) : w.frozen? ⟨b, k, none⟩ = false := by
  simp only [World.frozen?, h]
  obtain ⟨lo, hi⟩ := fz
  simp only at hf
  simp only [Bool.and_eq_false_iff, decide_eq_false_iff_not]
  omega

theorem run_storeCells' {b o : Nat} : ∀ (l : List Value) (i : Nat) (w : World) (arr : Array Value) (e : TypeId) (fz : Nat × Nat), w.heap[b]? = some (.cells arr e fz) → (fz.1 = fz.2 ∨ arr.size ≤ fz.1) → (∀ v ∈ l, oneCell v = true) →
    o + i + l.length ≤ arr.size → ∃ w', (storeCells ⟨b, o, none⟩ l i).run P w = .ok () w' ∧ w'.os = w.os ∧ w'.tape = w.tape ∧ w'.output = w.output ∧ w'.heap.size = w.heap.size ∧
      (∀ k, k ≠ b → w'.heap[k]? = w.heap[k]?) ∧ ∃ arr', w'.heap[b]? = some (.cells arr' e fz) ∧ arr'.size = arr.size ∧
      ∀ j, arr'[j]? = if o + i ≤ j ∧ j < o + i + l.length then l[j - (o + i)]? else arr[j]?
  | [], i, w, arr, e, fz, h, _, _, _ => ⟨w, rfl, rfl, rfl, rfl, rfl, fun _ _ => rfl, arr, h, rfl, fun j => by rw [if_neg (by simp only [List.length_nil]; omega)]⟩
  | v :: l, i, w, arr, e, fz, h, hfr, ho, hs => by
    simp only [List.length_cons] at hs
    obtain ⟨u, hu⟩ := some_of_lt (a := arr) (i := o + i) (by omega)
    have hc : w.cell? ⟨b, o + i, none⟩ = some u := by simp [World.cell?, h, hu]
    have hfz : w.frozen? ⟨b, o + i, none⟩ = false := frozen_not h hfr (by omega)
    have h1 : (w.setCell ⟨b, o + i, none⟩ v).heap[b]? = some (.cells (arr.setIfInBounds (o + i) v) e fz) := by
      simp [World.setCell, Array.getElem?_modify, h]
    obtain ⟨w', g1, g2, g3, g4, g5, g6, arr', g7, g8, g9⟩ := run_storeCells' (b := b) (o := o) l (i + 1) (w.setCell ⟨b, o + i, none⟩ v) (arr.setIfInBounds (o + i) v) e fz h1 (by simpa using hfr) (fun x hx => ho x (List.mem_cons_of_mem _ hx)) (by simp; omega)
    refine ⟨w', ?_, g2, g3, g4, ?_, ?_, arr', g7, ?_, ?_⟩
    · unfold storeCells
      rw [Addr.add_none, run_bind_ok (run_store_cell hc hfz (ho v (List.mem_cons_self ..)))]
      exact g1
    · rw [g5]; simp [World.setCell]
    · intro k hk
      rw [g6 k hk]
      simp [World.setCell, Array.getElem?_modify, Ne.symm hk]
    · rw [g8]; simp
    · intro j
      rw [g9 j]
      by_cases hj : o + i = j
      · subst hj
        rw [if_neg (by omega), if_pos ⟨by omega, by simp⟩, Array.getElem?_setIfInBounds_self_of_lt (by omega)]
        simp
      · rw [Array.getElem?_setIfInBounds_ne hj]
        by_cases hin : o + (i + 1) ≤ j ∧ j < o + (i + 1) + l.length
        · rw [if_pos hin, if_pos ⟨by omega, by simp; omega⟩]
          rw [show j - (o + i) = (j - (o + (i + 1))) + 1 from by omega]
          simp
        · rw [if_neg hin, if_neg (by simp; omega)]

theorem killK_ok {kin : Option Nat} {K : YM → R} (h : m.killK kin K = .ok r) :
    ∃ m', K m' = .ok r ∧ m'.n = m.n ∧ m'.lo = m.lo ∧ (∀ j, kin = some j → m.lo ≤ j) ∧ ∀ j, m'.get j = if kin = some j then none else m.get j := by
  cases kin with
  | none => exact ⟨m, h, rfl, rfl, fun j hj => (by cases hj), fun j => (by rw [if_neg (by simp)])⟩
  | some k =>
    obtain ⟨m', h1, h2, h3, h4, h5⟩ := YM.delK_ok h
    refine ⟨m', h1, h2, h3, fun j hj => (by cases hj; exact h4), fun j => ?_⟩
    rw [h5]
    by_cases hj : j = k
    · subst hj; simp
    · rw [if_neg hj, if_neg (fun e => hj (by cases e; rfl))]

theorem VRs.one {φ : Lm} {ys : List YV} {xs : List Value} (h : VRs φ ys xs) (h1 : ∀ y ∈ ys, one1 y = true) : ∀ x ∈ xs, oneCell x = true := fun x hx => by
  obtain ⟨i, hi, rfl⟩ := List.mem_iff_getElem.1 hx
  have hl := h.len
  obtain ⟨x', h2, h3⟩ := h.get (i := i) (List.getElem?_eq_getElem (by omega))
  rw [List.getElem?_eq_getElem hi] at h2
  cases h2
  exact VC.one ⟨h3, h1 _ (List.getElem_mem _)⟩

/-- Cells are written. -/
theorem storeK_ok (hok : Ok w0 O B φ m w) {l o : Nat} {vs : List YV} {K : YM → R} (h : m.storeK l o vs K = .ok r) {L : Loc} (hL : φ l = some L) {xs : List Value} (hv : VRs φ vs xs)
    (h1 : ∀ y ∈ vs, one1 y = true) : ∃ m' w', (storeCells ⟨L.blk, L.base + o, none⟩ xs).run P w = .ok () w' ∧ Ok w0 O B φ m' w' ∧ K m' = .ok r := by
  obtain ⟨b, hb, h2⟩ := YM.getK_ok h
  obtain ⟨L', h3, h4, h5⟩ := hok.blk l b hb
  rw [hL] at h3
  cases h3
  cases b with
  | m _ _ => cases h2
  | im _ _ _ _ => cases h2
  | is _ _ => cases h2
  | c kin wr z zs es t =>
    cases wr with
    | false => cases h2
    | true =>
      simp only [natK_eq] at h2
      have hle : Nat.ble (Nat.add o vs.length) z = true := by
        cases hle : Nat.ble (Nat.add o vs.length) z with
        | false => rw [hle] at h2; cases h2
        | true => rfl
      rw [hle] at h2
      simp only at h2
      have hle := Nat.le_of_ble_eq_true hle
      have hle : o + vs.length ≤ z := hle
      obtain ⟨m1, h6, h7, h8, h9, h10⟩ := killK_ok h2
      obtain ⟨t', h11, h12⟩ := putsK_ok h6
      obtain ⟨m2, h13, h14, h15, h16, h17⟩ := YM.setK_ok h11
      obtain ⟨arr, e, fz, g1, g2, g3, g4, g5'⟩ := h4
      have g5 := cells_at g5'
      have hlen := hv.len
      obtain ⟨w', k1, k2, k3, k4, k5, k6, arr', k7, k8, k9⟩ := run_storeCells' (P := P) (b := L.blk) (o := L.base + o) xs 0 w arr e fz g1 g2 (hv.one h1) (by omega)
      refine ⟨m2, w', k1, ?_, h13⟩
      have hget : ∀ j, m2.get j = if j = l then some (.c none true z zs es t') else if kin = some j then none else m.get j := fun j => by rw [h17, h10]
      refine hok.change (Ch := fun b => b = L.blk) (New := fun j => j = l) k2 k3 k4 (by omega) (fun b hb hn => k6 b hn) (fun b hb => by subst hb; exact h5 rfl) (Ext.refl φ)
        (fun j M hM => by rw [h14, h7]; exact hok.fresh j M hM) (by rw [h15, h8]) (by omega) (fun j c hc hn => ?_) (fun j c hc hj => ?_) (fun j j' c c' M M' hj hne hc hc' hM hM' he => ?_) (fun j hj => ?_)
      · rw [hget, if_neg hn] at hc
        split at hc
        · cases hc
        · rename_i hk
          refine ⟨hc, fun M hM he => ?_⟩
          exact hk (hok.apart l j _ c L M (fun e => hn e.symm) hb hc hL hM he.symm)
      · subst hj
        rw [hget, if_pos rfl] at hc
        cases hc
        refine ⟨L, hL, ⟨arr', e, fz, k7, by rw [k8]; exact g2, by rw [k8]; exact g3, g4, fun i hi => ?_⟩, fun _ => h5 rfl⟩
        rw [k9]
        unfold cellAt
        rw [h12]
        by_cases hin : o ≤ i ∧ i < o + vs.length
        · rw [if_pos hin, if_pos ⟨by omega, by omega⟩]
          have hvi : vs[i - o]? = some vs[i - o] := List.getElem?_eq_getElem (by omega)
          obtain ⟨x, hx1, hx2⟩ := hv.get hvi
          refine ⟨_, x, by rw [hvi], ?_, hx2, h1 _ (List.mem_of_getElem? hvi)⟩
          rw [show L.base + i - (L.base + o + 0) = i - o from by omega]
          exact hx1
        · rw [if_neg hin, if_neg (by omega)]
          exact g5' i hi
      · exfalso
        subst hj
        rw [hget, if_neg hne.symm] at hc'
        split at hc'
        · cases hc'
        · rename_i hk
          rw [hL] at hM
          cases hM
          exact hk (hok.apart j j' _ c' L M' hne hb hc' hL hM' he)
      · rw [hget, if_neg (by omega)]
        split
        · rename_i hk
          have := h9 j hk
          omega
        · rfl

end
end Go.Ye

/- Ye, part F: operations that compute. -/
namespace Go.Ye
open Go.Sx
set_option linter.unusedVariables false
set_option linter.constructorNameAsVariable false
set_option linter.unusedSimpArgs false

/-- What the evaluator finds for an operand is what the operand is. -/
def EvOk (φ : Lm) (ev : Ev) (xOf : Operand → Option X) (ρ : Operand → Value) : Prop :=
  ∀ (x : X) (K : YV → R) (r : YV), ev x K = .ok r → ∃ v, K v = .ok r ∧ ∀ xo, xOf xo = some x → VR φ v (ρ xo)

/-- The evaluator goes on with a value that stands for v, at a memory that stands for w. -/
def Post (w0 : World) (O : Nat → Prop) (B : Nat → Option YB) (φ : Lm) (K : YV → YM → R) (r : YV) (v : Value) (w : World) : Prop :=
  ∃ φ' y m', Ext φ φ' ∧ Ok w0 O B φ' m' w ∧ VR φ' y v ∧ K y m' = .ok r

section
variable {P : Program} {w0 : World} {O : Nat → Prop} {B : Nat → Option YB} {φ : Lm} {m : YM} {w : World} {r : YV} {ev : Ev} {xOf : Operand → Option X} {ρ : Operand → Value} {K : YV → YM → R}

theorem Post.here (hok : Ok w0 O B φ m w) {y : YV} {v : Value} (hv : VR φ y v) (h : K y m = .ok r) : Post w0 O B φ K r v w := ⟨φ, y, m, Ext.refl φ, hok, hv, h⟩

theorem EvOk.get (he : EvOk φ ev xOf ρ) {x : X} {xo : Operand} (hx : xOf xo = some x) {K : YV → R} (h : ev x K = .ok r) : ∃ y, VR φ y (ρ xo) ∧ K y = .ok r := by
  obtain ⟨v, h1, h2⟩ := he x K r h
  exact ⟨v, h2 xo hx, h1⟩

theorem EvOk.gets (he : EvOk φ ev xOf ρ) : ∀ {xs : List X} {xos : List Operand}, xos.mapM xOf = some xs → ∀ {K : List YV → R}, evsK ev xs K = .ok r → ∃ ys, VRs φ ys (xos.map ρ) ∧ K ys = .ok r
  | xs, [], hx, K, h => by
    simp at hx
    subst hx
    exact ⟨[], by unfold VRs; rfl, h⟩
  | xs, xo :: xos, hx, K, h => by
    rw [List.mapM_cons] at hx
    simp only [Option.bind_eq_bind, Option.bind_eq_some_iff, Option.pure_def, Option.some.injEq] at hx
    obtain ⟨x, hx1, xs', hx2, rfl⟩ := hx
    obtain ⟨y, h1, h2⟩ := he.get hx1 h
    obtain ⟨ys, h3, h4⟩ := EvOk.gets he hx2 h2
    exact ⟨y :: ys, by unfold VRs; exact ⟨_, _, rfl, h1, h3⟩, h4⟩

theorem EvOk.geto (he : EvOk φ ev xOf ρ) {x : Option X} {xo : Option Operand} (hx : xoOf xOf xo = some x) {K : Option YV → R} (h : evoK ev x K = .ok r) :
    (xo = none ∧ K none = .ok r) ∨ ∃ o y, xo = some o ∧ VR φ y (ρ o) ∧ K (some y) = .ok r := by
  cases xo with
  | none =>
    simp only [xoOf] at hx
    cases hx
    exact .inl ⟨rfl, h⟩
  | some o =>
    simp only [xoOf, Option.map_eq_some_iff] at hx
    obtain ⟨x', hx1, rfl⟩ := hx
    obtain ⟨y, h1, h2⟩ := he.get hx1 h
    exact .inr ⟨o, y, rfl, h1, h2⟩

/-! ### what a value must be -/

theorem mN {u : YV} {s : String} {K : Nat → R} (h : (match u with
    | .i _ (.ofNat k) => K k
    | _ => R.no s) = .ok r) : ∃ j k, u = .i j (.ofNat k) ∧ K k = .ok r := by
  cases u with
  | i j n => cases n with
    | ofNat k => exact ⟨j, k, rfl, h⟩
    | negSucc k => cases h
  | _ => cases h

theorem mS {u : YV} {s : String} {K : List Nat → R} (h : (match u with
    | .s l => K l
    | _ => R.no s) = .ok r) : ∃ l, u = .s l ∧ K l = .ok r := by
  cases u with
  | s l => exact ⟨l, rfl, h⟩
  | _ => cases h

theorem mAg {u : YV} {s : String} {K : List YV → R} (h : (match u with
    | .ag l => K l
    | _ => R.no s) = .ok r) : ∃ l, u = .ag l ∧ K l = .ok r := by
  cases u with
  | ag l => exact ⟨l, rfl, h⟩
  | _ => cases h

theorem mP {u : YV} {s : String} {K : Nat → Nat → R} (h : (match u with
    | .p l o => K l o
    | _ => R.no s) = .ok r) : ∃ l o, u = .p l o ∧ K l o = .ok r := by
  cases u with
  | p l o => exact ⟨l, o, rfl, h⟩
  | _ => cases h

theorem mSl {u : YV} {s : String} {K : Nat → Nat → Nat → Option Nat → Nat → R} (h : (match u with
    | .sl l o n e z => K l o n e z
    | _ => R.no s) = .ok r) : ∃ l o n e z, u = .sl l o n e z ∧ K l o n e z = .ok r := by
  cases u with
  | sl l o n e z => exact ⟨l, o, n, e, z, rfl, h⟩
  | _ => cases h

theorem mLt {k n : Nat} {s : String} {A : R} (h : (match Nat.blt k n with
    | true => A
    | false => R.no s) = .ok r) : k < n ∧ A = .ok r := by
  cases hb : Nat.blt k n with
  | false => rw [hb] at h; cases h
  | true => rw [hb] at h; exact ⟨Nat.le_of_ble_eq_true hb, h⟩

theorem mLe {k n : Nat} {s : String} {A : R} (h : (match Nat.ble k n with
    | true => A
    | false => R.no s) = .ok r) : k ≤ n ∧ A = .ok r := by
  cases hb : Nat.ble k n with
  | false => rw [hb] at h; cases h
  | true => rw [hb] at h; exact ⟨Nat.le_of_ble_eq_true hb, h⟩

/-! ### numbers, strings, truths -/

theorem kindIs_eq {k j : IntKind} (h : kindIs k j = true) : k = j := by
  cases k <;> cases j <;> first | rfl | cases h

theorem intOpK_ok {op : BinOp} {k : IntKind} {a b : Int} {K : YV → R} (h : intOpK op k a b K = .ok r) (hs : isShift op = false) :
    ∃ y v, (∀ t w, (binOp op t (.int k a) (.int k b)).run P w = .ok v w) ∧ (∀ φ, VR φ y v) ∧ K y = .ok r := by
  cases op <;> simp only [intOpK, retI, retB, intK_eq, boolK_eq] at h <;> first
    | (cases h; done)
    | (cases hs; done)
    | exact ⟨_, _, fun t w => by simp only [binOp, ne_eq, not_true_eq_false, if_false]; rfl, fun φ => by unfold VR; rfl, h⟩
    | (split at h
       · cases h
       · rename_i hb
         have hb' : ¬ b = 0 := by simpa using hb
         exact ⟨_, _, fun t w => by simp [binOp, Op.intDiv, hb', run_pure]; rfl, fun φ => by unfold VR; rfl, h⟩)

theorem shiftK_ok {op : BinOp} {k j : IntKind} {a b : Int} {K : YV → R} (h : shiftK op k a b K = .ok r) (hs : isShift op = true) :
    ∃ y v, (∀ t w, (binOp op t (.int k a) (.int j b)).run P w = .ok v w) ∧ (∀ φ, VR φ y v) ∧ K y = .ok r := by
  cases b with
  | negSucc n => cases h
  | ofNat n =>
    have hn : ¬ ((n : Int) < 0) := by omega
    cases op <;> simp only [shiftK, retI, intK_eq] at h <;> first
      | (cases h; done)
      | exact ⟨_, _, fun t w => by simp [binOp, Op.shift, hn, run_pure]; rfl, fun φ => by unfold VR; rfl, h⟩

theorem str_size (l : List Nat) : (str l).size = l.length := by simp [str, ByteArray.size]

theorem str_data (l : List Nat) : (str l).data.toList = l.map UInt8.ofNat := by simp [str]

theorem bytes_toList (b : ByteArray) : b.toList = b.data.toList := by
  rw [ByteArray.toList]
  have hsz : b.data.toList.length = b.size := Array.length_toList
  have key : ∀ (n i : Nat) (acc : List UInt8), b.size - i = n → ByteArray.toList.loop b i acc = acc.reverse ++ b.data.toList.drop i := by
    intro n
    induction n with
    | zero =>
      intro i acc hn
      rw [ByteArray.toList.loop]
      rw [if_neg (by omega)]
      rw [List.drop_eq_nil_of_le (by rw [hsz]; omega)]
      simp
    | succ n ih =>
      intro i acc hn
      rw [ByteArray.toList.loop]
      rw [if_pos (by omega), ih (i + 1) _ (by omega)]
      have hi : i < b.data.toList.length := by rw [hsz]; omega
      rw [List.drop_eq_getElem_cons hi]
      have : b.get! i = b.data.toList[i] := by
        have hi' : i < b.data.size := by simpa using hi
        show b.data[i]! = _
        rw [getElem!_pos b.data i hi']
        simp
      simp [this]
  simpa using key b.size 0 [] (by omega)

theorem str_toList (l : List Nat) : (str l).toList = l.map UInt8.ofNat := by rw [bytes_toList, str_data]

theorem ofNat_inj {a b : Nat} (ha : a < 256) (hb : b < 256) (h : UInt8.ofNat a = UInt8.ofNat b) : a = b := by
  have := congrArg UInt8.toNat h
  simpa [UInt8.toNat_ofNat, Nat.mod_eq_of_lt ha, Nat.mod_eq_of_lt hb] using this

theorem eqList_iff : ∀ {a b : List Nat}, eqList a b = true ↔ a = b
  | [], [] => by simp [eqList]
  | [], _ :: _ => by simp [eqList]
  | _ :: _, [] => by simp [eqList]
  | x :: a, y :: b => by
    simp only [eqList]
    cases h : Nat.beq x y with
    | true =>
      have := Nat.eq_of_beq_eq_true h
      subst this
      simp [eqList_iff]
    | false =>
      have : x ≠ y := fun e => by subst e; rw [Nat.beq_refl] at h; cases h
      simp [this]

theorem map_inj {a b : List Nat} (ha : ∀ c ∈ a, c < 256) (hb : ∀ c ∈ b, c < 256) (h : a.map UInt8.ofNat = b.map UInt8.ofNat) : a = b := by
  induction a generalizing b with
  | nil => cases b <;> simp_all
  | cons x a ih =>
    cases b with
    | nil => simp at h
    | cons y b =>
      simp only [List.map_cons, List.cons.injEq] at h
      rw [ofNat_inj (ha x (by simp)) (hb y (by simp)) h.1, ih (fun c hc => ha c (by simp [hc])) (fun c hc => hb c (by simp [hc])) h.2]

theorem eqList_beq {a b : List Nat} (ha : ∀ c ∈ a, c < 256) (hb : ∀ c ∈ b, c < 256) : ((str a).toList == (str b).toList) = eqList a b := by
  rw [str_toList, str_toList]
  by_cases h : a = b
  · subst h
    rw [eqList_iff.2 rfl]
    simp
  · have h1 : eqList a b = false := by
      cases he : eqList a b with
      | true => exact absurd (eqList_iff.1 he) h
      | false => rfl
    rw [h1]
    exact beq_eq_false_iff_ne.2 fun e => h (map_inj ha hb e)

theorem ltList_eq {a b : List Nat} (ha : ∀ c ∈ a, c < 256) (hb : ∀ c ∈ b, c < 256) : Op.bytesLess (str a).toList (str b).toList = ltList a b := by
  rw [str_toList, str_toList]
  induction a generalizing b with
  | nil => cases b <;> simp [ltList, Op.bytesLess]
  | cons x a ih =>
    cases b with
    | nil => simp [ltList, Op.bytesLess]
    | cons y b =>
      have hx := ha x (by simp)
      have hy := hb y (by simp)
      have ih := ih (b := b) (fun c hc => ha c (by simp [hc])) (fun c hc => hb c (by simp [hc]))
      simp only [List.map_cons, Op.bytesLess, ltList, ih]
      have hlt : decide (UInt8.ofNat x < UInt8.ofNat y) = Nat.blt x y := by
        have : (UInt8.ofNat x < UInt8.ofNat y) ↔ x < y := by
          rw [UInt8.lt_iff_toNat_lt]
          simp [UInt8.toNat_ofNat, Nat.mod_eq_of_lt hx, Nat.mod_eq_of_lt hy]
        rw [decide_eq_decide.2 this]
        cases h : Nat.blt x y with
        | true =>
          have := Nat.le_of_ble_eq_true h
          exact decide_eq_true (by omega)
        | false =>
          refine decide_eq_false fun hh => ?_
          rw [show Nat.blt x y = true from Nat.ble_eq_true_of_le hh] at h
          cases h
      have heq : (UInt8.ofNat x == UInt8.ofNat y) = Nat.beq x y := by
        cases h : Nat.beq x y with
        | true => rw [Nat.eq_of_beq_eq_true h]; simp
        | false =>
          refine beq_eq_false_iff_ne.2 fun e => ?_
          have := ofNat_inj hx hy e
          subst this
          rw [Nat.beq_refl] at h
          cases h
      rw [hlt, heq]
      cases Nat.blt x y <;> cases Nat.beq x y <;> simp

theorem lenL_eq : ∀ (l : List Nat) (n : Nat) (K : Nat → R), lenL l n K = K (n + l.length)
  | [], n, K => rfl
  | _ :: l, n, K => by
    rw [lenL, lenL_eq l]
    congr 1
    simp
    omega

theorem appList_eq : ∀ (a b : List Nat), appList a b = a ++ b
  | [], b => rfl
  | x :: a, b => by rw [appList, appList_eq a b]; rfl

theorem str_append (a b : List Nat) : str a ++ str b = str (a ++ b) := by
  apply ByteArray.ext
  rw [ByteArray.data_append]
  apply Array.toList_inj.1
  simp [str]

theorem strOpK_ok {op : BinOp} {a b : List Nat} {K : YV → R} (h : strOpK op a b K = .ok r) (ha : ∀ c ∈ a, c < 256) (hb : ∀ c ∈ b, c < 256) :
    ∃ y v, (∀ t w, (binOp op t (.string (str a)) (.string (str b))).run P w = .ok v w) ∧ (∀ φ, VR φ y v) ∧ K y = .ok r := by
  have he := eqList_beq ha hb
  have hl := ltList_eq ha hb
  cases op <;> simp only [strOpK, retB, boolK_eq, lenL_eq] at h <;> first
    | (cases h; done)
    | exact ⟨_, _, fun t w => by simp only [binOp, Op.stringOp, he, hl]; rfl, fun φ => by unfold VR; rfl, h⟩
    | (rcases IF_ok h with ⟨hn, h⟩ | ⟨_, h⟩
       · have hn := Nat.le_of_ble_eq_true hn
         have hn : (0 + a.length) + (0 + b.length) ≤ 1000000 := hn
         refine ⟨_, .string (str (a ++ b)), fun t w => ?_, fun φ => ?_, h⟩
         · have hsz : ¬ ((((str a).size + (str b).size : Nat) : Int) > IntKind.i64.max) := by
             rw [str_size, str_size]
             have : IntKind.i64.max = 9223372036854775807 := by decide
             rw [this]
             omega
           simp only [binOp, Op.stringOp]
           rw [if_neg hsz, str_append]
           rfl
         · unfold VR
           rw [appList_eq]
           exact ⟨rfl, fun c hc => (List.mem_append.1 hc).elim (ha c) (hb c)⟩
       · cases h)

theorem eqGuard_str (op : BinOp) (t : TypeId) (x y : Operand) (a b : ByteArray) (w : World) : (eqGuard op t x y (.string a) (.string b)).run P w = .ok () w := by
  unfold eqGuard
  cases op <;> rfl

theorem binK_ok {op : BinOp} {a b : YV} {u v : Value} (hu : VR φ a u) (hv : VR φ b v) {K : YV → R} (h : binK op a b K = .ok r) (X Y : Operand) :
    ∃ y z, (∀ t w, (do eqGuard op t X Y u v; binOp op t u v : Sem Value).run P w = .ok z w) ∧ (∀ φ, VR φ y z) ∧ K y = .ok r := by
  unfold binK at h
  split at h
  · unfold VR at hu hv
    subst hu
    subst hv
    rcases IF_ok h with ⟨hs, h⟩ | ⟨hs, h⟩
    · obtain ⟨y, z, h1, h2, h3⟩ := shiftK_ok (P := P) h hs
      exact ⟨y, z, fun t w => by rw [run_bind_ok (eqGuard_int ..)]; exact h1 t w, h2, h3⟩
    · rcases IF_ok h with ⟨hk, h'⟩ | ⟨_, h⟩
      · have := kindIs_eq hk
        subst this
        obtain ⟨y, z, h1, h2, h3⟩ := intOpK_ok (P := P) h' hs
        exact ⟨y, z, fun t w => by rw [run_bind_ok (eqGuard_int ..)]; exact h1 t w, h2, h3⟩
      · cases h
  · unfold VR at hu hv
    obtain ⟨rfl, ha⟩ := hu
    obtain ⟨rfl, hb⟩ := hv
    obtain ⟨y, z, h1, h2, h3⟩ := strOpK_ok (P := P) h ha hb
    exact ⟨y, z, fun t w => by rw [run_bind_ok (eqGuard_str ..)]; exact h1 t w, h2, h3⟩
  · cases h

end
end Go.Ye

/- Ye, part G: operations that compute, on. -/
namespace Go.Ye
open Go.Sx (TI TK mkTI mkTI_parts run_bind_ok run_pure run_value run_skip run_underlying' run_sizeOf run_zero run_isAgg run_part_agg run_part_one struct_of arr_of mkTK map_toList execOp_call_builtin execOp_call_func Callable run_callFunc fill_step oneCell Addr.add_none lt_of_some some_of_lt)
set_option linter.unusedVariables false
set_option linter.constructorNameAsVariable false
set_option linter.unusedSimpArgs false

/-- How an operation goes. -/
def Goes (P : Program) (s : Sem Next) (w : World) (Q : Value → World → Prop) : Prop :=
  (∃ v w', s.run P w = .ok (.value v) w' ∧ Q v w') ∨ (∃ w', s.run P w = .ok .skip w' ∧ Q undef w') ∨
    ∃ f args, s.run P w = .ok (.enter f args) w ∧ Calls P f args w fun e w' => ∃ v, e = .returned v ∧ Q v w'

section
variable {P : Program} {w0 : World} {O : Nat → Prop} {B : Nat → Option YB} {φ : Lm} {m : YM} {w : World} {r : YV} {ev : Ev} {xOf : Operand → Option X} {ρ : Operand → Value} {K : YV → YM → R}
  {call : FuncId → List YV → YM → (YV → YM → R) → R} {dst : Option Tmp} {ty : TypeId} {pos : String} {after : Array Edge} {guard : Option (Nat × Bool)} {y : Ye.O}

theorem Goes.val {sem : Sem Value} {Q : Value → World → Prop} {v : Value} {w' : World} (h : sem.run P w = .ok v w') (hq : Q v w') : Goes P (do pure (.value (← sem))) w Q := .inl ⟨v, w', run_value h, hq⟩

theorem Goes.unit {sem : Sem Unit} {Q : Value → World → Prop} {w' : World} (h : sem.run P w = .ok () w') (hq : Q undef w') : Goes P (do sem; pure .skip) w Q := .inr (.inl ⟨w', run_skip h, hq⟩)

theorem go_move {x : Operand} (hc : compO P xOf (.move x) = some y) (he : EvOk φ ev xOf ρ) (hok : Ok w0 O B φ m w) (h : opK call y ev m K = .ok r) :
    Goes P (execOp ρ ⟨dst, .move x, ty, pos, after, guard⟩) w (Post w0 O B φ K r) := by
  simp only [compO, Option.map_eq_some_iff] at hc
  obtain ⟨a, ha, rfl⟩ := hc
  have h : op_mv a ev m K = .ok r := h
  replace h := he.get ha h; obtain ⟨v, hv, h⟩ := h
  exact .inl ⟨_, w, rfl, .here hok hv h⟩

theorem go_assign {x : Operand} (hc : compO P xOf (.assign x) = some y) (he : EvOk φ ev xOf ρ) (hok : Ok w0 O B φ m w) (h : opK call y ev m K = .ok r) :
    Goes P (execOp ρ ⟨dst, .assign x, ty, pos, after, guard⟩) w (Post w0 O B φ K r) := by
  simp only [compO, Option.map_eq_some_iff] at hc
  obtain ⟨a, ha, rfl⟩ := hc
  have h : op_mv a ev m K = .ok r := h
  replace h := he.get ha h; obtain ⟨v, hv, h⟩ := h
  exact .inl ⟨_, w, rfl, .here hok hv h⟩

theorem go_pick {c a b : Operand} (hc : compO P xOf (.pick c a b) = some y) (he : EvOk φ ev xOf ρ) (hok : Ok w0 O B φ m w) (h : opK call y ev m K = .ok r) :
    Goes P (execOp ρ ⟨dst, .pick c a b, ty, pos, after, guard⟩) w (Post w0 O B φ K r) := by
  simp only [compO, Option.bind_eq_bind, Option.bind_eq_some_iff, Option.some.injEq] at hc
  obtain ⟨c', hc', a', ha', b', hb', rfl⟩ := hc
  have h : op_pick c' a' b' ev m K = .ok r := h
  replace h := he.get hc' h; obtain ⟨v, hv, h⟩ := h
  split at h
  · replace h := he.get ha' h; obtain ⟨u, hu, h⟩ := h
    unfold VR at hv
    exact .inl ⟨_, w, by simp only [execOp, hv]; rfl, .here hok hu h⟩
  · replace h := he.get hb' h; obtain ⟨u, hu, h⟩ := h
    unfold VR at hv
    exact .inl ⟨_, w, by simp only [execOp, hv]; rfl, .here hok hu h⟩
  · cases h

theorem go_nilCheck {x : Operand} (hc : compO P xOf (.nilCheck x) = some y) (he : EvOk φ ev xOf ρ) (hok : Ok w0 O B φ m w) (h : opK call y ev m K = .ok r) :
    Goes P (execOp ρ ⟨dst, .nilCheck x, ty, pos, after, guard⟩) w (Post w0 O B φ K r) := by
  simp only [compO, Option.map_eq_some_iff] at hc
  obtain ⟨a, ha, rfl⟩ := hc
  have h : op_nc a ev m K = .ok r := h
  replace h := he.get ha h; obtain ⟨v, hv, h⟩ := h
  split at h
  · have hv' := hv
    unfold VR at hv'
    obtain ⟨L, _, h2⟩ := hv'
    exact .inl ⟨_, w, by simp only [execOp, h2]; rfl, .here hok (h2 ▸ hv) h⟩
  · have hv' := hv
    unfold VR at hv'
    obtain ⟨vs, h2, _⟩ := hv'
    exact .inl ⟨_, w, by simp only [execOp, h2]; rfl, .here hok (h2 ▸ hv) h⟩
  · cases h

theorem run_equal_bool {t : TypeId} (h : P.underlying t = some .bool) (a b : Bool) (w : World) : (Op.equal t (.bool a) (.bool b)).run P w = .ok (a == b) w := Go.Sx.run_equal_bool h a b w

theorem eqGuard_not {op : BinOp} {t : TypeId} {X Y : Operand} {u v : Value} (h1 : ∀ l, u ≠ .agg l) (h2 : u ≠ .nilIface) (w : World) : (eqGuard op t X Y u v).run P w = .ok () w := by
  unfold eqGuard
  cases op <;> first | rfl | (cases u <;> first | rfl | exact absurd rfl h2 | exact absurd rfl (h1 _))

theorem run_equal_of {t : TypeId} {d : TypeDesc} {u v : Value} {b : Bool} (ht : P.underlying t = some d) (w : World)
    (h : ∀ n, (Op.equalIn (n + 1) t u v).run P w = .ok b w) : (Op.equal t u v).run P w = .ok b w := h 9999

theorem eqV_ok {kd : Nat} {t : TypeId} (hk : eqKd P t = some kd) {a b : YV} {u v : Value} (hu : VR φ a u) (hv : VR φ b v) {c : Bool} (h : eqV kd a b = some c) (w : World) :
    (Op.equal t u v).run P w = .ok c w ∧ (∀ l, u ≠ .agg l) ∧ u ≠ .nilIface ∧ (∀ k n, u ≠ .int k n) ∧ (∀ s, u ≠ .string s) ∧ (∀ k n, u ≠ .float k n) ∧ (∀ k n j, u ≠ .complex k n j) := by
  unfold eqKd at hk
  split at hk
  · rename_i ht
    cases hk
    simp only [eqV] at h
    split at h
    · cases h
      unfold VR at hu hv
      subst hu
      subst hv
      exact ⟨run_equal_bool ht _ _ w, by simp, by simp, by simp, by simp, by simp, by simp⟩
    · cases h
  · rename_i e ht
    cases hk
    simp only [eqV] at h
    split at h <;> first
      | (cases h; done)
      | (cases h
         unfold VR at hu hv
         first
           | (subst hu; subst hv)
           | (subst hu; obtain ⟨L, x, cap, _, rfl, _⟩ := hv)
           | (subst hv; obtain ⟨L, x, cap, _, rfl, _⟩ := hu)
         exact ⟨run_equal_of ht w fun n => (by unfold Op.equalIn; rw [run_bind_ok (run_underlying' ht w)]; rfl), by simp, by simp, by simp, by simp, by simp, by simp⟩)
  · rename_i e ht
    cases hk
    simp only [eqV] at h
    split at h <;> first
      | (cases h; done)
      | (cases h
         unfold VR at hu hv
         first
           | (subst hu; subst hv)
           | (subst hu; obtain ⟨L, _, rfl⟩ := hv)
           | (subst hv; obtain ⟨L, _, rfl⟩ := hu)
         exact ⟨run_equal_of ht w fun n => (by unfold Op.equalIn; rw [run_bind_ok (run_underlying' ht w)]; rfl), by simp, by simp, by simp, by simp, by simp, by simp⟩)
  · rename_i e ht
    cases hk
    simp only [eqV] at h
    split at h <;> first
      | (cases h; done)
      | (cases h
         unfold VR at hu hv
         first
           | (subst hu; subst hv)
           | (subst hu; obtain ⟨L, _, rfl⟩ := hv)
           | (subst hv; obtain ⟨L, _, rfl⟩ := hu)
         exact ⟨run_equal_of ht w fun n => (by unfold Op.equalIn; rw [run_bind_ok (run_underlying' ht w)]; rfl), by simp, by simp, by simp, by simp, by simp, by simp⟩)
  · rename_i e ht
    cases hk
    simp only [eqV] at h
    split at h <;> first
      | (cases h; done)
      | (cases h
         unfold VR at hu hv
         first
           | (subst hu; subst hv)
           | (subst hu; obtain ⟨L, rfl, _⟩ := hv)
           | (subst hv; obtain ⟨L, rfl, _⟩ := hu)
         exact ⟨run_equal_of ht w fun n => (by unfold Op.equalIn; rw [run_bind_ok (run_underlying' ht w)]; rfl), by simp, by simp, by simp, by simp, by simp, by simp⟩)
  · cases hk

theorem run_eqOp {t : TypeId} {u v : Value} {c : Bool} (h : ∀ w, (Op.equal t u v).run P w = .ok c w) (h1 : ∀ l, u ≠ .agg l) (h2 : u ≠ .nilIface) (h3 : ∀ k n, u ≠ .int k n) (h4 : ∀ s, u ≠ .string s)
    (h5 : ∀ k n, u ≠ .float k n) (h6 : ∀ k n j, u ≠ .complex k n j) (X Y : Operand) (neg : Bool) (w : World) :
    (do eqGuard (if neg then .neq else .eql) t X Y u v; binOp (if neg then .neq else .eql) t u v : Sem Value).run P w = .ok (.bool (neg != c)) w := by
  rw [run_bind_ok (eqGuard_not h1 h2 w)]
  have hb : binOp (if neg then .neq else .eql) t u v = (do pure (.bool (neg != (← Op.equal t u v)))) := by
    cases neg
    · simp only [Bool.false_eq_true, if_false, Bool.false_bne]
      cases u <;> first | rfl | exact absurd rfl (h3 _ _) | exact absurd rfl (h4 _) | exact absurd rfl (h5 _ _) | exact absurd rfl (h6 _ _ _)
    · simp only [if_true, Bool.true_bne]
      cases u <;> first | rfl | exact absurd rfl (h3 _ _) | exact absurd rfl (h4 _) | exact absurd rfl (h5 _ _) | exact absurd rfl (h6 _ _ _)
  rw [hb, run_bind_ok (h w)]
  rfl

theorem go_binOp {op : BinOp} {t t' : TypeId} {x z : Operand} (hc : compO P xOf (.binOp op t x z t') = some y) (he : EvOk φ ev xOf ρ) (hok : Ok w0 O B φ m w) (h : opK call y ev m K = .ok r) :
    Goes P (execOp ρ ⟨dst, .binOp op t x z t', ty, pos, after, guard⟩) w (Post w0 O B φ K r) := by
  have key : ∀ (neg : Bool) (kd : Nat) (X Y : Ye.X), eqKd P t = some kd → xOf x = some X → xOf z = some Y → y = .eq kd neg X Y → op = (if neg then .neq else .eql) → Goes P (execOp ρ ⟨dst, .binOp op t x z t', ty, pos, after, guard⟩) w (Post w0 O B φ K r) := by
    intro neg kd X Y hkd hX hY hy hop
    subst hy
    have h : op_eq kd neg X Y ev m K = .ok r := h
    replace h := he.get hX h; obtain ⟨a, ha, h⟩ := h
    replace h := he.get hY h; obtain ⟨b, hb, h⟩ := h
    cases hq : eqV kd a b with
    | none => rw [hq] at h; cases h
    | some c =>
      rw [hq] at h
      simp only [retO, retB, boolK_eq] at h
      have hr := fun w => (eqV_ok hkd ha hb hq w).1
      obtain ⟨_, h1, h2, h3, h4, h5, h6⟩ := eqV_ok hkd ha hb hq w
      subst hop
      exact .val (run_eqOp hr h1 h2 h3 h4 h5 h6 x z neg w) (.here hok (by unfold VR; rfl) h)
  simp only [compO] at hc
  split at hc
  · simp only [Option.bind_eq_bind, Option.bind_eq_some_iff, Option.some.injEq] at hc
    obtain ⟨a', ha', b', hb', rfl⟩ := hc
    have h : op_ib op a' b' ev m K = .ok r := h
    replace h := he.get ha' h; obtain ⟨a, ha, h⟩ := h
    replace h := he.get hb' h; obtain ⟨b, hb, h⟩ := h
    obtain ⟨v, u, h1, h2, h3⟩ := binK_ok (P := P) ha hb h x z
    exact .val (h1 t w) (.here hok (h2 φ) h3)
  · split at hc
    · rename_i kd hkd
      simp only [Option.bind_eq_bind, Option.bind_eq_some_iff, Option.some.injEq] at hc
      obtain ⟨a', ha', b', hb', rfl⟩ := hc
      exact key false kd a' b' hkd ha' hb' rfl rfl
    · rename_i kd hkd
      simp only [Option.bind_eq_bind, Option.bind_eq_some_iff, Option.some.injEq] at hc
      obtain ⟨a', ha', b', hb', rfl⟩ := hc
      exact key true kd a' b' hkd ha' hb' rfl rfl
    · cases hc

theorem go_unOp {op : UnOp} {t : TypeId} {x : Operand} (hc : compO P xOf (.unOp op t x) = some y) (he : EvOk φ ev xOf ρ) (hok : Ok w0 O B φ m w) (h : opK call y ev m K = .ok r) :
    Goes P (execOp ρ ⟨dst, .unOp op t x, ty, pos, after, guard⟩) w (Post w0 O B φ K r) := by
  simp only [compO, Option.map_eq_some_iff] at hc
  obtain ⟨a, ha, rfl⟩ := hc
  have h : op_un op a ev m K = .ok r := h
  replace h := he.get ha h; obtain ⟨v, hv, h⟩ := h
  have h : unK op v (fun v => K v m) = .ok r := h
  unfold unK at h
  split at h
  · simp only [retB, boolK_eq] at h
    unfold VR at hv
    exact .val (sem := Op.unary _ (ρ x)) (by rw [hv]; rfl) (.here hok (by unfold VR; rfl) h)
  · simp only [retI, intK_eq] at h
    unfold VR at hv
    exact .val (sem := Op.unary _ (ρ x)) (by rw [hv]; rfl) (.here hok (by unfold VR; rfl) h)
  · cases h

theorem go_makeFunc {f : FuncId} {us : List Operand} (hc : compO P xOf (.makeFunc (.func f) ⟨[]⟩ ⟨us⟩) = some y) (he : EvOk φ ev xOf ρ) (hok : Ok w0 O B φ m w) (h : opK call y ev m K = .ok r) :
    Goes P (execOp ρ ⟨dst, .makeFunc (.func f) ⟨[]⟩ ⟨us⟩, ty, pos, after, guard⟩) w (Post w0 O B φ K r) := by
  simp only [compO, Option.map_eq_some_iff] at hc
  obtain ⟨a, ha, rfl⟩ := hc
  have h : op_mf f a ev m K = .ok r := h
  replace h := he.gets ha h; obtain ⟨vs, hv, h⟩ := h
  refine .val (sem := Instr.makeFunc _ _ _) rfl (.here hok ?_ h)
  unfold VR
  exact ⟨_, by simp only [map_toList]; rfl, hv⟩

theorem go_extract {x : Operand} {i : Nat} (hc : compO P xOf (.extract x i) = some y) (he : EvOk φ ev xOf ρ) (hok : Ok w0 O B φ m w) (h : opK call y ev m K = .ok r) :
    Goes P (execOp ρ ⟨dst, .extract x i, ty, pos, after, guard⟩) w (Post w0 O B φ K r) := by
  simp only [compO, Option.bind_eq_bind, Option.bind_eq_some_iff, Option.some.injEq] at hc
  obtain ⟨a, ha, rfl⟩ := hc
  have h : op_ex a i ev m K = .ok r := h
  replace h := he.get ha h; obtain ⟨v, hv, h⟩ := h
  split at h
  · rename_i l
    unfold VR at hv
    obtain ⟨vs, h1, h2⟩ := hv
    obtain ⟨z, h3, h4⟩ := nthK_ok h
    obtain ⟨u, h5, h6⟩ := h2.get h3
    refine .val (sem := Instr.extract (ρ x) i) (v := u) (w' := w) ?_ (.here hok h6 h4)
    rw [h1]
    simp [Instr.extract, h5, run_pure]
  · cases h

theorem go_fieldAddr {s : TypeId} {x : Operand} {f : Nat} (hc : compO P xOf (.fieldAddr s x f) = some y) (he : EvOk φ ev xOf ρ) (hok : Ok w0 O B φ m w) (h : opK call y ev m K = .ok r) :
    Goes P (execOp ρ ⟨dst, .fieldAddr s x f, ty, pos, after, guard⟩) w (Post w0 O B φ K r) := by
  simp only [compO, Option.bind_eq_bind, Option.bind_eq_some_iff] at hc
  obtain ⟨ti, hti, hc⟩ := hc
  split at hc
  · rename_i hk
    simp only [Option.bind_eq_some_iff] at hc
    obtain ⟨z, hz, hc⟩ := hc
    split at hc
    · cases hc
    · rename_i hsz
      simp only [Option.bind_eq_some_iff, Option.some.injEq] at hc
      obtain ⟨a, ha, rfl⟩ := hc
      have h : op_fa z.1 a ev m K = .ok r := h
      replace h := he.get ha h; obtain ⟨v, hv, h⟩ := h
      split at h
      · rename_i l o
        rw [natK_eq] at h
        unfold VR at hv
        obtain ⟨L, h1, h2⟩ := hv
        obtain ⟨i, d, zv, g1, g2, g3, g4, g5, g6, -, g7⟩ := mkTI_parts hti
        rw [g4] at hk
        obtain ⟨fs, rfl⟩ := struct_of hk
        obtain ⟨hall, ho⟩ := g7 fs rfl
        rw [ho, List.getElem?_map, Option.map_eq_some_iff] at hz
        obtain ⟨fd, hf, rfl⟩ := hz
        have hf' : fs[f]? = some fd := by rw [← Array.getElem?_toList]; exact hf
        obtain ⟨fi, hfi⟩ := Option.isSome_iff_exists.1 (hall fd (Array.mem_of_getElem? hf')).1
        have hcs : P.cellsOf fd.type = fi.size := by simp [Program.cellsOf, hfi]
        simp only at hsz
        refine .val (sem := Instr.fieldAt s (ρ x) f) (v := .pointer (some ⟨L.blk, L.base + (o + fd.offset), none⟩)) (w' := w) ?_ (.here hok (by unfold VR; exact ⟨L, h1, rfl⟩) h)
        have := Go.Sx.fieldAddrK_sound (P := P) (bs := []) hti (x := .v (.pointer (some ⟨L.blk, L.base + o, none⟩))) (u := .pointer (some ⟨L.blk, L.base + o, none⟩)) rfl (f := f)
          (K := fun sv => sv = .v (.pointer (some ⟨L.blk, L.base + o + fd.offset, none⟩))) (E := False) (by
            unfold Go.Sx.fieldAddrK
            rw [show ti.k = .struct from by rw [g4]; rfl]
            simp only
            have hnth : ∀ (l : List (Nat × Nat × Bool)) (n : Nat) (a : Nat) (c : Nat) (d : Bool) (K : Nat × Nat × Bool → Prop), l[n]? = some (a, c, d) → K (a, c, d) → Go.Sx.nthK l n K := by
              intro l
              induction l with
              | nil => intro n a c d K h; simp at h
              | cons x l ih =>
                intro n a c d K h hK
                cases n with
                | zero => simp at h; subst h; exact hK
                | succ n => exact ih n a c d K (by simpa using h) hK
            refine hnth _ _ _ _ _ _ (by rw [ho, List.getElem?_map, Array.getElem?_toList, hf']; rfl) ?_
            cases hcc : P.cellsOf fd.type with
            | zero => exact absurd hcc hsz
            | succ n =>
              show Go.Sx.SV.v _ = _
              rw [Addr.add_none])
        rcases this with hF | ⟨rv, sv, hr, hs1, hs2⟩
        · exact hF.elim
        · subst hs2
          have hs1 : rv = _ := hs1
          rw [h2, hr w, hs1, Nat.add_assoc]
      · cases h
  · cases hc

end
end Go.Ye

