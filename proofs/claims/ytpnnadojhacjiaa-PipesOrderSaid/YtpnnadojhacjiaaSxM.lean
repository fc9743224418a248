/- Sx, part M: a statement whose order is open. What only reads is taken first; the rest in every order that its edges allow. -/
import Derived.Test.YtpnnadojhacjiaaSxL
namespace Go.Sx
set_option linter.unusedVariables false

/-! ### definitions -/

def edgeOn (e : Edge) : Option Nat := match e.ground with
  | .textOnly _ => none
  | .gcOnly _ => none
  | _ => some e.on

def nthB : List Bool → Nat → Bool
  | [], _ => false
  | x :: _, 0 => x
  | _ :: xs, n + 1 => nthB xs n

/-- All that an operation waits for is listed. -/
def waitsOk (L : List Bool) : List Edge → Bool
  | [] => true
  | e :: r => match edgeOn e with
    | none => waitsOk L r
    | some i => match nthB L i with
      | true => waitsOk L r
      | false => false

def after1 (i : Nat) : List Edge → Bool
  | [] => false
  | e :: r => match edgeOn e with
    | none => after1 i r
    | some k => match Nat.beq i k with
      | true => true
      | false => after1 i r

def readsT (d : Nat) : List Operand → Bool
  | [] => false
  | .tmp t :: r => match Nat.beq t d with
    | true => true
    | false => readsT d r
  | _ :: r => readsT d r

/-- The operation looks at slot d: an operand, or its guard. -/
def looks (all : List Oper) (d : Nat) (o : Oper) : Bool :=
  match readsT d o.op.operands.toList with
  | true => true
  | false => match o.guard with
    | none => false
    | some (j, _) => match ((all[j]?).bind (·.dst)) with
      | some t => Nat.beq t d
      | none => false

def dstIs (d : Nat) (o : Oper) : Bool := match o.dst with
  | some t => Nat.beq t d
  | none => false

/-- The i-th operation, which writes slot d: whoever looks at d waits for it; nobody else writes d; and it looks at nothing that one writes for whom it does not wait. -/
def freeFrom (all : List Oper) (i d : Nat) (oi : Oper) : List Oper → Nat → Bool
  | [], _ => true
  | o :: r, j => match Nat.beq i j with
    | true => match looks all d oi with
      | true => false
      | false => freeFrom all i d oi r (j + 1)
    | false => match looks all d o, after1 i o.after.toList with
      | true, false => false
      | _, _ => match dstIs d o with
        | true => false
        | false => match o.dst with
          | none => freeFrom all i d oi r (j + 1)
          | some t => match looks all t oi, after1 j oi.after.toList with
            | true, false => false
            | _, _ => freeFrom all i d oi r (j + 1)

/-- Edges point back. -/
def backOk : List Edge → Nat → Bool
  | [], _ => true
  | e :: r, i => match edgeOn e with
    | none => backOk r i
    | some k => match Nat.blt k i with
      | true => backOk r i
      | false => false

def allBack : List Oper → Nat → Bool
  | [], _ => true
  | o :: r, i => match backOk o.after.toList i with
    | true => allBack r (i + 1)
    | false => false

def noSel : List Oper → Bool
  | [] => true
  | o :: r => match o.op with
    | .select _ _ => false
    | _ => noSel r

/-- Some flag where the operation only reads; the flag: it reads memory. -/
def readOp (tab : Tab) (tm : List SV) : Op → Option Bool
  | .load _ _ => some true
  | .indexAddr _ _ _ => some true
  | .index _ _ _ => some true
  | .slice _ _ _ _ _ => some true
  | .convert s d _ => match scalarT tab s, scalarT tab d with
    | true, true => some false
    | _, _ => some true
  | .move _ | .assign _ | .fieldAddr _ _ _ | .field _ _ _ | .extract _ _ | .nilCheck _ | .makeFunc _ _ _ | .pick _ _ _ | .build _ _ => some false
  | .unOp _ t _ => match scalarT tab t with
    | true => some false
    | false => none
  | .binOp op t _ _ _ => match op with
    | .shl | .shr => some true
    | _ => match scalarT tab t with
      | true => some false
      | false => some true
  | .call ⟨.builtin .len, ⟨[_]⟩, ⟨[t]⟩⟩ => match lenT tab t with
    | true => some false
    | false => none
  | .call ⟨.builtin .min, _, _⟩ => some true
  | .call ⟨.builtin .max, _, _⟩ => some true
  | .call ⟨.builtin .cap, _, _⟩ => some true
  | _ => none

def findQ (tab : Tab) (all : List Oper) (tm : List SV) (L : List Bool) : List Oper → Nat → Option (Nat × Bool)
  | [], _ => none
  | o :: r, i => match nthB L i, waitsOk L o.after.toList, readOp tab tm o.op, o.dst with
    | false, true, some m, some d => match freeFrom all i d o all 0 with
      | true => some (i, m)
      | false => findQ tab all tm L r (i + 1)
    | _, _, _, _ => findQ tab all tm L r (i + 1)

def readyL (L : List Bool) : List Oper → Nat → List Nat
  | [], _ => []
  | o :: r, i => match nthB L i, waitsOk L o.after.toList with
    | false, true => i :: readyL L r (i + 1)
    | _, _ => readyL L r (i + 1)

def setB : List Bool → Nat → List Bool
  | [], _ => []
  | _ :: xs, 0 => true :: xs
  | x :: xs, n + 1 => x :: setB xs n

/-- What a value that was read early hangs on. -/
inductive Dep where
  | none
  | box (j : Nat)
  | all

def edgesOf : List Oper → Nat → List Edge
  | [], _ => []
  | o :: _, 0 => o.after.toList
  | _ :: r, n + 1 => edgesOf r n

/-- The edges of those that these edges' data come from. -/
def dataBack (all : List Oper) : List Edge → List Edge
  | [] => []
  | e :: r => match e.ground with
    | .data => match edgeOn e with
      | some k => edgesOf all k ++ dataBack all r
      | none => dataBack all r
    | _ => dataBack all r

/-- Operation i comes first, through up to n steps of data. -/
def afterT (all : List Oper) : Nat → Nat → List Edge → Bool
  | 0, i, es => after1 i es
  | n + 1, i, es => match after1 i es with
    | true => true
    | false => afterT all n i (dataBack all es)

/-- The early ones that are still to be held when an operation with these edges has run. -/
def dropE (all : List Oper) (es : List Edge) : List (Nat × Dep) → List (Nat × Dep)
  | [] => []
  | (i, m) :: r => match afterT all 3 i es with
    | true => dropE all es r
    | false => (i, m) :: dropE all es r

def anyAll : List (Nat × Dep) → Bool
  | [] => false
  | (_, .all) :: _ => true
  | (_, .none) :: r => anyAll r
  | (_, .box _) :: r => anyAll r

/-- A box that was read early is as it was. -/
structure XKeep (b b' : Nat × Nat) (c c' : List Value) (K : Prop) : Prop where
  b : b' = b
  c : c' = c
  rest : K

theorem XKeep.of {b : Nat × Nat} {c : List Value} {K : Prop} (h : K) : XKeep b b c c K := ⟨rfl, rfl, h⟩

def boxesK (bs : List (Nat × Nat)) (cs : List (List Value)) (bs' : List (Nat × Nat)) (cs' : List (List Value)) (K : Prop) : List (Nat × Dep) → Prop
  | [] => K
  | (_, .box j) :: r => nthK bs j fun b => nthK bs' j fun b' => nthK cs j fun c => nthK cs' j fun c' => XKeep b b' c c' (boxesK bs cs bs' cs' K r)
  | (_, .none) :: r => boxesK bs cs bs' cs' K r
  | (_, .all) :: r => boxesK bs cs bs' cs' K r

/-- What was read early is still so. -/
structure XHeld (bs : List (Nat × Nat)) (cs : List (List Value)) (D : Fx) (bs' : List (Nat × Nat)) (cs' : List (List Value)) (D' : Fx) (K : Prop) : Prop where
  box : BLe bs' cs' bs cs
  data : Ent D' D
  rest : K

def wantK (all : List Oper) (o : Oper) (tm : List SV) (Y N : Prop) : Prop := match o.guard with
  | none => Y
  | some (j, pol) => nthK all j fun oj => match oj.dst with
    | none => False
    | some t => nthK tm t fun s => match s with
      | .v (.bool true) => match pol with
        | true => Y
        | false => N
      | .v (.bool false) => match pol with
        | true => N
        | false => Y
      | .v (.tuple _) => N
      | _ => False

def isGuard (i : Nat) : List Oper → Bool
  | [] => false
  | o :: r => match o.guard with
    | some (j, _) => match Nat.beq i j with
      | true => true
      | false => isGuard i r
    | none => isGuard i r

/-- A guard's value is parted at once. -/
def guardSplit (all : List Oper) (i : Nat) (o : Oper) (tm : List SV) (K : List SV → Prop) : Prop := match isGuard i all, o.dst with
  | true, some d => nthK tm d fun s => match s with
    | .v (.bool c) => XIf c (setK tm d (.v (.bool true)) K) (setK tm d (.v (.bool false)) K)
    | _ => K tm
  | _, _ => K tm

section
variable (P : Program) (tab : Tab) (w0 : World) (R : Nat → Nat → Prop) (av : Nat → Prop)

def XRead (m : Sem Value) (bs : List (Nat × Nat)) (cs : List (List Value)) (D : Fx) (K : Value → Prop) : Prop :=
  ∃ v, (∀ w, St w0 R av w bs cs D → m.run P w = .ok v w) ∧ K v

theorem XRead_iff {m : Sem Value} {bs : List (Nat × Nat)} {cs : List (List Value)} {D : Fx} {K : Value → Prop} : XRead P w0 R av m bs cs D K ↔ ∃ v, (∀ w, St w0 R av w bs cs D → m.run P w = .ok v w) ∧ K v := Iff.rfl

def xread (o : Oper) (tm : List SV) (bs : List (Nat × Nat)) (cs : List (List Value)) (D : Fx) (K : SV → Dep → Prop) : Prop :=
  let KR : Value → Prop := fun v => K (.v v) .all
  match o.op with
  | .load t x => evG tm [] x fun sx => match sx with
    | .p j s => match look tab t with
      | some ti => loadK ti cs j s fun sv => K sv (.box j)
      | none => False
    | .v v => XRead P w0 R av (Instr.loadAt t v) bs cs D KR
    | _ => False
  | op => xpure tab [] op tm bs cs (fun sv => K sv .none) (match op with
    | .indexAddr t x i => evV tm [] bs x fun v => evV tm [] bs i fun n => XRead P w0 R av (Instr.indexAt t v n) bs cs D KR
    | .index t x i => evV tm [] bs x fun v => evV tm [] bs i fun n => XRead P w0 R av (Instr.index t v n) bs cs D KR
    | .slice t x lo hi mx => evV tm [] bs x fun v => evO tm [] bs lo fun a => evO tm [] bs hi fun b => evO tm [] bs mx fun c => XRead P w0 R av (Instr.sliceAt t v a b c) bs cs D KR
    | .convert s d x => evV tm [] bs x fun v => XRead P w0 R av (convert s d v) bs cs D KR
    | .binOp op t x y _ => evV tm [] bs x fun v => evV tm [] bs y fun u => XRead P w0 R av (do eqGuard op t x y v u; binOp op t v u) bs cs D KR
    | .call ⟨.builtin b, ⟨xs⟩, ts⟩ => evVs tm [] bs xs fun vs => match semB b ts o.type ⟨vs⟩ with
      | some m => XRead P w0 R av m bs cs D KR
      | none => False
    | _ => False)

def heldK (E : List (Nat × Dep)) (bs : List (Nat × Nat)) (cs : List (List Value)) (D : Fx) (bs' : List (Nat × Nat)) (cs' : List (List Value)) (D' : Fx) (K : Prop) : Prop :=
  match anyAll E with
  | true => XHeld bs cs D bs' cs' D' K
  | false => boxesK bs cs bs' cs' K E

def allK (S : Nat → Prop) : List Nat → Prop
  | [] => False
  | [j] => S j
  | j :: r => S j ∧ allK S r

def xany (all : List Oper) : Nat → List Bool → List (Nat × Dep) → List SV → List (Nat × Nat) → List (List Value) → Fx → KT → Prop
  | 0, _, _, _, _, _, _, _ => False
  | n + 1, L, E, tm, bs, cs, D, K => match findQ tab all tm L all 0 with
    | some (i, m) => nthK all i fun o => wantK all o tm
        (xread P tab w0 R av o tm bs cs D fun sv dep => fin o.dst tm sv fun tm => guardSplit all i o tm fun tm => xany all n (setB L i) ((i, dep) :: E) tm bs cs D K)
        (fin o.dst tm (.v undef) fun tm => xany all n (setB L i) ((i, .none) :: E) tm bs cs D K)
    | none => match readyL L all 0 with
      | [] => K tm bs cs D
      | j :: r => allK (fun j => nthK all j fun o => wantK all o tm
          (xop P tab w0 R av o tm bs cs D fun tm' bs' cs' D' => heldK (dropE all o.after.toList E) bs cs D bs' cs' D'
            (guardSplit all j o tm' fun tm' => xany all n (setB L j) (dropE all o.after.toList E) tm' bs' cs' D' K))
          (fin o.dst tm (.v undef) fun tm' => xany all n (setB L j) (dropE all o.after.toList E) tm' bs cs D K)) (j :: r)

end
attribute [irreducible] XRead
end Go.Sx
