/- Sx, part B: a symbolic executor: it computes, out of a function's code, what is left to be shown of it. -/
import Derived.Test.YtpnnadojhacjiaaSxA
namespace Go.Sx
set_option linter.unusedVariables false

/-! ### symbolic values -/

inductive SV where
  | v (x : Value)
  | p (i o : Nat)
  | g (c pol : Bool) (x : SV)
  | any

def ptr (bs : List (Nat × Nat)) (i o : Nat) : Value := .pointer (some ⟨(nth (0, 0) bs i).1, (nth (0, 0) bs i).2 + o, none⟩)

def SVok (bs : List (Nat × Nat)) : SV → Value → Prop
  | .v x, y => y = x
  | .p i o, y => y = ptr bs i o ∧ i < bs.length
  | .g c pol x, y => c = pol → SVok bs x y
  | .any, _ => True

structure FrameOk (bs : List (Nat × Nat)) (tm : List SV) (a : Array Value) : Prop where
  len : tm.length = a.size
  ok : ∀ t, SVok bs (nth .any tm t) (a.getD t undef)

/-! ### the types -/

inductive TK where
  | int (k : IntKind)
  | bool
  | str
  | slice (e : TypeId)
  | arr (n : Nat) (e : TypeId)
  | map (k e : TypeId)
  | struct
  | ptr (e : TypeId)
  | other

def TK.agg : TK → Bool
  | .arr _ _ | .struct => true
  | _ => false

def mkTK : TypeDesc → TK
  | .int k => .int k
  | .bool => .bool
  | .string => .str
  | .slice e => .slice e
  | .array n e => .arr n e
  | .map k e => .map k e
  | .struct _ => .struct
  | .pointer e => .ptr e
  | _ => .other

structure TI where
  k : TK
  size : Nat
  zero : List Value
  offs : List (Nat × Nat × Bool)
  bytes : Nat

def mkTI (P : Program) (t : TypeId) : Option TI :=
  match P.info? t with
  | none => none
  | some i => match P.underlying t, i.zero with
    | some d, some z => match d with
      | .struct fs => match fs.all (fun f => (P.info? f.type).isSome && (P.underlying f.type).isSome) with
        | true => some ⟨.struct, i.size, z.cells.toList, fs.toList.map fun f => (f.offset, P.cellsOf f.type, ((P.underlying f.type).map fun d => (mkTK d).agg).getD false), i.bytes⟩
        | false => none
      | d => some ⟨mkTK d, i.size, z.cells.toList, [], i.bytes⟩
    | _, _ => none

abbrev Tab := List (Nat × TI)

def look : Tab → Nat → Option TI
  | [], _ => none
  | (t, x) :: r, n => match Nat.beq t n with
    | true => some x
    | false => look r n

def TabOk (P : Program) (tab : Tab) : Prop := ∀ t x, look tab t = some x → mkTI P t = some x

theorem tabOk_of {P : Program} : ∀ {tab : Tab}, tab.map (fun e => mkTI P e.1) = tab.map (fun e => some e.2) → TabOk P tab
  | [], _, _, _, h => by simp [look] at h
  | (t, x) :: r, h, n, y, hl => by
    simp only [List.map_cons, List.cons.injEq] at h
    simp only [look] at hl
    split at hl
    · rename_i hb
      have : t = n := Nat.eq_of_beq_eq_true hb
      subst this
      cases hl
      exact h.1
    · exact tabOk_of h.2 n y hl

/-! ### lists, in the style of continuations -/

def nthK {α : Type} : List α → Nat → (α → Prop) → Prop
  | [], _, _ => False
  | x :: _, 0, K => K x
  | _ :: xs, n + 1, K => nthK xs n K

def setK {α : Type} : List α → Nat → α → (List α → Prop) → Prop
  | [], _, _, _ => False
  | _ :: xs, 0, v, K => K (v :: xs)
  | x :: xs, n + 1, v, K => setK xs n v (fun ys => K (x :: ys))

def snocK {α : Type} : List α → α → (List α → Prop) → Prop
  | [], v, K => K [v]
  | x :: xs, v, K => snocK xs v (fun ys => K (x :: ys))

/-- The n cells from o on. -/
def subK : List Value → Nat → Nat → (List Value → Prop) → Prop
  | _, 0, 0, K => K []
  | x :: xs, 0, n + 1, K => subK xs 0 n (fun ys => K (x :: ys))
  | _ :: xs, o + 1, n, K => subK xs o n K
  | [], _, _, _ => False

/-- The cells with l laid over them from o on. -/
def overK : List Value → Nat → List Value → (List Value → Prop) → Prop
  | xs, 0, [], K => K xs
  | _ :: xs, 0, y :: ys, K => overK xs 0 ys (fun zs => K (y :: zs))
  | x :: xs, o + 1, ys, K => overK xs o ys (fun zs => K (x :: zs))
  | [], _, _, _ => False

/-- l has just n elements. -/
def lenK : List Value → Nat → Prop → Prop
  | [], 0, K => K
  | _ :: xs, n + 1, K => lenK xs n K
  | _, _, _ => False

def cellsK : Value → (List Value → Prop) → Prop
  | .agg ⟨l⟩, K => K l
  | .bool b, K => K [.bool b]
  | .int k n, K => K [.int k n]
  | .string s, K => K [.string s]
  | .pointer a, K => K [.pointer a]
  | .slice a n c, K => K [.slice a n c]
  | .map r, K => K [.map r]
  | .func a b c, K => K [.func a b c]
  | .nilFunc, K => K [.nilFunc]
  | .iface t v, K => K [.iface t v]
  | .nilIface, K => K [.nilIface]
  | _, _ => False

theorem nthK_iff {α : Type} (d : α) : ∀ {l : List α} {n : Nat} {K : α → Prop}, nthK l n K → n < l.length ∧ K (nth d l n)
  | [], _, _, h => h.elim
  | _ :: _, 0, _, h => ⟨by simp, h⟩
  | _ :: xs, n + 1, K, h => by
    have := nthK_iff d (l := xs) h
    exact ⟨by simp [this.1], this.2⟩

theorem setK_iff {α : Type} : ∀ {l : List α} {n : Nat} {v : α} {K : List α → Prop}, setK l n v K → n < l.length ∧ K (l.set n v)
  | [], _, _, _, h => h.elim
  | _ :: _, 0, _, _, h => ⟨by simp, h⟩
  | x :: xs, n + 1, v, K, h => by
    have := setK_iff (l := xs) h
    exact ⟨by simp [this.1], this.2⟩

theorem snocK_iff {α : Type} : ∀ {l : List α} {v : α} {K : List α → Prop}, snocK l v K → K (l ++ [v])
  | [], _, _, h => h
  | x :: xs, v, K, h => snocK_iff (l := xs) h

theorem subK_iff : ∀ {l : List Value} {o n : Nat} {K : List Value → Prop}, subK l o n K → o + n ≤ l.length ∧ K ((l.drop o).take n)
  | l, 0, 0, K, h => by
    unfold subK at h
    exact ⟨by simp, by simpa using h⟩
  | x :: xs, 0, n + 1, K, h => by
    have := subK_iff (l := xs) h
    exact ⟨by simp; omega, by simpa using this.2⟩
  | _ :: xs, o + 1, n, K, h => by
    have h' : subK xs o n K := by unfold subK at h; exact h
    have := subK_iff (l := xs) h'
    exact ⟨by simp; omega, by simpa using this.2⟩
  | [], 0, n + 1, K, h => by simp [subK] at h
  | [], o + 1, n, K, h => by unfold subK at h; exact h.elim

theorem overK_iff : ∀ {l : List Value} {o : Nat} {m : List Value} {K : List Value → Prop}, overK l o m K → o + m.length ≤ l.length ∧ K (l.take o ++ m ++ l.drop (o + m.length))
  | xs, 0, [], K, h => by
    unfold overK at h
    exact ⟨by simp, by simpa using h⟩
  | x :: xs, 0, y :: ys, K, h => by
    have := overK_iff (l := xs) h
    exact ⟨by simp; omega, by simpa using this.2⟩
  | x :: xs, o + 1, ys, K, h => by
    have h' : overK xs o ys (fun zs => K (x :: zs)) := by unfold overK at h; exact h
    have := overK_iff (l := xs) h'
    refine ⟨by simp; omega, ?_⟩
    have h2 := this.2
    rw [show o + 1 + ys.length = (o + ys.length) + 1 from by omega]
    simpa using h2
  | [], 0, y :: ys, K, h => by simp [overK] at h
  | [], o + 1, ys, K, h => by unfold overK at h; exact h.elim

theorem lenK_iff : ∀ {l : List Value} {n : Nat} {K : Prop}, lenK l n K → l.length = n ∧ K
  | [], 0, K, h => ⟨rfl, h⟩
  | _ :: xs, n + 1, K, h => by
    have := lenK_iff (l := xs) h
    exact ⟨by simp [this.1], this.2⟩
  | [], n + 1, K, h => h.elim
  | _ :: _, 0, K, h => h.elim

theorem cellsK_iff : ∀ {x : Value} {K : List Value → Prop}, cellsK x K → K x.cells.toList
  | .agg ⟨l⟩, K, h => h
  | .bool b, K, h => h
  | .int k n, K, h => h
  | .string s, K, h => h
  | .pointer a, K, h => h
  | .slice a n c, K, h => h
  | .map r, K, h => h
  | .func a b c, K, h => h
  | .nilFunc, K, h => h
  | .iface t v, K, h => h
  | .nilIface, K, h => h
  | .float .., K, h => h.elim
  | .complex .., K, h => h.elim
  | .chan .., K, h => h.elim
  | .tuple .., K, h => h.elim

end Go.Sx
