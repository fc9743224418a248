/- Sx, part V: slices of bytes, with their handles. -/
import Derived.Test.YtpnnadojhacjiaaSxU
namespace Go.Sx
set_option linter.unusedVariables false

/-- A slice's address and capacity. -/
structure Hd where
  a : Option Addr
  c : Nat

def Hd.nil : Hd := ⟨none, 0⟩

/-- The slice's value. -/
abbrev Hd.v (h : Hd) (n : Nat) : Value := .slice h.a n h.c

/-- What is known of a slice of n elements without looking at memory. -/
structure Hd.Ok (h : Hd) (n : Nat) : Prop where
  nil : h.a = none → n = 0
  cap : n ≤ h.c

theorem Hd.nil_ok : Hd.nil.Ok 0 := ⟨fun _ => rfl, Nat.le_refl _⟩

/-- The slice's bytes. -/
abbrev By (w : World) (h : Hd) (l : List UInt8) : Prop := RowAt w h.a (l.map byteV)

theorem By.nil (w : World) : By w Hd.nil [] := rfl

theorem byte_one {l : List UInt8} : ∀ v ∈ l.map byteV, oneCell v = true := by
  intro v hv
  obtain ⟨x, _, rfl⟩ := List.mem_map.1 hv
  rfl

/-- A new slice of bytes is handed back. -/
def RelB (l : List UInt8) (v : Value) (F : Fx) : Prop := ∃ h : Hd, v = h.v l.length ∧ h.Ok l.length ∧ F = ⟨fun w => By w h l, []⟩

theorem Own.hd {n : Nat} {a : Option Addr} {cap : Nat} {C L : List Value} (h : Own 1 n a cap C L) : (⟨a, cap⟩ : Hd).Ok n := ⟨h.none_nil, h.fit⟩

theorem wrap_i64 {n : Int} (h : -9223372036854775808 ≤ n ∧ n ≤ 9223372036854775807) : IntKind.i64.wrap n = n := by
  simp only [IntKind.wrap, IntKind.bits, IntKind.signed]
  have : (2 : Int) ^ 64 = 18446744073709551616 := by decide
  have : (2 : Int) ^ (64 - 1) = 9223372036854775808 := by decide
  simp only [*, Bool.true_and, decide_eq_true_eq]
  split <;> omega

section
variable {P : Program} {tab : Tab} {w0 : World} {R : Nat → Nat → Prop} {av : Nat → Prop} {bs : List (Nat × Nat)} {cs : List (List Value)} {F : Fx}

/-- b[i]'s address. -/
theorem XRead.byteAt (hT : TabOk P tab) {t : TypeId} {ti te : TI} {e : TypeId} (ht : look tab t = some ti) (hk : ti.k = .slice e) (he : look tab e = some te) (hsz : te.size = 1) {h : Hd} {n : Nat} {k : IntKind} {i : Int} {K : Value → Prop}
    (j : Nat) (hj : i = (j : Int)) (h1 : j < n) (hh : h.Ok n) (hK : ∀ ad, h.a = some ad → K (.pointer (some (ad.add j)))) : XRead P w0 R av (Instr.indexAt t (.slice h.a n h.c) (.int k i)) bs cs F K := by
  subst hj
  refine XRead.index hT ht hk he (by omega) (by omega) hh.nil fun ad had => ?_
  rw [hsz, Nat.mul_one]
  exact hK ad had

/-- b[i] -/
theorem XRead.byteLd (hT : TabOk P tab) {t : TypeId} {ti : TI} (ht : look tab t = some ti) (hk : ti.k.agg = false) {h : Hd} {ad : Addr} {l : List UInt8} {j : Nat} {K : Value → Prop} (had : h.a = some ad)
    (hs : Sees w0 R av bs cs F h.a (l.map byteV)) (hj : j < l.length) (hK : K (byteV l[j])) : XRead P w0 R av (Instr.loadAt t (.pointer (some (ad.add j)))) bs cs F K := by
  rw [had] at hs
  exact XRead.load hT ht hk hs rfl (by simp [hj]) hK

end

theorem cutA_zero (a : Option Addr) (m sz : Nat) : cutA a 0 m sz = a := by
  unfold cutA
  split
  · rfl
  · cases a with
    | none => rfl
    | some ad => simp [Addr.add]

end Go.Sx
