/- The executors, part MyD: many small texts in one. -/
import Derived.Test.YtbfpgfopppfhoaaGreatDoorMyC

/- Ye, part 3A: the same steps, written so that the kernel is quick with them. -/
namespace Go.Ye
set_option linter.unusedVariables false
set_option linter.constructorNameAsVariable false
set_option linter.unusedSimpArgs false
noncomputable section

/-! ### trees -/

/-- One of eight. -/
def pick8 (d : Nat) (a b c e f g h i : R) : R :=
  Bool.rec (motive := fun _ => R)
    (Bool.rec (motive := fun _ => R) (Bool.rec (motive := fun _ => R) a b (Nat.beq d 1)) (Bool.rec (motive := fun _ => R) c e (Nat.beq d 3)) (Nat.ble 2 d))
    (Bool.rec (motive := fun _ => R) (Bool.rec (motive := fun _ => R) f g (Nat.beq d 5)) (Bool.rec (motive := fun _ => R) h i (Nat.ble 7 d)) (Nat.ble 6 d)) (Nat.ble 4 d)

theorem pick8_eq {α : Type} (G : α → R) (d : Nat) (a b c e f g h i : α) : pick8 d (G a) (G b) (G c) (G e) (G f) (G g) (G h) (G i) = G (sel8 d a b c e f g h i) := by
  rcases d with _ | _ | _ | _ | _ | _ | _ | d
  all_goals rfl

def T.getF {α : Type} (w : Nat) : T α → Nat → (Option α → R) → R :=
  Nat.rec (motive := fun _ => T α → Nat → (Option α → R) → R) (fun _ _ K => K none) (fun _ ih t k K =>
    T.rec (motive := fun _ => R) (K none) (fun x a b c d e f g h _ _ _ _ _ _ _ _ => Nat.rec (motive := fun _ => R) (K x) (fun k _ => natK (Nat.div k 8) fun k' =>
      pick8 (Nat.mod k 8) (ih a k' K) (ih b k' K) (ih c k' K) (ih d k' K) (ih e k' K) (ih f k' K) (ih g k' K) (ih h k' K)) k) t) w

theorem T.getF_eq {α : Type} : ∀ (w : Nat) (t : T α) (k : Nat) (K : Option α → R), T.getF w t k K = K (T.get w t k)
  | 0, _, _, _ => rfl
  | w + 1, .l, _, _ => rfl
  | w + 1, .n x a b c d e f g h, 0, _ => rfl
  | w + 1, .n x a b c d e f g h, k + 1, K => by
    show natK (Nat.div k 8) (fun k' => pick8 (Nat.mod k 8) (T.getF w a k' K) (T.getF w b k' K) (T.getF w c k' K) (T.getF w d k' K) (T.getF w e k' K) (T.getF w f k' K) (T.getF w g k' K) (T.getF w h k' K)) = _
    rw [natK_eq, pick8_eq (fun t => T.getF w t (Nat.div k 8) K), T.getF_eq w]
    rfl

theorem T.getF_getK {α : Type} (w : Nat) (t : T α) (k : Nat) (K : Option α → R) : T.getF w t k K = T.getK w t k K := by rw [T.getF_eq, T.getK_eq]

def T.setF {α : Type} (w : Nat) : T α → Nat → Option α → (T α → R) → R :=
  Nat.rec (motive := fun _ => T α → Nat → Option α → (T α → R) → R) (fun _ _ _ _ => .no "deep") (fun _ ih t k v K =>
    T.rec (motive := fun _ => R)
      (Nat.rec (motive := fun _ => R) (K (.n v .l .l .l .l .l .l .l .l)) (fun k _ => natK (Nat.div k 8) fun k' => ih .l k' v fun t =>
        pick8 (Nat.mod k 8) (K (.n none t .l .l .l .l .l .l .l)) (K (.n none .l t .l .l .l .l .l .l)) (K (.n none .l .l t .l .l .l .l .l)) (K (.n none .l .l .l t .l .l .l .l))
          (K (.n none .l .l .l .l t .l .l .l)) (K (.n none .l .l .l .l .l t .l .l)) (K (.n none .l .l .l .l .l .l t .l)) (K (.n none .l .l .l .l .l .l .l t))) k)
      (fun x a b c d e f g h _ _ _ _ _ _ _ _ => Nat.rec (motive := fun _ => R) (K (.n v a b c d e f g h)) (fun k _ => natK (Nat.div k 8) fun k' =>
        pick8 (Nat.mod k 8) (ih a k' v fun t => K (.n x t b c d e f g h)) (ih b k' v fun t => K (.n x a t c d e f g h)) (ih c k' v fun t => K (.n x a b t d e f g h)) (ih d k' v fun t => K (.n x a b c t e f g h))
          (ih e k' v fun t => K (.n x a b c d t f g h)) (ih f k' v fun t => K (.n x a b c d e t g h)) (ih g k' v fun t => K (.n x a b c d e f t h)) (ih h k' v fun t => K (.n x a b c d e f g t))) k) t) w

theorem T.setF_eq {α : Type} : ∀ (w : Nat) (t : T α) (k : Nat) (v : Option α) (K : T α → R), T.setF w t k v K = T.setK w t k v K
  | 0, _, _, _, _ => rfl
  | w + 1, .l, 0, _, _ => rfl
  | w + 1, .n x a b c d e f g h, 0, _, _ => rfl
  | w + 1, .l, k + 1, v, K => by
    rw [T.setK_leaf]
    show natK (Nat.div k 8) (fun k' => T.setF w .l k' v fun t => pick8 (Nat.mod k 8) (K (.n none t .l .l .l .l .l .l .l)) (K (.n none .l t .l .l .l .l .l .l)) (K (.n none .l .l t .l .l .l .l .l)) (K (.n none .l .l .l t .l .l .l .l))
          (K (.n none .l .l .l .l t .l .l .l)) (K (.n none .l .l .l .l .l t .l .l)) (K (.n none .l .l .l .l .l .l t .l)) (K (.n none .l .l .l .l .l .l .l t))) = _
    rw [natK_eq, T.setF_eq w]
    congr 1
    funext t
    rw [pick8_eq K]
    unfold up8 sel8
    rcases Nat.mod k 8 with _ | _ | _ | _ | _ | _ | _ | n <;> rfl
  | w + 1, .n x a b c d e f g h, k + 1, v, K => by
    rw [T.setK_node]
    show natK (Nat.div k 8) (fun k' => pick8 (Nat.mod k 8) (T.setF w a k' v fun t => K (.n x t b c d e f g h)) (T.setF w b k' v fun t => K (.n x a t c d e f g h)) (T.setF w c k' v fun t => K (.n x a b t d e f g h)) (T.setF w d k' v fun t => K (.n x a b c t e f g h))
          (T.setF w e k' v fun t => K (.n x a b c d t f g h)) (T.setF w f k' v fun t => K (.n x a b c d e t g h)) (T.setF w g k' v fun t => K (.n x a b c d e f t h)) (T.setF w h k' v fun t => K (.n x a b c d e f g t))) = _
    rw [natK_eq]
    simp only [T.setF_eq w]
    rw [pick8_eq (fun z : T α × (T α → T α) => T.setK w z.1 (Nat.div k 8) v fun t => K (z.2 t)) (Nat.mod k 8) (a, fun t => .n x t b c d e f g h) (b, fun t => .n x a t c d e f g h) (c, fun t => .n x a b t d e f g h) (d, fun t => .n x a b c t e f g h)
      (e, fun t => .n x a b c d t f g h) (f, fun t => .n x a b c d e t g h) (g, fun t => .n x a b c d e f t h) (h, fun t => .n x a b c d e f g t)]
    unfold up8 sel8
    rcases Nat.mod k 8 with _ | _ | _ | _ | _ | _ | _ | n <;> rfl

/-! ### frames -/

abbrev G1 := ∀ {α : Type}, N α → (α → R) → R
abbrev S1 := ∀ {α : Type}, N α → α → (N α → R) → R

def gA {α : Type} (n : N α) (K : α → R) : R := N.rec (motive := fun _ => R) (fun a b c d e f g h => K a) n
def gB {α : Type} (n : N α) (K : α → R) : R := N.rec (motive := fun _ => R) (fun a b c d e f g h => K b) n
def gC {α : Type} (n : N α) (K : α → R) : R := N.rec (motive := fun _ => R) (fun a b c d e f g h => K c) n
def gD {α : Type} (n : N α) (K : α → R) : R := N.rec (motive := fun _ => R) (fun a b c d e f g h => K d) n
def gE {α : Type} (n : N α) (K : α → R) : R := N.rec (motive := fun _ => R) (fun a b c d e f g h => K e) n
def gF {α : Type} (n : N α) (K : α → R) : R := N.rec (motive := fun _ => R) (fun a b c d e f g h => K f) n
def gG {α : Type} (n : N α) (K : α → R) : R := N.rec (motive := fun _ => R) (fun a b c d e f g h => K g) n
def gH {α : Type} (n : N α) (K : α → R) : R := N.rec (motive := fun _ => R) (fun a b c d e f g h => K h) n
def sA {α : Type} (n : N α) (v : α) (K : N α → R) : R := N.rec (motive := fun _ => R) (fun a b c d e f g h => K ⟨v, b, c, d, e, f, g, h⟩) n
def sB {α : Type} (n : N α) (v : α) (K : N α → R) : R := N.rec (motive := fun _ => R) (fun a b c d e f g h => K ⟨a, v, c, d, e, f, g, h⟩) n
def sC {α : Type} (n : N α) (v : α) (K : N α → R) : R := N.rec (motive := fun _ => R) (fun a b c d e f g h => K ⟨a, b, v, d, e, f, g, h⟩) n
def sD {α : Type} (n : N α) (v : α) (K : N α → R) : R := N.rec (motive := fun _ => R) (fun a b c d e f g h => K ⟨a, b, c, v, e, f, g, h⟩) n
def sE {α : Type} (n : N α) (v : α) (K : N α → R) : R := N.rec (motive := fun _ => R) (fun a b c d e f g h => K ⟨a, b, c, d, v, f, g, h⟩) n
def sF {α : Type} (n : N α) (v : α) (K : N α → R) : R := N.rec (motive := fun _ => R) (fun a b c d e f g h => K ⟨a, b, c, d, e, v, g, h⟩) n
def sG {α : Type} (n : N α) (v : α) (K : N α → R) : R := N.rec (motive := fun _ => R) (fun a b c d e f g h => K ⟨a, b, c, d, e, f, v, h⟩) n
def sH {α : Type} (n : N α) (v : α) (K : N α → R) : R := N.rec (motive := fun _ => R) (fun a b c d e f g h => K ⟨a, b, c, d, e, f, g, v⟩) n

def gOfD {α : Type} (i : D) : N α → (α → R) → R := D.rec (motive := fun _ => N α → (α → R) → R) gA gB gC gD gE gF gG gH i
def sOfD {α : Type} (i : D) : N α → α → (N α → R) → R := D.rec (motive := fun _ => N α → α → (N α → R) → R) sA sB sC sD sE sF sG sH i

theorem gOfD_eq {α : Type} (i : D) (n : N α) (K : α → R) : gOfD i n K = n.getK i K := by cases i <;> rfl
theorem sOfD_eq {α : Type} (i : D) (n : N α) (v : α) (K : N α → R) : sOfD i n v K = n.setK i v K := by cases i <;> rfl

abbrev Opd := List YV → Fr → (YV → R) → R
abbrev Wr := Fr → YV → (Fr → R) → R

def qx (g : N YV → (YV → R) → R) : Opd := fun s r K => Fr.rec (motive := fun _ => R) (fun x y z => g x K) r
def qy (g1 : N (N YV) → (N YV → R) → R) (g2 : N YV → (YV → R) → R) : Opd := fun s r K => Fr.rec (motive := fun _ => R) (fun x y z => g1 y fun n => g2 n K) r
def qz (g1 : N (N (N YV)) → (N (N YV) → R) → R) (g2 : N (N YV) → (N YV → R) → R) (g3 : N YV → (YV → R) → R) : Opd := fun s r K => Fr.rec (motive := fun _ => R) (fun x y z => g1 z fun n => g2 n fun n => g3 n K) r
def xk0 : Opd := fun s r K => List.rec (motive := fun _ => R) (.no "stack") (fun v _ _ => K v) s
def xk1 : Opd := fun s r K => List.rec (motive := fun _ => R) (.no "stack") (fun _ s _ => List.rec (motive := fun _ => R) (.no "stack") (fun v _ _ => K v) s) s
def xkn (n : Nat) : Opd := fun s r K => nthK s n K
def xcv (v : YV) : Opd := fun s r K => K v

def wx (s1 : N YV → YV → (N YV → R) → R) : Wr := fun r v K => Fr.rec (motive := fun _ => R) (fun x y z => s1 x v fun x => K ⟨x, y, z⟩) r
def wy (g1 : N (N YV) → (N YV → R) → R) (s1 : N (N YV) → N YV → (N (N YV) → R) → R) (s2 : N YV → YV → (N YV → R) → R) : Wr := fun r v K => Fr.rec (motive := fun _ => R) (fun x y z => g1 y fun n => s2 n v fun n => s1 y n fun y => K ⟨x, y, z⟩) r
def wz (g1 : N (N (N YV)) → (N (N YV) → R) → R) (s1 : N (N (N YV)) → N (N YV) → (N (N (N YV)) → R) → R) (g2 : N (N YV) → (N YV → R) → R) (s2 : N (N YV) → N YV → (N (N YV) → R) → R) (s3 : N YV → YV → (N YV → R) → R) : Wr :=
  fun r v K => Fr.rec (motive := fun _ => R) (fun x y z => g1 z fun m => g2 m fun n => s3 n v fun n => s2 m n fun m => s1 z m fun z => K ⟨x, y, z⟩) r

def denQ (q : Q) : Opd := Q.rec (motive := fun _ => Opd) (fun i => qx (gOfD i)) (fun i j => qy (gOfD i) (gOfD j)) (fun i j k => qz (gOfD i) (gOfD j) (gOfD k)) q
def denW (q : Q) : Wr := Q.rec (motive := fun _ => Wr) (fun i => wx (sOfD i)) (fun i j => wy (gOfD i) (sOfD i) (sOfD j)) (fun i j k => wz (gOfD i) (sOfD i) (gOfD j) (sOfD j) (sOfD k)) q
def denX (x : X) : Opd := X.rec (motive := fun _ => Opd) (fun q => denQ q) (fun v => xcv v) xk0 xk1 (fun n => xkn n) x

theorem denQ_eq (q : Q) (s : List YV) (r : Fr) (K : YV → R) : denQ q s r K = r.getK q K := by
  cases q <;> cases r <;> simp only [denQ, qx, qy, qz, gOfD_eq] <;> rfl

theorem denW_eq (q : Q) (r : Fr) (v : YV) (K : Fr → R) : denW q r v K = r.setK q v K := by
  cases q <;> cases r <;> simp only [denW, wx, wy, wz, gOfD_eq, sOfD_eq] <;> rfl

theorem denX_eq (x : X) (s : List YV) (r : Fr) (K : YV → R) : denX x s r K = evK s r x K := by
  cases x with
  | t q => exact denQ_eq q s r K
  | _ => rfl

/-! ### numbers -/

def asI (v : YV) (K : IntKind → Int → R) (E : R) : R := YV.rec (motive_1 := fun _ => R) (motive_2 := fun _ => R) (fun _ => E) (fun k n => K k n) (fun _ => E) (fun _ _ => E) E (fun _ _ _ _ _ => E) E (fun _ => E) E (fun _ _ _ => E) E (fun _ _ => E) (fun _ _ => E) E E (fun _ _ _ _ => E) v
def asB (v : YV) (K : Bool → R) (E : R) : R := YV.rec (motive_1 := fun _ => R) (motive_2 := fun _ => R) (fun b => K b) (fun k n => E) (fun _ => E) (fun _ _ => E) E (fun _ _ _ _ _ => E) E (fun _ => E) E (fun _ _ _ => E) E (fun _ _ => E) (fun _ _ => E) E E (fun _ _ _ _ => E) v
def asP (v : YV) (K : Nat → Nat → R) (E : R) : R := YV.rec (motive_1 := fun _ => R) (motive_2 := fun _ => R) (fun _ => E) (fun k n => E) (fun _ => E) (fun l o => K l o) E (fun _ _ _ _ _ => E) E (fun _ => E) E (fun _ _ _ => E) E (fun _ _ => E) (fun _ _ => E) E E (fun _ _ _ _ => E) v
def asS (v : YV) (K : Nat → Nat → Nat → Option Nat → Nat → R) (E : R) : R := YV.rec (motive_1 := fun _ => R) (motive_2 := fun _ => R) (fun _ => E) (fun k n => E) (fun _ => E) (fun l o => E) E (fun l o n e z => K l o n e z) E (fun _ => E) E (fun _ _ _ => E) E (fun _ _ => E) (fun _ _ => E) E E (fun _ _ _ _ => E) v
def asT (v : YV) (K : List YV → R) (E : R) : R := YV.rec (motive_1 := fun _ => R) (motive_2 := fun _ => R) (fun _ => E) (fun k n => E) (fun _ => E) (fun l o => E) E (fun l o n e z => E) E (fun _ => E) E (fun _ _ _ => E) E (fun _ _ => E) (fun l _ => K l) E E (fun _ _ _ _ => E) v
def asG (v : YV) (K : List YV → R) (E : R) : R := YV.rec (motive_1 := fun _ => R) (motive_2 := fun _ => R) (fun _ => E) (fun k n => E) (fun _ => E) (fun l o => E) E (fun l o n e z => E) E (fun _ => E) E (fun _ _ _ => E) E (fun l _ => K l) (fun _ _ => E) E E (fun _ _ _ _ => E) v
def asN (n : Int) (K : Nat → R) (E : R) : R := Int.rec (motive := fun _ => R) (fun m => K m) (fun _ => E) n

def kcode (k : IntKind) : Nat := IntKind.rec (motive := fun _ => Nat) 0 1 2 3 4 5 6 7 k
def kindF (k j : IntKind) : Bool := Nat.beq (kcode k) (kcode j)
theorem kindF_eq (k j : IntKind) : kindF k j = kindIs k j := by cases k <;> cases j <;> rfl

/-- The greatest number of a kind. -/
def kmax (k : IntKind) : Nat := IntKind.rec (motive := fun _ => Nat) 127 32767 2147483647 9223372036854775807 255 65535 4294967295 18446744073709551615 k

theorem wrap_small {k : IntKind} {s : Nat} (h : s ≤ kmax k) : k.wrap (.ofNat s) = .ofNat s := by
  cases k <;> simp only [kmax] at h <;> simp only [IntKind.wrap, IntKind.bits, IntKind.signed, Bool.true_and, Bool.false_and, Int.ofNat_eq_natCast, decide_eq_true_eq, Bool.false_eq_true, if_false] <;>
    first
    | omega
    | (rw [if_neg (fun hh => by have hh := of_decide_eq_true hh; omega)]; omega)

def wrapN (k : IntKind) (s : Nat) (K : Int → R) : R := IF (Nat.ble s (kmax k)) (K (.ofNat s)) (intK (k.wrap (.ofNat s)) K)

theorem wrapN_eq (k : IntKind) (s : Nat) (K : Int → R) : wrapN k s K = K (k.wrap (.ofNat s)) := by
  unfold wrapN
  cases h : Nat.ble s (kmax k) with
  | true => rw [IF_true, wrap_small (Nat.le_of_ble_eq_true h)]
  | false => rw [IF_false, intK_eq]

/-- Two numbers that are not negative. -/
def nn (a b : Int) (Y : Nat → Nat → R) (E : R) : R := Int.rec (motive := fun _ => R) (fun m => Int.rec (motive := fun _ => R) (fun n => Y m n) (fun _ => E) b) (fun _ => E) a

def addF (k : IntKind) (a b : Int) (K : YV → R) : R := nn a b (fun m n => natK (Nat.add m n) fun s => wrapN k s fun c => K (.i k c)) (intOpK .add k a b K)
def subF (k : IntKind) (a b : Int) (K : YV → R) : R := nn a b (fun m n => IF (Nat.ble n m) (natK (Nat.sub m n) fun s => wrapN k s fun c => K (.i k c)) (intOpK .sub k a b K)) (intOpK .sub k a b K)
def mulF (k : IntKind) (a b : Int) (K : YV → R) : R := nn a b (fun m n => natK (Nat.mul m n) fun s => wrapN k s fun c => K (.i k c)) (intOpK .mul k a b K)
def quoF (k : IntKind) (a b : Int) (K : YV → R) : R := nn a b (fun m n => IF (Nat.ble 1 n) (natK (Nat.div m n) fun s => wrapN k s fun c => K (.i k c)) (intOpK .quo k a b K)) (intOpK .quo k a b K)
def remF (k : IntKind) (a b : Int) (K : YV → R) : R := nn a b (fun m n => IF (Nat.ble 1 n) (natK (Nat.mod m n) fun s => K (.i k (.ofNat s))) (intOpK .rem k a b K)) (intOpK .rem k a b K)
def andF (k : IntKind) (a b : Int) (K : YV → R) : R := nn a b (fun m n => IF (Nat.ble m (kmax k)) (IF (Nat.ble n (kmax k)) (natK (Nat.land m n) fun s => wrapN k s fun c => K (.i k c)) (intOpK .and k a b K)) (intOpK .and k a b K)) (intOpK .and k a b K)
def orF (k : IntKind) (a b : Int) (K : YV → R) : R := nn a b (fun m n => IF (Nat.ble m (kmax k)) (IF (Nat.ble n (kmax k)) (natK (Nat.lor m n) fun s => wrapN k s fun c => K (.i k c)) (intOpK .or k a b K)) (intOpK .or k a b K)) (intOpK .or k a b K)
def eqlF (k : IntKind) (a b : Int) (K : YV → R) : R := nn a b (fun m n => boolK (Nat.beq m n) fun c => K (.b c)) (intOpK .eql k a b K)
def neqF (k : IntKind) (a b : Int) (K : YV → R) : R := nn a b (fun m n => boolK (Nat.beq m n) fun c => IF c (K (.b false)) (K (.b true))) (intOpK .neq k a b K)
def lssF (k : IntKind) (a b : Int) (K : YV → R) : R := nn a b (fun m n => boolK (Nat.blt m n) fun c => K (.b c)) (intOpK .lss k a b K)
def leqF (k : IntKind) (a b : Int) (K : YV → R) : R := nn a b (fun m n => boolK (Nat.ble m n) fun c => K (.b c)) (intOpK .leq k a b K)
def gtrF (k : IntKind) (a b : Int) (K : YV → R) : R := nn a b (fun m n => boolK (Nat.blt n m) fun c => K (.b c)) (intOpK .gtr k a b K)
def geqF (k : IntKind) (a b : Int) (K : YV → R) : R := nn a b (fun m n => boolK (Nat.ble n m) fun c => K (.b c)) (intOpK .geq k a b K)

theorem nn_eq {a b : Int} {Y : Nat → Nat → R} {E X : R} (hE : E = X) (h : ∀ m n, a = .ofNat m → b = .ofNat n → Y m n = X) : nn a b Y E = X := by
  cases a with
  | ofNat m => cases b with
    | ofNat n => exact h m n rfl rfl
    | negSucc n => exact hE
  | negSucc m => exact hE

theorem addF_eq (k : IntKind) (a b : Int) (K : YV → R) : addF k a b K = intOpK .add k a b K := nn_eq rfl fun m n ha hb => by
  subst ha hb
  rw [natK_eq, wrapN_eq]
  simp only [intOpK, retI, intK_eq]
  rfl
theorem subF_eq (k : IntKind) (a b : Int) (K : YV → R) : subF k a b K = intOpK .sub k a b K := nn_eq rfl fun m n ha hb => by
  subst ha hb
  cases h : Nat.ble n m with
  | false => rfl
  | true =>
    have := Nat.le_of_ble_eq_true h
    rw [IF_true, natK_eq, wrapN_eq]
    simp only [intOpK, retI, intK_eq]
    rw [show (Int.ofNat (Nat.sub m n)) = Int.ofNat m - Int.ofNat n from by show ((m - n : Nat) : Int) = (m : Int) - (n : Int); omega]
theorem mulF_eq (k : IntKind) (a b : Int) (K : YV → R) : mulF k a b K = intOpK .mul k a b K := nn_eq rfl fun m n ha hb => by
  subst ha hb
  rw [natK_eq, wrapN_eq]
  simp only [intOpK, retI, intK_eq]
  rfl
theorem quoF_eq (k : IntKind) (a b : Int) (K : YV → R) : quoF k a b K = intOpK .quo k a b K := nn_eq rfl fun m n ha hb => by
  subst ha hb
  cases h : Nat.ble 1 n with
  | false => rfl
  | true =>
    have := Nat.le_of_ble_eq_true h
    rw [IF_true, natK_eq, wrapN_eq]
    have h0 : decide ((Int.ofNat n : Int) = 0) = false := decide_eq_false (by simp; omega)
    simp only [intOpK, retI, intK_eq, h0]
    rfl
theorem remF_eq (k : IntKind) (a b : Int) (K : YV → R) : remF k a b K = intOpK .rem k a b K := nn_eq rfl fun m n ha hb => by
  subst ha hb
  cases h : Nat.ble 1 n with
  | false => rfl
  | true =>
    have := Nat.le_of_ble_eq_true h
    rw [IF_true, natK_eq]
    have h0 : decide ((Int.ofNat n : Int) = 0) = false := decide_eq_false (by simp; omega)
    simp only [intOpK, retI, intK_eq, h0]
    rfl

theorem small_bits {k : IntKind} {n : Nat} (h : n ≤ kmax k) : (BitVec.ofInt k.bits (.ofNat n)).toNat = n := by
  rw [BitVec.toNat_ofInt]
  cases k <;> simp only [kmax] at h <;> simp only [IntKind.bits, Int.ofNat_eq_natCast] <;> omega

theorem andF_eq (k : IntKind) (a b : Int) (K : YV → R) : andF k a b K = intOpK .and k a b K := nn_eq rfl fun m n ha hb => by
  subst ha hb
  cases h1 : Nat.ble m (kmax k) with
  | false => rfl
  | true =>
    cases h2 : Nat.ble n (kmax k) with
    | false => rfl
    | true =>
      rw [IF_true, IF_true, natK_eq, wrapN_eq]
      simp only [intOpK, retI, intK_eq, bitsI, BitVec.toNat_and, small_bits (Nat.le_of_ble_eq_true h1), small_bits (Nat.le_of_ble_eq_true h2)]
      rfl
theorem orF_eq (k : IntKind) (a b : Int) (K : YV → R) : orF k a b K = intOpK .or k a b K := nn_eq rfl fun m n ha hb => by
  subst ha hb
  cases h1 : Nat.ble m (kmax k) with
  | false => rfl
  | true =>
    cases h2 : Nat.ble n (kmax k) with
    | false => rfl
    | true =>
      rw [IF_true, IF_true, natK_eq, wrapN_eq]
      simp only [intOpK, retI, intK_eq, bitsI, BitVec.toNat_or, small_bits (Nat.le_of_ble_eq_true h1), small_bits (Nat.le_of_ble_eq_true h2)]
      rfl

theorem beq_nat (m n : Nat) : ((Int.ofNat m : Int) == Int.ofNat n) = Nat.beq m n := by
  cases h : Nat.beq m n with
  | true => rw [Nat.eq_of_beq_eq_true h]; simp
  | false =>
    have : m ≠ n := fun e => by subst e; rw [Nat.beq_refl] at h; cases h
    exact beq_eq_false_iff_ne.2 fun e => this (Int.ofNat.inj e)

theorem ble_nat (m n : Nat) : decide ((Int.ofNat m : Int) ≤ Int.ofNat n) = Nat.ble m n := by
  cases h : Nat.ble m n with
  | true => exact decide_eq_true (by simpa using Nat.le_of_ble_eq_true h)
  | false => exact decide_eq_false (fun hh => by rw [Nat.ble_eq_true_of_le (by simpa using hh)] at h; cases h)

theorem blt_nat (m n : Nat) : decide ((Int.ofNat m : Int) < Int.ofNat n) = Nat.blt m n := by
  cases h : Nat.blt m n with
  | true => exact decide_eq_true (by have := Nat.le_of_ble_eq_true h; simp; omega)
  | false => exact decide_eq_false (fun hh => by rw [show Nat.blt m n = true from Nat.ble_eq_true_of_le (by simp at hh; omega)] at h; cases h)

theorem eqlF_eq (k : IntKind) (a b : Int) (K : YV → R) : eqlF k a b K = intOpK .eql k a b K := nn_eq rfl fun m n ha hb => by
  subst ha hb
  simp only [intOpK, retB, boolK_eq, beq_nat]
theorem neqF_eq (k : IntKind) (a b : Int) (K : YV → R) : neqF k a b K = intOpK .neq k a b K := nn_eq rfl fun m n ha hb => by
  subst ha hb
  simp only [intOpK, retB, boolK_eq, bne, beq_nat]
  cases Nat.beq m n <;> rfl
theorem lssF_eq (k : IntKind) (a b : Int) (K : YV → R) : lssF k a b K = intOpK .lss k a b K := nn_eq rfl fun m n ha hb => by
  subst ha hb
  simp only [intOpK, retB, boolK_eq, blt_nat]
theorem leqF_eq (k : IntKind) (a b : Int) (K : YV → R) : leqF k a b K = intOpK .leq k a b K := nn_eq rfl fun m n ha hb => by
  subst ha hb
  simp only [intOpK, retB, boolK_eq, ble_nat]
theorem gtrF_eq (k : IntKind) (a b : Int) (K : YV → R) : gtrF k a b K = intOpK .gtr k a b K := nn_eq rfl fun m n ha hb => by
  subst ha hb
  simp only [intOpK, retB, boolK_eq, gt_iff_lt, blt_nat]
theorem geqF_eq (k : IntKind) (a b : Int) (K : YV → R) : geqF k a b K = intOpK .geq k a b K := nn_eq rfl fun m n ha hb => by
  subst ha hb
  simp only [intOpK, retB, boolK_eq, ge_iff_le, ble_nat]

end
end Go.Ye

/- Ye, part 3B: operations as functions. -/
namespace Go.Ye
set_option linter.unusedVariables false
set_option linter.constructorNameAsVariable false
set_option linter.unusedSimpArgs false
noncomputable section

/-! ### lists -/

def dropF {α : Type} (n : Nat) : List α → (List α → R) → R := Nat.rec (motive := fun _ => List α → (List α → R) → R) (fun l K => K l) (fun _ ih l K => List.rec (motive := fun _ => R) (.no "drop") (fun _ l _ => ih l K) l) n
theorem dropF_eq {α : Type} : ∀ (n : Nat) (l : List α) (K : List α → R), dropF n l K = dropK n l K
  | 0, _, _ => rfl
  | n + 1, [], _ => rfl
  | n + 1, _ :: l, K => dropF_eq n l K

def takeF {α : Type} (n : Nat) : List α → (List α → R) → R := Nat.rec (motive := fun _ => List α → (List α → R) → R) (fun l K => K []) (fun _ ih l K => List.rec (motive := fun _ => R) (.no "take") (fun x l _ => ih l fun r => K (x :: r)) l) n
theorem takeF_eq {α : Type} : ∀ (n : Nat) (l : List α) (K : List α → R), takeF n l K = takeK n l K
  | 0, _, _ => rfl
  | n + 1, [], _ => rfl
  | n + 1, x :: l, K => takeF_eq n l _

def lenF {α : Type} (l : List α) : Nat → (Nat → R) → R := List.rec (motive := fun _ => Nat → (Nat → R) → R) (fun n K => K n) (fun _ _ ih n K => natK (Nat.succ n) fun n => ih n K) l
theorem lenF_eq {α : Type} : ∀ (l : List α) (n : Nat) (K : Nat → R), lenF l n K = K (n + l.length)
  | [], _, _ => rfl
  | x :: l, n, K => by
    show natK (Nat.succ n) (fun n => lenF l n K) = _
    rw [natK_eq, lenF_eq l, List.length_cons, Nat.succ_eq_add_one, Nat.add_assoc, Nat.add_comm 1]

/-! ### memory -/

def YM.getF (m : YM) (l : Nat) (K : YB → R) : R := YM.rec (motive := fun _ => R) (fun h _ _ => T.getF 8 h l fun b => Option.rec (motive := fun _ => R) (.no "no block") (fun b => K b) b) m
theorem YM.getF_eq (m : YM) (l : Nat) (K : YB → R) : m.getF l K = m.getK l K := by
  cases m with
  | mk h n lo =>
    dsimp only [YM.getF, YM.getK]
    rw [T.getF_getK]

def YM.setF (m : YM) (l : Nat) (b : YB) (K : YM → R) : R := YM.rec (motive := fun _ => R) (fun h n lo =>
  IF (Nat.ble lo l) (T.setF 8 h l (some b) fun h => K ⟨h, n, lo⟩) (.no "a block that is to be left alone")) m
theorem YM.setF_eq (m : YM) (l : Nat) (b : YB) (K : YM → R) : m.setF l b K = m.setK l b K := by
  cases m
  show IF _ _ _ = IF _ _ _
  rw [T.setF_eq]

def YM.newF (m : YM) (b : YB) (K : Nat → YM → R) : R := YM.rec (motive := fun _ => R) (fun h n lo =>
  T.setF 8 h n (some b) fun h => natK (Nat.succ n) fun k => K n ⟨h, k, lo⟩) m
theorem YM.newF_eq (m : YM) (b : YB) (K : Nat → YM → R) : m.newF b K = m.newK b K := by
  cases m with
  | mk h n lo =>
    dsimp only [YM.newF, YM.newK]
    rw [T.setF_eq]

def asC (b : YB) (K : Option Nat → Bool → Nat → List YV → Nat → T YV → R) (E : R) : R := YB.rec (motive := fun _ => R) (fun kin w z zs es t => K kin w z zs es t) (fun _ _ => E) (fun _ _ _ _ => E) (fun _ _ => E) b

def cellF (zs : List YV) (es z : Nat) (t : T YV) (k : Nat) (K : YV → R) : R := IF (Nat.blt k z)
  (T.getF 8 t k fun v => Option.rec (motive := fun _ => R) (nthK zs (Nat.mod k es) K) (fun v => K v) v) (.no "no cell")
theorem cellF_eq (zs : List YV) (es z : Nat) (t : T YV) (k : Nat) (K : YV → R) : cellF zs es z t k K = cellK zs es z t k K := by
  unfold cellF cellK
  rw [T.getF_getK]

def cellsF (zs : List YV) (es z : Nat) (t : T YV) (k n : Nat) : (List YV → R) → R :=
  Nat.rec (motive := fun _ => Nat → (List YV → R) → R) (fun _ K => K []) (fun _ ih k K => cellF zs es z t k fun v => natK (Nat.succ k) fun k => ih k fun l => K (v :: l)) n k
theorem cellsF_eq (zs : List YV) (es z : Nat) (t : T YV) : ∀ (n k : Nat) (K : List YV → R), cellsF zs es z t k n K = cellsK zs es z t k n K
  | 0, _, _ => rfl
  | n + 1, k, K => by
    show cellF zs es z t k (fun v => natK (Nat.succ k) fun k => cellsF zs es z t k n fun l => K (v :: l)) = cellK zs es z t k (fun v => natK (Nat.succ k) fun k => cellsK zs es z t k n fun l => K (v :: l))
    rw [cellF_eq]
    congr 1
    funext v
    congr 1
    funext k
    exact cellsF_eq zs es z t n k _

def putsF (l : List YV) : Nat → T YV → (T YV → R) → R :=
  List.rec (motive := fun _ => Nat → T YV → (T YV → R) → R) (fun _ t K => K t) (fun v _ ih k t K => T.setF 8 t k (some v) fun t => natK (Nat.succ k) fun k => ih k t K) l
theorem putsF_eq : ∀ (l : List YV) (k : Nat) (t : T YV) (K : T YV → R), putsF l k t K = putsK l k t K
  | [], _, _, _ => rfl
  | v :: l, k, t, K => by
    show T.setF 8 t k (some v) (fun t => natK (Nat.succ k) fun k => putsF l k t K) = T.setK 8 t k (some v) (fun t => natK (Nat.succ k) fun k => putsK l k t K)
    rw [T.setF_eq]
    congr 1
    funext t
    congr 1
    funext k
    exact putsF_eq l k t K

def YM.loadF (m : YM) (l o n : Nat) (K : List YV → R) : R := m.getF l fun b => asC b (fun _ _ z zs es t => cellsF zs es z t o n K) (.no "no cells")
theorem YM.loadF_eq (m : YM) (l o n : Nat) (K : List YV → R) : m.loadF l o n K = m.loadK l o n K := by
  unfold YM.loadF YM.loadK
  rw [YM.getF_eq]
  congr 1
  funext b
  cases b <;> first | exact cellsF_eq _ _ _ _ _ _ _ | rfl

def YM.load1F (m : YM) (l o : Nat) (K : YV → R) : R := m.getF l fun b => asC b (fun _ _ z zs es t => cellF zs es z t o K) (.no "no cells")
theorem YM.load1F_eq (m : YM) (l o : Nat) (K : YV → R) : m.load1F l o K = m.load1K l o K := by
  unfold YM.load1F YM.load1K
  rw [YM.getF_eq]
  congr 1
  funext b
  cases b <;> first | exact cellF_eq _ _ _ _ _ _ | rfl

def YM.killF (m : YM) (kin : Option Nat) (K : YM → R) : R := Option.rec (motive := fun _ => R) (K m) (fun j => m.delK j K) kin
theorem YM.killF_eq (m : YM) (kin : Option Nat) (K : YM → R) : m.killF kin K = m.killK kin K := by cases kin <;> rfl

def YM.storeF (m : YM) (l o : Nat) (vs : List YV) (n : Nat) (K : YM → R) : R := m.getF l fun b => asC b (fun kin w z zs es t =>
  IF w (IF (Nat.ble (Nat.add o n) z) (m.killF kin fun m => putsF vs o t fun t => m.setF l (.c none true z zs es t) K) (.no "store: no cells")) (.no "store: not to be written")) (.no "store: no cells")
theorem YM.storeF_eq (m : YM) (l o : Nat) (vs : List YV) (n : Nat) (hn : vs.length = n) (K : YM → R) : m.storeF l o vs n K = m.storeK l o vs K := by
  subst hn
  unfold YM.storeF YM.storeK
  rw [YM.getF_eq]
  congr 1
  funext b
  cases b with
  | c kin w z zs es t =>
    cases w with
    | false => rfl
    | true =>
      show IF _ _ _ = natK _ _
      rw [natK_eq]
      cases Nat.ble (Nat.add o vs.length) z with
      | false => rfl
      | true =>
        rw [IF_true, YM.killF_eq]
        simp only
        congr 1
        funext m
        rw [putsF_eq]
        congr 1
        funext t
        exact YM.setF_eq _ _ _ _
  | _ => rfl

/-! ### operations -/

abbrev Call1 := FuncId → List YV → YM → (YV → YM → R) → R
/-- An operation: the calls, the stack, the frame, memory. -/
abbrev Run := Call1 → List YV → Fr → YM → (YV → YM → R) → R

def RunOk (o : O) (F : Run) : Prop := ∀ call s r m K, F call s r m K = opK call o (evK s r) m K

def rGen (o : O) : Run := fun call s r m K => opK call o (evK s r) m K
theorem rGen_ok (o : O) : RunOk o (rGen o) := fun _ _ _ _ _ => rfl

def rMv (x : Opd) : Run := fun call s r m K => x s r fun v => K v m
theorem rMv_ok (x : X) : RunOk (.mv x) (rMv (denX x)) := fun call s r m K => denX_eq _ _ _ _

def rPick (c a b : Opd) : Run := fun call s r m K => c s r fun c => asB c (fun c => IF c (a s r fun v => K v m) (b s r fun v => K v m)) (.no "pick")
theorem rPick_ok (c a b : X) : RunOk (.pick c a b) (rPick (denX c) (denX a) (denX b)) := fun call s r m K => by
  show denX c s r _ = evK s r c _
  rw [denX_eq]
  congr 1
  funext v
  cases v with
  | b c =>
    cases c with
    | true => exact denX_eq _ _ _ _
    | false => exact denX_eq _ _ _ _
  | _ => rfl

def rLd (x : Opd) : Run := fun call s r m K => x s r fun v => asP v (fun l o => m.load1F l o fun v => K v m) (.no "load")
theorem rLd_ok (x : X) : RunOk (.ld x) (rLd (denX x)) := fun call s r m K => by
  show denX x s r _ = evK s r x _
  rw [denX_eq]
  congr 1
  funext v
  cases v <;> first | exact YM.load1F_eq _ _ _ _ | rfl

def rLdn (n : Nat) (x : Opd) : Run := fun call s r m K => x s r fun v => asP v (fun l o => m.loadF l o n fun v => K (.ag v) m) (.no "load")
theorem rLdn_ok (n : Nat) (x : X) : RunOk (.ldn n x) (rLdn n (denX x)) := fun call s r m K => by
  show denX x s r _ = evK s r x _
  rw [denX_eq]
  congr 1
  funext v
  cases v <;> first | exact YM.loadF_eq _ _ _ _ _ | rfl

def cellsVF (v : YV) (K : List YV → R) : R := asG v K (IF (one1 v) (K [v]) (.no "cells"))
theorem cellsVF_eq (v : YV) (K : List YV → R) : cellsVF v K = cellsVK v K := by cases v <;> rfl

def rSt (n : Nat) (x v : Opd) : Run := fun call s r m K => x s r fun a => asP a (fun l o => v s r fun v => cellsVF v fun vs => lenF vs 0 fun k => IF (Nat.beq k n) (m.storeF l o vs k fun m => K (.tu []) m) (.no "store: size")) (.no "store")
theorem rSt_ok (n : Nat) (x v : X) : RunOk (.st n x v) (rSt n (denX x) (denX v)) := fun call s r m K => by
  show denX x s r _ = evK s r x _
  rw [denX_eq]
  congr 1
  funext a
  cases a with
  | p l o =>
    show denX v s r _ = evK s r v _
    rw [denX_eq]
    congr 1
    funext v
    rw [cellsVF_eq]
    congr 1
    funext vs
    rw [lenF_eq, Nat.zero_add]
    cases Nat.beq vs.length n with
    | false => rfl
    | true => exact YM.storeF_eq _ _ _ _ _ rfl _
  | _ => rfl

def ibF (F : IntKind → Int → Int → (YV → R) → R) (op : BinOp) (a b : YV) (K : YV → R) : R := asI a (fun k i => asI b (fun j n => IF (kindF k j) (F k i n K) (.no "kinds")) (binK op a b K)) (binK op a b K)
theorem ibF_eq {F : IntKind → Int → Int → (YV → R) → R} {op : BinOp} (hF : ∀ k a b K, F k a b K = intOpK op k a b K) (hs : isShift op = false) (a b : YV) (K : YV → R) : ibF F op a b K = binK op a b K := by
  cases a with
  | i k i => cases b with
    | i j n =>
      show IF (kindF k j) (F k i n K) _ = IF (isShift op) _ _
      rw [hs, IF_false, kindF_eq, hF]
    | _ => rfl
  | _ => rfl

def rIb (F : IntKind → Int → Int → (YV → R) → R) (op : BinOp) (x y : Opd) : Run := fun call s r m K => x s r fun a => y s r fun b => ibF F op a b fun v => K v m
theorem rIb_ok {F : IntKind → Int → Int → (YV → R) → R} {op : BinOp} (hF : ∀ k a b K, F k a b K = intOpK op k a b K) (hs : isShift op = false) (x y : X) : RunOk (.ib op x y) (rIb F op (denX x) (denX y)) := fun call s r m K => by
  show denX x s r _ = evK s r x _
  rw [denX_eq]
  congr 1
  funext a
  rw [denX_eq]
  congr 1
  funext b
  exact ibF_eq hF hs _ _ _

def shlF (k : IntKind) (a b : Int) (K : YV → R) : R := nn a b (fun m n => IF (Nat.blt n 8) (natK (Nat.mul m (Nat.pow 2 n)) fun s => wrapN k s fun c => K (.i k c)) (shiftK .shl k a b K)) (shiftK .shl k a b K)
def shrF (k : IntKind) (a b : Int) (K : YV → R) : R := nn a b (fun m n => IF (Nat.blt n 8) (natK (Nat.div m (Nat.pow 2 n)) fun s => K (.i k (.ofNat s))) (shiftK .shr k a b K)) (shiftK .shr k a b K)

theorem min_bits {k : IntKind} {n : Nat} (h : n < 8) : min n k.bits = n := by
  have : 8 ≤ k.bits := by cases k <;> decide
  omega

theorem shlF_eq (k : IntKind) (a b : Int) (K : YV → R) : shlF k a b K = shiftK .shl k a b K := nn_eq rfl fun m n ha hb => by
  subst ha hb
  cases h : Nat.blt n 8 with
  | false => rfl
  | true =>
    have hn : n < 8 := Nat.le_of_ble_eq_true h
    rw [IF_true, natK_eq, wrapN_eq]
    simp only [shiftK, retI, intK_eq, min_bits hn]
    congr 3
theorem shrF_eq (k : IntKind) (a b : Int) (K : YV → R) : shrF k a b K = shiftK .shr k a b K := nn_eq rfl fun m n ha hb => by
  subst ha hb
  cases h : Nat.blt n 8 with
  | false => rfl
  | true =>
    have hn : n < 8 := Nat.le_of_ble_eq_true h
    rw [IF_true, natK_eq]
    simp only [shiftK, retI, intK_eq, min_bits hn]
    congr 2
    show ((m / 2 ^ n : Nat) : Int) = Int.fdiv (m : Int) (2 ^ n)
    rw [show ((2 : Int) ^ n) = ((2 ^ n : Nat) : Int) from by simp, Int.ofNat_fdiv]

def isF (F : IntKind → Int → Int → (YV → R) → R) (op : BinOp) (a b : YV) (K : YV → R) : R := asI a (fun k i => asI b (fun j n => F k i n K) (binK op a b K)) (binK op a b K)
def rIs (F : IntKind → Int → Int → (YV → R) → R) (op : BinOp) (x y : Opd) : Run := fun call s r m K => x s r fun a => y s r fun b => isF F op a b fun v => K v m
theorem rIs_ok {F : IntKind → Int → Int → (YV → R) → R} {op : BinOp} (hF : ∀ k a b K, F k a b K = shiftK op k a b K) (hs : isShift op = true) (x y : X) : RunOk (.ib op x y) (rIs F op (denX x) (denX y)) := fun call s r m K => by
  show denX x s r _ = evK s r x _
  rw [denX_eq]
  congr 1
  funext a
  rw [denX_eq]
  congr 1
  funext b
  cases a with
  | i k i => cases b with
    | i j n =>
      show F k i n _ = IF (isShift op) _ _
      rw [hs, IF_true, hF]
    | _ => rfl
  | _ => rfl

def rNot (x : Opd) : Run := fun call s r m K => x s r fun a => asB a (fun b => IF b (K (.b false) m) (K (.b true) m)) (unK .not a fun v => K v m)
theorem rNot_ok (x : X) : RunOk (.un .not x) (rNot (denX x)) := fun call s r m K => by
  show denX x s r _ = evK s r x _
  rw [denX_eq]
  congr 1
  funext a
  cases a with
  | b c => cases c <;> rfl
  | _ => rfl

def rCv (k : IntKind) (x : Opd) : Run := fun call s r m K => x s r fun a => asI a (fun _ n => asN n (fun n => wrapN k n fun c => K (.i k c) m) (retI k (k.wrap n) fun v => K v m)) (.no "convert")
theorem rCv_ok (k : IntKind) (x : X) : RunOk (.cv k x) (rCv k (denX x)) := fun call s r m K => by
  show denX x s r _ = evK s r x _
  rw [denX_eq]
  congr 1
  funext a
  cases a with
  | i j n => cases n with
    | ofNat n =>
      show wrapN k n _ = retI k _ _
      rw [wrapN_eq]
      simp only [retI, intK_eq]
    | negSucc n => rfl
  | _ => rfl

def rNc (x : Opd) : Run := fun call s r m K => x s r fun v => asP v (fun l o => K (.p l o) m) (op_nc (.c v) (evK s r) m K)
theorem rNc_ok (x : X) : RunOk (.nc x) (rNc (denX x)) := fun call s r m K => by
  show denX x s r _ = evK s r x _
  rw [denX_eq]
  congr 1
  funext a
  cases a <;> rfl

def rFa (off : Nat) (x : Opd) : Run := fun call s r m K => x s r fun v => asP v (fun l o => natK (Nat.add o off) fun o => K (.p l o) m) (.no "field")
theorem rFa_ok (off : Nat) (x : X) : RunOk (.fa off x) (rFa off (denX x)) := fun call s r m K => by
  show denX x s r _ = evK s r x _
  rw [denX_eq]
  congr 1
  funext a
  cases a <;> rfl

def rIa (z : Nat) (x i : Opd) : Run := fun call s r m K => x s r fun v => i s r fun i => asI i (fun _ k => asN k (fun k => asS v (fun l o n _ _ => IF (Nat.blt k n) (natK (Nat.add o (Nat.mul k z)) fun o => K (.p l o) m) (.no "index")) (.no "index")) (.no "index")) (.no "index")
theorem rIa_ok (z : Nat) (x i : X) : RunOk (.ia z x i) (rIa z (denX x) (denX i)) := fun call s r m K => by
  show denX x s r _ = evK s r x _
  rw [denX_eq]
  congr 1
  funext v
  rw [denX_eq]
  congr 1
  funext i
  cases i with
  | i j k => cases k with
    | ofNat k => cases v with
      | sl l o n e z' =>
        show IF _ _ _ = _
        simp only
        cases Nat.blt k n <;> rfl
      | _ => rfl
    | negSucc _ => rfl
  | _ => rfl

def rIA (n z : Nat) (x i : Opd) : Run := fun call s r m K => x s r fun v => i s r fun i => asI i (fun _ k => asN k (fun k => asP v (fun l o => IF (Nat.blt k n) (natK (Nat.add o (Nat.mul k z)) fun o => K (.p l o) m) (.no "index")) (.no "index")) (.no "index")) (.no "index")
theorem rIA_ok (n z : Nat) (x i : X) : RunOk (.iA n z x i) (rIA n z (denX x) (denX i)) := fun call s r m K => by
  show denX x s r _ = evK s r x _
  rw [denX_eq]
  congr 1
  funext v
  rw [denX_eq]
  congr 1
  funext i
  cases i with
  | i j k => cases k with
    | ofNat k => cases v with
      | p l o =>
        show IF _ _ _ = _
        simp only
        cases Nat.blt k n <;> rfl
      | _ => rfl
    | negSucc _ => rfl
  | _ => rfl

def rFd (off size : Nat) (agg : Bool) (x : Opd) : Run := fun call s r m K => x s r fun v => asG v (fun l => dropF off l fun l => IF agg (takeF size l fun l => K (.ag l) m) (nthK l 0 fun v => K v m)) (.no "field")
theorem rFd_ok (off size : Nat) (agg : Bool) (x : X) : RunOk (.fd off size agg x) (rFd off size agg (denX x)) := fun call s r m K => by
  show denX x s r _ = evK s r x _
  rw [denX_eq]
  congr 1
  funext a
  cases a with
  | ag l =>
    show dropF off l _ = _
    rw [dropF_eq]
    simp only
    congr 1
    funext l
    cases agg
    · rfl
    · exact takeF_eq _ _ _
  | _ => rfl

def rIx (n z : Nat) (agg : Bool) (x i : Opd) : Run := fun call s r m K => x s r fun v => i s r fun i => asI i (fun _ k => asN k (fun k => asG v (fun l => IF (Nat.blt k n) (natK (Nat.mul k z) fun c => dropF c l fun l => IF agg (takeF z l fun l => K (.ag l) m) (nthK l 0 fun v => K v m)) (.no "index")) (.no "index")) (.no "index")) (.no "index")
theorem rIx_ok (n z : Nat) (agg : Bool) (x i : X) : RunOk (.ix n z agg x i) (rIx n z agg (denX x) (denX i)) := fun call s r m K => by
  show denX x s r _ = evK s r x _
  rw [denX_eq]
  congr 1
  funext v
  rw [denX_eq]
  congr 1
  funext i
  cases i with
  | i j k => cases k with
    | ofNat k => cases v with
      | ag l =>
        show IF _ _ _ = _
        simp only
        cases Nat.blt k n with
        | false => rfl
        | true =>
          rw [IF_true, natK_eq, dropF_eq]
          simp only
          congr 1
          funext l
          cases agg
          · rfl
          · exact takeF_eq _ _ _
      | _ => rfl
    | negSucc _ => rfl
  | _ => rfl

def rEx (x : Opd) (i : Nat) : Run := fun call s r m K => x s r fun v => asT v (fun l => nthK l i fun v => K v m) (.no "extract")
theorem rEx_ok (x : X) (i : Nat) : RunOk (.ex x i) (rEx (denX x) i) := fun call s r m K => by
  show denX x s r _ = evK s r x _
  rw [denX_eq]
  congr 1
  funext a
  cases a <;> rfl

def rLn (x : Opd) : Run := fun call s r m K => x s r fun v => asS v (fun _ _ n _ _ => K (.i .i64 (.ofNat n)) m) (op_ln (.c v) (evK s r) m K)
theorem rLn_ok (x : X) : RunOk (.ln x) (rLn (denX x)) := fun call s r m K => by
  show denX x s r _ = evK s r x _
  rw [denX_eq]
  congr 1
  funext a
  cases a <;> rfl

def evsD (xs : List Opd) (s : List YV) (r : Fr) : (List YV → R) → R :=
  List.rec (motive := fun _ => (List YV → R) → R) (fun K => K []) (fun x _ ih K => x s r fun v => ih fun vs => K (v :: vs)) xs
theorem evsD_eq (s : List YV) (r : Fr) : ∀ (xs : List X) (K : List YV → R), evsD (xs.map denX) s r K = evsK (evK s r) xs K
  | [], _ => rfl
  | x :: xs, K => by
    show denX x s r (fun v => evsD (xs.map denX) s r fun vs => K (v :: vs)) = evK s r x (fun v => evsK (evK s r) xs fun vs => K (v :: vs))
    rw [denX_eq]
    congr 1
    funext v
    exact evsD_eq s r xs _

def mapX (xs : List X) : List Opd := List.rec (motive := fun _ => List Opd) [] (fun x _ ih => denX x :: ih) xs
theorem mapX_eq : ∀ xs : List X, mapX xs = xs.map denX
  | [] => rfl
  | x :: xs => by
    show denX x :: mapX xs = _
    rw [mapX_eq xs]
    rfl

def rCa (g : FuncId) (xs : List Opd) : Run := fun call s r m K => evsD xs s r fun vs => call g vs m K
theorem rCa_ok (g : FuncId) (xs : List X) : RunOk (.ca g xs) (rCa g (mapX xs)) := fun call s r m K => by
  show evsD (mapX xs) s r _ = _
  rw [mapX_eq, evsD_eq]
  rfl

def appF {α : Type} (a b : List α) : List α := List.rec (motive := fun _ => List α) b (fun x _ ih => x :: ih) a
theorem appF_eq {α : Type} (a b : List α) : appF a b = a ++ b := by
  induction a with
  | nil => rfl
  | cons x a ih =>
    show x :: appF a b = _
    rw [ih]
    rfl

def asF (v : YV) (K : FuncId → List YV → R) (E : R) : R := YV.rec (motive_1 := fun _ => R) (motive_2 := fun _ => R) (fun _ => E) (fun k n => E) (fun _ => E) (fun l o => E) E (fun l o n e z => E) E (fun _ => E) E (fun g us _ => K g us) E (fun l _ => E) (fun _ _ => E) E E (fun _ _ _ _ => E) v

def rCc (x : Opd) (xs : List Opd) : Run := fun call s r m K => x s r fun v => evsD xs s r fun vs => asF v (fun g us => call g (appF vs us) m K) (.no "call")
theorem rCc_ok (x : X) (xs : List X) : RunOk (.cc x xs) (rCc (denX x) (mapX xs)) := fun call s r m K => by
  show denX x s r _ = evK s r x _
  rw [denX_eq]
  congr 1
  funext v
  rw [mapX_eq, evsD_eq]
  congr 1
  funext vs
  cases v with
  | f g us =>
    show call g (appF vs us) m K = _
    rw [appF_eq]
  | _ => rfl

def rAl (zs : List YV) (n : Nat) : Run := fun call s r m K => m.newF (.c none true n zs n .l) fun l m => K (.p l 0) m
theorem rAl_ok (zs : List YV) : RunOk (.al zs) (rAl zs zs.length) := fun call s r m K => YM.newF_eq _ _ _

def rBx (x : Opd) : Run := fun call s r m K => x s r fun v => cellsVF v fun vs => lenF vs 0 fun n => m.newF (.c none true n vs n .l) fun l m => K (.p l 0) m
theorem rBx_ok (x : X) : RunOk (.bx x) (rBx (denX x)) := fun call s r m K => by
  show denX x s r _ = evK s r x _
  rw [denX_eq]
  congr 1
  funext v
  rw [cellsVF_eq]
  congr 1
  funext vs
  rw [lenF_eq, Nat.zero_add, natK_eq]
  exact YM.newF_eq _ _ _

def rIsx (x i : Opd) : Run := fun call s r m K => x s r fun v => i s r fun i => asI i (fun _ k => asN k (fun k => op_is (.c v) (.c (.i .i64 (.ofNat k))) (evK s r) m K) (.no "index")) (.no "index")

def len1 (zs : List YV) : Nat := List.rec (motive := fun _ => Nat) 0 (fun _ _ ih => Nat.succ ih) zs
theorem len1_eq (zs : List YV) : len1 zs = zs.length := by
  induction zs with
  | nil => rfl
  | cons x zs ih =>
    show Nat.succ (len1 zs) = _
    rw [ih]
    rfl

def denO : O → Run
  | .mv x => rMv (denX x)
  | .pick c a b => rPick (denX c) (denX a) (denX b)
  | .ld x => rLd (denX x)
  | .ldn n x => rLdn n (denX x)
  | .st n x v => rSt n (denX x) (denX v)
  | .ib .add x y => rIb addF .add (denX x) (denX y)
  | .ib .sub x y => rIb subF .sub (denX x) (denX y)
  | .ib .mul x y => rIb mulF .mul (denX x) (denX y)
  | .ib .quo x y => rIb quoF .quo (denX x) (denX y)
  | .ib .rem x y => rIb remF .rem (denX x) (denX y)
  | .ib .and x y => rIb andF .and (denX x) (denX y)
  | .ib .or x y => rIb orF .or (denX x) (denX y)
  | .ib .eql x y => rIb eqlF .eql (denX x) (denX y)
  | .ib .neq x y => rIb neqF .neq (denX x) (denX y)
  | .ib .lss x y => rIb lssF .lss (denX x) (denX y)
  | .ib .leq x y => rIb leqF .leq (denX x) (denX y)
  | .ib .gtr x y => rIb gtrF .gtr (denX x) (denX y)
  | .ib .geq x y => rIb geqF .geq (denX x) (denX y)
  | .ib .shl x y => rIs shlF .shl (denX x) (denX y)
  | .ib .shr x y => rIs shrF .shr (denX x) (denX y)
  | .un .not x => rNot (denX x)
  | .cv k x => rCv k (denX x)
  | .nc x => rNc (denX x)
  | .fa off x => rFa off (denX x)
  | .ia z x i => rIa z (denX x) (denX i)
  | .iA n z x i => rIA n z (denX x) (denX i)
  | .fd off size agg x => rFd off size agg (denX x)
  | .ix n z agg x i => rIx n z agg (denX x) (denX i)
  | .ex x i => rEx (denX x) i
  | .ln x => rLn (denX x)
  | .ca g xs => rCa g (mapX xs)
  | .cc x xs => rCc (denX x) (mapX xs)
  | .al zs => rAl zs (len1 zs)
  | .bx x => rBx (denX x)
  | o => rGen o

theorem denO_ok (o : O) : RunOk o (denO o) := by
  unfold denO
  split
  case _ x => exact rMv_ok x
  case _ => exact rPick_ok _ _ _
  case _ => exact rLd_ok _
  case _ => exact rLdn_ok _ _
  case _ => exact rSt_ok _ _ _
  case _ => exact rIb_ok addF_eq rfl _ _
  case _ => exact rIb_ok subF_eq rfl _ _
  case _ => exact rIb_ok mulF_eq rfl _ _
  case _ => exact rIb_ok quoF_eq rfl _ _
  case _ => exact rIb_ok remF_eq rfl _ _
  case _ => exact rIb_ok andF_eq rfl _ _
  case _ => exact rIb_ok orF_eq rfl _ _
  case _ => exact rIb_ok eqlF_eq rfl _ _
  case _ => exact rIb_ok neqF_eq rfl _ _
  case _ => exact rIb_ok lssF_eq rfl _ _
  case _ => exact rIb_ok leqF_eq rfl _ _
  case _ => exact rIb_ok gtrF_eq rfl _ _
  case _ => exact rIb_ok geqF_eq rfl _ _
  case _ => exact rIs_ok shlF_eq rfl _ _
  case _ => exact rIs_ok shrF_eq rfl _ _
  case _ => exact rNot_ok _
  case _ => exact rCv_ok _ _
  case _ => exact rNc_ok _
  case _ => exact rFa_ok _ _
  case _ => exact rIa_ok _ _ _
  case _ => exact rIA_ok _ _ _ _
  case _ => exact rFd_ok _ _ _ _
  case _ => exact rIx_ok _ _ _ _ _
  case _ => exact rEx_ok _ _
  case _ => exact rLn_ok _
  case _ => exact rCa_ok _ _
  case _ => exact rCc_ok _ _
  case _ zs => rw [len1_eq]; exact rAl_ok _
  case _ => exact rBx_ok _
  case _ => exact rGen_ok _

end
end Go.Ye

/- Ye, part 3C: code and functions as functions; calls. -/
namespace Go.Ye
open Go.Sx (Callable)
set_option linter.unusedVariables false
set_option linter.constructorNameAsVariable false
set_option linter.unusedSimpArgs false
noncomputable section

/-! ### rows of operations -/

abbrev Seg := Call1 → List YV → Fr → YM → (Fr → YM → R) → R

def gEnd : Seg := fun call s r m K => K r m
def fN (rest : Seg) : YV → Seg := fun v call s r m K => rest call s r m K
def fP (rest : Seg) : YV → Seg := fun v call s r m K => rest call (v :: s) r m K
def fW (w : Wr) (rest : Seg) : YV → Seg := fun v call s r m K => w r v fun r => rest call s r m K
def fB (w : Wr) (rest : Seg) : YV → Seg := fun v call s r m K => w r v fun r => rest call (v :: s) r m K

def guardT (v : YV) (Y N : R) : R := asB v (fun c => IF c Y N) (asT v (fun l => List.rec (motive := fun _ => R) N (fun _ _ _ => .no "guard") l) (.no "guard"))
def guardF (v : YV) (Y N : R) : R := asB v (fun c => IF c N Y) (asT v (fun l => List.rec (motive := fun _ => R) N (fun _ _ _ => .no "guard") l) (.no "guard"))

def uO (F : Run) (fin : YV → Seg) : Seg := fun call s r m K => F call s r m fun v m => fin v call s r m K
def gT (x : Opd) (F : Run) (fin : YV → Seg) : Seg := fun call s r m K => x s r fun v => guardT v (F call s r m fun v m => fin v call s r m K) (fin (.tu []) call s r m K)
def gFl (x : Opd) (F : Run) (fin : YV → Seg) : Seg := fun call s r m K => x s r fun v => guardF v (F call s r m fun v m => fin v call s r m K) (fin (.tu []) call s r m K)

def denFin (d : Option Q) (p : Bool) (rest : Seg) : YV → Seg := match d with
  | none => match p with
    | false => fN rest
    | true => fP rest
  | some q => match p with
    | false => fW (denW q) rest
    | true => fB (denW q) rest

def denOp (o : Op1) (rest : Seg) : Seg := match o with
  | ⟨o, d, p, g⟩ => match g with
    | none => uO (denO o) (denFin d p rest)
    | some (x, b) => match b with
      | true => gT (denX x) (denO o) (denFin d p rest)
      | false => gFl (denX x) (denO o) (denFin d p rest)

def denSeg : List Op1 → Seg
  | [] => gEnd
  | o :: os => denOp o (denSeg os)

theorem guardT_eq (v : YV) (Y N : R) : guardT v Y N = (match v with
    | .b b => IF (b == true) Y N
    | .tu [] => N
    | _ => .no "guard") := by
  cases v with
  | b c => cases c <;> rfl
  | tu l => cases l <;> rfl
  | _ => rfl

theorem guardF_eq (v : YV) (Y N : R) : guardF v Y N = (match v with
    | .b b => IF (b == false) Y N
    | .tu [] => N
    | _ => .no "guard") := by
  cases v with
  | b c => cases c <;> rfl
  | tu l => cases l <;> rfl
  | _ => rfl

theorem denFin_eq (d : Option Q) (p : Bool) (rest : Seg) (v : YV) (call : Call1) (s : List YV) (r : Fr) (m : YM) (K : Fr → YM → R) :
    denFin d p rest v call s r m K = finK r d v fun r => pushK s p v fun s => rest call s r m K := by
  cases d with
  | none => cases p <;> rfl
  | some q =>
    cases p with
    | false =>
      show denW q r v (fun r => rest call s r m K) = r.setK q v (fun r => rest call s r m K)
      rw [denW_eq]
    | true =>
      show denW q r v (fun r => rest call (v :: s) r m K) = r.setK q v (fun r => rest call (v :: s) r m K)
      rw [denW_eq]

theorem denSeg_eq (call : Call1) : ∀ (os : List Op1) (s : List YV) (r : Fr) (m : YM) (K : Fr → YM → R), denSeg os call s r m K = opsK call os s r m K
  | [], _, _, _, _ => rfl
  | ⟨o, d, p, g⟩ :: os, s, r, m, K => by
    have ih := denSeg_eq call os
    have hfin : ∀ v m, denFin d p (denSeg os) v call s r m K = finK r d v fun r => pushK s p v fun s => opsK call os s r m K := by
      intro v m
      rw [denFin_eq]
      simp only [ih]
    have hR : opsK call (⟨o, d, p, g⟩ :: os) s r m K = wantK (evK s r) g (fun _ => opK call o (evK s r) m fun v m => finK r d v fun r => pushK s p v fun s => opsK call os s r m K)
      (fun _ => finK r d (.tu []) fun r => pushK s p (.tu []) fun s => opsK call os s r m K) := rfl
    rw [hR]
    cases g with
    | none =>
      show denO o call s r m (fun v m => denFin d p (denSeg os) v call s r m K) = opK call o (evK s r) m _
      rw [denO_ok]
      simp only [hfin]
    | some g =>
      obtain ⟨x, b⟩ := g
      have hW : ∀ Y N : R, wantK (evK s r) (some (x, b)) (fun _ => Y) (fun _ => N) = evK s r x (fun v => match v with
        | .b c => IF (c == b) Y N
        | .tu [] => N
        | _ => .no "guard") := fun Y N => rfl
      rw [hW]
      cases b with
      | true =>
        show denX x s r (fun v => guardT v (denO o call s r m fun v m => denFin d p (denSeg os) v call s r m K) (denFin d p (denSeg os) (.tu []) call s r m K)) = _
        rw [denX_eq]
        congr 1
        funext v
        rw [guardT_eq, denO_ok]
        simp only [hfin]
      | false =>
        show denX x s r (fun v => guardF v (denO o call s r m fun v m => denFin d p (denSeg os) v call s r m K) (denFin d p (denSeg os) (.tu []) call s r m K)) = _
        rw [denX_eq]
        congr 1
        funext v
        rw [guardF_eq, denO_ok]
        simp only [hfin]

/-! ### statements whose order is open -/

abbrev Val := Call1 → Fr → YM → R
def vK (v : YV) : R := .ok v
def vP (v : YV) : R := IF (plainV v) (.ok v) (.no "plain")
def vO (k : YV → R) (F : Run) : Val := fun call r m => F call [] r m fun v _ => k v
def vT (k : YV → R) (x : Opd) (F : Run) : Val := fun call r m => x [] r fun v => guardT v (F call [] r m fun v _ => k v) (.ok (.tu []))
def vFl (k : YV → R) (x : Opd) (F : Run) : Val := fun call r m => x [] r fun v => guardF v (F call [] r m fun v _ => k v) (.ok (.tu []))

def vFor : O → YV → R
  | .ca .. => vP
  | _ => vK

theorem vFor_eq (o : O) (v : YV) : vFor o v = IF (isCall o) (IF (plainV v) (.ok v) (.no "plain")) (.ok v) := by cases o <;> rfl

def denV (o : Op1) : Val := match o with
  | ⟨o, d, p, g⟩ => match g with
    | none => vO (vFor o) (denO o)
    | some (x, b) => match b with
      | true => vT (vFor o) (denX x) (denO o)
      | false => vFl (vFor o) (denX x) (denO o)

theorem denV_eq (call : Call1) (o : Op1) (r : Fr) (m : YM) : denV o call r m = valK call o r m := by
  obtain ⟨o, d, p, g⟩ := o
  cases g with
  | none =>
    show denO o call [] r m _ = opK call o (evK [] r) m _
    rw [denO_ok]
    simp only [vFor_eq]
  | some g =>
    obtain ⟨x, b⟩ := g
    cases b with
    | true =>
      show denX x [] r _ = evK [] r x _
      rw [denX_eq]
      congr 1
      funext v
      rw [guardT_eq, denO_ok]
      simp only [vFor_eq]
      rfl
    | false =>
      show denX x [] r _ = evK [] r x _
      rw [denX_eq]
      congr 1
      funext v
      rw [guardF_eq, denO_ok]
      simp only [vFor_eq]
      rfl

abbrev Chk := Call1 → Fr → YM → R → R
def cN : Chk := fun call r m N => N
def cV (V : Val) (rest : Chk) : Chk := fun call r m N => R.rec (motive := fun _ => R) (fun v => rest call r m N) (fun w => .no w) (V call r m)
def cQ (V : Val) (x : Opd) (rest : Chk) : Chk := fun call r m N => R.rec (motive := fun _ => R) (fun v => x [] r fun u => IF (beqV v u) (rest call r m N) (.no "held: differs")) (fun w => .no w) (V call r m)

def denChk : List Op1 → Chk
  | [] => cN
  | o :: os => match o.d with
    | none => cV (denV o) (denChk os)
    | some q => cQ (denV o) (denQ q) (denChk os)

theorem denChk_eq (call : Call1) (r : Fr) (m : YM) (N : R) : ∀ os : List Op1, denChk os call r m N = chkK call r m (fun _ => N) os
  | [] => rfl
  | o :: os => by
    have ih := denChk_eq call r m N os
    simp only [denChk, chkK]
    cases hd : o.d with
    | none =>
      show (R.rec (motive := fun _ => R) _ _ (denV o call r m) : R) = _
      rw [denV_eq, ih]
      cases valK call o r m <;> rfl
    | some q =>
      show (R.rec (motive := fun _ => R) _ _ (denV o call r m) : R) = _
      rw [denV_eq]
      cases valK call o r m with
      | no w => rfl
      | ok v =>
        show denQ q [] r _ = r.getK q _
        rw [denQ_eq, ih]

abbrev Dsg := Call1 → Fr → YM → (Fr → YM → R) → R
def dEnd : Dsg := fun call r m K => K r m
def dV (V : Val) (rest : Dsg) : Dsg := fun call r m K => R.rec (motive := fun _ => R) (fun v => rest call r m K) (fun w => .no w) (V call r m)
def dW (V : Val) (w : Wr) (rest : Dsg) : Dsg := fun call r m K => R.rec (motive := fun _ => R) (fun v => w r v fun r => rest call r m K) (fun w => .no w) (V call r m)
def wN : Wr := fun r v K => K r
def dE (F : Run) (w : Wr) (c : Chk) (rest : Dsg) : Dsg := fun call r m K => F call [] r m fun v m => w r v fun r => c call r m (rest call r m K)
def dT (x : Opd) (F : Run) (w : Wr) (c : Chk) (rest : Dsg) : Dsg := fun call r m K => x [] r fun v => guardT v (F call [] r m fun v m => w r v fun r => c call r m (rest call r m K)) (w r (.tu []) fun r => rest call r m K)
def dFl (x : Opd) (F : Run) (w : Wr) (c : Chk) (rest : Dsg) : Dsg := fun call r m K => x [] r fun v => guardF v (F call [] r m fun v m => w r v fun r => c call r m (rest call r m K)) (w r (.tu []) fun r => rest call r m K)

def denWo (d : Option Q) : Wr := match d with
  | none => wN
  | some q => denW q

def denD1 (o : Op2) (rest : Dsg) : Dsg := match o with
  | ⟨⟨o, d, p, g⟩, ix, eff, chk⟩ => match eff with
    | false => match d with
      | none => dV (denV ⟨o, d, p, g⟩) rest
      | some q => dW (denV ⟨o, d, p, g⟩) (denW q) rest
    | true => match g with
      | none => dE (denO o) (denWo d) (denChk chk) rest
      | some (x, b) => match b with
        | true => dT (denX x) (denO o) (denWo d) (denChk chk) rest
        | false => dFl (denX x) (denO o) (denWo d) (denChk chk) rest

def denD : List Op2 → Dsg
  | [] => dEnd
  | o :: os => denD1 o (denD os)

theorem denWo_eq (d : Option Q) (r : Fr) (v : YV) (K : Fr → R) : denWo d r v K = finK r d v K := by
  cases d with
  | none => rfl
  | some q => exact denW_eq q r v K

theorem denD_eq (call : Call1) : ∀ (os : List Op2) (r : Fr) (m : YM) (K : Fr → YM → R), denD os call r m K = drawK call os r m K
  | [], _, _, _ => rfl
  | ⟨⟨o, d, p, g⟩, ix, eff, chk⟩ :: os, r, m, K => by
    have ih := denD_eq call os
    cases eff with
    | false =>
      simp only [drawK]
      cases d with
      | none =>
        show (R.rec (motive := fun _ => R) _ _ (denV ⟨o, none, p, g⟩ call r m) : R) = _
        rw [denV_eq]
        cases valK call ⟨o, none, p, g⟩ r m with
        | ok v => exact ih _ _ _
        | no w => rfl
      | some q =>
        show (R.rec (motive := fun _ => R) _ _ (denV ⟨o, some q, p, g⟩ call r m) : R) = _
        rw [denV_eq]
        cases valK call ⟨o, some q, p, g⟩ r m with
        | ok v =>
          show denW q r v (fun r => denD os call r m K) = r.setK q v (fun r => drawK call os r m K)
          rw [denW_eq]
          simp only [ih]
        | no w => rfl
    | true =>
      have hR : drawK call (⟨⟨o, d, p, g⟩, ix, true, chk⟩ :: os) r m K = wantK (evK [] r) g (fun _ => opK call o (evK [] r) m fun v m => finK r d v fun r => chkK call r m (fun _ => drawK call os r m K) chk)
        (fun _ => finK r d (.tu []) fun r => drawK call os r m K) := by simp only [drawK]
      rw [hR]
      cases g with
      | none =>
        show denO o call [] r m (fun v m => denWo d r v fun r => denChk chk call r m (denD os call r m K)) = opK call o (evK [] r) m _
        rw [denO_ok]
        simp only [denWo_eq, denChk_eq, ih]
      | some g =>
        obtain ⟨x, b⟩ := g
        have hW : ∀ Y N : R, wantK (evK [] r) (some (x, b)) (fun _ => Y) (fun _ => N) = evK [] r x (fun v => match v with
          | .b c => IF (c == b) Y N
          | .tu [] => N
          | _ => .no "guard") := fun Y N => rfl
        rw [hW]
        cases b with
        | true =>
          show denX x [] r (fun v => guardT v (denO o call [] r m fun v m => denWo d r v fun r => denChk chk call r m (denD os call r m K)) (denWo d r (.tu []) fun r => denD os call r m K)) = _
          rw [denX_eq]
          congr 1
          funext v
          rw [guardT_eq, denO_ok]
          simp only [denWo_eq, denChk_eq, ih]
        | false =>
          show denX x [] r (fun v => guardF v (denO o call [] r m fun v m => denWo d r v fun r => denChk chk call r m (denD os call r m K)) (denWo d r (.tu []) fun r => denD os call r m K)) = _
          rw [denX_eq]
          congr 1
          funext v
          rw [guardF_eq, denO_ok]
          simp only [denWo_eq, denChk_eq, ih]

/-! ### code -/

abbrev Cd := Call1 → Fr → YM → (E → Fr → YM → R) → R
def kSkip : Cd := fun call r m K => K .nrm r m
def kReg (g : Seg) : Cd := fun call r m K => g call [] r m fun r m => K .nrm r m
def kDrw (g : Dsg) : Cd := fun call r m K => g call r m fun r m => K .nrm r m
def kSeq (a b : Cd) : Cd := fun call r m K => a call r m fun e r m => E.rec (motive := fun _ => R) (b call r m K) (K .ret r m) (fun i => K (.ext i) r m) e
def kCond (x : Opd) (a b : Cd) : Cd := fun call r m K => x [] r fun v => asB v (fun c => IF c (a call r m K) (b call r m K)) (.no "cond")
def kBlk (id : Nat) (c : Cd) : Cd := fun call r m K => c call r m fun e r m => E.rec (motive := fun _ => R) (K .nrm r m) (K .ret r m) (fun i => IF (Nat.beq i id) (K .nrm r m) (K (.ext i) r m)) e
def kLoop (c : Cd) : Cd := fun call r m K => rounds (c call) K 100000 r m
def kRet : Cd := fun call r m K => K .ret r m
def kExt (id : Nat) : Cd := fun call r m K => K (.ext id) r m

def denC : C → Cd
  | .skip => kSkip
  | .reg os => kReg (denSeg os)
  | .drw os => kDrw (denD os)
  | .seq a b => kSeq (denC a) (denC b)
  | .cond x a b => kCond (denX x) (denC a) (denC b)
  | .blk id c => kBlk id (denC c)
  | .loop c => kLoop (denC c)
  | .ret => kRet
  | .ext id => kExt id

theorem denC_eq (call : Call1) : ∀ c : C, denC c call = codeK call c := by
  intro c
  induction c with
  | skip => rfl
  | reg os =>
    funext r m K
    exact denSeg_eq call os _ _ _ _
  | drw os =>
    funext r m K
    exact denD_eq call os _ _ _
  | seq a b iha ihb =>
    funext r m K
    show denC a call r m (fun e r m => E.rec (motive := fun _ => R) (denC b call r m K) (K .ret r m) (fun i => K (.ext i) r m) e) = codeK call a r m (fun e r m => E.rec (motive := fun _ => R) (codeK call b r m K) (K .ret r m) (fun i => K (.ext i) r m) e)
    rw [iha, ihb]
  | cond x a b iha ihb =>
    funext r m K
    show denX x [] r (fun v => asB v (fun c => IF c (denC a call r m K) (denC b call r m K)) (.no "cond")) = evK [] r x (fun v => match v with
      | .b b' => IF b' (codeK call a r m K) (codeK call b r m K)
      | _ => .no "cond")
    rw [denX_eq, iha, ihb]
    congr 1
    funext v
    cases v <;> rfl
  | blk id c ih =>
    funext r m K
    show denC c call r m _ = codeK call c r m _
    rw [ih]
  | loop c ih =>
    funext r m K
    show rounds (denC c call) K 100000 r m = rounds (codeK call c) K 100000 r m
    rw [ih]
  | ret => rfl
  | ext id => rfl

/-! ### functions -/

abbrev Arg := List YV → Fr → (Fr → R) → R
def aEnd : Arg := fun vs r K => List.rec (motive := fun _ => R) (K r) (fun _ _ _ => .no "args") vs
def aW (w : Wr) (rest : Arg) : Arg := fun vs r K => List.rec (motive := fun _ => R) (.no "args") (fun v vs _ => w r v fun r => rest vs r K) vs

def denA : List (Option Q) → Arg
  | [] => aEnd
  | q :: qs => aW (denWo q) (denA qs)

theorem denA_eq : ∀ (qs : List (Option Q)) (vs : List YV) (r : Fr) (K : Fr → R), denA qs vs r K = argsK qs vs r K
  | [], [], _, _ => rfl
  | [], _ :: _, _, _ => rfl
  | _ :: _, [], _, _ => rfl
  | q :: qs, v :: vs, r, K => by
    show denWo q r v (fun r => denA qs vs r K) = finK r q v (fun r => argsK qs vs r K)
    rw [denWo_eq]
    congr 1
    funext r
    exact denA_eq qs vs r K

abbrev Res := Fr → YM → (List YV → R) → R
def eEnd : Res := fun r m K => K []
def eQ (x : Opd) (rest : Res) : Res := fun r m K => x [] r fun v => rest r m fun vs => K (v :: vs)
def e1 (x : Opd) (rest : Res) : Res := fun r m K => x [] r fun v => asP v (fun l o => m.load1F l o fun v => rest r m fun vs => K (v :: vs)) (.no "result")
def eN (x : Opd) (n : Nat) (rest : Res) : Res := fun r m K => x [] r fun v => asP v (fun l o => m.loadF l o n fun v => rest r m fun vs => K (.ag v :: vs)) (.no "result")

def denR : List (Q ⊕ (Q × Option Nat)) → Res
  | [] => eEnd
  | .inl q :: rs => eQ (denQ q) (denR rs)
  | .inr (q, none) :: rs => e1 (denQ q) (denR rs)
  | .inr (q, some n) :: rs => eN (denQ q) n (denR rs)

theorem denR_eq (r : Fr) (m : YM) : ∀ (rs : List (Q ⊕ (Q × Option Nat))) (K : List YV → R), denR rs r m K = resK r m rs K
  | [], _ => rfl
  | .inl q :: rs, K => by
    show denQ q [] r _ = r.getK q _
    rw [denQ_eq]
    congr 1
    funext v
    exact denR_eq r m rs _
  | .inr (q, none) :: rs, K => by
    show denQ q [] r _ = r.getK q _
    rw [denQ_eq]
    congr 1
    funext v
    cases v with
    | p l o =>
      show m.load1F l o _ = m.load1K l o _
      rw [YM.load1F_eq]
      congr 1
      funext v
      exact denR_eq r m rs _
    | _ => rfl
  | .inr (q, some n) :: rs, K => by
    show denQ q [] r _ = r.getK q _
    rw [denQ_eq]
    congr 1
    funext v
    cases v with
    | p l o =>
      show m.loadF l o n _ = m.loadK l o n _
      rw [YM.loadF_eq]
      congr 1
      funext v
      exact denR_eq r m rs _
    | _ => rfl

def oneF (vs : List YV) : YV := List.rec (motive := fun _ => YV) (.tu []) (fun v t _ => List.rec (motive := fun _ => YV) v (fun _ _ _ => .tu (v :: t)) t) vs
theorem oneF_eq (vs : List YV) : oneF vs = oneV vs := by
  cases vs with
  | nil => rfl
  | cons v t => cases t <;> rfl

/-- A function: the calls, the arguments, memory. -/
abbrev Fun := Call1 → List YV → YM → (YV → YM → R) → R
def kFun (a : Arg) (c : Cd) (e : Res) : Fun := fun call vs m K => a vs Fr.new fun r => c call r m fun x r m => E.rec (motive := fun _ => R) (e r m fun vs => K (oneF vs) m) (e r m fun vs => K (oneF vs) m) (fun _ => .no "exit") x

def denF (f : F) : Fun := match f with
  | ⟨a, c, e⟩ => kFun (denA a) (denC c) (denR e)

theorem denF_eq (f : F) (call : Call1) (vs : List YV) (m : YM) (K : YV → YM → R) : denF f call vs m K = bodyK call f vs m K := by
  obtain ⟨a, c, e⟩ := f
  show denA a vs Fr.new (fun r => denC c call r m fun x r m => E.rec (motive := fun _ => R) (denR e r m fun vs => K (oneF vs) m) (denR e r m fun vs => K (oneF vs) m) (fun _ => .no "exit") x) = argsK a vs Fr.new (fun r => codeK call c r m fun x r m => match x with
    | .ext _ => .no "exit"
    | _ => resK r m e fun vs => K (oneV vs) m)
  rw [denA_eq, denC_eq]
  congr 1
  funext r
  congr 1
  funext x r m
  cases x <;> simp only [denR_eq, oneF_eq]

/-! ### calls -/

structure TbD where
  t : T Fun
  pure : FuncId → Bool

def callD (tb : TbD) (d : Nat) : Call1 :=
  Nat.rec (motive := fun _ => FuncId → List YV → YM → (YV → YM → R) → R) (fun _ _ _ _ => .no "depth") (fun _ ih g vs m K => T.getF 8 tb.t g fun f =>
    Option.rec (motive := fun _ => R) (.no "no function") (fun f => IF (tb.pure g)
      (YM.rec (motive := fun _ => R) (fun h n lo => R.rec (motive := fun _ => R) (fun v => natK (Nat.add n gap) fun n => K v ⟨h, n, lo⟩) (fun w => .no w)
        (f ih vs ⟨h, n, n⟩ (fun v m' => YM.rec (motive := fun _ => R) (fun h' n' lo' => IF (Nat.ble n' (Nat.add n gap)) (IF (Nat.ble n lo') (.ok v) (.no "low")) (.no "gap")) m'))) m)
      (f ih vs m K)) f) d

/-- The functions of the table are the program's. -/
def TbDOk (P : Program) (pu : List Nat) (tb : TbD) : Prop := ∀ g fd, T.get 8 tb.t g = some fd → ∃ fn S f, P.funcs[g]? = some fn ∧ compF P pu S fn = some f ∧ fd = denF f

theorem callD_pure {P : Program} {pu : List Nat} {tb : TbD} (hT : TbDOk P pu tb) (hpt : ∀ g, g ∈ pu → tb.pure g = true) : ∀ d, PureOk (callD tb d) pu
  | 0 => fun g hg vs m K r h => by cases h
  | d + 1 => fun g hg vs m K r h => by
    obtain ⟨mh, mn, mlo⟩ := m
    have hR : ∀ K, callD tb (d + 1) g vs ⟨mh, mn, mlo⟩ K = T.getF 8 tb.t g (fun f =>
      Option.rec (motive := fun _ => R) (.no "no function") (fun f => IF (tb.pure g)
        (R.rec (motive := fun _ => R) (fun v => natK (Nat.add mn gap) fun n => K v ⟨mh, n, mlo⟩) (fun w => .no w)
          (f (callD tb d) vs ⟨mh, mn, mn⟩ (fun v m' => YM.rec (motive := fun _ => R) (fun h' n' lo' => IF (Nat.ble n' (Nat.add mn gap)) (IF (Nat.ble mn lo') (.ok v) (.no "low")) (.no "gap")) m')))
        (f (callD tb d) vs ⟨mh, mn, mlo⟩ K)) f) := fun K => rfl
    rw [hR, T.getF_eq] at h
    cases hgt : T.get 8 tb.t g with
    | none => rw [hgt] at h; cases h
    | some f =>
      rw [hgt] at h
      simp only [hpt g hg, IF_true] at h
      cases hbk : f (callD tb d) vs ⟨mh, mn, mn⟩ (fun v m' => YM.rec (motive := fun _ => R) (fun h' n' lo' => IF (Nat.ble n' (Nat.add mn gap)) (IF (Nat.ble mn lo') (.ok v) (.no "low")) (.no "gap")) m') with
      | no s => rw [hbk] at h; cases h
      | ok y =>
        rw [hbk] at h
        simp only [natK_eq] at h
        refine ⟨y, h, fun K' => ?_⟩
        rw [hR, T.getF_eq, hgt]
        simp only [hpt g hg, IF_true, hbk, natK_eq]
        rfl

theorem callD_sound {P : Program} {pu : List Nat} (hm : P.follows .mixedOrders = true) {tb : TbD} (hT : TbDOk P pu tb) (hpt : ∀ g, g ∈ pu → tb.pure g = true) : ∀ d, CallOk P (callD tb d)
  | 0 => fun w0 O B φ m w g vs xs K r h => by cases h
  | d + 1 => fun w0 O B φ m w g vs xs K r h hok hv => by
    have ih := callD_sound hm hT hpt d
    have h : T.getF 8 tb.t g (fun f =>
      Option.rec (motive := fun _ => R) (.no "no function") (fun f => IF (tb.pure g)
        (YM.rec (motive := fun _ => R) (fun h n lo => R.rec (motive := fun _ => R) (fun v => natK (Nat.add n gap) fun n => K v ⟨h, n, lo⟩) (fun w => .no w)
          (f (callD tb d) vs ⟨h, n, n⟩ (fun v m' => YM.rec (motive := fun _ => R) (fun h' n' lo' => IF (Nat.ble n' (Nat.add n gap)) (IF (Nat.ble n lo') (.ok v) (.no "low")) (.no "gap")) m'))) m)
        (f (callD tb d) vs m K)) f) = .ok r := h
    rw [T.getF_eq] at h
    cases hg : T.get 8 tb.t g with
    | none => rw [hg] at h; cases h
    | some fd =>
      rw [hg] at h
      obtain ⟨fn, S, f, hfn, hcf, rfl⟩ := hT g fd hg
      rcases IF_ok h with ⟨-, h⟩ | ⟨-, h⟩
      · obtain ⟨mh, mn, mlo⟩ := m
        simp only at h
        rw [denF_eq] at h
        cases hbk : bodyK (callD tb d) f vs ⟨mh, mn, mn⟩ (fun v m' => YM.rec (motive := fun _ => R) (fun h' n' lo' => IF (Nat.ble n' (Nat.add mn gap)) (IF (Nat.ble mn lo') (.ok v) (.no "low")) (.no "gap")) m') with
        | no s => rw [hbk] at h; cases h
        | ok y =>
          rw [hbk] at h
          simp only [natK_eq] at h
          have hok1 : Ok w0 O (YM.get ⟨mh, mn, mlo⟩) φ ⟨mh, mn, mn⟩ w := ⟨hok.os, hok.tape, hok.output, hok.size, hok.keep, hok.fresh, Nat.le_refl _, hok.blk, hok.apart, fun l _ => rfl⟩
          obtain ⟨c1, c2⟩ := bodyK_sound ih (callD_pure hT hpt d) hm hfn hcf hbk hok1 hv
          refine ⟨c1, c2.mono ?_⟩
          rintro e w' ⟨v, rfl, φ', y', m', hx, hok', hy, hK⟩
          obtain ⟨mh', mn', mlo'⟩ := m'
          simp only at hK
          rcases IF_ok hK with ⟨hb, hK⟩ | ⟨-, hK⟩
          · rcases IF_ok hK with ⟨hb2, hK⟩ | ⟨-, hK⟩
            · have hlo : mn ≤ mlo' := Nat.le_of_ble_eq_true hb2
              cases hK
              have hle : mn' ≤ mn + gap := Nat.le_of_ble_eq_true hb
              have hlow : ∀ l b, YM.get ⟨mh, mn, mlo⟩ l = some b → YM.get ⟨mh', mn', mlo'⟩ l = some b := fun l b hb => by
                obtain ⟨L, h1, -⟩ := hok.blk l b hb
                rw [hok'.low l (Nat.lt_of_lt_of_le (hok.fresh l L h1) hlo), hb]
              refine ⟨v, rfl, φ', y, ⟨mh, mn + gap, mlo⟩, hx, ⟨hok'.os, hok'.tape, hok'.output, hok'.size, hok'.keep, fun l L hl => ?_, ?_, fun l b hb => hok'.blk l b (hlow l b hb), ?_, hok.low⟩, hy, h⟩
              · exact Nat.lt_of_lt_of_le (hok'.fresh l L hl) hle
              · have : mlo ≤ mn := hok.lon
                show mlo ≤ mn + gap
                omega
              · intro l l' b b' L L' hne h1 h2 h3 h4 h5
                exact hok'.apart l l' b b' L L' hne (hlow _ _ h1) (hlow _ _ h2) h3 h4 h5
            · cases hK
          · cases hK
      · rw [denF_eq] at h
        exact bodyK_sound ih (callD_pure hT hpt d) hm hfn hcf h hok hv

end
end Go.Ye

/- Ye, part 3D: a call without arguments, evaluated, is a contract. -/
namespace Go.Ye
open Go.Sx (Callable PureSpec KeepX FxOk Fx Holds)
set_option linter.unusedVariables false

/-- What holds of all that stands in a tree. -/
def T.All {α : Type} : T α → (Nat → α → Prop) → Prop
  | .l, _ => True
  | .n x a b c d e f g h, Pr => (match x with
      | none => True
      | some v => Pr 0 v) ∧ T.All a (fun k => Pr (8 * k + 0 + 1)) ∧ T.All b (fun k => Pr (8 * k + 1 + 1)) ∧ T.All c (fun k => Pr (8 * k + 2 + 1)) ∧ T.All d (fun k => Pr (8 * k + 3 + 1)) ∧
      T.All e (fun k => Pr (8 * k + 4 + 1)) ∧ T.All f (fun k => Pr (8 * k + 5 + 1)) ∧ T.All g (fun k => Pr (8 * k + 6 + 1)) ∧ T.All h (fun k => Pr (8 * k + 7 + 1))

theorem T.All_get {α : Type} : ∀ (w : Nat) {t : T α} {Pr : Nat → α → Prop}, T.All t Pr → ∀ {k : Nat} {v : α}, T.get w t k = some v → Pr k v
  | 0, _, _, _, _, _, hv => by cases hv
  | w + 1, .l, _, _, _, _, hv => by cases hv
  | w + 1, .n x a b c d e f g h, Pr, hA, 0, v, hv => by
    have hv : x = some v := hv
    subst hv
    exact hA.1
  | w + 1, .n x a b c d e f g h, Pr, hA, k + 1, v, hv => by
    have hv : T.get w (sel8 (Nat.mod k 8) a b c d e f g h) (Nat.div k 8) = some v := hv
    obtain ⟨-, ha, hb, hc, hd, he, hf, hg, hh⟩ := hA
    have e1 : Nat.mod k 8 = k % 8 := rfl
    have e2 : Nat.div k 8 = k / 8 := rfl
    rw [e1, e2] at hv
    have hk : 8 * (k / 8) + k % 8 = k := Nat.div_add_mod k 8
    have hlt : k % 8 < 8 := Nat.mod_lt _ (by omega)
    generalize k % 8 = j at hv hk hlt
    have step : ∀ {t : T α} {i : Nat}, j = i → T.All t (fun k => Pr (8 * k + i + 1)) → T.get w t (k / 8) = some v → Pr (k + 1) v := by
      intro t i hi hA hv
      have := T.All_get w hA hv
      subst hi
      rw [hk] at this
      exact this
    rcases j with _ | _ | _ | _ | _ | _ | _ | _ | j
    · exact step rfl ha hv
    · exact step rfl hb hv
    · exact step rfl hc hv
    · exact step rfl hd hv
    · exact step rfl he hv
    · exact step rfl hf hv
    · exact step rfl hg hv
    · exact step rfl hh hv
    · omega

noncomputable def memF (l : List Nat) (g : Nat) : Bool := List.rec (motive := fun _ => Bool) false (fun x _ ih => Bool.rec (motive := fun _ => Bool) ih true (Nat.beq x g)) l

theorem memF_mem {l : List Nat} {g : Nat} (h : g ∈ l) : memF l g = true := by
  induction l with
  | nil => cases h
  | cons x l ih =>
    show (Bool.rec (motive := fun _ => Bool) (memF l g) true (Nat.beq x g) : Bool) = true
    cases hb : Nat.beq x g with
    | true => rfl
    | false =>
      rcases List.mem_cons.1 h with e | h
      · subst e
        rw [Nat.beq_refl] at hb
        cases hb
      · exact ih h

/-- The empty memory stands for any world. -/
theorem Ok.empty (w : World) : Ok w (fun _ => False) (fun _ => none) (fun _ => none) ⟨.l, 0, 0⟩ w :=
  ⟨rfl, rfl, rfl, Nat.le_refl _, fun b _ _ => rfl, fun l L h => (by cases h), Nat.le_refl _, fun l b h => (by cases h), fun l l' b b' L L' _ h => (by cases h), fun l h => absurd h (Nat.not_lt_zero _)⟩

noncomputable def isTrue (r : R) : Bool := R.rec (motive := fun _ => Bool) (fun v => YV.rec (motive_1 := fun _ => Bool) (motive_2 := fun _ => Bool) (fun b => b) (fun k n => false) (fun _ => false) (fun l o => false) false (fun l o n e z => false) false (fun _ => false) false (fun _ _ _ => false) false
  (fun l _ => false) (fun _ _ => false) false false (fun _ _ _ _ => false) v) (fun _ => false) r

theorem isTrue_eq {r : R} (h : isTrue r = true) : r = .ok (.b true) := by
  cases r with
  | no w => cases h
  | ok v =>
    cases v with
    | b c =>
      have h : c = true := h
      rw [h]
    | _ => cases h

/-- A call without arguments that the evaluator finds true. -/
theorem spec_true {P : Program} {pu : List Nat} (hm : P.follows .mixedOrders = true) {tb : TbD} (hT : TbDOk P pu tb) (hpt : ∀ g, g ∈ pu → tb.pure g = true) {d : Nat} {g : FuncId}
    (h : isTrue (callD tb d g [] ⟨.l, 0, 0⟩ fun v _ => .ok v) = true) : PureSpec P g [] (fun _ => True) (fun v F => v = .bool true) := by
  have hr := isTrue_eq h
  unfold PureSpec
  have key := fun w => callD_sound hm hT hpt d w (fun _ => False) (fun _ => none) (fun _ => none) ⟨.l, 0, 0⟩ w g [] [] (fun v _ => .ok v) (.b true) hr (Ok.empty w) (by unfold VRs; rfl)
  refine ⟨(key default).1, fun av w hav _ => (key w).2.mono ?_⟩
  rintro e w' ⟨v, rfl, φ', y, m', hx, hok, hv, hK⟩
  cases hK
  unfold VR at hv
  refine ⟨v, ⟨fun _ => True, []⟩, rfl, ⟨hok.os, hok.tape, hok.output, hok.size, fun b o ho => ?_⟩, ⟨fun r hr => (by cases hr), List.Pairwise.nil, ⟨fun _ => False, fun b hb => hb.elim, fun w' _ => trivial⟩⟩, hv⟩
  have hb : b < w.heap.size := (Array.getElem?_eq_some_iff.1 ho).1
  exact ⟨o, by rw [hok.keep b hb id, ho], .refl _ _⟩

end Go.Ye

/- Ye, part 4A: calls whose arguments are plain values: contracts. -/
namespace Go.Ye
open Go.Sx (Callable PureSpec KeepX FxOk Fx Holds)
set_option linter.unusedVariables false

/-- A call with plain arguments that the evaluator finds to be y, a plain value. -/
theorem spec_val {P : Program} {pu : List Nat} (hm : P.follows .mixedOrders = true) {tb : TbD} (hT : TbDOk P pu tb) (hpt : ∀ g, g ∈ pu → tb.pure g = true) {d : Nat} {g : FuncId} {ys : List YV} {xs : List Value} {y : YV}
    (hy : plainV y = true) (hxs : VRs (fun _ => none) ys xs) (hr : callD tb d g ys ⟨.l, 0, 0⟩ (fun v _ => .ok v) = .ok y) : PureSpec P g xs (fun _ => True) (fun v F => VR (fun _ => none) y v) := by
  unfold PureSpec
  have key := fun w => callD_sound hm hT hpt d w (fun _ => False) (fun _ => none) (fun _ => none) ⟨.l, 0, 0⟩ w g ys xs (fun v _ => .ok v) y hr (Ok.empty w) hxs
  refine ⟨(key default).1, fun av w hav _ => (key w).2.mono ?_⟩
  rintro e w' ⟨v, rfl, φ', y', m', hx, hok, hv, hK⟩
  cases hK
  refine ⟨v, ⟨fun _ => True, []⟩, rfl, ⟨hok.os, hok.tape, hok.output, hok.size, fun b o ho => ?_⟩, ⟨fun r hr => (by cases hr), List.Pairwise.nil, ⟨fun _ => False, fun b hb => hb.elim, fun w' _ => trivial⟩⟩, VR.plain hy hv⟩
  have hb : b < w.heap.size := (Array.getElem?_eq_some_iff.1 ho).1
  exact ⟨o, by rw [hok.keep b hb id, ho], .refl _ _⟩

theorem str_of (s : List UInt8) : str (s.map UInt8.toNat) = ⟨⟨s⟩⟩ := by
  unfold str
  rw [List.map_map]
  congr 1
  congr 1
  conv => rhs; rw [← List.map_id s]
  apply List.map_congr_left
  intro x _
  show UInt8.ofNat x.toNat = x
  simp

theorem VR.str (φ : Lm) (s : List UInt8) : VR φ (.s (s.map UInt8.toNat)) (.string ⟨⟨s⟩⟩) := by
  unfold VR
  refine ⟨by rw [str_of], fun c hc => ?_⟩
  obtain ⟨x, _, rfl⟩ := List.mem_map.1 hc
  exact x.toNat_lt

end Go.Ye

