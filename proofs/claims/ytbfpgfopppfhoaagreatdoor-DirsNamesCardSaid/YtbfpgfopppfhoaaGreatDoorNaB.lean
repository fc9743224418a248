/- Names, part B: the library's searching for a byte, evaluated. -/
import Derived.Test.YtbfpgfopppfhoaaGreatDoorYtB
import Derived.Test.YtbfpgfopppfhoaaGreatDoorMyD
import Derived.Test.YtbfpgfopppfhoaaGreatDoorNaA
namespace Go.Proofs.YtbfpgfopppfhoaaGreatDoor
open Go Go.Sx Go.Ye
set_option maxRecDepth 100000
set_option linter.unusedVariables false
set_option linter.unusedSimpArgs false

theorem count_eval (l : List Nat) : callD Tb.tbd 100 124 [.s l, .s [47]] ⟨.l, 0, 0⟩ (fun v _ => .ok v) = (countL 47 l 0 fun n => .ok (.i .i64 (.ofNat n))) := by kernel_rfl

theorem index_eval (l : List Nat) : callD Tb.tbd 100 125 [.s l, .s [47]] ⟨.l, 0, 0⟩ (fun v _ => .ok v) =
    (boolK (eqList [47] l) fun b => IF b (.ok (.i .i64 (.ofNat 0))) (indexL 47 l 0 fun n => match n with
      | some n => .ok (.i .i64 (.ofNat n))
      | none => .ok (.i .i64 (.negSucc 0)))) := by kernel_rfl

theorem toNat_beq (x : UInt8) : Nat.beq x.toNat 47 = (x == 47) := by
  cases h : x == 47 with
  | true =>
    have := eq_of_beq h
    subst this
    rfl
  | false =>
    cases hb : Nat.beq x.toNat 47 with
    | false => rfl
    | true =>
      have h1 := Nat.eq_of_beq_eq_true hb
      have : x = 47 := UInt8.toNat_inj.1 h1
      subst this
      cases h

theorem countL_str : ∀ (s : List UInt8) (n : Nat) (K : Nat → R), countL 47 (s.map UInt8.toNat) n K = K (n + s.count 47)
  | [], n, K => rfl
  | x :: s, n, K => by
    simp only [List.map_cons, countL, toNat_beq]
    cases h : x == 47 with
    | true =>
      have := eq_of_beq h
      subst this
      simp only
      rw [countL_str s, List.count_cons_self, Nat.succ_eq_add_one, Nat.add_assoc, Nat.add_comm 1]
    | false =>
      simp only
      rw [countL_str s, List.count_cons, h]
      rfl

theorem indexL_str : ∀ (s : List UInt8) (n : Nat) (K : Option Nat → R), indexL 47 (s.map UInt8.toNat) n K = K ((s.findIdx? (· == 47)).map (n + ·))
  | [], n, K => rfl
  | x :: s, n, K => by
    simp only [List.map_cons, indexL, toNat_beq, List.findIdx?_cons]
    cases h : x == 47 with
    | true => simp
    | false =>
      simp only
      rw [indexL_str s]
      congr 1
      cases s.findIdx? (· == 47) with
      | none => rfl
      | some k => simp; omega

theorem eqList_iff : ∀ {a b : List Nat}, eqList a b = true → a = b
  | [], [], _ => rfl
  | [], _ :: _, h => by cases h
  | _ :: _, [], h => by cases h
  | x :: a, y :: b, h => by
    simp only [eqList] at h
    cases hb : Nat.beq x y with
    | false => rw [hb] at h; cases h
    | true =>
      rw [hb] at h
      rw [Nat.eq_of_beq_eq_true hb, eqList_iff h]

/-- Where the first '/' stands. -/
def slash (s : List UInt8) : Int := match s.findIdx? (· == 47) with
  | some n => (n : Int)
  | none => -1

theorem count_spec (s : List UInt8) : PureSpec Tryz.prog 124 [strV s, strV [47]] (fun w => True) (fun v F => v = .int .i64 (s.count 47 : Int)) := by
  have h := count_eval (s.map UInt8.toNat)
  rw [countL_str] at h
  refine (spec_val Tb.mixed Tb.tbdOk (fun _ => memF_mem) (ys := [.s (s.map UInt8.toNat), .s [47]]) (xs := [strV s, strV [47]]) rfl ?_ h).imp (fun _ h => h) fun v F hv => ?_
  · unfold VRs
    exact ⟨_, _, rfl, VR.str _ s, by unfold VRs; exact ⟨_, _, rfl, VR.str _ [47], by unfold VRs; rfl⟩⟩
  · unfold VR at hv
    rw [hv, Nat.zero_add]
    rfl

theorem index_spec (s : List UInt8) : PureSpec Tryz.prog 125 [strV s, strV [47]] (fun w => True) (fun v F => v = .int .i64 (slash s)) := by
  have h := index_eval (s.map UInt8.toNat)
  have h' : callD Tb.tbd 100 125 [.s (s.map UInt8.toNat), .s [47]] ⟨.l, 0, 0⟩ (fun v _ => .ok v) = .ok (.i .i64 (slash s)) := by
    rw [h, boolK_eq]
    cases hb : eqList [47] (s.map UInt8.toNat) with
    | true =>
      have := eqList_iff hb
      cases s with
      | nil => cases this
      | cons x s =>
        simp only [List.map_cons, List.cons.injEq] at this
        have hx : x = 47 := UInt8.toNat_inj.1 this.1.symm
        subst hx
        rfl
    | false =>
      rw [IF_false, indexL_str]
      unfold slash
      cases s.findIdx? (· == 47) with
      | none => rfl
      | some n => simp
  refine (spec_val Tb.mixed Tb.tbdOk (fun _ => memF_mem) (ys := [.s (s.map UInt8.toNat), .s [47]]) (xs := [strV s, strV [47]]) rfl ?_ h').imp (fun _ h => h) fun v F hv => ?_
  · unfold VRs
    exact ⟨_, _, rfl, VR.str _ s, by unfold VRs; exact ⟨_, _, rfl, VR.str _ [47], by unfold VRs; rfl⟩⟩
  · unfold VR at hv
    exact hv

end Go.Proofs.YtbfpgfopppfhoaaGreatDoor
