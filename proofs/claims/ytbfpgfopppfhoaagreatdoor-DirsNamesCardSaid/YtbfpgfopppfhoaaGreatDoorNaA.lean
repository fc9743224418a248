/- Names, part A: names. -/
import Derived.Test.YtbfpgfopppfhoaaGreatDoorTab
import Derived.Test.YtbfpgfopppfhoaaGreatDoorMxC
namespace Go.Proofs.YtbfpgfopppfhoaaGreatDoor
open Go Go.Sx
set_option maxRecDepth 100000
set_option maxHeartbeats 4000000
set_option linter.unusedVariables false
set_option linter.unusedSimpArgs false

theorem mixed : Tryz.prog.follows .mixedOrders = true := by kernel_rfl

/-- A byte of a name. -/
def okc (c : UInt8) : Bool := (decide (97 ≤ c.toNat) && decide (c.toNat ≤ 122)) || ((decide (48 ≤ c.toNat) && decide (c.toNat ≤ 57)) || (c.toNat == 46 || (c.toNat == 45 || c.toNat == 95)))

def vname (s : List UInt8) : Bool := s.all okc && (decide (1 ≤ s.length) && decide (s.length ≤ 14))

theorem okc_iff {c : UInt8} : okc c = true ↔ ((97 ≤ c.toNat ∧ c.toNat ≤ 122) ∨ (48 ≤ c.toNat ∧ c.toNat ≤ 57) ∨ c.toNat = 46 ∨ c.toNat = 45 ∨ c.toNat = 95) := by
  simp [okc, Bool.or_eq_true, Bool.and_eq_true]

theorem vname_bad {s : List UInt8} {i : Nat} (hi : i < s.length) (h : ¬ okc s[i] = true) : vname s = false := by
  unfold vname
  have : s.all okc = false := by
    rw [List.all_eq_false]
    exact ⟨_, List.getElem_mem hi, h⟩
  rw [this]
  rfl

theorem all_next {s : List UInt8} {i : Nat} (hi : i < s.length) (h : (s.take i).all okc = true) (hk : okc s[i] = true) : (s.take (i + 1)).all okc = true := by
  rw [List.take_succ_eq_append_getElem hi, List.all_append, h]
  simp [hk]

theorem valid_spec (s : List UInt8) (hs : s.length ≤ 1000000) : PureSpec Tryz.prog 15 [strV s] (fun w => True) (fun v F => v = .bool (vname s)) := by
  refine PureSpec.of_xc tabOk Tryz.func15 rfl (by decide) (n := Tryz.f15.ntmps - 1) rfl rfl fun w0 av => ?_
  conv => whnf
  refine XStop.loop tabOk (ι := Nat) ([3, 4] ++ List.range' 7 33) (fun x => x ≤ s.length ∧ (s.take x).all okc = true)
    (fun x => [(7, .v (.int .i64 (x : Int)))]) (fun _ => []) (fun _ => ⟨fun w => True, []⟩)
    (fun x => s.length - x) 0 ⟨Nat.zero_le _, rfl⟩ ?_ rfl (Ent.refl _) fun i hi => ?_
  · conv => whnf
    repeat (first | exact FLe.nil | refine FLe.any ?_ | refine FLe.cons ?_)
  obtain ⟨hi, hall⟩ := hi
  conv => whnf
  refine XIf.split (fun hlt => ?_) (fun hlt => ?_)
  · conv => whnf
    have hlt' : i < s.length := by
      have : (i : Int) < s.length := by simpa [iLt_eq, mk_size] using hlt
      omega
    refine XVal.of_read (XRead.strIndex tabOk (t := 9) rfl rfl i rfl hlt' ?_)
    conv => whnf
    generalize hc : s[i] = c
    repeat' (first
      | (rw [show iLt (c.toNat : Int) 97 = iLt (c.toNat : Int) 97 from rfl]; cases ht0 : iLt (c.toNat : Int) 97 <;> conv => whnf)
      | (rw [show iGt (c.toNat : Int) 122 = iGt (c.toNat : Int) 122 from rfl]; cases ht1 : iGt (c.toNat : Int) 122 <;> conv => whnf)
      | (rw [show iLt (c.toNat : Int) 48 = iLt (c.toNat : Int) 48 from rfl]; cases ht2 : iLt (c.toNat : Int) 48 <;> conv => whnf)
      | (rw [show iGt (c.toNat : Int) 57 = iGt (c.toNat : Int) 57 from rfl]; cases ht3 : iGt (c.toNat : Int) 57 <;> conv => whnf)
      | (rw [show iNe (c.toNat : Int) 46 = iNe (c.toNat : Int) 46 from rfl]; cases ht4 : iNe (c.toNat : Int) 46 <;> conv => whnf)
      | (rw [show iNe (c.toNat : Int) 45 = iNe (c.toNat : Int) 45 from rfl]; cases ht5 : iNe (c.toNat : Int) 45 <;> conv => whnf)
      | (rw [show iNe (c.toNat : Int) 95 = iNe (c.toNat : Int) 95 from rfl]; cases ht6 : iNe (c.toNat : Int) 95 <;> conv => whnf)
      | (refine XSame.of ?_; conv => whnf)
      | (refine XIf.yes rfl ?_; conv => whnf)
      | (refine XIf.no rfl ?_; conv => whnf))
    all_goals first
      | (have hok : okc s[i] = true := (by
           rw [hc, okc_iff]
           simp only [iLt_eq, iGt_eq, iNe_eq, decide_eq_true_eq, decide_eq_false_iff_not, bne_iff_ne, ne_eq, bne_eq_false_iff_eq] at *
           omega)
         refine ⟨i + 1, ⟨⟨hlt', all_next hlt' hall hok⟩, by dsimp only; omega⟩, ?_, ?_, Ent.refl _⟩
         · conv => whnf
           refine ⟨?_, rfl⟩
           repeat (first | exact FLe.nil | refine FLe.any ?_ | refine FLe.cons ?_ | refine FLe.eq (by rw [wrap_i64 (by omega)]; rfl) ?_)
         · conv => whnf
           exact trivial)
      | (have hok : ¬ okc s[i] = true := (by
           rw [hc, okc_iff]
           simp only [iLt_eq, iGt_eq, iNe_eq, decide_eq_true_eq, decide_eq_false_iff_not, bne_iff_ne, ne_eq, bne_eq_false_iff_eq] at *
           omega)
         exact ⟨_, Ent.refl _, by rw [vname_bad hlt' hok]⟩)
      | (exfalso
         simp only [iLt_eq, iGt_eq, iNe_eq, decide_eq_true_eq, decide_eq_false_iff_not, bne_iff_ne, ne_eq, bne_eq_false_iff_eq] at *
         omega)
  · conv => whnf
    have hie : i = s.length := by
      have : ¬ i < s.length := by simpa [iLt_eq, mk_size] using hlt
      omega
    subst hie
    repeat' (first
      | (refine XSame.of ?_; conv => whnf))
    refine ⟨_, Ent.refl _, ?_⟩
    rw [List.take_length] at hall
    simp only [mk_size, iGe_eq, iLe_eq, vname, hall, Bool.true_and]
    congr 1
    rw [Bool.eq_iff_iff]
    simp
    try omega

theorem validR_spec (s : List UInt8) (hs : s.length ≤ 1000000) : PureSpec Tryz.prog 16 [strV s] (fun w => True) (fun v F => v = .bool (vname s)) := by
  refine PureSpec.of_xc tabOk Tryz.func16 rfl (by decide) (n := Tryz.f16.ntmps - 1) rfl rfl fun w0 av => ?_
  conv => whnf
  refine XStop.loop tabOk (ι := Nat) ([3, 4] ++ List.range' 5 36) (fun x => x ≤ s.length ∧ (s.take x).all okc = true)
    (fun x => [(3, .v (.int .i64 (x : Int)))]) (fun _ => []) (fun _ => ⟨fun w => True, []⟩)
    (fun x => s.length - x) 0 ⟨Nat.zero_le _, rfl⟩ ?_ rfl (Ent.refl _) fun i hi => ?_
  · conv => whnf
    repeat (first | exact FLe.nil | refine FLe.any ?_ | refine FLe.cons ?_)
  obtain ⟨hi, hall⟩ := hi
  conv => whnf
  refine XIf.split (fun hlt => ?_) (fun hlt => ?_)
  · conv => whnf
    have hlt' : i < s.length := by
      have : (i : Int) < s.length := by simpa [iLt_eq, mk_size] using hlt
      omega
    refine XVal.of_read (XRead.strIndex tabOk (t := 9) rfl rfl i rfl hlt' ?_)
    conv => whnf
    generalize hc : s[i] = c
    repeat' (first
      | (rw [show iGe (c.toNat : Int) 97 = iGe (c.toNat : Int) 97 from rfl]; cases ht0 : iGe (c.toNat : Int) 97 <;> conv => whnf)
      | (rw [show iLe (c.toNat : Int) 122 = iLe (c.toNat : Int) 122 from rfl]; cases ht1 : iLe (c.toNat : Int) 122 <;> conv => whnf)
      | (rw [show iGe (c.toNat : Int) 48 = iGe (c.toNat : Int) 48 from rfl]; cases ht2 : iGe (c.toNat : Int) 48 <;> conv => whnf)
      | (rw [show iLe (c.toNat : Int) 57 = iLe (c.toNat : Int) 57 from rfl]; cases ht3 : iLe (c.toNat : Int) 57 <;> conv => whnf)
      | (rw [show iEq (c.toNat : Int) 46 = iEq (c.toNat : Int) 46 from rfl]; cases ht4 : iEq (c.toNat : Int) 46 <;> conv => whnf)
      | (rw [show iEq (c.toNat : Int) 45 = iEq (c.toNat : Int) 45 from rfl]; cases ht5 : iEq (c.toNat : Int) 45 <;> conv => whnf)
      | (rw [show iEq (c.toNat : Int) 95 = iEq (c.toNat : Int) 95 from rfl]; cases ht6 : iEq (c.toNat : Int) 95 <;> conv => whnf)
      | (refine XSame.of ?_; conv => whnf)
      | (refine XIf.yes rfl ?_; conv => whnf)
      | (refine XIf.no rfl ?_; conv => whnf))
    all_goals first
      | (have hok : okc s[i] = true := (by
           rw [hc, okc_iff]
           simp only [iLe_eq, iGe_eq, iEq_eq, decide_eq_true_eq, decide_eq_false_iff_not, beq_iff_eq, beq_eq_false_iff_ne, ne_eq] at *
           omega)
         refine ⟨i + 1, ⟨⟨hlt', all_next hlt' hall hok⟩, by dsimp only; omega⟩, ?_, ?_, Ent.refl _⟩
         · conv => whnf
           refine ⟨?_, rfl⟩
           repeat (first | exact FLe.nil | refine FLe.any ?_ | refine FLe.cons ?_ | refine FLe.eq (by rw [wrap_i64 (by omega)]; rfl) ?_)
         · conv => whnf
           exact trivial)
      | (have hok : ¬ okc s[i] = true := (by
           rw [hc, okc_iff]
           simp only [iLe_eq, iGe_eq, iEq_eq, decide_eq_true_eq, decide_eq_false_iff_not, beq_iff_eq, beq_eq_false_iff_ne, ne_eq] at *
           omega)
         exact ⟨_, Ent.refl _, by rw [vname_bad hlt' hok]⟩)
      | (exfalso
         simp only [iLe_eq, iGe_eq, iEq_eq, decide_eq_true_eq, decide_eq_false_iff_not, beq_iff_eq, beq_eq_false_iff_ne, ne_eq] at *
         omega)
  · conv => whnf
    have hie : i = s.length := by
      have : ¬ i < s.length := by simpa [iLt_eq, mk_size] using hlt
      omega
    subst hie
    repeat' (first
      | (refine XSame.of ?_; conv => whnf))
    refine ⟨_, Ent.refl _, ?_⟩
    rw [List.take_length] at hall
    simp only [mk_size, iGe_eq, iLe_eq, vname, hall, Bool.true_and]
    congr 1
    rw [Bool.eq_iff_iff]
    simp
    try omega

end Go.Proofs.YtbfpgfopppfhoaaGreatDoor
