/- Parts of the proof: NbE, NbF, NbG, NbH, NvA, NvB, NbI. -/
import Derived.Test.YtfeoedkmndkbjaaGreatDoorQG
import Derived.Test.YtfeoedkmndkbjaaGreatDoorQH
namespace Go.Proofs.YtfeoedkmndkbjaaGreatDoor
open Go Go.Sx
set_option maxRecDepth 100000
set_option maxHeartbeats 4000000
set_option linter.unusedVariables false
set_option linter.unusedSimpArgs false

def fld (f : Field) : String × Nat × Nat := (f.name, f.type, f.offset)

theorem list3 {α β : Type} {g : α → β} {l : List α} {a b c : β} (h : l.map g = [a, b, c]) : ∃ x y z, l = [x, y, z] ∧ g x = a ∧ g y = b ∧ g z = c := by
  match l, h with
  | [x, y, z], h =>
    simp at h
    exact ⟨x, y, z, rfl, h.1, h.2.1, h.2.2⟩

def inoZ (k s : Nat) (b : Nat → Nat) : Bool := decide (k = 0) && (decide (s = 0) && (List.range 12).all fun i => decide (b i = 0))

theorem inoZ_iff {k s : Nat} {b : Nat → Nat} : inoZ k s b = true ↔ k = 0 ∧ s = 0 ∧ ∀ i, i < 12 → b i = 0 := by
  simp [inoZ, List.all_eq_true]

theorem ino_eq (k s : Nat) (b : Nat → Nat) (w : World) : (Op.equalIn 10000 74 (.agg ⟨inoL k s b⟩) (.agg ⟨inoL 0 0 fun _ => 0⟩)).run Tryz.prog w = .ok (inoZ k s b) w := by
  have hS : Tryz.prog.underlying 74 = some (.struct (Tryz.prog.fieldsOf 74)) := by kernel_rfl
  have hp : Tryz.prog.stoodInHeld 74 = false := by kernel_rfl
  have hf : (Tryz.prog.fieldsOf 74).toList.map fld = [("Kind", 3, 0), ("Size", 3, 1), ("Blocks", 72, 2)] := by kernel_rfl
  obtain ⟨x, y, z, hl, hx, hy, hz⟩ := list3 hf
  have h3 : Tryz.prog.underlying 3 = some (.int .i64) := by kernel_rfl
  have h47 : Tryz.prog.underlying 72 = some (.array 12 3) := by kernel_rfl
  obtain ⟨i3, hi3⟩ : ∃ i, Tryz.prog.info? 3 = some i := Option.isSome_iff_exists.1 (by kernel_rfl)
  obtain ⟨i47, hi47, hs47⟩ : ∃ i, Tryz.prog.info? 72 = some i ∧ i.size = 12 := by
    obtain ⟨i, hi⟩ : ∃ i, Tryz.prog.info? 72 = some i := Option.isSome_iff_exists.1 (by kernel_rfl)
    have hsz : (Tryz.prog.info? 72).map (·.size) = some 12 := by kernel_rfl
    rw [hi] at hsz
    exact ⟨i, hi, by simpa using hsz⟩
  have hc3 : Tryz.prog.cellsOf 3 = 1 := by kernel_rfl
  simp only [fld, Prod.mk.injEq] at hx hy hz
  obtain ⟨hx1, hx2, hx3⟩ := hx
  obtain ⟨hy1, hy2, hy3⟩ := hy
  obtain ⟨hz1, hz2, hz3⟩ := hz
  rw [show (10000 : Nat) = 9999 + 1 from rfl, run_equalIn_struct w 9999 74 _ _ hS hp, hl]
  simp only [Op.eqFields, hx1, hx2, hx3, hy1, hy2, hy3, hz1, hz2, hz3]
  have hq : ∀ a : Nat, (Op.equalIn 9999 3 (intV a) (intV 0)).run Tryz.prog w = .ok (decide (a = 0)) w := fun a => by
    have h := run_equalIn_int (P := Tryz.prog) w 9998 3 .i64 .i64 (a : Int) ((0 : Nat) : Int) h3
    have e : ((a : Int) == ((0 : Nat) : Int)) = decide (a = 0) := by rw [Bool.eq_iff_iff]; simp
    rw [e] at h
    exact h
  unfold inoZ
  rw [if_pos (by decide), run_bind_ok (run_part1 h3 rfl (v := intV k) rfl w), run_bind_ok (run_part1 h3 rfl (v := intV 0) rfl w), run_bind_ok (hq k)]
  cases decide (k = 0) with
  | false => rfl
  | true =>
    simp only [Bool.not_true, Bool.false_eq_true, if_false, Bool.true_and]
    rw [if_pos (by decide), run_bind_ok (run_part1 h3 rfl (v := intV s) rfl w), run_bind_ok (run_part1 h3 rfl (v := intV 0) rfl w), run_bind_ok (hq s)]
    cases decide (s = 0) with
    | false => rfl
    | true =>
      simp only [Bool.not_true, Bool.false_eq_true, if_false, Bool.true_and]
      rw [if_pos (by decide), run_bind_ok (run_partA h47 rfl hi47 w), run_bind_ok (run_partA h47 rfl hi47 w), hs47]
      have h4 := run_equalIn_array (P := Tryz.prog) w 9998 ((⟨inoL k s b⟩ : Array Value).extract 2 (2 + 12)) ((⟨inoL 0 0 fun _ => 0⟩ : Array Value).extract 2 (2 + 12)) h47 hi3
      rw [hc3, run_eqItems_int h3 9997 1 _ _ (fun i => (b i : Int)) (fun _ => 0) w (List.range 12) (fun i hi => by
        rw [List.mem_range] at hi
        rw [Nat.mul_one]
        constructor
        · have := ino_get (k := k) (s := s) (b := b) hi
          rw [Array.getElem?_extract]
          simp only [List.getElem?_toArray, List.size_toArray]
          rw [if_pos (by simp [inoL]; omega), this]
          rfl
        · have := ino_get (k := 0) (s := 0) (b := fun _ => 0) hi
          rw [Array.getElem?_extract]
          simp only [List.getElem?_toArray, List.size_toArray]
          rw [if_pos (by simp [inoL]; omega), this]
          rfl)] at h4
      rw [run_bind_ok h4]
      have e3 : ((List.range 12).all fun i => ((b i : Int) == 0)) = (List.range 12).all fun i => decide (b i = 0) := by
        congr 1
        funext i
        rw [Bool.eq_iff_iff]
        simp
      rw [e3]
      cases (List.range 12).all fun i => decide (b i = 0) <;> rfl

section
variable {w0 : World} {R : Nat → Nat → Prop} {av : Nat → Prop} {bs : List (Nat × Nat)} {cs : List (List Value)} {F : Fx}
theorem XRead.eqIno {x y : Operand} {k s : Nat} {b : Nat → Nat} {K : Value → Prop} (h : K (.bool (inoZ k s b))) :
    XRead Tryz.prog w0 R av (do eqGuard .eql 74 x y (.agg ⟨inoL k s b⟩) (.agg ⟨inoL 0 0 fun _ => 0⟩); binOp .eql 74 (.agg ⟨inoL k s b⟩) (.agg ⟨inoL 0 0 fun _ => 0⟩)) bs cs F K := by
  refine (XRead_iff _ _ _ _).2 ⟨_, fun w _ => ?_, h⟩
  have hm : Tryz.prog.eqGuardType Tryz.prog.depth 74 = false := by kernel_rfl
  rw [run_bind_ok (run_eqGuard_agg w .eql 74 x y _ _ hm), run_eql_struct, ino_eq]
  rfl
end

/-- Behind the size the last block is zero. -/
def tailZ (d : List UInt8) (s : Nat) (b : Nat → Nat) : Bool := decide (s % 128 = 0) || (decide (b (s / 128) = 0) || allZ (cut d (128 * b (s / 128) + s % 128) (128 - s % 128)))

theorem iEq_nat (a b : Nat) : iEq (a : Int) (b : Int) = decide (a = b) := by
  rw [iEq_eq, Bool.eq_iff_iff]
  simp only [beq_iff_eq, decide_eq_true_eq]
  omega

theorem tail_spec (d : List UInt8) (h : Hd) (hh : h.Ok d.length) (hd : d.length = 12288) (k s : Nat) (b : Nat → Nat) (hs : s ≤ 1536) (hb : ∀ i, i < 12 → b i < 96) :
    PureSpec Tryz.prog 138 [h.v d.length, .agg ⟨inoL k s b⟩] (fun w => By w h d) (fun v F => v = .bool (tailZ d s b)) := by
  have hc := hh.cap
  have e1 : IntKind.i64.wrap (Int.tdiv (s : Int) (Int.ofNat 128)) = ((s / 128 : Nat) : Int) := wdiv s 128 (by omega)
  have e2 : Int.tmod (s : Int) (Int.ofNat 128) = ((s % 128 : Nat) : Int) := tmod_nat s 128
  refine PureSpec.of_xc tabOk Tryz.func138 rfl (by decide) (n := Tryz.f138.ntmps - 2) rfl rfl fun w0 av => ?_
  conv => whnf
  intro b0
  conv => whnf
  generalize hm : iEq _ 0 = c0
  have hm : c0 = decide (s % 128 = 0) := by
    rw [← hm]
    show iEq (Int.tmod (s : Int) (Int.ofNat 128)) ((0 : Nat) : Int) = _
    rw [e2, iEq_nat]
  cases c0
  rotate_left
  · conv => whnf
    repeat (refine XSame.of ?_; conv => whnf)
    refine ⟨_, Ent.refl _, ?_⟩
    unfold tailZ
    rw [← hm]
    rfl
  have hs0 : s % 128 ≠ 0 := by simpa using hm.symm
  have hlt : s / 128 < 12 := by omega
  conv => whnf
  repeat (refine XSame.of ?_; conv => whnf)
  rw [e1]
  conv => whnf
  rw [blt_yes hlt]
  conv => whnf
  refine nthK_mk (x := intV (b (s / 128))) (by dsimp only; rw [Nat.mul_one, Nat.zero_add]; exact ino_get hlt) ?_
  conv => whnf
  repeat (refine XSame.of ?_; conv => whnf)
  generalize hm2 : iEq _ 0 = c1
  have hm2 : c1 = decide (b (s / 128) = 0) := by
    rw [← hm2]
    exact iEq_nat (b (s / 128)) 0
  cases c1
  · conv => whnf
    have hcl : (cut d (128 * b (s / 128) + s % 128) (128 - s % 128)).length = 128 - s % 128 := cut_len (by have := hb _ hlt; omega)
    have hb1 : b (s / 128) < 96 := hb _ hlt
    have hok : (Hd.sub h (128 * b (s / 128))).Ok 128 := Hd.sub_ok hh (by omega)
    have hz := zeros_spec (cut d (128 * b (s / 128) + s % 128) (128 - s % 128)) (Hd.sub (Hd.sub h (128 * b (s / 128))) (s % 128)) (by rw [hcl]; exact Hd.sub_ok hok (by omega)) (by omega)
    rw [hcl] at hz
    refine XStop.draw tabOk mixed rfl rfl ?_
    conv => whnf
    repeat' (first
      | (refine And.intro ?_ ?_ <;> conv => whnf)
      | (refine XHeld.same rfl ?_; conv => whnf)
      | (refine XHeld.row rfl ?_; conv => whnf)
      | (refine XHeld.call rfl ?_; conv => whnf)
      | (refine XKeep.of ?_; conv => whnf)
      | (refine XSame.of ?_; conv => whnf)
      | (rw [blt_yes hlt]; conv => whnf)
      | (refine nthK_mk (x := intV (b (s / 128))) (by dsimp only; rw [Nat.mul_one, Nat.zero_add]; exact ino_get hlt) ?_; conv => whnf)
      | (refine XCall.val (block_spec h d.length (b (s / 128)) hh (by omega) (by omega)) (fun w hw => trivial) (fun v D hv => ?_); subst hv; conv => whnf)
      | (refine XRead.subFrom tabOk (t := 23) rfl rfl rfl rfl (s % 128) e2 (by omega) hok.cap ?_; conv => whnf)
      | (refine XCall.val hz (fun w hw => ?_) (fun v D hv => ?_); (focus (have h2 := By.sub (By.sub hw (l := 128 * b (s / 128)) (k := 128) (by omega)) (l := s % 128) (k := 128 - s % 128) (by have := hok.cap; omega); rw [cut_cut (by omega)] at h2; exact h2)); subst hv; conv => whnf)
      | (refine XHeld.mk ?_ ?_; (focus (first | exact Ent.refl _ | exact Ent.left _ _ | exact Ent.of_le ⟨List.sublist_append_left _ _, fun w h => h⟩ | exact Ent.of_le ⟨List.Sublist.refl _, fun w h => h.1⟩)); conv => whnf))
    refine ⟨_, Ent.refl _, ?_⟩
    unfold tailZ
    rw [← hm2, ← hm]
    simp
  · conv => whnf
    repeat (refine XSame.of ?_; conv => whnf)
    refine ⟨_, Ent.refl _, ?_⟩
    unfold tailZ
    rw [← hm2]
    simp

end Go.Proofs.YtfeoedkmndkbjaaGreatDoor
namespace Go.Proofs.YtfeoedkmndkbjaaGreatDoor
open Go Go.Sx
set_option maxRecDepth 100000
set_option maxHeartbeats 4000000
set_option linter.unusedVariables false
set_option linter.unusedSimpArgs false

/-- What form asks of an inode that is not free. -/
def FormU (d : List UInt8) (n : Nat) : Prop :=
  (rk d n = 1 ∨ rk d n = 2) ∧ rs d n ≤ 1536 ∧ (n = 0 → rk d n = 2) ∧ (∀ i, i < 12 → rb d n i ≠ 0 → 18 ≤ rb d n i ∧ rb d n i < 96 ∧ i * 128 < rs d n) ∧ tailZ d (rs d n) (rb d n) = true ∧ (rk d n = 1 ∨ (rs d n = 128 ∧ rb d n 0 ≠ 0))

instance (d : List UInt8) (n : Nat) : Decidable (FormU d n) := by unfold FormU; infer_instance

def formB (d : List UInt8) (n : Nat) : Bool := decide (rp d n = 0) && (if inoZ (rk d n) (rs d n) (rb d n) then decide (n ≠ 0) else decide (FormU d n))

theorem rb_lt (d : List UInt8) (n i : Nat) : rb d n i < 256 := byt_lt _ _
theorem rk_lt (d : List UInt8) (n : Nat) : rk d n < 256 := byt_lt _ _
theorem rs_lt (d : List UInt8) (n : Nat) : rs d n < 65536 := by
  have h1 := byt_lt d (1792 + 16 * n + 1)
  have h2 := byt_lt d (1792 + 16 * n + 2)
  unfold rs
  omega

theorem form_spec (d : List UInt8) (h : Hd) (hh : h.Ok d.length) (hd : d.length = 12288) (n : Nat) (hn : n < 32) :
    PureSpec Tryz.prog 101 [h.v d.length, .int .i64 (n : Int)] (fun w => By w h d) (fun v F => v = .bool (formB d n)) := by
  have hc := hh.cap
  refine PureSpec.of_xc tabOk Tryz.func101 rfl (by decide) (n := Tryz.f101.ntmps - 2) rfl rfl fun w0 av => ?_
  conv => whnf
  refine XCall.val (raw_spec d h n hh hd hn) (fun w hw => hw) (fun v D hv => ?_)
  subst hv
  conv => whnf
  intro b0
  conv => whnf
  refine XCall.val (at_spec n (by omega)) (fun w hw => trivial) (fun v D hv => ?_)
  subst hv
  conv => whnf
  refine XVal.of_read (XRead.byteAt tabOk (t := 23) rfl rfl rfl rfl (1792 + 16 * n + 15) (by show IntKind.i64.wrap (((1792 + 16 * n : Nat) : Int) + 15) = _; rw [wrap_i64 (by omega)]; omega) (by omega) hh fun ad had => ?_)
  conv => whnf
  refine XVal.of_read (XRead.byteLd' tabOk (t := 5) rfl rfl had (.fact fun w h => h) rfl (by omega) ?_)
  conv => whnf
  refine XIf.split (fun hp => ?_) (fun hp => ?_)
  · conv => whnf
    refine ⟨_, Ent.refl _, ?_⟩
    have : rp d n ≠ 0 := by
      intro h
      unfold rp at h
      rw [h] at hp
      simp [iNe_eq] at hp
    unfold formB
    rw [decide_eq_false this]
    rfl
  have hp0 : rp d n = 0 := by
    unfold rp
    simp [iNe_eq] at hp
    omega
  have hF : formB d n = if inoZ (rk d n) (rs d n) (rb d n) then decide (n ≠ 0) else decide (FormU d n) := by
    unfold formB
    rw [decide_eq_true hp0, Bool.true_and]
  conv => whnf
  refine XVal.of_read (XRead.eqIno ?_)
  conv => whnf
  refine XIf.split (fun hz => ?_) (fun hz => ?_)
  · conv => whnf
    refine ⟨_, Ent.refl _, ?_⟩
    rw [hF, if_pos hz]
    congr 1
    rw [iNe_eq, Bool.eq_iff_iff]
    simp
  rw [if_neg (by rw [hz]; simp)] at hF
  have hF0 : ∀ {p : Prop}, (FormU d n → p) → ¬ p → formB d n = false := fun h1 h2 => by rw [hF, decide_eq_false (fun h => h2 (h1 h))]
  have hkl := rk_lt d n
  have hsl := rs_lt d n
  have hbl := rb_lt d n
  generalize hgk : rk d n = k at *
  generalize hgs : rs d n = s at *
  generalize hgb : rb d n = b at *
  have hbad : ∀ {c : Bool}, c = true → (c = true → ¬ FormU d n) → ∃ F', Ent ⟨fun w => By w h d, []⟩ F' ∧ (fun v (F : Fx) => v = Value.bool (formB d n)) (.bool false) F' := fun h1 h2 => ⟨_, Ent.refl _, by rw [hF0 (p := False) (fun h => (h2 h1 h).elim) id]⟩
  conv => whnf
  repeat (refine XSame.of ?_; conv => whnf)
  refine XIf.split (fun h1 => ?_) (fun h1 => ?_)
  · conv => whnf
    repeat (refine XSame.of ?_; conv => whnf)
    refine hbad h1 fun h1 hu => ?_
    unfold FormU at hu
    rw [hgk, hgs] at hu
    simp [iNe_eq, iGt_eq] at h1
    omega
  have hk12 : (k = 1 ∨ k = 2) ∧ s ≤ 1536 := by
    simp [iNe_eq, iGt_eq] at h1
    omega
  conv => whnf
  repeat (refine XSame.of ?_; conv => whnf)
  refine XIf.split (fun h2 => ?pA) (fun h2 => ?pB)
  case' pA =>
    conv => whnf
    repeat (refine XSame.of ?_; conv => whnf)
    refine XIf.split (fun h3 => ?_) (fun h3 => ?_)
    · conv => whnf
      repeat (refine XSame.of ?_; conv => whnf)
      refine hbad h3 fun h3 hu => ?_
      unfold FormU at hu
      rw [hgk, hgs] at hu
      simp [iEq_eq, iNe_eq] at h2 h3
      omega
  all_goals
    have h0 : n = 0 → k = 2 := by
      intro hn0
      simp [iEq_eq, iNe_eq] at *
      omega
    conv => whnf
    repeat (refine XSame.of ?_; conv => whnf)
    refine XStop.loop tabOk (ι := Nat) ([6, 7] ++ List.range' 45 25) (fun x => x ≤ 12 ∧ ∀ i, i < x → b i ≠ 0 → 18 ≤ b i ∧ b i < 96 ∧ i * 128 < s)
      (fun x => [(6, .v (.int .i64 (x : Int)))]) (fun _ => [inoL k s b]) (fun _ => ⟨fun w => By w h d, []⟩)
      (fun x => 12 - x) 0 ⟨Nat.zero_le _, fun i hi => by omega⟩ ?_ rfl (Ent.refl _) fun i hi => ?_
    · conv => whnf
      repeat (first | exact FLe.nil | refine FLe.any ?_ | refine FLe.cons ?_)
    obtain ⟨hi, hall⟩ := hi
    conv => whnf
    refine XIf.split (fun hlt => ?_) (fun hlt => ?_)
    · conv => whnf
      have hlt' : i < 12 := by
        simp only [iLt_eq, decide_eq_true_eq] at hlt
        omega
      rw [blt_yes hlt']
      conv => whnf
      refine nthK_mk (x := intV (b i)) (by dsimp only; rw [Nat.mul_one, Nat.zero_add]; exact ino_get hlt') ?_
      conv => whnf
      repeat (refine XSame.of ?_; conv => whnf)
      have hmul : IntKind.i64.wrap ((i : Int) * 128) = ((i * 128 : Nat) : Int) := by
        rw [wrap_i64 (by omega)]
        omega
      have hq : (iNe (b i : Int) 0 && (iLt (b i : Int) 18 || iGe (b i : Int) 96 || iGe (IntKind.i64.wrap ((i : Int) * 128)) (s : Int))) = true → ¬ FormU d n := by
        intro h4 hu
        unfold FormU at hu
        rw [hgk, hgs, hgb] at hu
        have := hu.2.2.2.1 i hlt'
        rw [hmul] at h4
        simp [iNe_eq, iGe_eq, iLt_eq] at h4
        omega
      have hq2 : (iNe (b i : Int) 0 && (iLt (b i : Int) 18 || iGe (b i : Int) 96 || iGe (IntKind.i64.wrap ((i : Int) * 128)) (s : Int))) = false → b i ≠ 0 → 18 ≤ b i ∧ b i < 96 ∧ i * 128 < s := by
        intro h4 h5
        rw [hmul] at h4
        simp [iNe_eq, iGe_eq, iLt_eq] at h4
        omega
      repeat' (first
        | (rw [show iNe (b i : Int) 0 = iNe (b i : Int) 0 from rfl]; cases ht0 : iNe (b i : Int) 0 <;> conv => whnf)
        | (rw [show iLt (b i : Int) 18 = iLt (b i : Int) 18 from rfl]; cases ht1 : iLt (b i : Int) 18 <;> conv => whnf)
        | (rw [show iGe (b i : Int) 96 = iGe (b i : Int) 96 from rfl]; cases ht2 : iGe (b i : Int) 96 <;> conv => whnf)
        | (rw [show iGe (IntKind.i64.wrap ((i : Int) * 128)) (s : Int) = iGe (IntKind.i64.wrap ((i : Int) * 128)) (s : Int) from rfl]; cases ht3 : iGe (IntKind.i64.wrap ((i : Int) * 128)) (s : Int) <;> conv => whnf)
        | (refine XSame.of ?_; conv => whnf)
        | (refine XIf.yes rfl ?_; conv => whnf)
        | (refine XIf.no rfl ?_; conv => whnf))
      all_goals first
        | exact hbad (c := (iNe (b i : Int) 0 && (iLt (b i : Int) 18 || iGe (b i : Int) 96 || iGe (IntKind.i64.wrap ((i : Int) * 128)) (s : Int)))) (by first | simp [ht0, ht1, ht2, ht3] | simp [ht0, ht1, ht2] | simp [ht0, ht1] | simp [ht0]) hq
        | (refine ⟨i + 1, ⟨⟨hlt', fun j hj => ?_⟩, by dsimp only; omega⟩, ?_, ?_, Ent.refl _⟩
           · rcases Nat.lt_or_eq_of_le (Nat.lt_succ_iff.1 hj) with h5 | h5
             · exact hall j h5
             · subst h5
               exact hq2 (by first | simp [ht0, ht1, ht2, ht3] | simp [ht0, ht1, ht2] | simp [ht0, ht1] | simp [ht0])
           · conv => whnf
             refine ⟨?_, rfl⟩
             repeat (first | exact FLe.nil | refine FLe.any ?_ | refine FLe.cons ?_ | refine FLe.eq (by rw [wrap_i64 (by omega)]; rfl) ?_)
           · conv => whnf
             exact ⟨⟨rfl, rfl⟩, trivial⟩
          )
    · conv => whnf
      have hie : i = 12 := by
        simp only [iLt_eq, decide_eq_false_iff_not] at hlt
        omega
      subst hie
      by_cases hb96 : ∀ i, i < 12 → b i < 96
      rotate_left
      · exfalso
        refine hb96 fun j hj => ?_
        by_cases hj0 : b j = 0
        · omega
        · exact (hall j hj hj0).2.1
      refine XCall.val (tail_spec d h hh hd k s b hk12.2 hb96) (fun w hw => hw) (fun v D hv => ?_)
      generalize hT : tailZ d s b = tz at hv
      subst hv
      conv => whnf
      repeat (refine XSame.of ?_; conv => whnf)
      have hU : formB d n = (tz && (decide (k = 1) || (decide (s = 128) && decide (b 0 ≠ 0)))) := by
        rw [hF, Bool.eq_iff_iff]
        unfold FormU
        simp only [hgk, hgs, hgb, hT, decide_eq_true_eq, Bool.and_eq_true, Bool.or_eq_true]
        constructor
        · rintro ⟨_, _, _, _, h5, h6⟩
          exact ⟨h5, h6⟩
        · rintro ⟨h5, h6⟩
          exact ⟨hk12.1, hk12.2, h0, hall, h5, h6⟩
      cases tz
      · conv => whnf
        repeat (refine XSame.of ?_; conv => whnf)
        exact ⟨_, Ent.refl _, by rw [hU]; rfl⟩
      rw [Bool.true_and] at hU
      have q1 : iEq (k : Int) 1 = decide (k = 1) := iEq_nat k 1
      have q2 : iEq (s : Int) 128 = decide (s = 128) := iEq_nat s 128
      have q3 : iNe (b 0 : Int) 0 = decide (b 0 ≠ 0) := by
        rw [iNe_eq, Bool.eq_iff_iff]
        simp
      conv => whnf
      repeat (refine XSame.of ?_; conv => whnf)
      repeat' (first
        | (rw [show iEq (k : Int) 1 = iEq (k : Int) 1 from rfl]; cases ht0 : iEq (k : Int) 1 <;> conv => whnf)
        | (rw [show iEq (s : Int) 128 = iEq (s : Int) 128 from rfl]; cases ht1 : iEq (s : Int) 128 <;> conv => whnf)
        | (rw [show iNe (b 0 : Int) 0 = iNe (b 0 : Int) 0 from rfl]; cases ht2 : iNe (b 0 : Int) 0 <;> conv => whnf)
        | (refine XSame.of ?_; conv => whnf)
        | (refine XIf.yes rfl ?_; conv => whnf)
        | (refine XIf.no rfl ?_; conv => whnf))
      all_goals
        refine ⟨_, Ent.refl _, ?_⟩
        rw [hU, ← q1, ← q2, ← q3]
        first | simp [ht0, ht1, ht2] | simp [ht0, ht1] | simp [ht0]

end Go.Proofs.YtfeoedkmndkbjaaGreatDoor
namespace Go.Proofs.YtfeoedkmndkbjaaGreatDoor
open Go Go.Sx
set_option maxRecDepth 100000
set_option maxHeartbeats 4000000
set_option linter.unusedVariables false
set_option linter.unusedSimpArgs false

theorem onN_bit {x k : Nat} (hx : x < 256) (hk : k < 8) {j : Nat} (hj : j < 8) : decide (onN x k / 2 ^ j % 2 = 1) = (decide (j = k) || decide (x / 2 ^ j % 2 = 1)) := by
  have := all256 (p := fun x k => ((List.range 8).all fun j => decide (onN x k / 2 ^ j % 2 = 1) == (decide (j = k) || decide (x / 2 ^ j % 2 = 1))) = true) (by decide +kernel) hx hk
  rw [List.all_eq_true] at this
  simpa using this j (List.mem_range.2 hj)

theorem offN_bit {x k : Nat} (hx : x < 256) (hk : k < 8) {j : Nat} (hj : j < 8) : decide (offN x k / 2 ^ j % 2 = 1) = (!decide (j = k) && decide (x / 2 ^ j % 2 = 1)) := by
  have := all256 (p := fun x k => ((List.range 8).all fun j => decide (offN x k / 2 ^ j % 2 = 1) == (!decide (j = k) && decide (x / 2 ^ j % 2 = 1))) = true) (by decide +kernel) hx hk
  rw [List.all_eq_true] at this
  simpa using this j (List.mem_range.2 hj)

theorem getB_put {b : List UInt8} {i : Nat} (on : Bool) (hi : i / 8 < b.length) (j : Nat) : getB (putB b i on) j = if j = i then on else getB b j := by
  have h8 : i % 8 < 8 := Nat.mod_lt _ (by decide)
  have hj8 : j % 8 < 8 := Nat.mod_lt _ (by decide)
  have hlt : (if on then onN (byt b (i / 8)) (i % 8) else offN (byt b (i / 8)) (i % 8)) < 256 := by
    split
    · exact onN_lt (byt_lt _ _) h8
    · exact offN_lt (byt_lt _ _) h8
  unfold getB
  rw [putB_len]
  have hb : byt (putB b i on) (j / 8) = if j / 8 = i / 8 then (if on then onN (byt b (i / 8)) (i % 8) else offN (byt b (i / 8)) (i % 8)) else byt b (j / 8) := byt_bput hi hlt (j / 8)
  rw [hb]
  by_cases hq : j / 8 = i / 8
  · rw [if_pos hq, hq, decide_eq_true hi, Bool.true_and, Bool.true_and]
    cases on
    · rw [if_neg (by simp), offN_bit (byt_lt _ _) h8 hj8]
      by_cases hji : j = i
      · subst hji; simp
      · rw [if_neg hji, decide_eq_false (show ¬ j % 8 = i % 8 by omega)]
        simp
    · rw [if_pos rfl, onN_bit (byt_lt _ _) h8 hj8]
      by_cases hji : j = i
      · subst hji; simp
      · rw [if_neg hji, decide_eq_false (show ¬ j % 8 = i % 8 by omega)]
        simp
  · rw [if_neg hq, if_neg (by intro h; rw [h] at hq; exact hq rfl)]

/-- The bitmap with these set. -/
def wantB (l : List Nat) : List UInt8 := l.foldl (fun b i => putB b i true) (List.replicate 12 0)

theorem wantB_snoc (l : List Nat) (i : Nat) : wantB (l ++ [i]) = putB (wantB l) i true := by simp [wantB]

theorem foldl_len : ∀ (l : List Nat) (b : List UInt8), (l.foldl (fun b i => putB b i true) b).length = b.length
  | [], b => rfl
  | i :: l, b => by rw [List.foldl_cons, foldl_len l, putB_len]

theorem wantB_len (l : List Nat) : (wantB l).length = 12 := by
  unfold wantB
  rw [foldl_len]
  simp

theorem getB_zero (j : Nat) : getB (List.replicate 12 0) j = false := by
  unfold getB byt
  rw [List.getD_eq_getElem?_getD, List.getElem?_replicate]
  have h0 : ((if j / 8 < 12 then some 0 else none : Option UInt8).getD 0).toNat = 0 := by split <;> rfl
  rw [h0]
  simp

theorem foldl_getB : ∀ (l : List Nat) (b : List UInt8) (j : Nat), b.length = 12 → (∀ i ∈ l, i < 96) → getB (l.foldl (fun b i => putB b i true) b) j = (decide (j ∈ l) || getB b j)
  | [], b, j, _, _ => by simp
  | i :: l, b, j, hb, h => by
    have hi := h i (List.mem_cons_self ..)
    rw [List.foldl_cons, foldl_getB l _ j (by rw [putB_len, hb]) (fun k hk => h k (List.mem_cons_of_mem _ hk)), getB_put true (by omega)]
    by_cases hji : j = i
    · subst hji; simp
    · simp [hji]

theorem getB_want {l : List Nat} (h : ∀ i ∈ l, i < 96) (j : Nat) : getB (wantB l) j = decide (j ∈ l) := by
  unfold wantB
  rw [foldl_getB l _ j (by simp) h, getB_zero, Bool.or_false]

/-- The blocks of an inode. -/
def part (d : List UInt8) (n i : Nat) : List Nat := ((List.range i).map (rb d n)).filter (· ≠ 0)

def used (d : List UInt8) : Nat → List Nat
  | 0 => []
  | n + 1 => used d n ++ part d n 12

theorem part_next (d : List UInt8) (n i : Nat) : part d n (i + 1) = part d n i ++ (if rb d n i = 0 then [] else [rb d n i]) := by
  unfold part
  rw [List.range_succ, List.map_append, List.filter_append]
  congr 1
  by_cases h : rb d n i = 0 <;> simp [h]

theorem part_pre (d : List UInt8) (n : Nat) {i j : Nat} (h : i ≤ j) : part d n i <+: part d n j := by
  induction j with
  | zero =>
    have : i = 0 := by omega
    subst this
    exact List.prefix_refl _
  | succ j ih =>
    rcases Nat.lt_or_eq_of_le h with h1 | h1
    · exact (ih (by omega)).trans (by rw [part_next]; exact List.prefix_append _ _)
    · subst h1
      exact List.prefix_refl _

theorem used_pre (d : List UInt8) {n m : Nat} (h : n ≤ m) : used d n <+: used d m := by
  induction m with
  | zero =>
    have : n = 0 := by omega
    subst this
    exact List.prefix_refl _
  | succ m ih =>
    rcases Nat.lt_or_eq_of_le h with h1 | h1
    · exact (ih (by omega)).trans (List.prefix_append _ _)
    · subst h1
      exact List.prefix_refl _

/-- The blocks that are in use up to a place of an inode. -/
def upTo (d : List UInt8) (n i : Nat) : List Nat := List.range 18 ++ used d n ++ part d n i

theorem upTo_pre (d : List UInt8) {n i : Nat} (hn : n < 32) (hi : i ≤ 12) : upTo d n i <+: upTo d 32 0 := by
  have h1 : used d n ++ part d n i <+: used d (n + 1) := by
    show _ <+: used d n ++ part d n 12
    exact (List.prefix_append_right_inj _).2 (part_pre d n hi)
  have h2 := h1.trans (used_pre d (show n + 1 ≤ 32 by omega))
  unfold upTo
  rw [List.append_assoc, show part d 32 0 = [] from rfl, List.append_nil]
  exact (List.prefix_append_right_inj _).2 h2

theorem upTo_next (d : List UInt8) (n i : Nat) : upTo d n (i + 1) = upTo d n i ++ (if rb d n i = 0 then [] else [rb d n i]) := by
  unfold upTo
  rw [part_next]
  simp

theorem upTo_zero (d : List UInt8) (n : Nat) : upTo d (n + 1) 0 = upTo d n 12 := by
  unfold upTo
  rw [show part d (n + 1) 0 = [] from rfl, List.append_nil]
  show List.range 18 ++ (used d n ++ part d n 12) = _
  rw [List.append_assoc]

/-- A disk is consistent. -/
structure Ok37 (d : List UInt8) : Prop where
  magic : cut d 0 4 = [82, 70, 83, 49]
  super : allZ (cut d 4 124) = true
  rest : allZ (cut d 1676 116) = true
  form : ∀ n, n < 32 → formB d n = true
  nodup : (upTo d 32 0).Nodup
  bits : wantB (upTo d 32 0) = bmp d

open Classical in
/-- What Check says. -/
noncomputable def chk (d : List UInt8) : Nat := if d.length = 12288 then (if Ok37 d then 0 else 4) else 1

theorem form_blocks {d : List UInt8} {n : Nat} (h : formB d n = true) (i : Nat) (hi : i < 12) (h0 : rb d n i ≠ 0) : 18 ≤ rb d n i ∧ rb d n i < 96 ∧ i * 128 < rs d n := by
  unfold formB at h
  rw [Bool.and_eq_true] at h
  have h2 := h.2
  split at h2
  · rename_i hz
    exact absurd ((inoZ_iff.1 hz).2.2 i hi) h0
  · rw [decide_eq_true_eq] at h2
    exact h2.2.2.2.1 i hi h0

theorem part_lt {d : List UInt8} {n i : Nat} (h : formB d n = true) (hi : i ≤ 12) : ∀ x ∈ part d n i, x < 96 := by
  intro x hx
  unfold part at hx
  simp only [List.mem_filter, List.mem_map, List.mem_range, decide_eq_true_eq, ne_eq] at hx
  obtain ⟨⟨j, hj, rfl⟩, h0⟩ := hx
  exact (form_blocks h j (by omega) h0).2.1

theorem used_lt {d : List UInt8} : ∀ {n : Nat}, (∀ m, m < n → formB d m = true) → ∀ x ∈ used d n, x < 96
  | 0, _, x, hx => by cases hx
  | n + 1, h, x, hx => by
    rcases List.mem_append.1 hx with hx | hx
    · exact used_lt (fun m hm => h m (by omega)) x hx
    · exact part_lt (h n (by omega)) (Nat.le_refl _) x hx

theorem upTo_lt {d : List UInt8} {n i : Nat} (h : ∀ m, m < n → formB d m = true) (hn : i = 0 ∨ formB d n = true) (hi : i ≤ 12) : ∀ x ∈ upTo d n i, x < 96 := by
  intro x hx
  unfold upTo at hx
  rcases List.mem_append.1 hx with hx | hx
  · rcases List.mem_append.1 hx with hx | hx
    · have := List.mem_range.1 hx
      omega
    · exact used_lt h x hx
  · rcases hn with hn | hn
    · subst hn
      cases hx
    · exact part_lt hn hi x hx

theorem getWant_spec (k : Hd) (hk : k.Ok 12) (l : List Nat) (hl : ∀ i ∈ l, i < 96) (i : Nat) (hi : i ≤ 1000000) : PureSpec Tryz.prog 103 [k.v 12, .int .i64 (i : Int)] (fun w => By w k (wantB l)) (fun v F => v = .bool (decide (i ∈ l))) := by
  have h := get7_spec (wantB l) k (by rw [wantB_len]; exact hk) i hi (by rw [wantB_len]; omega)
  rw [wantB_len, getB_want hl] at h
  exact h

theorem setWant_spec (k : Hd) (hk : k.Ok 12) (l : List Nat) (i : Nat) (hi : i < 96) : PureSpec Tryz.prog 41 [k.v 12, .int .i64 (i : Int), .bool true] (fun w => By w k (wantB l))
    (fun v F => ∃ k : Hd, v = .tuple #[k.v 12, .int .i64 0] ∧ k.Ok 12 ∧ F = ⟨fun w => By w k (wantB (l ++ [i])), []⟩) := by
  have h := set7_spec (wantB l) k (by rw [wantB_len]; exact hk) i true (by rw [wantB_len]; omega) (by rw [wantB_len]; omega)
  rw [wantB_len] at h
  simp only [wantB_snoc]
  exact h

end Go.Proofs.YtfeoedkmndkbjaaGreatDoor
namespace Go.Proofs.YtfeoedkmndkbjaaGreatDoor
open Go Go.Sx
set_option maxRecDepth 100000
set_option maxHeartbeats 4000000
set_option linter.unusedVariables false
set_option linter.unusedSimpArgs false

theorem chk_bad {d : List UInt8} (hd : d.length = 12288) (h : ¬ Ok37 d) : chk d = 4 := by
  unfold chk
  rw [if_pos hd, if_neg h]

theorem chk_ok {d : List UInt8} (hd : d.length = 12288) (h : Ok37 d) : chk d = 0 := by
  unfold chk
  rw [if_pos hd, if_pos h]

theorem chk_zero {d : List UInt8} (h : chk d = 0) : d.length = 12288 ∧ Ok37 d := by
  unfold chk at h
  by_cases h1 : d.length = 12288
  · rw [if_pos h1] at h
    by_cases h2 : Ok37 d
    · exact ⟨h1, h2⟩
    · rw [if_neg h2] at h
      cases h
  · rw [if_neg h1] at h
    cases h

theorem check37_spec (d : List UInt8) (h : Hd) (hh : h.Ok d.length) (hl : d.length ≤ 1000000) : PureSpec Tryz.prog 54 [h.v d.length] (fun w => By w h d) (fun v F => v = .int .i64 (chk d : Int)) := by
  have hc := hh.cap
  refine PureSpec.of_xc tabOk Tryz.func54 rfl (by decide) (n := Tryz.f54.ntmps - 1) rfl rfl fun w0 av => ?_
  conv => whnf
  refine XIf.split (fun h1 => ?_) (fun h1 => ?_)
  · conv => whnf
    refine ⟨_, Ent.refl _, ?_⟩
    unfold chk
    rw [if_neg (by simp [iNe_eq] at h1; omega)]
    rfl
  have hd : d.length = 12288 := by
    simp [iNe_eq] at h1
    omega
  have hbad : ∀ (D : World → Prop) (rs : List (Nat × Row)), ¬ Ok37 d → ∃ F', Ent ⟨D, rs⟩ F' ∧ (fun v (F : Fx) => v = Value.int .i64 (chk d : Int)) (.int .i64 4) F' := fun D rs hn => ⟨_, Ent.refl _, by rw [chk_bad hd hn]; rfl⟩
  conv => whnf
  refine XVal.of_read (XRead.subTo tabOk (t := 23) rfl rfl rfl 4 rfl (by omega) ?_)
  conv => whnf
  refine XVal.of_read (XRead.bytes tabOk (t := 23) (u := 9) rfl rfl rfl rfl rfl rfl (l := cut d 0 4) (.fact fun w hw => by have h2 := RowAt.take hw 4; unfold cut; rw [List.drop_zero, List.map_take]; exact h2) (by rw [cut_len (by omega)]) ?_)
  conv => whnf
  refine XVal.of_read (XRead.strNe (l := cut d 0 4) (m := [82, 70, 83, 49]) ?_)
  conv => whnf
  generalize hm : (cut d 0 4 == [82, 70, 83, 49]) = cm
  cases cm
  · conv => whnf
    repeat (refine XSame.of ?_; conv => whnf)
    repeat' (first
      | (refine XIf.yes rfl ?_; conv => whnf)
      | (refine XSame.of ?_; conv => whnf)
      | (refine XIf.no rfl ?_; conv => whnf))
    refine hbad _ _ fun ho => ?_
    rw [ho.magic] at hm
    cases hm
  have hmg : cut d 0 4 = [82, 70, 83, 49] := by simpa using hm
  conv => whnf
  refine XVal.of_read (XRead.sub2 tabOk (t := 23) rfl rfl rfl rfl 4 124 rfl rfl (by omega) ?_)
  conv => whnf
  have hz1 := zeros_spec (cut d 4 124) (Hd.sub h 4) (by rw [cut_len (by omega)]; exact Hd.sub_ok hh (by omega)) (by rw [cut_len (by omega)]; omega)
  rw [cut_len (show 4 + 124 ≤ d.length by omega)] at hz1
  refine XCall.val hz1 (fun w hw => By.sub hw (by omega)) (fun v D hv => ?_)
  generalize hs : allZ (cut d 4 124) = cz at hv
  subst hv
  cases cz
  · conv => whnf
    repeat (refine XSame.of ?_; conv => whnf)
    repeat' (first
      | (refine XIf.yes rfl ?_; conv => whnf)
      | (refine XSame.of ?_; conv => whnf)
      | (refine XIf.no rfl ?_; conv => whnf))
    refine hbad _ _ fun ho => ?_
    rw [ho.super] at hs
    cases hs
  conv => whnf
  repeat (refine XSame.of ?_; conv => whnf)
  repeat' (first
    | (refine XIf.yes rfl ?_; conv => whnf)
    | (refine XIf.no rfl ?_; conv => whnf))
  refine XCall.val (block_spec h d.length 13 hh (by omega) (by omega)) (fun w hw => trivial) (fun v D hv => ?_)
  subst hv
  conv => whnf
  have hok : (Hd.sub h (128 * 13)).Ok 128 := Hd.sub_ok hh (by omega)
  refine XVal.of_read (XRead.subFrom tabOk (t := 23) rfl rfl rfl rfl 12 rfl (by omega) hok.cap ?_)
  conv => whnf
  have hz2 := zeros_spec (cut d 1676 116) (Hd.sub (Hd.sub h (128 * 13)) 12) (by rw [cut_len (by omega)]; exact Hd.sub_ok hok (by omega)) (by rw [cut_len (by omega)]; omega)
  rw [cut_len (show 1676 + 116 ≤ d.length by omega)] at hz2
  refine XCall.val hz2 (fun w hw => ?_) (fun v D hv => ?_)
  · have h2 := By.sub (By.sub hw (l := 1664) (k := 128) (by omega)) (l := 12) (k := 116) (by have := hok.cap; exact Nat.le_trans (by omega) this)
    rw [cut_cut (by omega)] at h2
    exact h2
  generalize hr : allZ (cut d 1676 116) = cz at hv
  subst hv
  cases cz
  · conv => whnf
    repeat (refine XSame.of ?_; conv => whnf)
    repeat' (first
      | (refine XIf.yes rfl ?_; conv => whnf)
      | (refine XSame.of ?_; conv => whnf)
      | (refine XIf.no rfl ?_; conv => whnf))
    refine hbad _ _ fun ho => ?_
    rw [ho.rest] at hr
    cases hr
  conv => whnf
  repeat (refine XSame.of ?_; conv => whnf)
  repeat' (first
    | (refine XIf.yes rfl ?_; conv => whnf)
    | (refine XIf.no rfl ?_; conv => whnf))
  refine XVal.makeRow tabOk (t := 23) rfl rfl rfl 12 rfl rfl (by omega) (by decide) rfl (by omega) (by simp) fun b0 => ?_
  conv => whnf
  have hz12 : Ent ⟨fun w => By w h d, [] ++ [(b0, Row.c (List.replicate 12 [Value.int .u8 0]).flatten)]⟩ ⟨fun w => By w h d ∧ By w ⟨some ⟨b0, 0, none⟩, 12⟩ (wantB (List.range 0)), []⟩ := by
    refine Ent.share1.trans (Ent.imp fun w hw => hw)
  refine XStop.loop tabOk (ι := Nat × Hd) ([3, 4] ++ List.range' 29 10) (fun x => x.1 ≤ 18 ∧ x.2.Ok 12)
    (fun x => [(3, .v (x.2.v 12)), (4, .v (.int .i64 (x.1 : Int)))]) (fun _ => []) (fun x => ⟨fun w => By w h d ∧ By w x.2 (wantB (List.range x.1)), []⟩)
    (fun x => 18 - x.1) (0, ⟨some ⟨b0, 0, none⟩, 12⟩) ⟨Nat.zero_le _, ⟨fun h => (by cases h), Nat.le_refl _⟩⟩ ?_ rfl hz12 fun x hx => ?_
  · conv => whnf
    repeat (first | exact FLe.nil | refine FLe.any ?_ | refine FLe.cons ?_)
  obtain ⟨i, k⟩ := x
  obtain ⟨hi, hk⟩ := hx
  dsimp only at hi hk ⊢
  conv => whnf
  refine XIf.split (fun hlt => ?_) (fun hlt => ?_)
  · conv => whnf
    have hlt' : i < 18 := by
      simp only [iLt_eq, decide_eq_true_eq] at hlt
      omega
    refine XCall.pure (setWant_spec k hk (List.range i) i (by omega)) (fun w hw => hw.2) (fun v D hv => ?_)
    obtain ⟨k2, rfl, hk2, rfl⟩ := hv
    rw [← List.range_succ]
    conv => whnf
    refine ⟨(i + 1, k2), ⟨⟨hlt', hk2⟩, by dsimp only; omega⟩, ?_, ?_, ?_⟩
    · conv => whnf
      refine ⟨?_, rfl⟩
      repeat (first | exact FLe.nil | refine FLe.any ?_ | refine FLe.cons ?_ | refine FLe.eq (by rw [wrap_i64 (by omega)]; rfl) ?_)
    · conv => whnf
      exact trivial
    · refine Ent.of_le ⟨by simp [Fx.and], fun w hw => ⟨hw.1.1, hw.2⟩⟩
  have hie : i = 18 := by
    simp only [iLt_eq, decide_eq_false_iff_not] at hlt
    omega
  subst hie
  conv => whnf
  refine XStop.loop tabOk (ι := Nat × Hd) ([3, 5, 6, 7] ++ List.range' 39 35) (fun x => x.1 ≤ 32 ∧ x.2.Ok 12 ∧ (∀ m, m < x.1 → formB d m = true) ∧ (upTo d x.1 0).Nodup)
    (fun x => [(3, .v (x.2.v 12)), (5, .v (.int .i64 (x.1 : Int)))]) (fun _ => []) (fun x => ⟨fun w => By w h d ∧ By w x.2 (wantB (upTo d x.1 0)), []⟩)
    (fun x => 32 - x.1) (0, k) ⟨Nat.zero_le _, hk, fun m hm => by omega, by show (List.range 18 ++ [] ++ []).Nodup; rw [List.append_nil, List.append_nil]; exact List.nodup_range⟩ ?_ rfl (Ent.of_le ⟨List.Sublist.refl _, fun w hw => by
      refine ⟨hw.1, ?_⟩
      have e : upTo d 0 0 = List.range 18 := by show List.range 18 ++ [] ++ [] = _; simp
      rw [e]
      exact hw.2⟩) fun x hx => ?_
  · conv => whnf
    repeat (first | exact FLe.nil | refine FLe.any ?_ | refine FLe.cons ?_)
  clear hk hlt hi
  obtain ⟨n, k⟩ := x
  obtain ⟨hn, hk, hfm, hnd⟩ := hx
  dsimp only at hn hk hfm hnd ⊢
  conv => whnf
  refine XIf.split (fun hlt => ?_) (fun hlt => ?_)
  · conv => whnf
    have hlt' : n < 32 := by
      simp only [iLt_eq, decide_eq_true_eq] at hlt
      omega
    refine XCall.val (form_spec d h hh hd n hlt') (fun w hw => hw.1) (fun v D hv => ?_)
    generalize hf : formB d n = cf at hv
    subst hv
    cases cf
    · conv => whnf
      refine hbad _ _ fun ho => ?_
      rw [ho.form n hlt'] at hf
      cases hf
    conv => whnf
    refine XCall.val (raw_spec d h n hh hd hlt') (fun w hw => hw.1) (fun v D hv => ?_)
    subst hv
    conv => whnf
    intro b1
    conv => whnf
    refine XStop.loop tabOk (ι := Nat × Hd) ([3, 7] ++ List.range' 50 24) (fun x => x.1 ≤ 12 ∧ x.2.Ok 12 ∧ (upTo d n x.1).Nodup)
      (fun x => [(3, .v (x.2.v 12)), (7, .v (.int .i64 (x.1 : Int)))]) (fun _ => [inoL (rk d n) (rs d n) (rb d n)]) (fun x => ⟨fun w => By w h d ∧ By w x.2 (wantB (upTo d n x.1)), []⟩)
      (fun x => 12 - x.1) (0, k) ⟨Nat.zero_le _, hk, hnd⟩ ?_ rfl (Ent.refl _) fun x hx => ?_
    · conv => whnf
      repeat (first | exact FLe.nil | refine FLe.any ?_ | refine FLe.cons ?_)
    clear hnd hk
    obtain ⟨i, k⟩ := x
    obtain ⟨hi, hk, hnd⟩ := hx
    dsimp only at hi hk hnd ⊢
    have hul := upTo_lt (d := d) (n := n) (i := i) hfm (.inr hf) hi
    conv => whnf
    refine XIf.split (fun hlt2 => ?_) (fun hlt2 => ?_)
    · conv => whnf
      have hlt2' : i < 12 := by
        simp only [iLt_eq, decide_eq_true_eq] at hlt2
        omega
      rw [blt_yes hlt2']
      conv => whnf
      refine nthK_mk (x := intV (rb d n i)) (by dsimp only; rw [Nat.mul_one, Nat.zero_add]; exact ino_get hlt2') ?_
      conv => whnf
      have hun := upTo_next d n i
      refine XIf.split (fun h0 => ?_) (fun h0 => ?_)
      · conv => whnf
        have h0' : rb d n i = 0 := by
          simp [iEq_eq] at h0
          omega
        rw [if_pos h0', List.append_nil] at hun
        refine ⟨(i + 1, k), ⟨⟨hlt2', hk, by dsimp only; rw [hun]; exact hnd⟩, by dsimp only; omega⟩, ?_, ?_, ?_⟩
        · conv => whnf
          refine ⟨?_, rfl⟩
          repeat (first | exact FLe.nil | refine FLe.any ?_ | refine FLe.cons ?_ | refine FLe.eq (by rw [wrap_i64 (by omega)]; rfl) ?_)
        · conv => whnf
          exact ⟨⟨rfl, rfl⟩, trivial⟩
        · refine Ent.of_le ⟨List.Sublist.refl _, fun w hw => by dsimp only; rw [hun]; exact hw⟩
      have h0' : rb d n i ≠ 0 := by
        simp [iEq_eq] at h0
        omega
      rw [if_neg h0'] at hun
      have hbl := (form_blocks hf i hlt2' h0').2.1
      conv => whnf
      rw [blt_yes hlt2']
      conv => whnf
      refine nthK_mk (x := intV (rb d n i)) (by dsimp only; rw [Nat.mul_one, Nat.zero_add]; exact ino_get hlt2') ?_
      conv => whnf
      refine XCall.val (getWant_spec k hk (upTo d n i) hul (rb d n i) (by omega)) (fun w hw => hw.2) (fun v D hv => ?_)
      generalize hg : decide (rb d n i ∈ upTo d n i) = cg at hv
      subst hv
      cases cg
      rotate_left
      · conv => whnf
        refine hbad _ _ fun ho => ?_
        have h2 := ho.nodup.sublist (upTo_pre d hlt' (show i + 1 ≤ 12 by omega)).sublist
        rw [hun, List.nodup_append] at h2
        exact h2.2.2 _ (of_decide_eq_true hg) _ (by simp) rfl
      conv => whnf
      rw [blt_yes hlt2']
      conv => whnf
      refine nthK_mk (x := intV (rb d n i)) (by dsimp only; rw [Nat.mul_one, Nat.zero_add]; exact ino_get hlt2') ?_
      conv => whnf
      refine XCall.pure (setWant_spec k hk (upTo d n i) (rb d n i) hbl) (fun w hw => hw.2) (fun v D hv => ?_)
      obtain ⟨k2, rfl, hk2, rfl⟩ := hv
      rw [← hun]
      conv => whnf
      refine ⟨(i + 1, k2), ⟨⟨hlt2', hk2, ?_⟩, by dsimp only; omega⟩, ?_, ?_, ?_⟩
      · dsimp only
        rw [hun, List.nodup_append]
        refine ⟨hnd, by simp, fun a ha b hb hab => ?_⟩
        have hb : b = rb d n i := by simpa using hb
        subst hb hab
        exact of_decide_eq_false hg ha
      · conv => whnf
        refine ⟨?_, rfl⟩
        repeat (first | exact FLe.nil | refine FLe.any ?_ | refine FLe.cons ?_ | refine FLe.eq (by rw [wrap_i64 (by omega)]; rfl) ?_)
      · conv => whnf
        exact ⟨⟨rfl, rfl⟩, trivial⟩
      · refine Ent.of_le ⟨by simp [Fx.and], fun w hw => ⟨hw.1.1, hw.2⟩⟩
    · conv => whnf
      have hie : i = 12 := by
        simp only [iLt_eq, decide_eq_false_iff_not] at hlt2
        omega
      subst hie
      refine ⟨(n + 1, k), ⟨⟨hlt', hk, fun m hm => ?_, by dsimp only; rw [upTo_zero]; exact hnd⟩, by dsimp only; omega⟩, ?_, ?_, ?_⟩
      · rcases Nat.lt_or_eq_of_le (Nat.lt_succ_iff.1 hm) with h5 | h5
        · exact hfm m h5
        · rw [h5]; exact hf
      · conv => whnf
        refine ⟨?_, rfl⟩
        repeat (first | exact FLe.nil | refine FLe.any ?_ | refine FLe.cons ?_ | refine FLe.eq (by rw [wrap_i64 (by omega)]; rfl) ?_)
      · conv => whnf
        exact trivial
      · refine Ent.of_le ⟨List.Sublist.refl _, fun w hw => by dsimp only; rw [upTo_zero]; exact hw⟩
  · conv => whnf
    have hie : n = 32 := by
      simp only [iLt_eq, decide_eq_false_iff_not] at hlt
      omega
    subst hie
    have hbits : wantB (upTo d 32 0) = bmp d → Ok37 d := fun h => ⟨hmg, hs, hr, hfm, hnd, h⟩
    have hWl := wantB_len (upTo d 32 0)
    have hno : Ok37 d → wantB (upTo d 32 0) = bmp d := fun h => h.bits
    have hBl := bmp_len hd
    have hbm := bitmap_spec d h hh hd
    generalize wantB (upTo d 32 0) = W at *
    generalize bmp d = B at *
    refine XStop.draw tabOk mixed rfl rfl ?_
    conv => whnf
    repeat' (first
      | (refine And.intro ?_ ?_ <;> conv => whnf)
      | (refine XHeld.same rfl ?_; conv => whnf)
      | (refine XHeld.row rfl ?_; conv => whnf)
      | (refine XHeld.call rfl ?_; conv => whnf)
      | (refine XKeep.of ?_; conv => whnf)
      | (refine XSame.of ?_; conv => whnf)
      | (refine XRead.bytes tabOk (t := 23) (u := 9) rfl rfl rfl rfl rfl rfl (l := W) (.fact fun w hw => hw.2) hWl.symm ?_; conv => whnf)
      | (refine XCall.pure hbm (fun w hw => hw.1) (fun v D hv => ?_); obtain ⟨k2, rfl, hk2, rfl⟩ := hv; conv => whnf)
      | (refine XRead.bytes tabOk (t := 23) (u := 9) rfl rfl rfl rfl rfl rfl (l := B) (.fact fun w hw => hw.2) rfl ?_; conv => whnf)
      | (refine XRead.strNe (l := W) (m := B) ?_; conv => whnf)
      | (refine XHeld.mk ?_ ?_; (focus (first | exact Ent.refl _ | exact Ent.left _ _ | exact Ent.of_le ⟨List.sublist_append_left _ _, fun w h => h⟩ | exact Ent.of_le ⟨List.Sublist.refl _, fun w h => h.1⟩)); conv => whnf))
    all_goals
      refine XIf.split (fun hw => ?_) (fun hw => ?_)
      · conv => whnf
        refine hbad _ _ fun ho => ?_
        rw [hno ho] at hw
        simp at hw
      · conv => whnf
        refine ⟨_, Ent.refl _, ?_⟩
        rw [chk_ok hd (hbits (by simpa using hw))]
        rfl

/-- The error of an inode. -/
noncomputable def gete (d : List UInt8) (n : Int) : Nat := if chk d ≠ 0 then chk d else if n < 0 ∨ 32 ≤ n then 2 else if rk d n.toNat = 0 then 8 else 0

open Classical in
noncomputable def getL (d : List UInt8) (n : Int) : List Value := if gete d n = 0 then inoL (rk d n.toNat) (rs d n.toNat) (rb d n.toNat) else inoL 0 0 fun _ => 0

theorem get37_spec (d : List UInt8) (h : Hd) (hh : h.Ok d.length) (hl : d.length ≤ 1000000) (n : Int) :
    PureSpec Tryz.prog 56 [h.v d.length, .int .i64 n] (fun w => By w h d) (fun v F => v = .tuple #[.agg ⟨getL d n⟩, .int .i64 (gete d n : Int)]) := by
  refine PureSpec.of_xc tabOk Tryz.func56 rfl (by decide) (n := Tryz.f56.ntmps - 2) rfl rfl fun w0 av => ?_
  conv => whnf
  intro b0
  conv => whnf
  refine XCall.val (check37_spec d h hh hl) (fun w hw => hw) (fun v D hv => ?_)
  generalize hch : chk d = e at hv
  subst hv
  conv => whnf
  refine XIf.split (fun he => ?_) (fun he => ?_)
  · conv => whnf
    have he' : e ≠ 0 := by
      simp [iNe_eq] at he
      omega
    refine ⟨_, Ent.refl _, ?_⟩
    have hg : gete d n = e := by
      unfold gete
      rw [hch, if_pos he']
    unfold getL
    rw [hg, if_neg he']
    rfl
  have he' : e = 0 := by
    simp [iNe_eq] at he
    omega
  subst he'
  obtain ⟨hd, hok⟩ := chk_zero hch
  conv => whnf
  repeat (refine XSame.of ?_; conv => whnf)
  refine XIf.split (fun hn => ?_) (fun hn => ?_)
  · conv => whnf
    refine ⟨_, Ent.refl _, ?_⟩
    have hg : gete d n = 2 := by
      unfold gete
      rw [hch, if_neg (by simp), if_pos (by simpa [iLt_eq, iGe_eq] using hn)]
    unfold getL
    rw [hg, if_neg (by decide)]
    rfl
  have hn' : 0 ≤ n ∧ n < 32 := by
    simp [iLt_eq, iGe_eq] at hn
    omega
  obtain ⟨m, rfl⟩ : ∃ m : Nat, n = m := ⟨n.toNat, by omega⟩
  conv => whnf
  refine XCall.val (raw_spec d h m hh hd (by omega)) (fun w hw => hw) (fun v D hv => ?_)
  subst hv
  conv => whnf
  intro b1
  conv => whnf
  have hg : gete d m = if rk d m = 0 then 8 else 0 := by
    unfold gete
    rw [hch, if_neg (by simp), if_neg (by omega), Int.toNat_natCast]
  refine XIf.split (fun hk => ?_) (fun hk => ?_)
  · conv => whnf
    have hk' : rk d m = 0 := by
      simp [iEq_eq] at hk
      omega
    rw [if_pos hk'] at hg
    refine ⟨_, Ent.refl _, ?_⟩
    unfold getL
    rw [hg, if_neg (by decide)]
    rfl
  · conv => whnf
    have hk' : rk d m ≠ 0 := by
      simp [iEq_eq] at hk
      omega
    rw [if_neg hk'] at hg
    refine ⟨_, Ent.refl _, ?_⟩
    unfold getL
    rw [hg, if_pos rfl, Int.toNat_natCast]
    rfl

end Go.Proofs.YtfeoedkmndkbjaaGreatDoor
namespace Go.Proofs.YtfeoedkmndkbjaaGreatDoor
open Go Go.Sx
set_option maxRecDepth 100000
set_option maxHeartbeats 4000000
set_option linter.unusedVariables false
set_option linter.unusedSimpArgs false

theorem place_spec (bv : Nat) (V : List Value) (h : Hd) (m : Nat) (hV : V[0]? = some (h.v m)) (hh : h.Ok m) (hm : m = 12288) (n : Nat) (hn : n < 32) :
    PureSpec Tryz.prog 114 [.pointer (some ⟨bv, 0, none⟩), .int .i64 (n : Int)] (fun w => RowAt w (some ⟨bv, 0, none⟩) V) (fun v F => v = (Hd.sub h (1792 + 16 * n)).v 16) := by
  have hc := hh.cap
  refine PureSpec.of_xc tabOk Tryz.func114 rfl (by decide) (n := Tryz.f114.ntmps - 2) rfl rfl fun w0 av => ?_
  have e1 : IntKind.i64.wrap (1792 + IntKind.i64.wrap ((n : Int) * 16)) = ((1792 + 16 * n : Nat) : Int) := by
    rw [wrap_i64 (n := (n : Int) * 16) (by omega), wrap_i64 (by omega)]
    omega
  conv => whnf
  refine XVal.of_read (XRead.loadF tabOk (t := 23) rfl rfl (ad := ⟨bv, 0, none⟩) (k := 0) (L := V) (v := h.v m) (.fact fun w hw => hw) (fun _ => rfl) hV ?_)
  conv => whnf
  refine XVal.of_read (XRead.sub2 tabOk (t := 23) rfl rfl rfl rfl (1792 + 16 * n) 16 e1 (by rw [e1, wrap_i64 (by omega)]; omega) (by omega) ?_)
  conv => whnf
  exact ⟨_, Ent.refl _, rfl⟩

theorem vblock_spec (bv : Nat) (V : List Value) (h : Hd) (m : Nat) (hV : V[0]? = some (h.v m)) (hh : h.Ok m) (hm : m = 12288) (n : Nat) (hn : n < 96) :
    PureSpec Tryz.prog 63 [.pointer (some ⟨bv, 0, none⟩), .int .i64 (n : Int)] (fun w => RowAt w (some ⟨bv, 0, none⟩) V) (fun v F => v = (Hd.sub h (128 * n)).v 128) := by
  have hc := hh.cap
  refine PureSpec.of_xc tabOk Tryz.func63 rfl (by decide) (n := Tryz.f63.ntmps - 2) rfl rfl fun w0 av => ?_
  conv => whnf
  refine XVal.of_read (XRead.loadF tabOk (t := 23) rfl rfl (ad := ⟨bv, 0, none⟩) (k := 0) (L := V) (v := h.v m) (.fact fun w hw => hw) (fun _ => rfl) hV ?_)
  conv => whnf
  refine XVal.of_read (XRead.sub2 tabOk (t := 23) rfl rfl rfl rfl (128 * n) 128
    (by show IntKind.i64.wrap ((n : Int) * 128) = _; rw [wrap_i64 (by omega)]; omega) (by show IntKind.i64.wrap ((IntKind.i64.wrap ((n : Int) + 1)) * 128) = _; rw [wrap_i64 (n := (n : Int) + 1) (by omega), wrap_i64 (by omega)]; omega) (by omega) ?_)
  conv => whnf
  exact ⟨_, Ent.refl _, rfl⟩

theorem parts_spec (n : Nat) (hn : n ≤ 1000000) : PureSpec Tryz.prog 74 [.int .i64 (n : Int)] (fun w => True) (fun v F => v = .int .i64 (((n + 127) / 128 : Nat) : Int)) := by
  refine PureSpec.of_xc tabOk Tryz.func74 rfl (by decide) (n := Tryz.f74.ntmps - 1) rfl rfl fun w0 av => ?_
  conv => whnf
  refine ⟨_, Ent.refl _, ?_⟩
  show Value.int _ _ = Value.int _ _
  congr 1
  rw [wrap_i64 (n := (n : Int) + 128) (by omega), wrap_i64 (n := (n : Int) + 128 - 1) (by omega), show (n : Int) + 128 - 1 = ((n + 127 : Nat) : Int) by omega]
  exact wdiv (n + 127) 128 (by omega)

theorem nz_spec (x : Nat) : PureSpec Tryz.prog 169 [.int .u8 (x : Int)] (fun w => True) (fun v F => v = .bool (decide (x ≠ 0))) := by
  refine PureSpec.of_xc tabOk Tryz.func169 rfl (by decide) (n := Tryz.f169.ntmps - 1) rfl rfl fun w0 av => ?_
  conv => whnf
  refine ⟨_, Ent.refl _, ?_⟩
  congr 1
  rw [iNe_eq, Bool.eq_iff_iff]
  simp

theorem indexNz_spec (l : List UInt8) (h : Hd) (hh : h.Ok l.length) (hl : l.length ≤ 1000000) : PureSpec Tryz.prog 190 [h.v l.length, .func (.func 169) #[] #[]] (fun w => By w h l) (fun v F => ∃ j : Int, v = .int .i64 j ∧ decide (j ≥ 0) = !allZ l) := by
  refine PureSpec.of_xc tabOk Tryz.func190 rfl (by decide) (n := Tryz.f190.ntmps - 2) rfl rfl fun w0 av => ?_
  conv => whnf
  refine XStop.loop tabOk (ι := Nat) ([5] ++ List.range' 8 11) (fun x => x ≤ l.length ∧ ∀ j, j < x → byt l j = 0)
    (fun x => [(8, .v (.int .i64 (x : Int)))]) (fun _ => []) (fun _ => ⟨fun w => By w h l, []⟩)
    (fun x => l.length - x) 0 ⟨Nat.zero_le _, fun j hj => by omega⟩ ?_ rfl (Ent.refl _) fun i hi => ?_
  · conv => whnf
    repeat (first | exact FLe.nil | refine FLe.any ?_ | refine FLe.cons ?_)
  obtain ⟨hi, hall⟩ := hi
  conv => whnf
  refine XIf.split (fun hlt => ?_) (fun hlt => ?_)
  · have hlt' : i < l.length := by
      simp only [iLt_eq, decide_eq_true_eq] at hlt
      omega
    conv => whnf
    refine XVal.of_read (XRead.byteAt tabOk (t := 23) rfl rfl rfl rfl i rfl hlt' hh fun ad had => ?_)
    conv => whnf
    refine XVal.of_read (XRead.byteLd' tabOk (t := 5) rfl rfl had (.fact fun w h => h) rfl hlt' ?_)
    conv => whnf
    refine XCall.val (nz_spec (byt l i)) (fun w hw => trivial) (fun v D hv => ?_)
    generalize hz : decide (byt l i ≠ 0) = cz at hv
    subst hv
    cases cz
    · have hz' : byt l i = 0 := by simpa using hz
      conv => whnf
      refine ⟨i + 1, ⟨⟨hlt', fun j hj => ?_⟩, by dsimp only; omega⟩, ?_, ?_, Ent.refl _⟩
      · rcases Nat.lt_or_eq_of_le (Nat.lt_succ_iff.1 hj) with h1 | h1
        · exact hall j h1
        · rw [h1]; exact hz'
      · conv => whnf
        refine ⟨?_, rfl⟩
        repeat (first | exact FLe.nil | refine FLe.any ?_ | refine FLe.cons ?_ | refine FLe.eq (by rw [wrap_i64 (by omega)]; rfl) ?_)
      · conv => whnf
        exact trivial
    · have hz' : byt l i ≠ 0 := by simpa using hz
      conv => whnf
      refine ⟨_, Ent.refl _, _, rfl, ?_⟩
      have : allZ l = false := by
        rw [Bool.eq_false_iff, Ne, allZ_iff]
        exact fun hq => hz' (hq i hlt')
      rw [this]
      simp
  · have hie : i = l.length := by
      simp only [iLt_eq, decide_eq_false_iff_not] at hlt
      omega
    subst hie
    conv => whnf
    exact ⟨_, Ent.refl _, _, rfl, by rw [allZ_iff.2 hall]; rfl⟩

theorem containsNz_spec (l : List UInt8) (h : Hd) (hh : h.Ok l.length) (hl : l.length ≤ 1000000) : PureSpec Tryz.prog 168 [h.v l.length, .func (.func 169) #[] #[]] (fun w => By w h l) (fun v F => v = .bool (!allZ l)) := by
  refine PureSpec.of_xc tabOk Tryz.func168 rfl (by decide) (n := Tryz.f168.ntmps - 2) rfl rfl fun w0 av => ?_
  conv => whnf
  refine XCall.val (indexNz_spec l h hh hl) (fun w hw => hw) (fun v D hv => ?_)
  obtain ⟨j, rfl, hj⟩ := hv
  conv => whnf
  refine ⟨_, Ent.refl _, ?_⟩
  show Value.bool (iGe j 0) = _
  rw [← hj, iGe_eq]

theorem zero_spec (l : List UInt8) (h : Hd) (hh : h.Ok l.length) (hl : l.length ≤ 1000000) : PureSpec Tryz.prog 146 [h.v l.length] (fun w => By w h l) (fun v F => v = .bool (allZ l)) := by
  refine PureSpec.of_xc tabOk Tryz.func146 rfl (by decide) (n := Tryz.f146.ntmps - 1) rfl rfl fun w0 av => ?_
  conv => whnf
  refine XCall.val (containsNz_spec l h hh hl) (fun w hw => hw) (fun v D hv => ?_)
  subst hv
  conv => whnf
  exact ⟨_, Ent.refl _, by simp⟩

theorem or_byte {x y : Nat} (hx : x < 256) (hy : y < 256) : Sx.bits .or .i64 (IntKind.i64.wrap ((x : Int) * 2 ^ 8)) (y : Int) = ((256 * x + y : Nat) : Int) := by
  have e1 : IntKind.i64.wrap ((x : Int) * 2 ^ 8) = ((2 ^ 8 * x : Nat) : Int) := by
    rw [wrap_i64 (by omega)]
    omega
  rw [e1]
  have e2 : (BitVec.ofInt IntKind.i64.bits ((2 ^ 8 * x : Nat) : Int) ||| BitVec.ofInt IntKind.i64.bits (y : Int)).toNat = 256 * x + y := by
    have hb : IntKind.i64.bits = 64 := rfl
    rw [hb, BitVec.ofInt_natCast, BitVec.ofInt_natCast, BitVec.toNat_or, BitVec.toNat_ofNat, BitVec.toNat_ofNat, Nat.mod_eq_of_lt (by omega), Nat.mod_eq_of_lt (by omega), ← Nat.two_pow_add_eq_or_of_lt (by omega)]
  show IntKind.i64.wrap ((BitVec.ofInt IntKind.i64.bits ((2 ^ 8 * x : Nat) : Int) ||| BitVec.ofInt IntKind.i64.bits (y : Int)).toNat : Int) = _
  rw [e2, wrap_i64 (by omega)]

theorem parse_spec (b : List UInt8) (h : Hd) (hh : h.Ok b.length) (hb : b.length = 16) :
    PureSpec Tryz.prog 147 [h.v b.length] (fun w => By w h b) (fun v F => v = .agg ⟨inoL (byt b 0) (256 * byt b 1 + byt b 2) (fun i => byt b (3 + i))⟩) := by
  refine PureSpec.of_xc tabOk Tryz.func147 rfl (by decide) (n := Tryz.f147.ntmps - 1) rfl rfl fun w0 av => ?_
  refine padK_mk ?_
  refine xc_alloc1 (ti := (Sx.look tab 82).get rfl) rfl rfl ?_
  conv => whnf
  intro b0
  conv => whnf
  refine XStop.draw tabOk mixed rfl rfl ?_
  conv => whnf
  repeat' (first
    | (refine And.intro ?_ ?_ <;> conv => whnf)
    | (refine XHeld.same rfl ?_; conv => whnf)
    | (refine XHeld.row rfl ?_; conv => whnf)
    | (refine XHeld.call rfl ?_; conv => whnf)
    | (refine XKeep.of ?_; conv => whnf)
    | (refine XSame.of ?_; conv => whnf)
    | (refine XRead.byteAt tabOk (t := 23) rfl rfl rfl rfl 0 rfl (by omega) hh fun ad had => ?_; conv => whnf)
    | (refine XRead.byteAt tabOk (t := 23) rfl rfl rfl rfl 1 rfl (by omega) hh fun ad had => ?_; conv => whnf)
    | (refine XRead.byteAt tabOk (t := 23) rfl rfl rfl rfl 2 rfl (by omega) hh fun ad had => ?_; conv => whnf)
    | (refine XRead.byteLd' tabOk (t := 5) rfl rfl had (.fact fun w h => h) rfl (by omega) ?_; conv => whnf)
    | (refine XRead.shl (j := 8) rfl (by decide) ?_; conv => whnf)
    | (intro b1; conv => whnf)
    | (refine XHeld.mk ?_ ?_; (focus (first | exact Ent.refl _ | exact Ent.left _ _ | exact Ent.of_le ⟨List.sublist_append_left _ _, fun w h => h⟩ | exact Ent.of_le ⟨List.Sublist.refl _, fun w h => h.1⟩)); conv => whnf))
  have e1 : IntKind.i64.wrap (byt b 0 : Int) = (byt b 0 : Int) := wrap_byt _ _
  have e2 : Sx.bits .or .i64 (IntKind.i64.wrap (IntKind.i64.wrap (byt b 1 : Int) * 2 ^ 8)) (IntKind.i64.wrap (byt b 2 : Int)) = ((256 * byt b 1 + byt b 2 : Nat) : Int) := by
    rw [wrap_byt, wrap_byt]
    exact or_byte (byt_lt _ _) (byt_lt _ _)
  refine XStop.loop tabOk (ι := Nat) ([4] ++ List.range' 20 13) (fun x => x ≤ 12)
    (fun x => [(20, .v (.int .i64 (x : Int)))]) (fun x => [((Sx.look tab 82).get rfl).zero, inoL (byt b 0) (256 * byt b 1 + byt b 2) fun j => if j < x then byt b (3 + j) else 0]) (fun _ => ⟨fun w => By w h b, []⟩)
    (fun x => 12 - x) 0 (Nat.zero_le _) ?_ (by simp only [e1, e2]; rfl) (Ent.refl _) fun i hi => ?_
  · conv => whnf
    repeat (first | exact FLe.nil | refine FLe.any ?_ | refine FLe.cons ?_)
  conv => whnf
  refine XIf.split (fun hlt => ?_) (fun hlt => ?_)
  · have hlt' : i < 12 := by
      simp only [iLt_eq, decide_eq_true_eq] at hlt
      omega
    conv => whnf
    refine XVal.of_read (XRead.byteAt tabOk (t := 23) rfl rfl rfl rfl (3 + i) (by rw [wrap_i64 (by omega)]; rfl) (by omega) hh fun ad had => ?_)
    conv => whnf
    refine XVal.of_read (XRead.byteLd' tabOk (t := 5) rfl rfl had (.fact fun w h => h) rfl (by omega) ?_)
    conv => whnf
    rw [blt_yes hlt']
    conv => whnf
    refine overK_mk (by simp [inoL]; omega) ?_
    conv => whnf
    refine ⟨i + 1, ⟨hlt', by dsimp only; omega⟩, ?_, ?_, Ent.refl _⟩
    · conv => whnf
      refine ⟨?_, rfl⟩
      repeat (first | exact FLe.nil | refine FLe.any ?_ | refine FLe.cons ?_ | refine FLe.eq (by rw [wrap_i64 (by omega)]; rfl) ?_)
    · conv => whnf
      refine ⟨⟨rfl, rfl⟩, ⟨rfl, ?_⟩, trivial⟩
      rw [wrap_byt]
      dsimp only
      rw [Nat.mul_one, Nat.zero_add]
      show laid (inoL _ _ _) (2 + i) [intV (byt b (3 + i))] = _
      rw [laid_ino hlt']
      refine ino_congr fun j hj => ?_
      by_cases hji : j = i
      · subst hji
        simp
      · simp only [if_neg hji]
        by_cases h1 : j < i
        · rw [if_pos h1, if_pos (by omega)]
        · rw [if_neg h1, if_neg (by omega)]
  · have hie : i = 12 := by
      simp only [iLt_eq, decide_eq_false_iff_not] at hlt
      omega
    subst hie
    conv => whnf
    refine ⟨_, Ent.refl _, ?_⟩
    have e := ino_congr (k := byt b 0) (s := 256 * byt b 1 + byt b 2) (b := fun j => if j < 12 then byt b (3 + j) else 0) (b' := fun i => byt b (3 + i)) fun j hj => by simp [hj]
    exact congrArg (fun l => Value.agg ⟨l⟩) e

theorem equal_spec (x y : List UInt8) (h k : Hd) (hh : h.Ok x.length) (hk : k.Ok y.length) : PureSpec Tryz.prog 145 [h.v x.length, k.v y.length] (fun w => By w h x ∧ By w k y) (fun v F => v = .bool (x == y)) := by
  refine PureSpec.of_xc tabOk Tryz.func145 rfl (by decide) (n := Tryz.f145.ntmps - 2) rfl rfl fun w0 av => ?_
  conv => whnf
  refine XVal.of_read (XRead.bytes tabOk (t := 23) (u := 9) rfl rfl rfl rfl rfl rfl (l := x) (.fact fun w hw => hw.1) rfl ?_)
  conv => whnf
  refine XVal.of_read (XRead.bytes tabOk (t := 23) (u := 9) rfl rfl rfl rfl rfl rfl (l := y) (.fact fun w hw => hw.2) rfl ?_)
  conv => whnf
  refine XVal.of_read (XRead.strEq (l := x) (m := y) ?_)
  conv => whnf
  exact ⟨_, Ent.refl _, rfl⟩

theorem clone_spec (l : List UInt8) (h : Hd) (hh : h.Ok l.length) (h0 : 0 < l.length) (hl : l.length ≤ 1000000) : PureSpec Tryz.prog 28 [h.v l.length] (fun w => By w h l) (RelO l) := by
  refine PureSpec.of_xc tabOk Tryz.func28 rfl (by decide) (n := Tryz.f28.ntmps - 1) rfl rfl fun w0 av => ?_
  conv => whnf
  refine XVal.of_read (XRead.eqNil tabOk (t := 23) rfl rfl ?_)
  have hs : h.a.isNone = false := by
    cases ha : h.a with
    | none => have := hh.nil ha; omega
    | some a => rfl
  rw [hs]
  conv => whnf
  refine XVal.build tabOk (t := 23) rfl rfl rfl [] rfl rfl (by simp) (by decide) fun b0 => ?_
  conv => whnf
  refine XVal.ent (F' := ⟨fun w => By w h l, []⟩) (Ent.of_le ⟨by simp, fun w hw => hw⟩) ?_
  refine XVal.copyBytes tabOk (t := 23) (xt := 23) rfl rfl rfl rfl rfl rfl rfl rfl (l := l) (.fact fun w hw => hw) h0 hl fun b1 c1 Z hc hZ => ?_
  conv => whnf
  exact relO_row (r1 := []) (r2 := []) rfl hc

end Go.Proofs.YtfeoedkmndkbjaaGreatDoor
namespace Go.Proofs.YtfeoedkmndkbjaaGreatDoor
open Go Go.Sx
set_option maxRecDepth 100000
set_option maxHeartbeats 4000000
set_option linter.unusedVariables false
set_option linter.unusedSimpArgs false

def prt (b : Nat → Nat) (i : Nat) : List Nat := ((List.range i).map b).filter (· ≠ 0)

theorem prt_next (b : Nat → Nat) (i : Nat) : prt b (i + 1) = prt b i ++ (if b i = 0 then [] else [b i]) := by
  unfold prt
  rw [List.range_succ, List.map_append, List.filter_append]
  congr 1
  by_cases h : b i = 0 <;> simp [h]

theorem prt_pre (b : Nat → Nat) {i j : Nat} (h : i ≤ j) : prt b i <+: prt b j := by
  induction j with
  | zero =>
    have : i = 0 := by omega
    subst this
    exact List.prefix_refl _
  | succ j ih =>
    rcases Nat.lt_or_eq_of_le h with h1 | h1
    · exact (ih (by omega)).trans (by rw [prt_next]; exact List.prefix_append _ _)
    · subst h1
      exact List.prefix_refl _

/-- What proper asks of a block. -/
def BlkOk (d : List UInt8) (s j x : Nat) : Prop := j < (s + 127) / 128 ∧ 18 ≤ x ∧ x < 96 ∧ (s - 128 * j < 128 → allZ (cut d (128 * x + (s - 128 * j)) (128 - (s - 128 * j))) = true)

structure PropOk (d : List UInt8) (k s : Nat) (b : Nat → Nat) (us : List Nat) : Prop where
  kind : k = 1 ∨ k = 2
  size : s ≤ 1536
  blk : ∀ j, j < 12 → b j ≠ 0 → BlkOk d s j (b j)
  nodup : (us ++ prt b 12).Nodup
  dir : k ≠ 2 ∨ (s = 128 ∧ b 0 ≠ 0)

def usedKV (us : List Nat) : KVs := us.map fun n => (intV n, .bool true)

theorem usedKV_key (us : List Nat) : ∀ p ∈ usedKV us, MapKept.IsKey (.int .i64) p.1 := by
  intro p hp
  obtain ⟨n, _, rfl⟩ := List.mem_map.1 hp
  rfl

theorem usedKV_no {us : List Nat} {n : Nat} (h : n ∉ us) : ∀ p ∈ usedKV us, p.1 ≠ intV n := by
  intro p hp he
  obtain ⟨m, hm, rfl⟩ := List.mem_map.1 hp
  have : m = n := by
    unfold intV at he
    simp at he
    omega
  subst this
  exact h hm

theorem usedKV_val {us : List Nat} {n : Nat} : ∀ (i : Nat) u, (usedKV us)[i]? = some (intV n, u) → u = .bool true := by
  intro i u h
  unfold usedKV at h
  rw [List.getElem?_map] at h
  cases hq : us[i]? with
  | none => rw [hq] at h; cases h
  | some m =>
    rw [hq] at h
    simp at h
    exact h.2.symm

theorem usedKV_snoc (us : List Nat) (n : Nat) : usedKV (us ++ [n]) = usedKV us ++ [(intV n, .bool true)] := by simp [usedKV]

theorem arr_get {b : Nat → Nat} {i : Nat} (hi : i < 12) : [intV (b 0), intV (b 1), intV (b 2), intV (b 3), intV (b 4), intV (b 5), intV (b 6), intV (b 7), intV (b 8), intV (b 9), intV (b 10), intV (b 11)][i]? = some (intV (b i)) := by
  match i, hi with
  | 0, _ | 1, _ | 2, _ | 3, _ | 4, _ | 5, _ | 6, _ | 7, _ | 8, _ | 9, _ | 10, _ | 11, _ => rfl

section
variable {w0 : World} {R : Nat → Nat → Prop} {av : Nat → Prop}

theorem proper_call {D : World → Prop} {bd bv bm cap b9 : Nat} {c9 : List Value} {d : List UInt8} {Z V : List Value} {k s : Nat} {b : Nat → Nat} {us : List Nat} {K : KV} (hd : d.length = 12288) (hcap : d.length ≤ cap)
    (hV : V[0]? = some (.slice (some ⟨bd, 0, none⟩) d.length cap)) (hs : s ≤ 1000000) (hb : ∀ i, b i ≤ 1000000) (hus : us.Nodup)
    (hT : PropOk d k s b us → K (.bool true) [(b9, 0)] [c9] ⟨D, [(bd, Row.c (d.map byteV ++ Z)), (bv, Row.c V)] ++ [(bm, Row.m (mapG (usedKV (us ++ prt b 12))) (usedKV (us ++ prt b 12)).length)] ++ []⟩)
    (hF : ¬ PropOk d k s b us → ∀ vs, K (.bool false) [(b9, 0)] [c9] ⟨D, [(bd, Row.c (d.map byteV ++ Z)), (bv, Row.c V)] ++ [(bm, Row.m (mapG (usedKV vs)) (usedKV vs).length)] ++ []⟩) :
    XCall Tryz.prog w0 R av 148 [.pointer (some ⟨bv, 0, none⟩), .agg ⟨inoL k s b⟩, .map (some bm)] [(b9, 0)] [c9] ⟨D, [(bd, Row.c (d.map byteV ++ Z)), (bv, Row.c V)] ++ [(bm, Row.m (mapG (usedKV us)) (usedKV us).length)] ++ []⟩ K := by
  refine XCall.inlineD tabOk Tryz.func148 rfl (by decide) (n := Tryz.f148.ntmps - 3) [.v _, .v _, .v _] rfl (by exact ⟨rfl, rfl, rfl, trivial⟩) ?_
  conv => whnf
  intro b4
  have hno : ∀ (vs : List Nat) (cc : List Value), ¬ PropOk d k s b us → XDrop [(b9, 0)] [(b9, 0), (b4, 0)] [c9, cc] ⟨D, [(bd, Row.c (d.map byteV ++ Z)), (bv, Row.c V)] ++ [(bm, Row.m (mapG (usedKV vs)) (usedKV vs).length)] ++ []⟩ (fun c1 F1 => K (.bool false) [(b9, 0)] c1 F1) :=
    fun vs cc hn => ⟨⟨[(b4, 0)], [c9], [cc], _, rfl, rfl, rfl, Ent.refl _, hF hn vs⟩⟩
  conv => whnf
  repeat (refine XSame.of ?_; conv => whnf)
  generalize hc1 : (iNe (k : Int) 1 && iNe (k : Int) 2 || iGt (s : Int) 1536) = c1
  cases c1
  rotate_left
  · conv => whnf
    repeat (refine XSame.of ?_; conv => whnf)
    exact hno us _ fun hp => by
      have h1 := hp.kind
      have h2 := hp.size
      simp [iNe_eq, iGt_eq] at hc1
      omega
  have hks : (k = 1 ∨ k = 2) ∧ s ≤ 1536 := by
    simp [iNe_eq, iGt_eq] at hc1
    omega
  conv => whnf
  repeat (refine XSame.of ?_; conv => whnf)
  refine XStop.loop tabOk (ι := Nat × List Nat) ([7, 8, 9] ++ List.range' 25 43) (fun x => x.1 ≤ 12 ∧ x.2 = us ++ prt b x.1 ∧ x.2.Nodup ∧ ∀ j, j < x.1 → b j ≠ 0 → BlkOk d s j (b j))
    (fun x => [(25, .v (.int .i64 (x.1 : Int)))]) (fun _ => [c9, inoL k s b]) (fun x => ⟨D, [(bd, Row.c (d.map byteV ++ Z)), (bv, Row.c V)] ++ [(bm, Row.m (mapG (usedKV x.2)) (usedKV x.2).length)] ++ []⟩)
    (fun x => 12 - x.1) (0, us) ⟨Nat.zero_le _, by simp [prt], hus, fun j hj => by omega⟩ ?_ rfl (Ent.refl _) fun x hx => ?_
  · conv => whnf
    repeat (first | exact FLe.nil | refine FLe.any ?_ | refine FLe.cons ?_)
  obtain ⟨i, vs⟩ := x
  obtain ⟨hi, hvs, hnd, hall⟩ := hx
  dsimp only at hi hvs hnd hall ⊢
  conv => whnf
  refine XIf.split (fun hlt => ?_) (fun hlt => ?_)
  · have hlt' : i < 12 := by
      simp only [iLt_eq, decide_eq_true_eq] at hlt
      omega
    have hpn := prt_next b i
    conv => whnf
    refine XVal.of_read (XRead.indexAgg tabOk (t := 72) rfl rfl rfl rfl rfl i rfl hlt' (arr_get hlt') ?_)
    conv => whnf
    refine XIf.split (fun hz => ?_) (fun hz => ?_)
    · have hz' : b i = 0 := by
        simp [iEq_eq] at hz
        omega
      rw [if_pos hz', List.append_nil] at hpn
      conv => whnf
      refine ⟨(i + 1, vs), ⟨⟨hlt', by dsimp only; rw [hpn]; exact hvs, hnd, fun j hj h0 => ?_⟩, by dsimp only; omega⟩, ?_, ?_, Ent.refl _⟩
      · rcases Nat.lt_or_eq_of_le (Nat.lt_succ_iff.1 hj) with h5 | h5
        · exact hall j h5 h0
        · subst h5
          exact absurd hz' h0
      · conv => whnf
        refine ⟨?_, rfl⟩
        repeat (first | exact FLe.nil | refine FLe.any ?_ | refine FLe.cons ?_ | refine FLe.eq (by rw [wrap_i64 (by omega)]; rfl) ?_)
      · conv => whnf
        exact ⟨⟨rfl, rfl⟩, ⟨rfl, rfl⟩, trivial⟩
    have hz' : b i ≠ 0 := by
      simp [iEq_eq] at hz
      omega
    rw [if_neg hz'] at hpn
    have hbi := hb i
    conv => whnf
    refine XCall.val (parts_spec s hs) (fun w hw => trivial) (fun v Dx hv => ?_)
    subst hv
    conv => whnf
    repeat (refine XSame.of ?_; conv => whnf)
    generalize hr : (iGe (i : Int) (((s + 127) / 128 : Nat) : Int) || iLt (b i : Int) 18 || iGe (b i : Int) 96) = cr
    cases cr
    rotate_left
    · conv => whnf
      repeat (refine XSame.of ?_; conv => whnf)
      refine hno vs _ fun hp => ?_
      obtain ⟨h1, h2, h3, -⟩ := hp.blk i hlt' hz'
      simp [iGe_eq, iLt_eq] at hr
      omega
    have hr' : i < (s + 127) / 128 ∧ 18 ≤ b i ∧ b i < 96 := by
      simp [iGe_eq, iLt_eq] at hr
      omega
    obtain ⟨hr1, hr2, hr3⟩ := hr'
    conv => whnf
    repeat (refine XSame.of ?_; conv => whnf)
    by_cases hmem : b i ∈ vs
    · refine XVal.of_read (XRead.lookupIn tabOk (t := 182) rfl rfl rfl rfl (SeesM.row (by simp)) rfl (usedKV_key vs) (v := .bool true) usedKV_val ⟨(intV (b i), .bool true), List.mem_map.2 ⟨_, hmem, rfl⟩, rfl⟩ ?_)
      conv => whnf
      repeat (refine XSame.of ?_; conv => whnf)
      refine hno vs _ fun hp => ?_
      have h2 := hp.nodup.sublist (((List.prefix_append_right_inj us).2 (prt_pre b (show i + 1 ≤ 12 by omega))).sublist)
      rw [hpn, ← List.append_assoc, ← hvs, List.nodup_append] at h2
      exact h2.2.2 _ hmem _ (by simp) rfl
    refine XVal.of_read (XRead.lookupNo tabOk (t := 182) rfl rfl rfl rfl (SeesM.row (by simp)) rfl (usedKV_key vs) (usedKV_no hmem) (z := .bool false) rfl ?_)
    conv => whnf
    repeat (refine XSame.of ?_; conv => whnf)
    refine XUnit.mapNew tabOk (t := 182) rfl rfl rfl rfl (r1 := [(bd, Row.c (d.map byteV ++ Z)), (bv, Row.c V)]) (r2 := []) (l := usedKV vs) rfl (usedKV_key vs) (usedKV_no hmem) ?_
    have hsn := usedKV_snoc vs (b i)
    rw [← hsn]
    have hend : IntKind.i64.wrap ((s : Int) - IntKind.i64.wrap ((i : Int) * 128)) = ((s - 128 * i : Nat) : Int) := by
      rw [wrap_i64 (n := (i : Int) * 128) (by omega), wrap_i64 (by omega)]
      omega
    have hnd2 : (vs ++ [b i]).Nodup := by
      rw [List.nodup_append]
      refine ⟨hnd, by simp, fun a ha c hc hac => ?_⟩
      have hc : c = b i := by simpa using hc
      subst hc hac
      exact hmem ha
    have hvs2 : vs ++ [b i] = us ++ prt b (i + 1) := by rw [hpn, hvs, List.append_assoc]
    conv => whnf
    repeat (refine XSame.of ?_; conv => whnf)
    rw [hend]
    generalize hes : s - 128 * i = es at *
    have hblk : (es < 128 → allZ (cut d (128 * b i + es) (128 - es)) = true) → BlkOk d s i (b i) := fun h => ⟨hr1, hr2, hr3, by rw [hes]; exact h⟩
    have hgo : BlkOk d s i (b i) → ∀ j, j < i + 1 → b j ≠ 0 → BlkOk d s j (b j) := fun hB j hj h0 => by
      rcases Nat.lt_or_eq_of_le (Nat.lt_succ_iff.1 hj) with h5 | h5
      · exact hall j h5 h0
      · subst h5
        exact hB
    refine XIf.split (fun h7 => ?_) (fun h7 => ?_)
    · have h7' : es < 128 := by
        simp [iLt_eq] at h7
        omega
      have hcl : (cut d (128 * b i + es) (128 - es)).length = 128 - es := cut_len (by omega)
      have hok : (⟨some ⟨bd, 0, none⟩, cap⟩ : Hd).Ok d.length := ⟨fun h => (by cases h), hcap⟩
      have hok2 : (Hd.sub ⟨some ⟨bd, 0, none⟩, cap⟩ (128 * b i)).Ok 128 := Hd.sub_ok hok (by omega)
      have hzs := zero_spec (cut d (128 * b i + es) (128 - es)) (Hd.sub (Hd.sub ⟨some ⟨bd, 0, none⟩, cap⟩ (128 * b i)) es) (by rw [hcl]; exact Hd.sub_ok hok2 (by omega)) (by omega)
      rw [hcl] at hzs
      conv => whnf
      refine XCall.look (vblock_spec bv V ⟨some ⟨bd, 0, none⟩, cap⟩ d.length hV hok hd (b i) hr3) (Loc.row _ _) (fun w hst => Sees.row (by simp) w hst) ?_
      conv => whnf
      refine XVal.of_read (XRead.subFrom tabOk (t := 23) rfl rfl rfl rfl es rfl (by omega) hok2.cap ?_)
      conv => whnf
      refine XCall.look hzs (Loc.row _ _) (fun w hst => ?_) ?_
      · have h1 : By w ⟨some ⟨bd, 0, none⟩, cap⟩ d := Sees.bytes (Z := Z) (by simp) w hst
        have h2 := By.sub (By.sub h1 (l := 128 * b i) (k := 128) (by dsimp only; omega)) (l := es) (k := 128 - es) (by have := hok2.cap; omega)
        rw [cut_cut (by omega)] at h2
        exact h2
      generalize hzz : allZ (cut d (128 * b i + es) (128 - es)) = zz at *
      cases zz
      · conv => whnf
        repeat (refine XSame.of ?_; conv => whnf)
        repeat' (first
          | (refine XIf.yes rfl ?_; conv => whnf))
        refine hno (vs ++ [b i]) _ fun hp => ?_
        have h9 := (hp.blk i hlt' hz').2.2.2
        rw [hes, hzz] at h9
        cases h9 h7'
      · conv => whnf
        repeat (refine XSame.of ?_; conv => whnf)
        repeat' (first
          | (refine XIf.no rfl ?_; conv => whnf))
        refine ⟨(i + 1, vs ++ [b i]), ⟨⟨hlt', hvs2, hnd2, hgo (hblk fun _ => rfl)⟩, by dsimp only; omega⟩, ?_, ?_, Ent.refl _⟩
        · conv => whnf
          refine ⟨?_, rfl⟩
          repeat (first | exact FLe.nil | refine FLe.any ?_ | refine FLe.cons ?_ | refine FLe.eq (by rw [wrap_i64 (by omega)]; rfl) ?_)
        · conv => whnf
          exact ⟨⟨rfl, rfl⟩, ⟨rfl, rfl⟩, trivial⟩
    · have h7' : ¬ es < 128 := by
        simp [iLt_eq] at h7
        omega
      conv => whnf
      repeat (refine XSame.of ?_; conv => whnf)
      repeat' (first
        | (refine XIf.no rfl ?_; conv => whnf))
      refine ⟨(i + 1, vs ++ [b i]), ⟨⟨hlt', hvs2, hnd2, hgo (hblk fun h => absurd h h7')⟩, by dsimp only; omega⟩, ?_, ?_, Ent.refl _⟩
      · conv => whnf
        refine ⟨?_, rfl⟩
        repeat (first | exact FLe.nil | refine FLe.any ?_ | refine FLe.cons ?_ | refine FLe.eq (by rw [wrap_i64 (by omega)]; rfl) ?_)
      · conv => whnf
        exact ⟨⟨rfl, rfl⟩, ⟨rfl, rfl⟩, trivial⟩
  · have hie : i = 12 := by
      simp only [iLt_eq, decide_eq_false_iff_not] at hlt
      omega
    subst hie
    subst hvs
    have hend : ∀ r : Bool, (r = true ↔ (k ≠ 2 ∨ (s = 128 ∧ b 0 ≠ 0))) → XDrop [(b9, 0)] [(b9, 0), (b4, 0)] [c9, inoL k s b] ⟨D, [(bd, Row.c (d.map byteV ++ Z)), (bv, Row.c V)] ++ [(bm, Row.m (mapG (usedKV (us ++ prt b 12))) (usedKV (us ++ prt b 12)).length)] ++ []⟩ (fun c1 F1 => K (.bool r) [(b9, 0)] c1 F1) := by
      intro r hr
      cases r
      · exact hno _ _ fun hp => by
          have := hr.2 hp.dir
          cases this
      · exact ⟨⟨[(b4, 0)], [c9], [inoL k s b], _, rfl, rfl, rfl, Ent.refl _, hT ⟨hks.1, hks.2, hall, hnd, hr.1 rfl⟩⟩⟩
    have q1 : iNe (k : Int) 2 = decide (k ≠ 2) := by
      rw [iNe_eq, Bool.eq_iff_iff]
      simp
      omega
    have q2 : iEq (s : Int) 128 = decide (s = 128) := iEq_nat s 128
    have q3 : iNe (b 0 : Int) 0 = decide (b 0 ≠ 0) := by
      rw [iNe_eq, Bool.eq_iff_iff]
      simp
    conv => whnf
    repeat (refine XSame.of ?_; conv => whnf)
    repeat' (first
      | (rw [show iNe (k : Int) 2 = iNe (k : Int) 2 from rfl]; cases ht0 : iNe (k : Int) 2 <;> conv => whnf)
      | (rw [show iEq (s : Int) 128 = iEq (s : Int) 128 from rfl]; cases ht1 : iEq (s : Int) 128 <;> conv => whnf)
      | (rw [show iNe (b 0 : Int) 0 = iNe (b 0 : Int) 0 from rfl]; cases ht2 : iNe (b 0 : Int) 0 <;> conv => whnf)
      | (refine XSame.of ?_; conv => whnf)
      | (refine XIf.yes rfl ?_; conv => whnf)
      | (refine XIf.no rfl ?_; conv => whnf))
    all_goals
      refine hend _ ?_
      first | simp [ht0, ht1, ht2] at q1 q2 q3 ⊢ | simp [ht0, ht1] at q1 q2 ⊢ | simp [ht0] at q1 ⊢
      try omega
end

end Go.Proofs.YtfeoedkmndkbjaaGreatDoor
namespace Go.Proofs.YtfeoedkmndkbjaaGreatDoor
open Go Go.Sx
set_option maxRecDepth 100000
set_option maxHeartbeats 4000000
set_option linter.unusedVariables false
set_option linter.unusedSimpArgs false

/-- The disk on which a block is taken and zero. -/
def takeD (d : List UInt8) (x : Nat) : List UInt8 := lay (setBmp d (putB (bmp d) x true)) (128 * x) (List.replicate 128 0)

theorem freeB_lt {b : List UInt8} {x : Nat} (h : freeB b = some x) : 18 ≤ x ∧ x < 96 := by
  unfold freeB at h
  have := List.mem_of_find?_eq_some h
  rw [List.mem_range'_1] at this
  omega

theorem takeD_len {d : List UInt8} (hd : d.length = 12288) {x : Nat} (hx : x < 96) : (takeD d x).length = 12288 := by
  have h1 : (setBmp d (putB (bmp d) x true)).length = 12288 := setBmp_len hd (by rw [putB_len, bmp_len hd])
  unfold takeD
  rw [lay_len (by rw [h1, List.length_replicate]; omega), h1]

/-- What is handed back: a number, a disk (or nil), an error. -/
def RelN (n : Nat) (d : List UInt8) (e : Nat) (v : Value) (F : Fx) : Prop := ∃ h : Hd, v = .tuple #[.int .i64 (n : Int), h.v d.length, .int .i64 (e : Int)] ∧ h.Ok d.length ∧ F = ⟨fun w => By w h d, []⟩

theorem relN_nil {D : World → Prop} {rs : List (Nat × Row)} {e : Nat} : ∃ F', Ent ⟨D, rs⟩ F' ∧ RelN 0 [] e (.tuple #[.int .i64 0, .slice none 0 0, .int .i64 (e : Int)]) F' :=
  ⟨⟨fun w => By w Hd.nil [], []⟩, Ent.bare fun w _ => By.nil w, Hd.nil, rfl, Hd.nil_ok, rfl⟩

/-- The same, the disk a row of the caller's own. -/
def RelNO (n : Nat) (d : List UInt8) (e : Nat) (v : Value) (F : Fx) : Prop := ∃ b cap Z, v = .tuple #[.int .i64 (n : Int), .slice (some ⟨b, 0, none⟩) d.length cap, .int .i64 (e : Int)] ∧ d.length ≤ cap ∧ F = ⟨fun _ => True, [(b, Row.c (d.map byteV ++ Z))]⟩

def RelTk (d : List UInt8) (v : Value) (F : Fx) : Prop := match freeB (bmp d) with
  | none => RelN 0 [] 13 v F
  | some x => RelNO x (takeD d x) 0 v F

theorem zeros_map (n : Nat) : (List.replicate n [Value.int .u8 0]).flatten = (List.replicate n (0 : UInt8)).map byteV ++ [] := by
  induction n with
  | zero => rfl
  | succ n ih =>
    rw [List.replicate_succ, List.flatten_cons, ih, List.replicate_succ]
    rfl

section
variable {P : Program} {tab : Sx.Tab} {w0 : World} {R : Nat → Nat → Prop} {av : Nat → Prop} {bs : List (Nat × Nat)} {cs : List (List Value)} {F : Fx}
theorem XVal.makeBytes (hT : TabOk P tab) {t : TypeId} {ti te : TI} {e : TypeId} (ht : Sx.look tab t = some ti) (hk : ti.k = .slice e) (he : Sx.look tab e = some te) (hz : te.zero = [.int .u8 0]) (hs : te.size = 1) (hby : te.bytes = 1) {k k' : IntKind} {m m' : Int} {K : KV} (n : Nat) (hm : m = (n : Int)) (hm' : m' = (n : Int))
    (hn : 0 < n) (hsmall : n ≤ 1000000) (h : ∀ b, K (.slice (some ⟨b, 0, none⟩) n n) bs cs ⟨F.D, F.rs ++ [(b, Row.c ((List.replicate n (0 : UInt8)).map byteV ++ []))]⟩) : XVal P w0 R av (Instr.makeSlice t (.int k m) (.int k' m')) bs cs F K := by
  refine XVal.makeRow hT ht hk he n hm hm' hn (by rw [hs]; decide) (by rw [hz, hs]; rfl) hsmall (by rw [hby]; omega) fun b => ?_
  rw [hz, zeros_map]
  exact h b
end

theorem take_spec (d : List UInt8) (h : Hd) (hh : h.Ok d.length) (hd : d.length = 12288) : PureSpec Tryz.prog 82 [h.v d.length] (fun w => By w h d) (RelTk d) := by
  have hbl := bmp_len hd
  refine PureSpec.of_xc tabOk Tryz.func82 rfl (by decide) (n := Tryz.f82.ntmps - 1) rfl rfl fun w0 av => ?_
  conv => whnf
  refine XCall.pure (bitmap_spec d h hh hd) (fun w hw => hw) (fun v D hv => ?_)
  obtain ⟨k, rfl, hk, rfl⟩ := hv
  conv => whnf
  refine XCall.pure (take7_spec (bmp d) k hk hbl) (fun w hw => hw.2) (fun v D hv => ?_)
  unfold RelT at hv
  unfold RelTk
  have hsm := fun x => setBmp_len hd (b := putB (bmp d) x true) (by rw [putB_len, hbl])
  have htl := fun x (hx : x < 96) => takeD_len hd hx
  cases hf : freeB (bmp d) with
  | none =>
    rw [hf] at hv
    obtain ⟨e, he, rfl, rfl⟩ := hv
    conv => whnf
    refine XIf.yes (by subst he; simp [iNe_eq]) ?_
    conv => whnf
    exact relN_nil
  | some x =>
    obtain ⟨hx1, hx2⟩ := freeB_lt hf
    rw [hf] at hv
    obtain ⟨l, k2, e, he, rfl, hl, hk2, rfl⟩ := hv
    have hp2 : (putB (bmp d) x true).length = 12 := by rw [putB_len, hbl]
    have hsm := setBmp_len hd hp2
    have hwb := withBitmapO_spec d h hh hd (putB (bmp d) x true) k2 (by rw [putB_len]; exact hk2) hp2
    rw [putB_len] at hwb
    conv => whnf
    refine XIf.no (by subst he; simp [iNe_eq]) ?_
    conv => whnf
    refine XCall.pure hwb (fun w hw => ⟨hw.1.1, hw.2.2⟩) (fun v D hv => ?_)
    obtain ⟨b1, c1, Z, rfl, hc1, rfl⟩ := hv
    rw [hsm] at hc1
    conv => whnf
    have hex : takeD d x = lay (setBmp d (putB (bmp d) x true)) (128 * x) (List.replicate 128 0) := rfl
    have hel := takeD_len hd hx2
    generalize setBmp d (putB (bmp d) x true) = d2 at *
    refine XStop.draw tabOk mixed rfl rfl ?_
    conv => whnf
    repeat' (first
      | (refine And.intro ?_ ?_ <;> conv => whnf)
      | (refine XHeld.same rfl ?_; conv => whnf)
      | (refine XHeld.row rfl ?_; conv => whnf)
      | (refine XHeld.call rfl ?_; conv => whnf)
      | (refine XKeep.of ?_; conv => whnf)
      | (refine XSame.of ?_; conv => whnf)
      | (refine XRead.index tabOk (t := 97) rfl rfl rfl (by omega) (by omega) hl.nil fun ad had => ?_; conv => whnf)
      | (refine XRead.load tabOk (t := 3) rfl rfl (ad := ad) (k := 0) (L := [intV x]) (v := intV x) (.fact fun w hw => had ▸ hw.1.2.1) rfl rfl ?_; conv => whnf)
      | (refine XVal.makeBytes tabOk (t := 23) rfl rfl rfl rfl rfl rfl 128 rfl rfl (by decide) (by decide) fun b2 => ?_; conv => whnf)
      | (refine XCall.val (block_spec ⟨some ⟨b1, 0, none⟩, c1⟩ d2.length x ⟨fun h => (by cases h), by dsimp only; omega⟩ (by omega) (by omega)) (fun w hw => trivial) (fun v D hv => ?_); rw [sub_row (by omega)] at hv; subst hv; conv => whnf)
      | (refine XVal.copyB tabOk (t := 23) rfl rfl rfl rfl (r1 := []) (r2 := [(b2, Row.c ((List.replicate 128 (0 : UInt8)).map byteV ++ []))]) (b := b1) (k := 128 * x) (l := d2) (m := List.replicate 128 0) (Z := Z) rfl ?_ (by simp) (by omega) (by omega) ?_; (focus exact Sees.bytes (Z := []) (by simp)); conv => whnf)
      | (refine XHeld.mk ?_ ?_; (focus (first | exact Ent.refl _ | exact Ent.left _ _ | exact Ent.of_le ⟨List.sublist_append_left _ _, fun w h => h⟩ | exact Ent.of_le ⟨List.Sublist.refl _, fun w h => h.1⟩)); conv => whnf))
    all_goals
      refine XVal.of_read (XRead.index tabOk (t := 97) rfl rfl rfl (by omega) (by omega) hl.nil fun ad had => ?_)
      conv => whnf
      refine XVal.of_read (XRead.load tabOk (t := 3) rfl rfl (ad := ad) (k := 0) (L := [intV x]) (v := intV x) (.fact fun w hw => had ▸ hw.1.2.1) rfl rfl ?_)
      conv => whnf
      rw [← hex]
      refine ⟨⟨fun _ => True, [(b1, Row.c ((takeD d x).map byteV ++ Z))]⟩, Ent.of_le ⟨by simp, fun w _ => trivial⟩, b1, c1, Z, ?_, by omega, rfl⟩
      have e1 : d2.length = (takeD d x).length := by omega
      rw [e1]
      rfl

theorem take_someO (d : List UInt8) (h : Hd) (hh : h.Ok d.length) (hd : d.length = 12288) (x : Nat) (hf : freeB (bmp d) = some x) (e : Nat) (he : e = 0) : PureSpec Tryz.prog 82 [h.v d.length] (fun w => By w h d) (RelNO x (takeD d x) e) := by
  subst he
  refine (take_spec d h hh hd).imp (fun _ h => h) fun v F hv => ?_
  unfold RelTk at hv
  rw [hf] at hv
  exact hv

theorem take_some (d : List UInt8) (h : Hd) (hh : h.Ok d.length) (hd : d.length = 12288) (x : Nat) (hf : freeB (bmp d) = some x) (e : Nat) (he : e = 0) : PureSpec Tryz.prog 82 [h.v d.length] (fun w => By w h d) (RelN x (takeD d x) e) :=
  (take_someO d h hh hd x hf e he).weaken fun v F ⟨b, cap, Z, hv, hc, hF⟩ => by
    subst hv hF
    exact ⟨⟨fun w => By w ⟨some ⟨b, 0, none⟩, cap⟩ (takeD d x), []⟩, Ent.giveB (r1 := []) (r2 := []), ⟨some ⟨b, 0, none⟩, cap⟩, rfl, ⟨fun h => (by cases h), hc⟩, rfl⟩

theorem take_none (d : List UInt8) (h : Hd) (hh : h.Ok d.length) (hd : d.length = 12288) (hf : freeB (bmp d) = none) (e : Nat) (he : e = 13) : PureSpec Tryz.prog 82 [h.v d.length] (fun w => By w h d) (RelN 0 [] e) := by
  subst he
  refine (take_spec d h hh hd).imp (fun _ h => h) fun v F hv => ?_
  unfold RelTk at hv
  rw [hf] at hv
  exact hv

def freeI (d : List UInt8) : Option Nat := (List.range 32).find? fun n => decide (rk d n = 0)

theorem freeI_some {d : List UInt8} {i : Nat} (h2 : i < 32) (hb : ∀ j, j < i → rk d j ≠ 0) (hi : rk d i = 0) : freeI d = some i := by
  unfold freeI
  rw [List.range_eq_range', List.find?_range'_eq_some]
  refine ⟨by simp [hi], ?_, ?_⟩
  · rw [List.mem_range'_1]
    omega
  · intro j hj hj2
    simp [hb j hj2]

theorem freeI_none {d : List UInt8} (hb : ∀ j, j < 32 → rk d j ≠ 0) : freeI d = none := by
  unfold freeI
  rw [List.find?_eq_none]
  intro j hj
  rw [List.mem_range] at hj
  simp [hb j hj]

noncomputable def allocR (d : List UInt8) (kind : Nat) : Nat × List UInt8 × Nat :=
  if chk d ≠ 0 then (0, [], chk d) else match freeI d with
    | none => (0, [], 13)
    | some n => if kind = 2 then match freeB (bmp d) with
        | none => (0, [], 13)
        | some x => (n, putI (takeD d x) n 2 128 (fun i => if i = 0 then x else 0), 0)
      else (n, putI d n 1 0 (fun _ => 0), 0)

theorem alloc37_spec (d : List UInt8) (h : Hd) (hh : h.Ok d.length) (hl : d.length ≤ 1000000) (kind : Nat) (hk : kind = 1 ∨ kind = 2) :
    PureSpec Tryz.prog 80 [h.v d.length, .int .i64 (kind : Int)] (fun w => By w h d) (RelN (allocR d kind).1 (allocR d kind).2.1 (allocR d kind).2.2) := by
  refine PureSpec.of_xc tabOk Tryz.func80 rfl (by decide) (n := Tryz.f80.ntmps - 2) rfl rfl fun w0 av => ?_
  conv => whnf
  refine XCall.val (check37_spec d h hh hl) (fun w hw => hw) (fun v D hv => ?_)
  generalize hch : chk d = e at hv
  subst hv
  conv => whnf
  refine XIf.split (fun he => ?_) (fun he => ?_)
  · conv => whnf
    have he' : e ≠ 0 := by
      simp [iNe_eq] at he
      omega
    have : allocR d kind = (0, [], e) := by
      unfold allocR
      rw [hch, if_pos he']
    rw [this]
    exact relN_nil
  have he' : e = 0 := by
    simp [iNe_eq] at he
    omega
  subst he'
  obtain ⟨hd, hok⟩ := chk_zero hch
  conv => whnf
  repeat (refine XSame.of ?_; conv => whnf)
  refine XIf.no (by simp [iNe_eq]; omega) ?_
  conv => whnf
  refine XStop.loop tabOk (ι := Nat) ([8, 9, 10, 11, 12, 13] ++ List.range' 25 33) (fun x => x ≤ 32 ∧ ∀ j, j < x → rk d j ≠ 0)
    (fun x => [(8, .v (.int .i64 (x : Int)))]) (fun _ => []) (fun _ => ⟨fun w => By w h d, []⟩)
    (fun x => 32 - x) 0 ⟨Nat.zero_le _, fun j hj => by omega⟩ ?_ rfl (Ent.refl _) fun i hi => ?_
  · conv => whnf
    repeat (first | exact FLe.nil | refine FLe.any ?_ | refine FLe.cons ?_)
  obtain ⟨hi, hall⟩ := hi
  conv => whnf
  refine XIf.split (fun hlt => ?_) (fun hlt => ?_)
  · conv => whnf
    have hlt' : i < 32 := by
      simp only [iLt_eq, decide_eq_true_eq] at hlt
      omega
    refine XCall.val (raw_spec d h i hh hd hlt') (fun w hw => hw) (fun v D hv => ?_)
    subst hv
    conv => whnf
    refine XIf.split (fun h0 => ?_) (fun h0 => ?_)
    · conv => whnf
      have h0' : rk d i ≠ 0 := by
        simp [iNe_eq] at h0
        omega
      refine ⟨i + 1, ⟨⟨hlt', fun j hj => ?_⟩, by dsimp only; omega⟩, ?_, ?_, Ent.refl _⟩
      · rcases Nat.lt_or_eq_of_le (Nat.lt_succ_iff.1 hj) with h1 | h1
        · exact hall j h1
        · rw [h1]; exact h0'
      · conv => whnf
        refine ⟨?_, rfl⟩
        repeat (first | exact FLe.nil | refine FLe.any ?_ | refine FLe.cons ?_ | refine FLe.eq (by rw [wrap_i64 (by omega)]; rfl) ?_)
      · conv => whnf
        exact trivial
    have h0' : rk d i = 0 := by
      simp [iNe_eq] at h0
      omega
    have hfi := freeI_some hlt' hall h0'
    conv => whnf
    intro b0
    conv => whnf
    refine XIf.split (fun hk2 => ?_) (fun hk2 => ?_)
    · have hk2' : kind = 2 := by
        simp [iEq_eq] at hk2
        omega
      conv => whnf
      have hA : allocR d kind = match freeB (bmp d) with
        | none => (0, [], 13)
        | some x => (i, putI (takeD d x) i 2 128 (fun j => if j = 0 then x else 0), 0) := by
        unfold allocR
        rw [hch, if_neg (by simp), hfi]
        simp only
        rw [if_pos hk2']
      cases hf : freeB (bmp d) with
      | none =>
        rw [hf] at hA
        dsimp only at hA
        rw [hA]
        obtain ⟨e, he⟩ : ∃ e : Nat, e = 13 := ⟨_, rfl⟩
        refine XCall.pure (take_none d h hh hd hf e he) (fun w hw => hw) (fun v D hv => ?_)
        obtain ⟨k, rfl, hk, rfl⟩ := hv
        conv => whnf
        refine XIf.yes (by subst he; simp [iNe_eq]) ?_
        conv => whnf
        subst he
        exact relN_nil
      | some x =>
        rw [hf] at hA
        dsimp only at hA
        rw [hA]
        have htl := takeD_len hd (freeB_lt hf).2
        have hx2 := (freeB_lt hf).2
        obtain ⟨e, he⟩ : ∃ e : Nat, e = 0 := ⟨_, rfl⟩
        refine XCall.pure (take_some d h hh hd x hf e he) (fun w hw => hw) (fun v D hv => ?_)
        obtain ⟨k, rfl, hk, rfl⟩ := hv
        have hpl := putI_len htl hlt' kind 128 (fun j => if j = 0 then x else 0)
        have hpt := put37_spec (takeD d x) k i kind 128 (fun j => if j = 0 then x else 0) hk htl hlt' (by omega) (by omega) (fun j => by split <;> omega)
        subst hk2'
        generalize putI (takeD d x) i 2 128 (fun j => if j = 0 then x else 0) = dd at *
        generalize takeD d x = dt at *
        conv => whnf
        refine XIf.no (by subst he; simp [iNe_eq]) ?_
        conv => whnf
        refine XCall.pure hpt (fun w hw => hw.2) (fun v D hv => ?_)
        obtain ⟨k2, rfl, hk2, rfl⟩ := hv
        conv => whnf
        exact ⟨_, Ent.of_le ⟨by simp [Fx.and], fun w hw => hw.2⟩, k2, rfl, hk2, rfl⟩
    · have hk2' : kind = 1 := by
        simp [iEq_eq] at hk2
        omega
      have hA : allocR d kind = (i, putI d i 1 0 (fun _ => 0), 0) := by
        unfold allocR
        rw [hch, if_neg (by simp), hfi]
        simp only
        rw [if_neg (by omega)]
      rw [hA]
      have hpl := putI_len hd hlt' kind 0 (fun _ => 0)
      have hpt := put37_spec d h i kind 0 (fun _ => 0) hh hd hlt' (by omega) (by omega) (fun j => by omega)
      subst hk2'
      generalize putI d i 1 0 (fun _ => 0) = dd at *
      conv => whnf
      refine XCall.pure hpt (fun w hw => hw) (fun v D hv => ?_)
      obtain ⟨k2, rfl, hk2, rfl⟩ := hv
      conv => whnf
      exact ⟨_, Ent.of_le ⟨by simp [Fx.and], fun w hw => hw.2⟩, k2, rfl, hk2, rfl⟩
  · conv => whnf
    have hie : i = 32 := by
      simp only [iLt_eq, decide_eq_false_iff_not] at hlt
      omega
    subst hie
    have : allocR d kind = (0, [], 13) := by
      unfold allocR
      rw [hch, if_neg (by simp), freeI_none hall]
    rw [this]
    exact relN_nil

end Go.Proofs.YtfeoedkmndkbjaaGreatDoor
