/- Parts of the proof: FaF, FaG, NyC, FdA, FdB, NyS, FcA, FbA, FbB, FbC, FbD, FbE, FbF, FaC, FaD, FcB, FcC, FcD, NyG, NyI, FaE. -/
import Derived.Test.YtfeoedkmndkbjaaGreatDoorQK
import Derived.Test.YtfeoedkmndkbjaaGreatDoorQM
import Derived.Test.YtfeoedkmndkbjaaGreatDoorQN
import Derived.RangeFuncNested
import Derived.RangeFuncBound
import Derived.RangeFuncCalls
import Derived.RangeFuncLeaves
import Derived.Shelf.Abstract
import Derived.Shelf.RegionOpen
import Derived.WalkKit
import Derived.OwnWalkIn
import Derived.TacticsInMore
import Derived.LoopNIn
import Derived.LoopIn
import Derived.Test.YtfeoedkmndkbjaaGreatDoorProg
import Derived.Test.YtfeoedkmndkbjaaGreatDoorQI
import Derived.Test.YtfeoedkmndkbjaaGreatDoorQL
set_option linter.unusedVariables false
set_option linter.unusedSimpArgs false
namespace Go.Proofs.YtfeoedkmndkbjaaGreatDoor
open Go Go.Sx
set_option maxRecDepth 100000
set_option maxHeartbeats 4000000
set_option linter.unusedVariables false
set_option linter.unusedSimpArgs false

theorem u64_nat (z : Int) : ∃ a : Nat, IntKind.u64.wrap z = (a : Int) := by
  have h : 0 ≤ IntKind.u64.wrap z := by
    simp [IntKind.wrap, IntKind.bits, IntKind.signed]
    omega
  exact ⟨(IntKind.u64.wrap z).toNat, by omega⟩

def mixM (h b : Nat) : Nat := (IntKind.u64.wrap (Sx.bits .xor .u64 (h : Int) (IntKind.u64.wrap (b : Int)) * 15111065706836454659)).toNat
def stepM (h b : Nat) : Nat := (Sx.bits .xor .u64 (mixM h b : Int) ((mixM h b / 2 ^ 29 : Nat) : Int)).toNat
def fromM (h : Nat) (l : List UInt8) : Nat := l.foldl (fun h c => stepM h c.toNat) h
def eightM (n : Nat) : List UInt8 := (List.range 8).map fun j => UInt8.ofNat (n / 256 ^ j)
def ofM (l : List UInt8) : Nat := fromM (fromM 125762890854254 l) (eightM l.length)
def numM (n k : Nat) : List UInt8 := (List.range k).map fun i => UInt8.ofNat (n / 2 ^ (8 * (k - 1 - i)))

attribute [irreducible] stepM mixM

theorem fromM_take {h : Nat} {l : List UInt8} {i : Nat} (hi : i < l.length) : fromM h (l.take (i + 1)) = stepM (fromM h (l.take i)) (byt l i) := by
  have hb : byt l i = l[i].toNat := by
    unfold byt
    rw [List.getD_eq_getElem?_getD, List.getElem?_eq_getElem hi]
    rfl
  unfold fromM
  rw [List.take_succ_eq_append_getElem hi, List.foldl_append, List.foldl_cons, List.foldl_nil, hb]

theorem step2X_spec (h b : Nat) : PureSpec Tryz.prog 170 [.int .u64 (h : Int), .int .u8 (b : Int)] (fun _ => True) (fun v F => v = .int .u64 (stepM h b : Int)) := by
  have hm : mixM h b = (IntKind.u64.wrap (Sx.bits .xor .u64 (h : Int) (IntKind.u64.wrap (b : Int)) * 15111065706836454659)).toNat := by unfold mixM; rfl
  have hs : stepM h b = (Sx.bits .xor .u64 (mixM h b : Int) ((mixM h b / 2 ^ 29 : Nat) : Int)).toNat := by unfold stepM; rfl
  generalize stepM h b = sm at *
  generalize mixM h b = mm at *
  refine PureSpec.of_xc tabOk Tryz.func170 rfl (by decide) (n := Tryz.f170.ntmps - 2) rfl rfl fun w0 av => ?_
  conv => whnf
  repeat (refine XSame.of ?_; conv => whnf)
  obtain ⟨a, ha⟩ := u64_nat (Sx.bits .xor .u64 (h : Int) (IntKind.u64.wrap (b : Int)) * 15111065706836454659)
  generalize IntKind.u64.wrap (Sx.bits .xor .u64 (h : Int) (IntKind.u64.wrap (b : Int)) * 15111065706836454659) = q at *
  subst ha
  rw [Int.toNat_natCast] at hm
  subst hm
  refine XVal.of_read (XRead.shr (a := mm) (j := 29) rfl (by decide) ?_)
  conv => whnf
  repeat (refine XSame.of ?_; conv => whnf)
  obtain ⟨c, hc⟩ : ∃ c : Nat, Sx.bits .xor .u64 (mm : Int) ((mm / 2 ^ 29 : Nat) : Int) = (c : Int) := u64_nat _
  rw [hc, Int.toNat_natCast] at hs
  exact ⟨_, Ent.refl _, by rw [hs, ← hc]⟩

theorem fromX_spec (h : Nat) (l : List UInt8) (k : Hd) (hk : k.Ok l.length) (hl : l.length ≤ 1000000) : PureSpec Tryz.prog 152 [.int .u64 (h : Int), k.v l.length] (fun w => By w k l) (fun v F => v = .int .u64 (fromM h l : Int)) := by
  refine PureSpec.of_xc tabOk Tryz.func152 rfl (by decide) (n := Tryz.f152.ntmps - 2) rfl rfl fun w0 av => ?_
  conv => whnf
  refine XStop.loop tabOk (ι := Nat × Nat) ([0, 5] ++ List.range' 6 12) (fun x => x.1 ≤ l.length ∧ x.2 = fromM h (l.take x.1))
    (fun x => [(0, .v (.int .u64 (x.2 : Int))), (5, .v (.int .i64 (x.1 : Int)))]) (fun _ => []) (fun _ => ⟨fun w => By w k l, []⟩)
    (fun x => l.length - x.1) (0, h) ⟨Nat.zero_le _, rfl⟩ ?_ rfl (Ent.refl _) fun x hx => ?_
  · conv => whnf
    repeat (first | exact FLe.nil | refine FLe.any ?_ | refine FLe.cons ?_)
  obtain ⟨i, a⟩ := x
  obtain ⟨hi, ha⟩ := hx
  dsimp only at hi ha ⊢
  conv => whnf
  refine XIf.split (fun hlt => ?_) (fun hlt => ?_)
  · have hlt' : i < l.length := by
      simp only [iLt_eq, decide_eq_true_eq] at hlt
      omega
    conv => whnf
    refine XVal.of_read (XRead.byteAt tabOk (t := 23) rfl rfl rfl rfl i rfl hlt' hk fun ad had => ?_)
    conv => whnf
    refine XVal.of_read (XRead.byteLd' tabOk (t := 5) rfl rfl had (.fact fun w h => h) rfl hlt' ?_)
    conv => whnf
    have hft := fromM_take (h := h) hlt'
    rw [← ha] at hft
    refine XCall.val (step2X_spec a (byt l i)) (fun w hw => trivial) (fun v D hv => ?_)
    rw [← hft] at hv
    subst hv
    conv => whnf
    refine ⟨(i + 1, fromM h (l.take (i + 1))), ⟨⟨hlt', rfl⟩, by dsimp only; omega⟩, ?_, ?_, Ent.refl _⟩
    · conv => whnf
      refine ⟨?_, rfl⟩
      repeat (first | exact FLe.nil | refine FLe.any ?_ | refine FLe.cons ?_ | refine FLe.eq (by rw [wrap_i64 (by omega)]; rfl) ?_)
    · conv => whnf
      exact trivial
  · have hie : i = l.length := by
      simp only [iLt_eq, decide_eq_false_iff_not] at hlt
      omega
    subst hie
    rw [List.take_length] at ha
    subst ha
    conv => whnf
    exact ⟨_, Ent.refl _, rfl⟩

theorem ofNat_mod (q : Nat) : [UInt8.ofNat (q % 256)] = [UInt8.ofNat q] := by
  congr 1
  apply UInt8.toNat_inj.1
  rw [UInt8.toNat_ofNat', UInt8.toNat_ofNat']
  omega

theorem one_own {x : UInt8} : ∀ v ∈ [byteV x], oneCell v = true := by
  intro v hv
  rw [List.mem_singleton.1 hv]
  rfl

theorem eightX_spec (h : Nat) (hh : h < 1000000000) : PureSpec Tryz.prog 153 [.int .u64 (h : Int)] (fun _ => True) (fun v F => RelB (eightM h) v F) := by
  refine PureSpec.of_xc tabOk Tryz.func153 rfl (by decide) (n := Tryz.f153.ntmps - 1) rfl rfl fun w0 av => ?_
  conv => whnf
  refine XStop.loop tabOk (ι := Nat × Nat × Option Addr × Nat × List Value × List UInt8) ([0, 3, 4] ++ List.range' 5 12) (fun x => x.1 ≤ 8 ∧ x.2.2.2.2.2 = (List.range x.1).map (fun j => UInt8.ofNat (h / 256 ^ j)) ∧ x.2.1 = h / 256 ^ x.1 ∧ Go.Sx.Own 1 x.1 x.2.2.1 x.2.2.2.1 x.2.2.2.2.1 (x.2.2.2.2.2.map byteV))
    (fun x => [(0, .v (.int .u64 (x.2.1 : Int))), (3, .v (.slice x.2.2.1 x.1 x.2.2.2.1)), (4, .v (.int .i64 (x.1 : Int)))]) (fun _ => []) (fun x => ⟨fun _ => True, orow x.2.2.1 x.2.2.2.2.1⟩)
    (fun x => 8 - x.1) (0, h, none, 0, [], []) ⟨Nat.zero_le _, rfl, by simp, Go.Sx.Own.nil 1⟩ ?_ rfl (Ent.of_le ⟨by simp [orow], fun w hw => hw⟩) fun x hx => ?_
  · conv => whnf
    repeat (first | exact FLe.nil | refine FLe.any ?_ | refine FLe.cons ?_)
  obtain ⟨i, q, a, cap, C, l⟩ := x
  obtain ⟨hi, hll, hq, hO⟩ := hx
  dsimp only at hi hll hq hO ⊢
  have hqh : q ≤ h := by rw [hq]; exact Nat.div_le_self _ _
  conv => whnf
  refine XIf.split (fun hlt => ?_) (fun hlt => ?_)
  · have hlt' : i < 8 := by
      simp only [iLt_eq, decide_eq_true_eq] at hlt
      omega
    have e1 : Int.tmod (q : Int) (Int.ofNat 256) = ((q % 256 : Nat) : Int) := tmod_nat q 256
    conv => whnf
    repeat (refine XSame.of ?_; conv => whnf)
    rw [e1, byte_u8]
    refine XVal.build tabOk (t := 23) rfl rfl rfl [byteV (UInt8.ofNat (q % 256))] rfl rfl (by simp [byteV, Value.cells]) (by decide) fun b0 => ?_
    conv => whnf
    repeat (refine XSame.of ?_; conv => whnf)
    refine XVal.ent (F' := ⟨fun _ => True, [] ++ orow a C ++ [(b0, Row.c [byteV (UInt8.ofNat (q % 256))])]⟩) (Ent.of_le ⟨by simp [byteV, Value.cells], fun w hw => hw⟩) ?_
    refine XVal.append tabOk (t := 23) (xt := 23) rfl rfl rfl rfl rfl rfl (r1 := []) (r2 := [(b0, Row.c [byteV (UInt8.ofNat (q % 256))])]) (M := [byteV (UInt8.ofNat (q % 256))]) hO (Sees.row (by simp)) rfl one_own (by omega) (by simp; omega) fun a' c' C' hO' => ?_
    conv => whnf
    repeat (refine XSame.of ?_; conv => whnf)
    have hq' : IntKind.u64.wrap (Int.tdiv (q : Int) (Int.ofNat 256)) = ((q / 256 : Nat) : Int) := by
      have e3 : Int.tdiv (q : Int) (Int.ofNat 256) = ((q / 256 : Nat) : Int) := rfl
      rw [e3]
      simp [IntKind.wrap, IntKind.bits, IntKind.signed]
      omega
    refine ⟨(i + 1, q / 256, a', c', C', l ++ [UInt8.ofNat (q % 256)]), ⟨⟨hlt', ?_, ?_, ?_⟩, by dsimp only; omega⟩, ?_, ?_, ?_⟩
    · dsimp only
      rw [List.range_succ, List.map_append, List.map_singleton, hll, ← hq]
      congr 1
      exact ofNat_mod q
    · dsimp only
      rw [hq, Nat.div_div_eq_div_mul, Nat.pow_succ]
    · dsimp only
      rw [List.map_append]
      exact hO'
    · conv => whnf
      refine ⟨?_, rfl⟩
      repeat (first | exact FLe.nil | refine FLe.any ?_ | refine FLe.cons ?_ | refine FLe.eq (by rw [wrap_i64 (by omega)]; rfl) ?_ | refine FLe.eq (congrArg (fun z => SV.v (Value.int IntKind.u64 z)) hq') ?_)
    · conv => whnf
      exact trivial
    · exact Ent.of_le ⟨by simp, fun w hw => hw⟩
  · have hie : i = 8 := by
      simp only [iLt_eq, decide_eq_false_iff_not] at hlt
      omega
    subst hie
    conv => whnf
    have hl8 : l.length = 8 := by rw [hll]; simp
    have hle : eightM h = l := hll.symm
    rw [hle]
    refine ⟨⟨fun w => RowAt w a (l.map byteV), []⟩, (Go.Sx.Own.gives hO).trans (Ent.imp fun w hw => hw.2), ⟨a, cap⟩, ?_, ?_, rfl⟩
    · rw [hl8]
    · rw [hl8]
      exact hO.hd

theorem ofX_spec (l : List UInt8) (k : Hd) (hk : k.Ok l.length) (hl : l.length ≤ 1000000) : PureSpec Tryz.prog 129 [k.v l.length] (fun w => By w k l) (fun v F => v = .int .u64 (ofM l : Int)) := by
  have hof : ofM l = fromM (fromM 125762890854254 l) (eightM l.length) := rfl
  have hml : (eightM l.length).length = 8 := by simp [eightM]
  generalize ofM l = om at *
  refine PureSpec.of_xc tabOk Tryz.func129 rfl (by decide) (n := Tryz.f129.ntmps - 1) rfl rfl fun w0 av => ?_
  conv => whnf
  have hf1 := fromX_spec 125762890854254 l k hk hl
  generalize fromM 125762890854254 l = a at *
  refine XCall.val hf1 (fun w hw => hw) (fun v D hv => ?_)
  subst hv
  conv => whnf
  repeat (refine XSame.of ?_; conv => whnf)
  have hn : IntKind.u64.wrap (l.length : Int) = (l.length : Int) := by
    simp [IntKind.wrap, IntKind.bits, IntKind.signed]
    omega
  generalize IntKind.u64.wrap (l.length : Int) = q at *
  subst hn
  have he := eightX_spec l.length (by omega)
  generalize eightM l.length = m at *
  refine XCall.pure he (fun w hw => trivial) (fun v D hv => ?_)
  obtain ⟨km, rfl, hkm, rfl⟩ := hv
  conv => whnf
  repeat (refine XSame.of ?_; conv => whnf)
  refine XCall.val (fromX_spec a m km hkm (by omega)) (fun w hw => hw.2) (fun v D hv => ?_)
  rw [← hof] at hv
  subst hv
  conv => whnf
  repeat (refine XSame.of ?_; conv => whnf)
  exact ⟨_, Ent.refl _, rfl⟩

theorem numberX_spec (n k : Nat) (hk : k ≤ 8) : PureSpec Tryz.prog 128 [.int .u64 (n : Int), .int .i64 (k : Int)] (fun _ => True) (fun v F => RelB (numM n k) v F) := by
  refine PureSpec.of_xc tabOk Tryz.func128 rfl (by decide) (n := Tryz.f128.ntmps - 2) rfl rfl fun w0 av => ?_
  have e0 : IntKind.i64.wrap ((k : Int) - 1) = (k : Int) - 1 := wrap_i64 (by omega)
  conv => whnf
  refine XStop.loop tabOk (ι := Nat × Option Addr × Nat × List Value × List UInt8) ([5, 6] ++ List.range' 9 12) (fun x => x.1 ≤ k ∧ x.2.2.2.2 = (List.range x.1).map (fun i => UInt8.ofNat (n / 2 ^ (8 * (k - 1 - i)))) ∧ Go.Sx.Own 1 x.1 x.2.1 x.2.2.1 x.2.2.2.1 (x.2.2.2.2.map byteV))
    (fun x => [(5, .v (.slice x.2.1 x.1 x.2.2.1)), (6, .v (.int .i64 ((k : Int) - 1 - (x.1 : Int))))]) (fun _ => []) (fun x => ⟨fun _ => True, orow x.2.1 x.2.2.2.1⟩)
    (fun x => k - x.1) (0, none, 0, [], []) ⟨Nat.zero_le _, rfl, Go.Sx.Own.nil 1⟩ ?_ rfl (Ent.of_le ⟨by simp [orow], fun w hw => hw⟩) fun x hx => ?_
  · conv => whnf
    repeat (first | exact FLe.nil | refine FLe.any ?_ | refine FLe.cons ?_ | refine FLe.eq (by rw [e0]; simp) ?_)
  obtain ⟨i, a, cap, C, l⟩ := x
  obtain ⟨hi, hll, hO⟩ := hx
  dsimp only at hi hll hO ⊢
  obtain ⟨z, hz⟩ : ∃ z : Int, z = (k : Int) - 1 - (i : Int) := ⟨_, rfl⟩
  rw [← hz]
  conv => whnf
  refine XIf.split (fun hlt => ?_) (fun hlt => ?_)
  · have hlt' : i < k := by
      simp only [iGe_eq, decide_eq_true_eq] at hlt
      omega
    have e1 : IntKind.i64.wrap (8 * z) = ((8 * (k - 1 - i) : Nat) : Int) := by rw [wrap_i64 (by omega)]; omega
    conv => whnf
    repeat (refine XSame.of ?_; conv => whnf)
    refine XVal.of_read (XRead.shr (a := n) (j := 8 * (k - 1 - i)) e1 (by show _ ≤ 64; omega) ?_)
    conv => whnf
    repeat (refine XSame.of ?_; conv => whnf)
    generalize hqq : n / 2 ^ (8 * (k - 1 - i)) = q
    rw [byte_u8]
    refine XVal.build tabOk (t := 23) rfl rfl rfl [byteV (UInt8.ofNat q)] rfl rfl (by simp [byteV, Value.cells]) (by decide) fun b0 => ?_
    conv => whnf
    repeat (refine XSame.of ?_; conv => whnf)
    refine XVal.ent (F' := ⟨fun _ => True, [] ++ orow a C ++ [(b0, Row.c [byteV (UInt8.ofNat q)])]⟩) (Ent.of_le ⟨by simp [byteV, Value.cells], fun w hw => hw⟩) ?_
    refine XVal.append tabOk (t := 23) (xt := 23) rfl rfl rfl rfl rfl rfl (r1 := []) (r2 := [(b0, Row.c [byteV (UInt8.ofNat q)])]) (M := [byteV (UInt8.ofNat q)]) hO (Sees.row (by simp)) rfl one_own (by omega) (by simp; omega) fun a' c' C' hO' => ?_
    conv => whnf
    repeat (refine XSame.of ?_; conv => whnf)
    have e2 : IntKind.i64.wrap (z - 1) = (k : Int) - 1 - ((i + 1 : Nat) : Int) := by rw [wrap_i64 (by omega)]; omega
    refine ⟨(i + 1, a', c', C', l ++ [UInt8.ofNat q]), ⟨⟨hlt', ?_, ?_⟩, by dsimp only; omega⟩, ?_, ?_, ?_⟩
    · dsimp only
      rw [List.range_succ, List.map_append, hll, ← hqq]
      rfl
    · dsimp only
      rw [List.map_append]
      exact hO'
    · conv => whnf
      refine ⟨?_, rfl⟩
      repeat (first | exact FLe.nil | refine FLe.any ?_ | refine FLe.cons ?_ | refine FLe.eq (by rw [wrap_i64 (by omega)]; rfl) ?_ | refine FLe.eq (congrArg (fun z => SV.v (Value.int IntKind.i64 z)) e2) ?_)
    · conv => whnf
      exact trivial
    · exact Ent.of_le ⟨by simp, fun w hw => hw⟩
  · have hie : i = k := by
      simp only [iGe_eq, decide_eq_false_iff_not] at hlt
      omega
    subst hie
    conv => whnf
    have hlk : l.length = i := by rw [hll]; simp
    have hle : numM n i = l := hll.symm
    rw [hle]
    refine ⟨⟨fun w => RowAt w a (l.map byteV), []⟩, (Go.Sx.Own.gives hO).trans (Ent.imp fun w hw => hw.2), ⟨a, cap⟩, ?_, ?_, rfl⟩
    · rw [hlk]
    · rw [hlk]
      exact hO.hd

end Go.Proofs.YtfeoedkmndkbjaaGreatDoor
namespace Go.Proofs.YtfeoedkmndkbjaaGreatDoor
open Go Go.Sx
set_option maxRecDepth 100000
set_option maxHeartbeats 4000000
set_option linter.unusedVariables false
set_option linter.unusedSimpArgs false

/-- The disk that Format writes, with any header of the log. -/
structure FmtBytes (d : List UInt8) : Prop where
  len : d.length = 12288
  ino : ∀ m, 1792 ≤ m → m < 1808 → byt d m = byt (inoB 2 128 fun i => if i = 0 then 18 else 0) (m - 1792)
  bits : ∀ m, 1664 ≤ m → m < 1676 → byt d m = byt (wantB (List.range 19)) (m - 1664)
  magic : ∀ m, m < 4 → byt d m = byt [82, 70, 83, 49] m
  zero : ∀ m, 4 ≤ m → m < 128 ∨ 256 ≤ m → m < 1664 ∨ 1676 ≤ m → m < 1792 ∨ 1808 ≤ m → byt d m = 0

def preM : List UInt8 := [74, 82, 78, 48] ++ [UInt8.ofNat 0] ++ List.replicate 11 0 ++ numM 0 4
/-- The empty header with the number 0. -/
def hdrM : List UInt8 := preM ++ numM (ofM preM) 8 ++ List.replicate 100 0

theorem headerX_spec (seq : Int) (hseq : seq = 0) (n c : Nat) (hn : n = 0) : PureSpec Tryz.prog 84 [.int .i64 seq, .slice none n c, .slice none 0 0] (fun _ => True) (fun v F => ∃ l, l = hdrM ∧ l.length = 128 ∧ RelB l v F) := by
  have hH : hdrM = preM ++ numM (ofM preM) 8 ++ List.replicate 100 0 := rfl
  have hP : preM = [74, 82, 78, 48] ++ [UInt8.ofNat 0] ++ List.replicate 11 0 ++ numM 0 4 := rfl
  have hm4 : (numM 0 4).length = 4 := by simp [numM]
  have hm8 : ∀ s, (numM s 8).length = 8 := fun s => by simp [numM]
  have hn4 := numberX_spec 0 4 (by decide)
  generalize hdrM = HH at *
  generalize preM = PP at *
  generalize numM 0 4 = m4 at *
  refine PureSpec.of_xc tabOk Tryz.func84 rfl (by decide) (n := Tryz.f84.ntmps - 3) rfl rfl fun w0 av => ?_
  obtain ⟨L0, hL0⟩ : ∃ L : List UInt8, L = [74, 82, 78, 48] := ⟨_, rfl⟩
  have hl0 : L0.length = 4 := by rw [hL0]; rfl
  conv => whnf
  repeat (refine XSame.of ?_; conv => whnf)
  refine XVal.build tabOk (t := 23) rfl rfl rfl (L0.map byteV) (by rw [hL0]; rfl) (by rw [hL0]; rfl) (by rw [hL0]; decide) (by decide) fun b0 => ?_
  have hfm : ∀ l : List UInt8, (l.map byteV).flatMap (fun v => v.cells.toList) = l.map byteV := by
    intro l
    induction l with
    | nil => rfl
    | cons x l ih => rw [List.map_cons, List.flatMap_cons, ih]; rfl
  rw [hfm]
  conv => whnf
  repeat (refine XSame.of ?_; conv => whnf)
  refine XVal.lit tabOk (t := 23) rfl rfl rfl rfl (r1 := []) (r2 := []) (C := L0.map byteV) ?_
  conv => whnf
  repeat (refine XSame.of ?_; conv => whnf)
  refine XIf.no (by simp [iGt_eq, hn]) ?_
  conv => whnf
  repeat (refine XSame.of ?_; conv => whnf)
  generalize hx0 : IntKind.u8.wrap (n : Int) = x0
  have hx1 : Value.int .u8 x0 = byteV (UInt8.ofNat n) := by rw [← hx0, byte_u8]
  rw [hx1]
  clear hx0 hx1
  obtain ⟨x1, hx1⟩ : ∃ x, x = UInt8.ofNat n := ⟨_, rfl⟩
  rw [← hx1]
  refine XVal.build tabOk (t := 23) rfl rfl rfl [byteV x1] rfl rfl (by simp [byteV, Value.cells]) (by decide) fun b1 => ?_
  conv => whnf
  repeat (refine XSame.of ?_; conv => whnf)
  refine XVal.appendNew tabOk (t := 23) (xt := 23) rfl rfl rfl rfl rfl rfl (L := L0.map byteV) (M := [byteV x1]) (.fact fun w hw => hw.2) (by simp [hl0]) (Sees.row (by simp [byteV, Value.cells])) rfl (by decide) (by decide) (by decide) fun b2 c2 C2 hO2 => ?_
  have hO2 : Go.Sx.Own 1 5 (some ⟨b2, 0, none⟩) c2 C2 ((L0 ++ [x1]).map byteV) := by rw [List.map_append]; exact hO2
  have hl2 : (L0 ++ [x1]).length = 5 := by simp [hl0]
  rw [hn] at hx1
  have hP2 : PP = (L0 ++ [x1]) ++ List.replicate 11 0 ++ m4 := by rw [hP, hL0, hx1]
  clear hP hL0 hx1
  generalize L0 ++ [x1] = L2 at *
  conv => whnf
  refine XStop.loop tabOk (ι := Nat × Option Addr × Nat × List Value × List UInt8) ([7, 8, 9] ++ List.range' 24 18) (fun x => x.1 ≤ 11 ∧ x.2.2.2.2 = L2 ++ List.replicate x.1 0 ∧ x.2.2.2.2.length = 5 + x.1 ∧ Go.Sx.Own 1 (5 + x.1) x.2.1 x.2.2.1 x.2.2.2.1 (x.2.2.2.2.map byteV))
    (fun x => [(7, .v (.slice x.2.1 (5 + x.1) x.2.2.1)), (8, .v (.int .i64 (x.1 : Int)))]) (fun _ => []) (fun x => ⟨fun _ => True, orow x.2.1 x.2.2.2.1⟩)
    (fun x => 11 - x.1) (0, some ⟨b2, 0, none⟩, c2, C2, L2) ⟨Nat.zero_le _, by simp, hl2, hO2⟩ ?_ rfl (Ent.of_le ⟨by simp [orow], fun w hw => trivial⟩) fun x hx => ?_
  · conv => whnf
    repeat (first | exact FLe.nil | refine FLe.any ?_ | refine FLe.cons ?_)
  clear hO2 hl2 hl0
  obtain ⟨i, a, cap, C, l⟩ := x
  obtain ⟨hi, hle, hll, hO⟩ := hx
  dsimp only at hi hle hll hO ⊢
  conv => whnf
  refine XIf.split (fun hlt => ?_) (fun hlt => ?_)
  · have hlt' : i < 11 := by
      simp only [iLt_eq, decide_eq_true_eq] at hlt
      omega
    conv => whnf
    repeat (refine XSame.of ?_; conv => whnf)
    refine XIf.no (by simp [iLt_eq, hn]; try omega) ?_
    conv => whnf
    repeat (refine XSame.of ?_; conv => whnf)
    refine XVal.build tabOk (t := 23) rfl rfl rfl [byteV 0] rfl rfl (by simp [byteV, Value.cells]) (by decide) fun b3 => ?_
    conv => whnf
    repeat (refine XSame.of ?_; conv => whnf)
    refine XVal.ent (F' := ⟨fun _ => True, [] ++ orow a C ++ [(b3, Row.c [byteV 0])]⟩) (Ent.of_le ⟨by simp [byteV, Value.cells], fun w hw => hw⟩) ?_
    refine XVal.append tabOk (t := 23) (xt := 23) rfl rfl rfl rfl rfl rfl (r1 := []) (r2 := [(b3, Row.c [byteV 0])]) (M := [byteV 0]) hO (Sees.row (by simp)) rfl one_own (by omega) (by simp; omega) fun a' c' C' hO' => ?_
    conv => whnf
    repeat (refine XSame.of ?_; conv => whnf)
    refine ⟨(i + 1, a', c', C', l ++ [0]), ⟨⟨hlt', ?_, ?_, ?_⟩, by dsimp only; omega⟩, ?_, ?_, ?_⟩
    · dsimp only
      rw [hle, List.replicate_succ', List.append_assoc]
    · dsimp only
      simp [hll]
      omega
    · dsimp only
      rw [List.map_append]
      exact hO'
    · conv => whnf
      refine ⟨?_, rfl⟩
      repeat (first | exact FLe.nil | refine FLe.any ?_ | refine FLe.cons ?_ | refine FLe.eq (by rw [wrap_i64 (by omega)]; rfl) ?_)
    · conv => whnf
      exact trivial
    · exact Ent.of_le ⟨by simp, fun w hw => hw⟩
  have hie : i = 11 := by
    simp only [iLt_eq, decide_eq_false_iff_not] at hlt
    omega
  subst hie
  rw [← hle] at hP2
  clear hle
  conv => whnf
  repeat (refine XSame.of ?_; conv => whnf)
  have hq : IntKind.u64.wrap seq = ((0 : Nat) : Int) := by rw [hseq]; rfl
  generalize hq0 : IntKind.u64.wrap seq = q0 at *
  subst hq
  refine XCall.pure hn4 (fun w hw => trivial) (fun v D hv => ?_)
  obtain ⟨k4, rfl, hk4, rfl⟩ := hv
  rw [hm4] at hk4 ⊢
  conv => whnf
  repeat (refine XSame.of ?_; conv => whnf)
  refine XVal.ent (F' := ⟨fun w => By w k4 m4, [] ++ orow a C ++ []⟩) (Ent.of_le ⟨by simp [Fx.and], fun w hw => hw.2⟩) ?_
  refine XVal.append tabOk (t := 23) (xt := 23) rfl rfl rfl rfl rfl rfl (r1 := []) (r2 := []) (M := m4.map byteV) hO (.fact fun w hw => hw) (by simp [hm4]) (fun v hv => byte_one v hv) (by decide) (by decide) fun a2 c2 C2 hO2 => ?_
  have hO2 : Go.Sx.Own 1 20 a2 c2 C2 ((l ++ m4).map byteV) := by rw [List.map_append]; exact hO2
  have hl2 : (l ++ m4).length = 20 := by simp [hll, hm4]
  generalize l ++ m4 = L3 at *
  subst hP2
  clear hO hll
  obtain ⟨ba, rfl⟩ := own_some hO2 (by decide)
  conv => whnf
  repeat (refine XSame.of ?_; conv => whnf)
  refine XVal.build tabOk (t := 23) rfl rfl rfl [] rfl rfl (by simp) (by decide) fun b4 => ?_
  conv => whnf
  repeat (refine XSame.of ?_; conv => whnf)
  refine XVal.ent (F' := ⟨fun _ => True, [] ++ orow (some ⟨ba, 0, none⟩) C2 ++ []⟩) (Ent.of_le ⟨by simp, fun w hw => trivial⟩) ?_
  refine XVal.copyZ tabOk (t := 23) (xt := 23) rfl rfl rfl rfl rfl rfl (M := PP.map byteV) (hO2.sees (r1 := []) (r2 := [])) (by simp [hl2]) (by decide) (by decide) fun k5 hk5 => ?_
  conv => whnf
  repeat (refine XSame.of ?_; conv => whnf)
  refine XIf.no (by simp [iGt_eq, hn]) ?_
  conv => whnf
  repeat (refine XSame.of ?_; conv => whnf)
  have hof := ofX_spec PP k5 (by rw [hl2]; exact hk5) (by omega)
  rw [hl2] at hof
  generalize ofM PP = s at *
  refine XCall.val hof (fun w hw => hw.2) (fun v D hv => ?_)
  subst hv
  conv => whnf
  repeat (refine XSame.of ?_; conv => whnf)
  have hn8 := numberX_spec s 8 (by decide)
  have hm8 := hm8 s
  generalize numM s 8 = m8 at *
  refine XCall.pure hn8 (fun w hw => trivial) (fun v D hv => ?_)
  obtain ⟨k8, rfl, hk8, rfl⟩ := hv
  rw [hm8] at hk8 ⊢
  conv => whnf
  repeat (refine XSame.of ?_; conv => whnf)
  refine XVal.ent (F' := ⟨fun w => By w k8 m8, [] ++ orow (some ⟨ba, 0, none⟩) C2 ++ []⟩) (Ent.of_le ⟨by simp [Fx.and], fun w hw => hw.2⟩) ?_
  refine XVal.append tabOk (t := 23) (xt := 23) rfl rfl rfl rfl rfl rfl (r1 := []) (r2 := []) (M := m8.map byteV) hO2 (.fact fun w hw => hw) (by simp [hm8]) (fun v hv => byte_one v hv) (by decide) (by decide) fun a3 c3 C3 hO3 => ?_
  have hO3 : Go.Sx.Own 1 28 a3 c3 C3 ((PP ++ m8).map byteV) := by rw [List.map_append]; exact hO3
  have hl3 : (PP ++ m8).length = 28 := by simp [hl2, hm8]
  generalize PP ++ m8 = L4 at *
  conv => whnf
  repeat (refine XSame.of ?_; conv => whnf)
  refine XVal.ent (F' := ⟨fun w => True, [] ++ orow a3 C3 ++ []⟩) (Ent.of_le ⟨by simp, fun w hw => trivial⟩) ?_
  refine XVal.appendMake tabOk (t := 23) (xt := 3) rfl rfl rfl rfl rfl rfl (m := 100) (r1 := []) (r2 := []) hO3 (by rw [zero_bytes]; exact byte_one) (by decide) (by decide) (by decide) fun a' c' C' hO' => ?_
  rw [zero_bytes] at hO'
  have hO' : Go.Sx.Own 1 128 a' c' C' ((L4 ++ List.replicate 100 0).map byteV) := by rw [List.map_append]; exact hO'
  have hl5 : (L4 ++ List.replicate 100 0).length = 128 := by simp [hl3]
  generalize L4 ++ List.replicate 100 0 = L5 at *
  conv => whnf
  repeat (refine XSame.of ?_; conv => whnf)
  refine ⟨⟨fun w => RowAt w a' (L5.map byteV), []⟩, by simp only [List.nil_append, List.append_nil]; exact (Go.Sx.Own.gives hO').trans (Ent.imp fun w hw => hw.2), L5, hH.symm, hl5, ⟨a', c'⟩, ?_, ?_, rfl⟩
  · rw [hl5]
  · rw [hl5]
    exact hO'.hd

theorem emptyX_spec (seq : Int) (hs : seq = 0) : PureSpec Tryz.prog 38 [.int .i64 seq] (fun _ => True) (fun v F => ∃ l : List UInt8, l = hdrM ∧ l.length = 128 ∧ ∃ h : Hd, v = .tuple #[h.v 128, .int .i64 0] ∧ h.Ok 128 ∧ F = ⟨fun w => By w h l, []⟩) := by
  refine PureSpec.of_xc tabOk Tryz.func38 rfl (by decide) (n := Tryz.f38.ntmps - 1) rfl rfl fun w0 av => ?_
  conv => whnf
  repeat (refine XSame.of ?_; conv => whnf)
  refine XIf.no (by simp [iLt_eq, iGt_eq, hs]) ?_
  conv => whnf
  repeat (refine XSame.of ?_; conv => whnf)
  refine XCall.pure (headerX_spec seq hs 0 0 rfl) (fun w hw => trivial) (fun v D hv => ?_)
  obtain ⟨l, hle, hl, k, rfl, hk, rfl⟩ := hv
  conv => whnf
  repeat (refine XSame.of ?_; conv => whnf)
  exact ⟨_, Ent.of_le ⟨by simp [Fx.and], fun w hw => hw.2⟩, l, hle, hl, k, by rw [hl], by rw [← hl]; exact hk, rfl⟩

/-- The disk that Format makes. -/
def fmtX : List UInt8 := putI (setBmp (lay (lay (List.replicate 12288 0) 0 [82, 70, 83, 49]) 128 hdrM) (wantB (List.range 19))) 0 2 128 (fun i => if i = 0 then 18 else 0)

theorem formatX_spec : PureSpec Tryz.prog 20 [] (fun _ => True) (fun v F => ∃ d, d = fmtX ∧ FmtBytes d ∧ RelO d v F) := by
  have hX : fmtX = putI (setBmp (lay (lay (List.replicate 12288 0) 0 [82, 70, 83, 49]) 128 hdrM) (wantB (List.range 19))) 0 2 128 (fun i => if i = 0 then 18 else 0) := rfl
  generalize fmtX = XX at *
  refine PureSpec.of_xc tabOk Tryz.func20 rfl (by decide) (n := Tryz.f20.ntmps) rfl rfl fun w0 av => ?_
  conv => whnf
  repeat (refine XSame.of ?_; conv => whnf)
  refine XVal.makeBytes tabOk (t := 23) rfl rfl rfl rfl rfl rfl 12288 rfl rfl (by decide) (by decide) fun b => ?_
  obtain ⟨d0, hd0⟩ : ∃ d0, d0 = List.replicate 12288 (0 : UInt8) := ⟨_, rfl⟩
  have hl0 : d0.length = 12288 := by rw [hd0]; exact List.length_replicate
  have hz0 : ∀ m, byt d0 m = 0 := fun m => by
    rw [hd0]
    unfold byt
    rw [List.getD_eq_getElem?_getD, List.getElem?_replicate]
    split <;> rfl
  rw [← hd0] at hX ⊢
  clear hd0
  conv => whnf
  repeat (refine XSame.of ?_; conv => whnf)
  refine XVal.ent (F' := ⟨fun w => True, [] ++ [(b, Row.c (d0.map byteV ++ []))] ++ []⟩) (Ent.of_le ⟨by simp, fun w hw => trivial⟩) ?_
  refine XVal.copyStr tabOk (t := 23) rfl rfl rfl rfl (r1 := []) (r2 := []) (b := b) (k := 0) (l := d0) (m := [82, 70, 83, 49]) (Z := []) rfl (by simp; try omega) (by simp; try omega) ?_
  have hb1 := fun m => byt_lay (l := d0) (m := [82, 70, 83, 49]) (k := 0) (by simp; omega) m
  have hl1 : (lay d0 0 [82, 70, 83, 49]).length = 12288 := by rw [lay_len (by simp; omega), hl0]
  generalize lay d0 0 [82, 70, 83, 49] = d1 at *
  conv => whnf
  repeat (refine XSame.of ?_; conv => whnf)
  refine XCall.pure (emptyX_spec 0 rfl) (fun w hw => trivial) (fun v D hv => ?_)
  obtain ⟨H, hHe, hH, kh, rfl, hkh, rfl⟩ := hv
  rw [← hHe] at hX
  clear hHe
  conv => whnf
  repeat (refine XSame.of ?_; conv => whnf)
  refine XCall.val (block_spec ⟨some ⟨b, 0, none⟩, 12288⟩ 12288 1 ⟨fun h => (by cases h), by dsimp only; omega⟩ (by omega) (by omega)) (fun w hw => trivial) (fun v D hv => ?_)
  rw [sub_row (by omega)] at hv
  subst hv
  conv => whnf
  repeat (refine XSame.of ?_; conv => whnf)
  refine XVal.ent (F' := ⟨fun w => By w kh H, [] ++ [(b, Row.c (d1.map byteV ++ []))] ++ []⟩) (Ent.of_le ⟨by simp [Fx.and], fun w hw => hw.2⟩) ?_
  refine XVal.copyB tabOk (t := 23) rfl rfl rfl rfl (r1 := []) (r2 := []) (b := b) (k := 128) (l := d1) (m := H) (Z := []) rfl (.fact fun w hw => hw) hH (by omega) (by omega) ?_
  have hb2 := fun m => byt_lay (l := d1) (m := H) (k := 128) (by omega) m
  have hl2 : (lay d1 128 H).length = 12288 := by rw [lay_len (by omega), hl1]
  generalize lay d1 128 H = d2 at *
  have hbits : bmp d2 = wantB (List.range 0) := by
    refine byt_ext (by rw [bmp_len hl2, wantB_len]) fun i hi => ?_
    rw [bmp_len hl2] at hi
    have e1 : byt (wantB (List.range 0)) i = 0 := by
      show byt (List.replicate 12 0) i = 0
      unfold byt
      rw [List.getD_eq_getElem?_getD, List.getElem?_replicate]
      split <;> rfl
    unfold bmp
    rw [byt_cut (by omega) hi, hb2, if_neg (by omega), hb1, if_neg (by simp; omega), hz0, e1]
  have hbm := bitmap_spec d2 ⟨some ⟨b, 0, none⟩, 12288⟩ ⟨fun h => (by cases h), by dsimp only; omega⟩ hl2
  rw [hl2, hbits] at hbm
  have hho : (⟨some ⟨b, 0, none⟩, 12288⟩ : Hd).Ok 12288 := ⟨fun h => (by cases h), Nat.le_refl _⟩
  conv => whnf
  repeat (refine XSame.of ?_; conv => whnf)
  refine XCall.ent (F' := ⟨fun w => By w ⟨some ⟨b, 0, none⟩, 12288⟩ d2, []⟩) (Ent.giveB (r1 := []) (r2 := [])) ?_
  refine XCall.pure hbm (fun w hw => hw) (fun v D hv => ?_)
  obtain ⟨kb, rfl, hkb, rfl⟩ := hv
  rw [wantB_len] at hkb ⊢
  conv => whnf
  repeat (refine XSame.of ?_; conv => whnf)
  refine XStop.loop tabOk (ι := Nat × Hd) ([4, 5] ++ List.range' 20 10) (fun x => x.1 ≤ 19 ∧ x.2.Ok 12)
    (fun x => [(4, .v (x.2.v 12)), (5, .v (.int .i64 (x.1 : Int)))]) (fun _ => []) (fun x => ⟨fun w => By w ⟨some ⟨b, 0, none⟩, 12288⟩ d2 ∧ By w x.2 (wantB (List.range x.1)), []⟩)
    (fun x => 19 - x.1) (0, kb) ⟨Nat.zero_le _, hkb⟩ ?_ rfl (Ent.of_le ⟨by simp [Fx.and], fun w hw => hw⟩) fun x hx => ?_
  · conv => whnf
    repeat (first | exact FLe.nil | refine FLe.any ?_ | refine FLe.cons ?_)
  obtain ⟨i, k⟩ := x
  obtain ⟨hi, hk⟩ := hx
  dsimp only at hi hk ⊢
  conv => whnf
  refine XIf.split (fun hlt => ?_) (fun hlt => ?_)
  · have hlt' : i < 19 := by
      simp only [iLe_eq, decide_eq_true_eq] at hlt
      omega
    have hsw := setWant_spec k hk (List.range i) i (by omega)
    rw [← List.range_succ] at hsw
    conv => whnf
    repeat (refine XSame.of ?_; conv => whnf)
    refine XCall.pure hsw (fun w hw => hw.2) (fun v D hv => ?_)
    obtain ⟨k', rfl, hk', rfl⟩ := hv
    conv => whnf
    repeat (refine XSame.of ?_; conv => whnf)
    refine ⟨(i + 1, k'), ⟨⟨hlt', hk'⟩, by dsimp only; omega⟩, ?_, ?_, Ent.of_le ⟨by simp [Fx.and], fun w hw => ⟨hw.1.1, hw.2⟩⟩⟩
    · conv => whnf
      refine ⟨?_, rfl⟩
      repeat (first | exact FLe.nil | refine FLe.any ?_ | refine FLe.cons ?_ | refine FLe.eq (by rw [wrap_i64 (by omega)]; rfl) ?_)
    · conv => whnf
      exact trivial
  have hie : i = 19 := by
    simp only [iLe_eq, decide_eq_false_iff_not] at hlt
    omega
  subst hie
  have hbf := fun m => byt_setBmp hl2 (b := wantB (List.range 19)) (wantB_len _) m
  have hl3 := setBmp_len hl2 (b := wantB (List.range 19)) (wantB_len _)
  have hwb := withBitmap_spec d2 ⟨some ⟨b, 0, none⟩, 12288⟩ (by rw [hl2]; exact hho) hl2 (wantB (List.range 19)) k (by rw [wantB_len]; exact hk) (wantB_len _)
  rw [hl2, wantB_len] at hwb
  generalize setBmp d2 (wantB (List.range 19)) = d3 at *
  conv => whnf
  repeat (refine XSame.of ?_; conv => whnf)
  intro b0
  conv => whnf
  repeat (refine XSame.of ?_; conv => whnf)
  have hpl := putI_len hl3 (show 0 < 32 by decide) 2 128 (fun i => if i = 0 then 18 else 0)
  have hpb := byt_putI hl3 (show 0 < 32 by decide) 2 128 (fun i => if i = 0 then 18 else 0)
  have hpt := fun (q : Hd) (hq : q.Ok d3.length) => put37O_spec d3 q 0 2 128 (fun i => if i = 0 then 18 else 0) hq hl3 (by decide) (by decide) (by decide) (fun i => by split <;> omega)
  generalize putI d3 0 2 128 (fun i => if i = 0 then 18 else 0) = d4 at *
  have hF : FmtBytes d4 := by
    refine ⟨hpl, fun m h1 h2 => ?_, fun m h1 h2 => ?_, fun m h1 => ?_, fun m h1 h2 h3 h4 => ?_⟩
    · rw [hpb, if_pos (by omega)]
    · rw [hpb, if_neg (by omega), hbf, if_pos (by omega)]
    · rw [hpb, if_neg (by omega), hbf, if_neg (by omega), hb2, if_neg (by omega), hb1, if_pos (by simp; omega)]
      rfl
    · rw [hpb, if_neg (by omega), hbf, if_neg (by omega), hb2, if_neg (by omega), hb1, if_neg (by simp; omega), hz0]
  refine XStop.draw tabOk mixed rfl rfl ?_
  conv => whnf
  repeat' (first
    | (refine And.intro ?_ ?_ <;> conv => whnf)
    | (refine XHeld.same rfl ?_; conv => whnf)
    | (refine XHeld.row rfl ?_; conv => whnf)
    | (refine XHeld.call rfl ?_; conv => whnf)
    | (refine XKeep.of ?_; conv => whnf)
    | (refine XSame.of ?_; conv => whnf)
    | (refine XCall.pure hwb (fun w hw => hw) (fun v D hv => ?_); obtain ⟨k3, rfl, hk3, rfl⟩ := hv; conv => whnf)
    | (refine XCall.pure (hpt k3 hk3) (fun w hw => hw.2) (fun v D hv => ?_); obtain ⟨b4, c4, Z4, rfl, hc4, rfl⟩ := hv; conv => whnf)
    | (refine XHeld.mk ?_ ?_; (focus (first | exact Ent.refl _ | exact Ent.left _ _ | exact Ent.of_le ⟨List.sublist_append_left _ _, fun w h => h⟩ | exact Ent.of_le ⟨List.Sublist.refl _, fun w h => h.1⟩)); conv => whnf))
  all_goals exact ⟨⟨fun _ => True, [(b4, Row.c (d4.map byteV ++ Z4))]⟩, Ent.of_le ⟨by simp [Fx.and], fun w hw => trivial⟩, d4, hX.symm, hF, b4, c4, Z4, rfl, hc4, rfl⟩

end Go.Proofs.YtfeoedkmndkbjaaGreatDoor
namespace Go.Proofs.YtfeoedkmndkbjaaGreatDoor
open Go Go.Sx
set_option maxRecDepth 100000
set_option linter.unusedVariables false
set_option linter.unusedSimpArgs false

structure Fresh (d : List UInt8) : Prop where
  ok : chk38 d = 0
  k0 : rk d 0 = 2
  ks : ∀ m, 1 ≤ m → m < 32 → rk d m = 0
  es : (T0 d).E 0 = List.replicate 8 ([], 0)
  bit : ∃ x, freeB (bmp d) = some x

theorem fresh_of {d : List UInt8} (h : FmtBytes d) : Fresh d := by
  obtain ⟨hd, h1, h2, h3, h4⟩ := h
  have hk0 : rk d 0 = 2 := h1 1792 (by decide) (by decide)
  have hs0 : rs d 0 = 128 := by
    unfold rs
    rw [h1 _ (by decide) (by decide), h1 _ (by decide) (by decide)]
    rfl
  have hb0 : ∀ i, i < 12 → rb d 0 i = if i = 0 then 18 else 0 := fun i hi => by
    show byt d (1792 + 16 * 0 + (3 + i)) = _
    rw [h1 _ (by omega) (by omega), show 1792 + 16 * 0 + (3 + i) - 1792 = 3 + i by omega, byt_inoB _ _ _ hi]
    split <;> rfl
  have hp0 : rp d 0 = 0 := h1 1807 (by decide) (by decide)
  have hz : ∀ n, 1 ≤ n → n < 32 → ∀ r, r < 16 → byt d (1792 + 16 * n + r) = 0 := fun n hn1 hn r hr => h4 _ (by omega) (by omega) (by omega) (by omega)
  have hkz : ∀ n, 1 ≤ n → n < 32 → rk d n = 0 := fun n a b => hz n a b 0 (by decide)
  have hbz : ∀ n, 1 ≤ n → n < 32 → ∀ i, i < 12 → rb d n i = 0 := fun n a b i hi => hz n a b (3 + i) (by omega)
  have hpt0 : part d 0 12 = [18] := by
    have hfm : (List.range 12).map (rb d 0) = (List.range 12).map fun i => if i = 0 then 18 else 0 := List.map_congr_left fun i hi => hb0 i (List.mem_range.1 hi)
    unfold part
    rw [hfm]
    decide
  have hptz : ∀ n, 1 ≤ n → n < 32 → part d n 12 = [] := fun n a b => by
    rw [List.eq_nil_iff_forall_not_mem]
    intro y hy
    obtain ⟨h0, i, hi, rfl⟩ := mem_part.1 hy
    exact h0 (hbz n a b i hi)
  have hbmp : bmp d = wantB (List.range 19) := by
    refine byt_ext (by rw [bmp_len hd, wantB_len]) fun i hi => ?_
    rw [bmp_len hd] at hi
    unfold bmp
    rw [byt_cut (by omega) hi, h2 _ (by omega) (by omega)]
    congr 1
    omega
  have hOk : Ok37 d := by
    refine ok_of hd ?_ ?_ ?_ (fun n hn => ?_) (fun n hn => ?_) (fun n m hn hm hne x hx hy => ?_) (fun j hj => ?_)
    · refine byt_ext (by rw [cut_len (by omega)]; rfl) fun i hi => ?_
      rw [cut_len (by omega)] at hi
      rw [byt_cut (by omega) hi, h3 _ (by omega), Nat.zero_add]
    · rw [allZ_iff]
      intro i hi
      rw [cut_len (by omega)] at hi
      rw [byt_cut (by omega) hi]
      exact h4 _ (by omega) (by omega) (by omega) (by omega)
    · rw [allZ_iff]
      intro i hi
      rw [cut_len (by omega)] at hi
      rw [byt_cut (by omega) hi]
      exact h4 _ (by omega) (by omega) (by omega) (by omega)
    · unfold formB
      by_cases hn0 : n = 0
      · subst hn0
        have hnz : ¬ inoZ (rk d 0) (rs d 0) (rb d 0) = true := fun h => by
          have := (inoZ_iff.1 h).1
          omega
        rw [hp0, Bool.and_eq_true]
        refine ⟨by decide, ?_⟩
        rw [if_neg hnz, decide_eq_true_eq]
        refine ⟨.inr hk0, by rw [hs0]; decide, fun _ => hk0, fun i hi h => ?_, ?_, .inr ⟨hs0, by rw [hb0 0 (by decide)]; decide⟩⟩
        · rw [hb0 i hi] at h ⊢
          by_cases hi0 : i = 0
          · rw [if_pos hi0, hs0]
            omega
          · rw [if_neg hi0] at h
            exact absurd rfl h
        · unfold tailZ
          rw [hs0]
          rfl
      · have hrp : rp d n = 0 := hz n (by omega) hn 15 (by decide)
        have hrs : rs d n = 0 := by
          unfold rs
          rw [hz n (by omega) hn 1 (by decide), hz n (by omega) hn 2 (by decide)]
        have hiz : inoZ (rk d n) (rs d n) (rb d n) = true := inoZ_iff.2 ⟨hkz n (by omega) hn, hrs, hbz n (by omega) hn⟩
        rw [hrp, if_pos hiz, Bool.and_eq_true]
        exact ⟨by decide, by simpa using hn0⟩
    · by_cases hn0 : n = 0
      · rw [hn0, hpt0]; simp
      · rw [hptz n (by omega) hn]; simp
    · by_cases hn0 : n = 0
      · rw [hptz m (by omega) hm] at hy
        cases hy
      · rw [hptz n (by omega) hn] at hx
        cases hx
    · rw [hbmp, getB_want (fun i hi => by have := List.mem_range.1 hi; omega), decide_eq_true_iff, List.mem_range]
      constructor
      · intro h
        by_cases hj2 : j < 18
        · exact .inl hj2
        · exact .inr ⟨0, by decide, by rw [hpt0, show j = 18 by omega]; simp⟩
      · rintro (h | ⟨n, hn, h⟩)
        · omega
        · by_cases hn0 : n = 0
          · rw [hn0, hpt0] at h
            have : j = 18 := by simpa using h
            omega
          · rw [hptz n (by omega) hn] at h
            cases h
  have h0 := chk_ok hd hOk
  obtain ⟨c1, c2, c3, c4, c5, c6⟩ := dir_bytes h0 (show 0 < 32 by decide) hk0
  have hcz : ∀ i, i < 128 → byt (contentR d 0) i = 0 := fun i hi => by
    rw [c2 i hi, hb0 0 (by decide), if_pos rfl]
    exact h4 _ (by omega) (by omega) (by omega) (by omega)
  have hE0 : (T0 d).E 0 = List.replicate 8 ([], 0) := ens_zero c1 hcz
  have hdl : ∀ m ∈ (T0 d).dl, m = 0 := fun m hm => by
    obtain ⟨a, b⟩ := mem_dl.1 hm
    refine Classical.byContradiction fun hne => ?_
    rw [hkz m (by omega) a] at b
    cases b
  have hch : ∀ m ∈ (T0 d).dl, (T0 d).ch m = [] := fun m hm => by
    rw [(T0 d).ch_es hm, hdl m hm, hE0]
    rfl
  refine ⟨chk38_of h0 (fun m hm => ?_) ⟨fun m hm x hx => ?_, fun m hm => ?_, fun m hm m' hm' x hx hx' => ?_⟩ fun m hm hmk => ?_, hk0, fun m a b => hkz m a b, hE0, ?_⟩
  · rw [hdl m hm]
    exact entsOk_zero c1 hcz
  · rw [hch m hm] at hx
    cases hx
  · rw [hch m hm]
    exact List.nodup_nil
  · rw [hch m hm] at hx
    cases hx
  · by_cases hm0 : m = 0
    · rw [hm0]; exact .root
    · exact absurd (hkz m (by omega) hm) hmk
  · cases hx : freeB (bmp d) with
    | some x => exact ⟨x, rfl⟩
    | none =>
      exfalso
      unfold freeB at hx
      rw [List.find?_eq_none] at hx
      have := hx 19 (by rw [List.mem_range'_1]; omega)
      rw [hbmp, getB_want (fun i hi => by have := List.mem_range.1 hi; omega)] at this
      simp at this

theorem make_fwd {d p : List UInt8} {kind : Int} {names : List (List UInt8)} {at0 k : Nat} (h38 : chk38 d = 0) (hs : splitR p = (names, 0)) (hk : kind = 1 ∨ kind = 2) (hn : names ≠ []) (hf : followR d names.dropLast 0 = (at0, 0))
    (hdl : at0 ∈ (T0 d).dl) (hnew : fidx ((T0 d).E at0) (names.getLastD []) = none) (hfe : fidx ((T0 d).E at0) [] = some k) (ha : (allocR d kind.toNat).2.2 = 0) : (makeR d p kind).2.2 = 0 := by
  unfold makeR
  rw [if_neg (show ¬ chk38 d ≠ 0 by rw [h38]; simp), hs]
  dsimp only
  rw [if_neg (by decide), if_neg (by omega), if_neg hn, hf]
  dsimp only
  rw [if_neg (by decide), dirR_dir h38 hdl]
  dsimp only
  rw [if_neg (by decide), if_neg (by rw [hnew]; simp), hfe]
  dsimp only
  rw [if_neg (by rw [ha]; simp)]

theorem made_at {d p : List UInt8} {kind : Int} {names : List (List UInt8)} {at0 k n : Nat} (h38 : chk38 d = 0) (hs : splitR p = (names, 0)) (hk : kind = 1 ∨ kind = 2) (hn : names ≠ []) (hf : followR d names.dropLast 0 = (at0, 0))
    (hdl : at0 ∈ (T0 d).dl) (hnew : fidx ((T0 d).E at0) (names.getLastD []) = none) (hfe : fidx ((T0 d).E at0) [] = some k) (hfr : freeI d = some n) (hb : kind = 2 → ∃ x, freeB (bmp d) = some x) :
    makeR d p kind = (n, (makeR d p kind).2.1, 0) ∧ Made d (makeR d p kind).2.1 at0 k n kind.toNat (names.getLastD []) := by
  have ha : (allocR d kind.toNat).2.2 = 0 := by
    obtain ⟨h0, -, -⟩ := tree_facts h38
    unfold allocR
    rw [if_neg (show ¬ chk d ≠ 0 by rw [h0]; simp), hfr]
    dsimp only
    by_cases h2 : kind.toNat = 2
    · obtain ⟨x, hx⟩ := hb (by omega)
      rw [if_pos h2, hx]
    · rw [if_neg h2]
  have h := make_fwd h38 hs hk hn hf hdl hnew hfe ha
  obtain ⟨-, -, names', at', k', a1, a2, a3, a4, a5, a6⟩ := make_made h
  rw [hs] at a1
  cases a1
  rw [hf] at a3
  cases a3
  rw [hfe] at a4
  cases a4
  rw [hfr] at a5
  have a5 : n = (makeR d p kind).1 := Option.some.inj a5
  rw [← a5] at a6
  exact ⟨Prod.ext a5.symm (Prod.ext rfl h), a6⟩

end Go.Proofs.YtfeoedkmndkbjaaGreatDoor
namespace Go.Sx
open Go
set_option linter.unusedVariables false
section
variable {P : Program} {tab : Tab} {w0 : World} {R : Nat → Nat → Prop} {av : Nat → Prop} {bs : List (Nat × Nat)} {cs : List (List Value)} {F : Fx}
theorem XRead.strLt {t : TypeId} {x y : Operand} {l m : List UInt8} {K : Value → Prop} (h : K (.bool (Op.bytesLess l m))) :
    XRead P w0 R av (do eqGuard .lss t x y (strV l) (strV m); binOp .lss t (strV l) (strV m)) bs cs F K := by
  refine (XRead_iff _ _ _ _).2 ⟨_, fun w _ => ?_, h⟩
  unfold strV
  rw [run_bind_ok (eqGuard_str _ _ _ _ _ _ w)]
  simp only [binOp, Op.stringOp, toList_mk]
  rfl
end
end Go.Sx

namespace Go.Proofs.YtfeoedkmndkbjaaGreatDoor
open Go Go.Sx
set_option maxRecDepth 100000
set_option maxHeartbeats 4000000
set_option linter.unusedVariables false
set_option linter.unusedSimpArgs false

theorem bytesLess_lt : ∀ x y : List UInt8, Op.bytesLess x y = decide (x < y)
  | _, [] => by simp [Op.bytesLess]
  | [], _ :: _ => by simp [Op.bytesLess]
  | a :: x, b :: y => by
    rw [Op.bytesLess, bytesLess_lt x y]
    simp only [List.cons_lt_cons_iff]
    by_cases h1 : a < b <;> by_cases h2 : a = b <;> by_cases h3 : x < y <;> simp [h1, h2, h3]

def insI (l : List (List UInt8)) (s : List UInt8) : Nat := (l.takeWhile fun x => decide (x < s)).length
def insR (l : List (List UInt8)) (s : List UInt8) : List (List UInt8) := l.take (insI l s) ++ [s] ++ l.drop (insI l s)

theorem insI_le (l : List (List UInt8)) (s : List UInt8) : insI l s ≤ l.length := by
  unfold insI
  exact (List.takeWhile_prefix _).length_le

theorem insI_of {l : List (List UInt8)} {s : List UInt8} : ∀ {i : Nat}, i ≤ l.length → (∀ j (hj : j < l.length), j < i → l[j] < s) → (∀ h : i < l.length, ¬ l[i] < s) → insI l s = i := by
  induction l with
  | nil =>
    intro i hi _ _
    have : i = 0 := by simpa using hi
    rw [this]
    rfl
  | cons x l ih =>
    intro i hi h1 h2
    cases i with
    | zero =>
      have := h2 (by simp)
      unfold insI
      rw [List.takeWhile_cons_of_neg (by simpa using this)]
      rfl
    | succ i =>
      have h0 := h1 0 (by simp) (by omega)
      have := ih (i := i) (by simpa using hi) (fun j hj hji => h1 (j + 1) (by simpa using hj) (by omega)) (fun h => h2 (by simpa using h))
      unfold insI at this ⊢
      rw [List.takeWhile_cons_of_pos (by simpa using h0), List.length_cons, this]

theorem insR_len (l : List (List UInt8)) (s : List UInt8) : (insR l s).length = l.length + 1 := by
  have := insI_le l s
  unfold insR
  simp
  omega

/-- A row of strings of the caller's own. -/
def RelOut (l : List (List UInt8)) (v : Value) (F : Fx) : Prop := ∃ b cap C, v = .slice (some ⟨b, 0, none⟩) l.length cap ∧ Go.Sx.Own 1 l.length (some ⟨b, 0, none⟩) cap C (l.map strV) ∧ F = ⟨fun _ => True, [(b, Row.c C)]⟩

theorem insO_spec (l : List (List UInt8)) (h : Hd) (hh : h.Ok l.length) (hl : l.length ≤ 1000) (s : List UInt8) :
    PureSpec Tryz.prog 83 [h.v l.length, strV s] (fun w => StrAt w h l) (RelOut (insR l s)) := by
  have hc := hh.cap
  have hil := insI_le l s
  have hof := fun {i : Nat} => insI_of (l := l) (s := s) (i := i)
  refine PureSpec.of_xc tabOk Tryz.func83 rfl (by decide) (n := Tryz.f83.ntmps - 2) rfl rfl fun w0 av => ?_
  conv => whnf
  refine XStop.loop tabOk (ι := Nat) ([5] ++ List.range' 6 14) (fun x => x ≤ l.length ∧ ∀ j (hj : j < l.length), j < x → l[j] < s)
    (fun x => [(5, .v (.int .i64 (x : Int)))]) (fun _ => []) (fun _ => ⟨fun w => StrAt w h l, []⟩)
    (fun x => l.length - x) 0 ⟨Nat.zero_le _, fun j _ hj => by omega⟩ ?_ rfl (Ent.refl _) fun i hi => ?_
  · conv => whnf
    repeat (first | exact FLe.nil | refine FLe.any ?_ | refine FLe.cons ?_)
  obtain ⟨hi, hall⟩ := hi
  conv => whnf
  have hone : ∀ v ∈ (l.take i).map strV, oneCell v = true := fun v hv => by
    obtain ⟨x, _, rfl⟩ := List.mem_map.1 hv
    rfl
  have hone2 : ∀ v ∈ (l.drop i).map strV, oneCell v = true := fun v hv => by
    obtain ⟨x, _, rfl⟩ := List.mem_map.1 hv
    rfl
  have htake : ∀ w, StrAt w h l → RowAt w h.a ((l.take i).map strV) := fun w hw => by
    rw [List.map_take]
    exact RowAt.take hw i
  have hdrop : ∀ w, StrAt w h l → RowAt w (Hd.sub h i).a ((l.drop i).map strV) := fun w hw => by
    have := RowAt.cut (l := i) (hi := l.length) (m := h.c) (size := 1) hw ⟨by omega, by omega⟩
    rw [Nat.mul_one, Nat.mul_one, List.take_of_length_le (by simp)] at this
    rw [List.map_drop]
    exact this
  have hend : insI l s = i → ∀ (a : Option Addr) (c : Nat) (C : List Value) (n : Nat), Go.Sx.Own 1 n a c C (([] ++ (l.take i).map strV ++ [strV s]) ++ (l.drop i).map strV) → ∀ r1 r2 : List (Nat × Row), n = l.length + 1 → ∃ F', Ent ⟨fun w => StrAt w h l, r1 ++ orow a C ++ r2⟩ F' ∧ RelOut (insR l s) (.slice a n c) F' := fun hk a c C n hO r1 r2 hn => by
    have hL : ([] ++ (l.take i).map strV ++ [strV s]) ++ (l.drop i).map strV = (insR l s).map strV := by
      unfold insR
      rw [hk]
      simp
    rw [hL] at hO
    have hil := insR_len l s
    obtain ⟨b, rfl⟩ := own_some hO (by omega)
    refine ⟨⟨fun w => True, [(b, Row.c C)]⟩, Ent.of_le ⟨?_, fun w hw => trivial⟩, b, c, C, by rw [hil, hn], by rw [hil, ← hn]; exact hO, rfl⟩
    show [(b, Row.c C)].Sublist (r1 ++ [(b, Row.c C)] ++ r2)
    rw [List.append_assoc]
    exact (List.sublist_append_left _ _).trans (List.sublist_append_right _ _)
  generalize hlt : iLt (i : Int) (l.length : Int) = c
  cases c
  · have hie : i = l.length := by
      simp only [iLt_eq, decide_eq_false_iff_not] at hlt
      omega
    have hk := hof hi hall fun h => by omega
    conv => whnf
    repeat (refine XSame.of ?_; conv => whnf)
    refine XStop.draw tabOk mixed rfl rfl ?_
    conv => whnf
    refine XRead.subTo tabOk (t := 51) rfl rfl rfl (h := h) i rfl (by omega) ?_
    conv => whnf
    refine XRead.subFrom tabOk (t := 51) rfl rfl rfl rfl (h := h) i rfl (by omega) (by omega) ?_
    conv => whnf
    refine And.intro ?_ ?_ <;> conv => whnf
    · refine XVal.build tabOk (t := 51) rfl rfl rfl [] rfl rfl (by simp) (by decide) fun b0 => ?_
      conv => whnf
      refine And.intro ?_ ?_ <;> conv => whnf
      · refine XVal.ent (F' := ⟨fun w => StrAt w h l, [] ++ orow (some ⟨b0, 0, none⟩) [] ++ []⟩) (Ent.of_le ⟨by simp [orow], fun w hw => hw⟩) ?_
        refine XVal.append tabOk (t := 51) (xt := 51) rfl rfl rfl rfl rfl rfl (r1 := []) (r2 := []) (M := (l.take i).map strV) (L := []) (n := 0) (Go.Sx.Own.full rfl) (.fact fun w hw => htake w hw) (by simp; omega) hone (by omega) (by simp; omega) fun a1 c1 C1 hO1 => ?_
        conv => whnf
        refine XVal.build tabOk (t := 51) rfl rfl rfl [strV s] rfl rfl (by simp [Value.cells, strV]) (by decide) fun b1 => ?_
        conv => whnf
        refine XVal.ent (F' := ⟨fun w => StrAt w h l, [] ++ orow a1 C1 ++ [(b1, Row.c [strV s])]⟩) (Ent.of_le ⟨by simp [Value.cells, strV], fun w hw => hw⟩) ?_
        refine XVal.append tabOk (t := 51) (xt := 51) rfl rfl rfl rfl rfl rfl (r1 := []) (r2 := [(b1, Row.c [strV s])]) (M := [strV s]) hO1 (Sees.row (by simp)) rfl (by simp [strV, oneCell]) (by omega) (by simp; omega) fun a2 c2 C2 hO2 => ?_
        conv => whnf
        refine XVal.append tabOk (t := 51) (xt := 51) rfl rfl rfl rfl rfl rfl (r1 := []) (r2 := [(b1, Row.c [strV s])]) (M := (l.drop i).map strV) hO2 (.fact fun w hw => hdrop w hw) (by simp; try omega) hone2 (by omega) (by simp; omega) fun a3 c3 C3 hO3 => ?_
        conv => whnf
        exact hend hk a3 c3 C3 _ hO3 _ _ (by omega)
      · refine XVal.build tabOk (t := 51) rfl rfl rfl [strV s] rfl rfl (by simp [Value.cells, strV]) (by decide) fun b1 => ?_
        conv => whnf
        refine XVal.ent (F' := ⟨fun w => StrAt w h l, [] ++ orow (some ⟨b0, 0, none⟩) [] ++ [(b1, Row.c [strV s])]⟩) (Ent.of_le ⟨by simp [orow, Value.cells, strV], fun w hw => hw⟩) ?_
        refine XVal.append tabOk (t := 51) (xt := 51) rfl rfl rfl rfl rfl rfl (r1 := []) (r2 := [(b1, Row.c [strV s])]) (M := (l.take i).map strV) (L := []) (n := 0) (Go.Sx.Own.full rfl) (.fact fun w hw => htake w hw) (by simp; omega) hone (by omega) (by simp; omega) fun a1 c1 C1 hO1 => ?_
        conv => whnf
        refine XVal.append tabOk (t := 51) (xt := 51) rfl rfl rfl rfl rfl rfl (r1 := []) (r2 := [(b1, Row.c [strV s])]) (M := [strV s]) hO1 (Sees.row (by simp)) rfl (by simp [strV, oneCell]) (by omega) (by simp; omega) fun a2 c2 C2 hO2 => ?_
        conv => whnf
        refine XVal.append tabOk (t := 51) (xt := 51) rfl rfl rfl rfl rfl rfl (r1 := []) (r2 := [(b1, Row.c [strV s])]) (M := (l.drop i).map strV) hO2 (.fact fun w hw => hdrop w hw) (by simp; try omega) hone2 (by omega) (by simp; omega) fun a3 c3 C3 hO3 => ?_
        conv => whnf
        exact hend hk a3 c3 C3 _ hO3 _ _ (by omega)
    · refine XVal.build tabOk (t := 51) rfl rfl rfl [strV s] rfl rfl (by simp [Value.cells, strV]) (by decide) fun b1 => ?_
      conv => whnf
      refine XVal.build tabOk (t := 51) rfl rfl rfl [] rfl rfl (by simp) (by decide) fun b0 => ?_
      conv => whnf
      refine XVal.ent (F' := ⟨fun w => StrAt w h l, [(b1, Row.c [strV s])] ++ orow (some ⟨b0, 0, none⟩) [] ++ []⟩) (Ent.of_le ⟨by simp [orow, Value.cells, strV], fun w hw => hw⟩) ?_
      refine XVal.append tabOk (t := 51) (xt := 51) rfl rfl rfl rfl rfl rfl (r1 := [(b1, Row.c [strV s])]) (r2 := []) (M := (l.take i).map strV) (L := []) (n := 0) (Go.Sx.Own.full rfl) (.fact fun w hw => htake w hw) (by simp; omega) hone (by omega) (by simp; omega) fun a1 c1 C1 hO1 => ?_
      conv => whnf
      refine XVal.append tabOk (t := 51) (xt := 51) rfl rfl rfl rfl rfl rfl (r1 := [(b1, Row.c [strV s])]) (r2 := []) (M := [strV s]) hO1 (Sees.row (by simp)) rfl (by simp [strV, oneCell]) (by omega) (by simp; omega) fun a2 c2 C2 hO2 => ?_
      conv => whnf
      refine XVal.append tabOk (t := 51) (xt := 51) rfl rfl rfl rfl rfl rfl (r1 := [(b1, Row.c [strV s])]) (r2 := []) (M := (l.drop i).map strV) hO2 (.fact fun w hw => hdrop w hw) (by simp; try omega) hone2 (by omega) (by simp; omega) fun a3 c3 C3 hO3 => ?_
      conv => whnf
      exact hend hk a3 c3 C3 _ hO3 _ _ (by omega)
  · have hlt' : i < l.length := by
      simp only [iLt_eq, decide_eq_true_eq] at hlt
      omega
    conv => whnf
    repeat (refine XSame.of ?_; conv => whnf)
    refine XVal.of_read (XRead.index tabOk (t := 51) rfl rfl rfl (by omega) (by omega) hh.nil fun ad had => ?_)
    conv => whnf
    repeat (refine XSame.of ?_; conv => whnf)
    refine XVal.of_read (XRead.load tabOk (t := 9) rfl rfl (ad := ad) (k := i) (L := l.map strV) (v := strV l[i]) (.fact fun w hw => had ▸ hw) (by simp) (by simp [hlt']) ?_)
    conv => whnf
    repeat (refine XSame.of ?_; conv => whnf)
    refine XVal.of_read (XRead.strLt (l := l[i]) (m := s) ?_)
    rw [bytesLess_lt]
    conv => whnf
    repeat (refine XSame.of ?_; conv => whnf)
    refine XIf.split (fun hq => ?_) (fun hq => ?_)
    · have hq' : l[i] < s := by simpa using hq
      conv => whnf
      repeat (refine XSame.of ?_; conv => whnf)
      refine ⟨i + 1, ⟨⟨hlt', fun j hj hji => ?_⟩, by dsimp only; omega⟩, ?_, ?_, Ent.refl _⟩
      · rcases Nat.lt_or_eq_of_le (Nat.lt_succ_iff.1 hji) with h5 | h5
        · exact hall j hj h5
        · subst h5; exact hq'
      · conv => whnf
        refine ⟨?_, rfl⟩
        repeat (first | exact FLe.nil | refine FLe.any ?_ | refine FLe.cons ?_ | refine FLe.eq (by rw [wrap_i64 (by omega)]; rfl) ?_)
      · conv => whnf
        exact trivial
    · have hq' : ¬ l[i] < s := by simpa using hq
      have hk := hof hi hall fun _ => hq'
      conv => whnf
      repeat (refine XSame.of ?_; conv => whnf)
      refine XStop.draw tabOk mixed rfl rfl ?_
      conv => whnf
      refine XRead.subTo tabOk (t := 51) rfl rfl rfl (h := h) i rfl (by omega) ?_
      conv => whnf
      refine XRead.subFrom tabOk (t := 51) rfl rfl rfl rfl (h := h) i rfl (by omega) (by omega) ?_
      conv => whnf
      refine And.intro ?_ ?_ <;> conv => whnf
      · refine XVal.build tabOk (t := 51) rfl rfl rfl [] rfl rfl (by simp) (by decide) fun b0 => ?_
        conv => whnf
        refine And.intro ?_ ?_ <;> conv => whnf
        · refine XVal.ent (F' := ⟨fun w => StrAt w h l, [] ++ orow (some ⟨b0, 0, none⟩) [] ++ []⟩) (Ent.of_le ⟨by simp [orow], fun w hw => hw⟩) ?_
          refine XVal.append tabOk (t := 51) (xt := 51) rfl rfl rfl rfl rfl rfl (r1 := []) (r2 := []) (M := (l.take i).map strV) (L := []) (n := 0) (Go.Sx.Own.full rfl) (.fact fun w hw => htake w hw) (by simp; omega) hone (by omega) (by simp; omega) fun a1 c1 C1 hO1 => ?_
          conv => whnf
          refine XVal.build tabOk (t := 51) rfl rfl rfl [strV s] rfl rfl (by simp [Value.cells, strV]) (by decide) fun b1 => ?_
          conv => whnf
          refine XVal.ent (F' := ⟨fun w => StrAt w h l, [] ++ orow a1 C1 ++ [(b1, Row.c [strV s])]⟩) (Ent.of_le ⟨by simp [Value.cells, strV], fun w hw => hw⟩) ?_
          refine XVal.append tabOk (t := 51) (xt := 51) rfl rfl rfl rfl rfl rfl (r1 := []) (r2 := [(b1, Row.c [strV s])]) (M := [strV s]) hO1 (Sees.row (by simp)) rfl (by simp [strV, oneCell]) (by omega) (by simp; omega) fun a2 c2 C2 hO2 => ?_
          conv => whnf
          refine XVal.append tabOk (t := 51) (xt := 51) rfl rfl rfl rfl rfl rfl (r1 := []) (r2 := [(b1, Row.c [strV s])]) (M := (l.drop i).map strV) hO2 (.fact fun w hw => hdrop w hw) (by simp; try omega) hone2 (by omega) (by simp; omega) fun a3 c3 C3 hO3 => ?_
          conv => whnf
          exact hend hk a3 c3 C3 _ hO3 _ _ (by omega)
        · refine XVal.build tabOk (t := 51) rfl rfl rfl [strV s] rfl rfl (by simp [Value.cells, strV]) (by decide) fun b1 => ?_
          conv => whnf
          refine XVal.ent (F' := ⟨fun w => StrAt w h l, [] ++ orow (some ⟨b0, 0, none⟩) [] ++ [(b1, Row.c [strV s])]⟩) (Ent.of_le ⟨by simp [orow, Value.cells, strV], fun w hw => hw⟩) ?_
          refine XVal.append tabOk (t := 51) (xt := 51) rfl rfl rfl rfl rfl rfl (r1 := []) (r2 := [(b1, Row.c [strV s])]) (M := (l.take i).map strV) (L := []) (n := 0) (Go.Sx.Own.full rfl) (.fact fun w hw => htake w hw) (by simp; omega) hone (by omega) (by simp; omega) fun a1 c1 C1 hO1 => ?_
          conv => whnf
          refine XVal.append tabOk (t := 51) (xt := 51) rfl rfl rfl rfl rfl rfl (r1 := []) (r2 := [(b1, Row.c [strV s])]) (M := [strV s]) hO1 (Sees.row (by simp)) rfl (by simp [strV, oneCell]) (by omega) (by simp; omega) fun a2 c2 C2 hO2 => ?_
          conv => whnf
          refine XVal.append tabOk (t := 51) (xt := 51) rfl rfl rfl rfl rfl rfl (r1 := []) (r2 := [(b1, Row.c [strV s])]) (M := (l.drop i).map strV) hO2 (.fact fun w hw => hdrop w hw) (by simp; try omega) hone2 (by omega) (by simp; omega) fun a3 c3 C3 hO3 => ?_
          conv => whnf
          exact hend hk a3 c3 C3 _ hO3 _ _ (by omega)
      · refine XVal.build tabOk (t := 51) rfl rfl rfl [strV s] rfl rfl (by simp [Value.cells, strV]) (by decide) fun b1 => ?_
        conv => whnf
        refine XVal.build tabOk (t := 51) rfl rfl rfl [] rfl rfl (by simp) (by decide) fun b0 => ?_
        conv => whnf
        refine XVal.ent (F' := ⟨fun w => StrAt w h l, [(b1, Row.c [strV s])] ++ orow (some ⟨b0, 0, none⟩) [] ++ []⟩) (Ent.of_le ⟨by simp [orow, Value.cells, strV], fun w hw => hw⟩) ?_
        refine XVal.append tabOk (t := 51) (xt := 51) rfl rfl rfl rfl rfl rfl (r1 := [(b1, Row.c [strV s])]) (r2 := []) (M := (l.take i).map strV) (L := []) (n := 0) (Go.Sx.Own.full rfl) (.fact fun w hw => htake w hw) (by simp; omega) hone (by omega) (by simp; omega) fun a1 c1 C1 hO1 => ?_
        conv => whnf
        refine XVal.append tabOk (t := 51) (xt := 51) rfl rfl rfl rfl rfl rfl (r1 := [(b1, Row.c [strV s])]) (r2 := []) (M := [strV s]) hO1 (Sees.row (by simp)) rfl (by simp [strV, oneCell]) (by omega) (by simp; omega) fun a2 c2 C2 hO2 => ?_
        conv => whnf
        refine XVal.append tabOk (t := 51) (xt := 51) rfl rfl rfl rfl rfl rfl (r1 := [(b1, Row.c [strV s])]) (r2 := []) (M := (l.drop i).map strV) hO2 (.fact fun w hw => hdrop w hw) (by simp; try omega) hone2 (by omega) (by simp; omega) fun a3 c3 C3 hO3 => ?_
        conv => whnf
        exact hend hk a3 c3 C3 _ hO3 _ _ (by omega)

end Go.Proofs.YtfeoedkmndkbjaaGreatDoor
namespace Go.Proofs.YtfeoedkmndkbjaaGreatDoor
open Go Go.Sx
set_option maxRecDepth 100000
set_option maxHeartbeats 4000000
set_option linter.unusedVariables false
set_option linter.unusedSimpArgs false

theorem mem_ch {T : Tree} {n c : Nat} {s : List UInt8} (h : (s, c) ∈ T.es n) (hs : s ≠ []) : c ∈ T.ch n :=
  List.mem_map.2 ⟨(s, c), List.mem_filter.2 ⟨h, by simpa using hs⟩, rfl⟩

theorem uniqT {d : List UInt8} (h38 : chk38 d = 0) : Uniq (T0 d).ch := (tree_facts h38).2.1.fine.uniq

/-- Names of entries differ, and are names. -/
structure Nm (es : Nat → List En) : Prop where
  one : ∀ n s c c', (s, c) ∈ es n → (s, c') ∈ es n → s ≠ [] → c = c'
  val : ∀ n s c, (s, c) ∈ es n → s ≠ [] → vname s = true

theorem T0_nm {d : List UInt8} (h : chk38 d = 0) : Nm (T0 d).es := by
  obtain ⟨h0, hG, hE⟩ := tree_facts h
  have key : ∀ n s c, (s, c) ∈ (T0 d).es n → n ∈ (T0 d).dl ∧ ∃ i, i < 8 ∧ enR (contentR d n) i = (s, c) := fun n s c hm => by
    unfold Tree.es at hm
    split at hm
    · rename_i hn
      obtain ⟨i, hi, he⟩ := List.mem_map.1 hm
      exact ⟨hn, i, List.mem_range.1 hi, he⟩
    · cases hm
  refine ⟨fun n s c c' h1 h2 hs => ?_, fun n s c h1 hs => ?_⟩
  · obtain ⟨hn, i, hi, he⟩ := key n s c h1
    obtain ⟨_, j, hj, he'⟩ := key n s c' h2
    have hok := entsOk_iff.1 (hE n hn)
    have ha := (hok i hi).only
    have hb := (hok j hj).only
    rw [he] at ha
    rw [he'] at hb
    rcases Nat.lt_trichotomy i j with h5 | h5 | h5
    · have := hb.resolve_left hs i h5
      rw [he] at this
      exact absurd rfl this
    · subst h5
      have := he.symm.trans he'
      exact (Prod.mk.inj this).2
    · have := ha.resolve_left hs j h5
      rw [he'] at this
      exact absurd rfl this
  · obtain ⟨hn, i, hi, he⟩ := key n s c h1
    have := (entsOk_iff.1 (hE n hn) i hi).name
    rw [he] at this
    rcases this with h5 | h5
    · exact absurd (Prod.mk.inj h5).1 hs
    · exact h5.1

theorem V_nodes (T : Tree) : ∀ (f n : Nat) (p : List UInt8), (T.V f n p).map (·.2) = preo T.ch f n
  | 0, _, _ => rfl
  | f + 1, n, p => by
    unfold Tree.V preo
    rw [List.map_cons]
    congr 1
    unfold Tree.ch
    induction T.es n with
    | nil => rfl
    | cons e l ih =>
      rw [List.flatMap_cons, List.map_append, ih, nodes_cons]
      by_cases h : e.1 = []
      · rw [if_pos h, if_pos h]
        rfl
      · rw [if_neg h, if_neg h, List.flatMap_cons, V_nodes T f]
        rfl

theorem V_len {T : Tree} (hG : T.Good) : (T.V 33 0 []).length ≤ 32 := by
  have hu := hG.fine.uniq
  have h1 : (preo T.ch 33 0).Nodup := pre_nodup hu 33 .root
  have h2 : (T.V 33 0 []).length = (preo T.ch 33 0).length := by rw [← V_nodes T 33 0 [], List.length_map]
  rw [h2]
  refine nodup_small 32 _ h1 fun x hx => ?_
  rcases pre_up 33 hx with h | ⟨y, _, h⟩
  · omega
  · exact hu.lt _ _ h

def RelPaths (e : Nat) (l : List (List UInt8)) (v : Value) (F : Fx) : Prop :=
  if e = 0 then ∃ b cap C, Go.Sx.Own 1 l.length (some ⟨b, 0, none⟩) cap C (l.map strV) ∧ v = .tuple #[.slice (some ⟨b, 0, none⟩) l.length cap, .int .i64 0] ∧ F = ⟨fun _ => True, [(b, Row.c C)]⟩
  else v = .tuple #[.slice none 0 0, .int .i64 (e : Int)] ∧ F = ⟨fun _ => True, []⟩

def addQ (l : List (List UInt8)) (x : List UInt8 × Nat) : List (List UInt8) := if x.1.length ≤ 60 then insR l x.1 else l

theorem addQ_len (l : List (List UInt8)) (x : List UInt8 × Nat) : (addQ l x).length ≤ l.length + 1 := by
  unfold addQ
  split
  · rw [insR_len]; omega
  · omega

theorem foldQ_len : ∀ (V : List (List UInt8 × Nat)) (l : List (List UInt8)), (V.foldl addQ l).length ≤ l.length + V.length
  | [], l => by simp
  | x :: V, l => by
    rw [List.foldl_cons]
    have h1 := foldQ_len V (addQ l x)
    have h2 := addQ_len l x
    simp
    omega

/-- What stands below one entry. -/
noncomputable def belE (d : List UInt8) (f : Nat) (p : List UInt8) (e : En) : List (List UInt8 × Nat) := if e.1 = [] then [] else (T0 d).V f e.2 (p ++ [47] ++ e.1)

noncomputable def belV (d : List UInt8) (f n : Nat) (p : List UInt8) : List (List UInt8 × Nat) := ((T0 d).es n).flatMap (belE d f p)

theorem V_succ (d : List UInt8) (f n : Nat) (p : List UInt8) : (T0 d).V (f + 1) n p = (p, n) :: belV d f n p := rfl

noncomputable def pathsR (d : List UInt8) : List (List UInt8) := if chk38 d ≠ 0 then [] else (belV d 32 0 []).foldl addQ [[47]]
theorem below_spec (d : List UInt8) (h : Hd) (hh : h.Ok d.length) (hl : d.length ≤ 1000000) (h38 : chk38 d = 0) : ∀ (f n : Nat) (p : List UInt8) (out : List (List UInt8)) (b cap : Nat) (C : List Value),
    Low (T0 d).ch (f + 1) n → n ∈ (T0 d).dl → p.length + 15 * f ≤ 900 → out.length + (belV d f n p).length ≤ 900 → Go.Sx.Own 1 out.length (some ⟨b, 0, none⟩) cap C (out.map strV) →
    RowsSpec Tryz.prog 37 [h.v d.length, .int .i64 (n : Int), strV p, .slice (some ⟨b, 0, none⟩) out.length cap] [(b, Row.c C)] (fun w => By w h d) (RelOut ((belV d f n p).foldl addQ out)) := by
  intro f
  induction f using Nat.strongRecOn with
  | ind f ih =>
  intro n p out b cap C hlow hn hp hlen hO
  obtain ⟨h0, hG, hE⟩ := tree_facts h38
  have hdr := dirR_dir h38 hn
  have hes : (T0 d).es n = (T0 d).E n := if_pos hn
  obtain ⟨R, hR⟩ : ∃ R, R = (belV d f n p).foldl addQ out := ⟨_, rfl⟩
  rw [← hR]
  have hbv : belV d f n p = ((T0 d).E n).flatMap (belE d f p) := by unfold belV; rw [hes]
  have hnode : ∀ (e : En), e ∈ (T0 d).E n → e.1 ≠ [] → e.1.length ≤ 14 ∧ ∃ f', f = f' + 1 ∧ Low (T0 d).ch (f' + 1) e.2 ∧ e.2 < 32 ∧ gete d (e.2 : Nat) = 0 ∧ (rk d e.2 = 2 → e.2 ∈ (T0 d).dl) ∧
      (rk d e.2 ≠ 2 → ∀ q, belV d f' e.2 q = []) := by
    intro e he hne
    have hm : e.2 ∈ (T0 d).ch n := mem_ch (T := T0 d) (s := e.1) (by rw [hes]; exact he) hne
    obtain ⟨g1, g2, g3⟩ := hG.fine.ok n hn e.2 hm
    have hll := hlow e.2 hm
    have hv := (T0_nm h38).val n e.1 e.2 (by rw [hes]; exact he) hne
    refine ⟨(vname_len hv).2, ?_⟩
    cases f with
    | zero => exact absurd hll (by unfold Low; exact id)
    | succ f' =>
      refine ⟨f', rfl, hll, g2, ?_, fun h => mem_dl.2 ⟨g2, h⟩, fun h q => ?_⟩
      · unfold gete
        rw [h0, if_neg (by simp), if_neg (by omega), if_neg (by rw [Int.toNat_natCast]; exact g3)]
      · unfold belV
        rw [show (T0 d).es e.2 = [] from if_neg fun h2 => h (mem_dl.1 h2).2]
        rfl
  have hds := dir_spec d h hh hl n
  have hsml := dirR_small d n
  rw [hdr] at hds hsml
  rw [hbv] at hR hlen
  clear hbv hes hdr hE hlow
  generalize (T0 d).E n = E at *
  dsimp only at hds hsml
  refine RowsSpec.of_xc tabOk Tryz.func37 rfl (by decide) (n := Tryz.f37.ntmps - 4) rfl rfl (by simp) fun w0 av => ?_
  conv => whnf
  refine XCall.pure hds (fun w hw => hw) (fun v D hv => ?_)
  obtain ⟨ko, rfl, hko, rfl⟩ := hv
  conv => whnf
  refine XStop.loop tabOk (ι := Nat × List (List UInt8) × Nat × Nat × List Value) ([3, 11, 12, 13, 14] ++ List.range' 21 48) (fun x => x.1 ≤ E.length ∧ R = ((E.drop x.1).flatMap (belE d f p)).foldl addQ x.2.1 ∧
      x.2.1.length + ((E.drop x.1).flatMap (belE d f p)).length ≤ 900 ∧ Go.Sx.Own 1 x.2.1.length (some ⟨x.2.2.1, 0, none⟩) x.2.2.2.1 x.2.2.2.2 (x.2.1.map strV))
    (fun x => [(3, .v (.slice (some ⟨x.2.2.1, 0, none⟩) x.2.1.length x.2.2.2.1)), (11, .v (.int .i64 (x.1 : Int)))]) (fun _ => []) (fun x => ⟨fun w => By w h d ∧ RowAt w ko.a (enCs E), [(x.2.2.1, Row.c x.2.2.2.2)]⟩)
    (fun x => E.length - x.1) (0, out, b, cap, C) ⟨Nat.zero_le _, hR, hlen, hO⟩ ?_ rfl (Ent.of_le ⟨by simp [Fx.and], fun w hw => hw⟩) fun x hx => ?_
  · conv => whnf
    repeat (first | exact FLe.nil | refine FLe.any ?_ | refine FLe.cons ?_)
  clear hR hlen hO
  obtain ⟨i, o, b, cap, C⟩ := x
  obtain ⟨hi, hR, hlen, hO⟩ := hx
  dsimp only at hi hR hlen hO ⊢
  conv => whnf
  refine XIf.split (fun hlt => ?_) (fun hlt => ?_)
  · have hlt' : i < E.length := by
      simp only [iLt_eq, decide_eq_true_eq] at hlt
      omega
    rw [List.drop_eq_getElem_cons hlt', List.flatMap_cons] at hR hlen
    rw [List.foldl_append] at hR
    rw [List.length_append] at hlen
    have hnd := hnode E[i] (List.getElem_mem hlt')
    obtain ⟨hc1', hc2'⟩ := enCs_get hlt'
    have hbe : belE d f p E[i] = if E[i].1 = [] then [] else (T0 d).V f E[i].2 (p ++ [47] ++ E[i].1) := rfl
    generalize belE d f p E[i] = bE at *
    generalize E[i].2 = m at *
    generalize E[i].1 = nm at *
    conv => whnf
    refine XVal.of_read (XRead.index tabOk (t := 127) rfl rfl rfl (by omega) (by omega) hko.nil fun ad had => ?_)
    conv => whnf
    refine XVal.of_read (XRead.loadF tabOk (t := 9) rfl rfl (ad := ad) (k := 2 * i) (L := enCs E) (v := strV nm) (.fact fun w hw => had ▸ hw.2) (fun hs => by rw [Addr.addAdd hs]; congr 1; simp; try omega) hc1' ?_)
    conv => whnf
    refine XVal.of_read (XRead.strEq (l := nm) (m := []) ?_)
    conv => whnf
    refine XIf.split (fun hq => ?_) (fun hq => ?_)
    · have hq' : nm = [] := by simpa using hq
      rw [if_pos hq'] at hbe
      subst hbe
      conv => whnf
      refine ⟨(i + 1, o, b, cap, C), ⟨⟨hlt', hR, by rw [List.length_nil, Nat.zero_add] at hlen; exact hlen, hO⟩, by dsimp only; omega⟩, ?_, ?_, Ent.refl _⟩
      · conv => whnf
        refine ⟨?_, rfl⟩
        repeat (first | exact FLe.nil | refine FLe.any ?_ | refine FLe.cons ?_ | refine FLe.eq (by rw [wrap_i64 (by omega)]; rfl) ?_)
      · conv => whnf
        exact trivial
    have hq' : nm ≠ [] := by simpa using hq
    rw [if_neg hq'] at hbe
    obtain ⟨hnl, f', hf', hlow', hm32, hge, hdl, hnot⟩ := hnd hq'
    subst hf'
    rw [V_succ] at hbe
    subst hbe
    rw [List.foldl_cons] at hR
    rw [List.length_cons] at hlen
    conv => whnf
    refine XVal.of_read (XRead.strAdd (l := p) (m := [47]) (by simp; omega) ?_)
    conv => whnf
    refine XVal.of_read (XRead.index tabOk (t := 127) rfl rfl rfl (by omega) (by omega) hko.nil fun ad had => ?_)
    conv => whnf
    refine XVal.of_read (XRead.loadF tabOk (t := 9) rfl rfl (ad := ad) (k := 2 * i) (L := enCs E) (v := strV nm) (.fact fun w hw => had ▸ hw.2) (fun hs => by rw [Addr.addAdd hs]; congr 1; simp; try omega) hc1' ?_)
    conv => whnf
    refine XVal.of_read (XRead.strAdd (l := p ++ [47]) (m := nm) (by simp; omega) ?_)
    have hql : (p ++ [47] ++ nm).length ≤ p.length + 15 := by simp; omega
    generalize p ++ [47] ++ nm = q at *
    have hsz : (ByteArray.mk ⟨q⟩).size = q.length := rfl
    obtain ⟨k, s, bb, hL, hEE⟩ := getL_ino d m
    have hkk : k = rk d m := by
      have := (hEE hge).1
      rwa [Int.toNat_natCast] at this
    have hgt := get37_spec d h hh hl m
    rw [hL] at hgt
    have hal : (addQ o (q, m)).length ≤ o.length + 1 := addQ_len _ _
    have haq : addQ o (q, m) = if q.length ≤ 60 then insR o q else o := rfl
    generalize addQ o (q, m) = o2 at *
    conv => whnf
    refine XIf.split (fun h60 => ?pA) (fun h60 => ?pB)
    case' pA =>
      rw [if_pos (by simp [iLe_eq, hsz] at h60; omega)] at haq
      conv => whnf
      refine XCall.from (insO_spec o ⟨some ⟨b, 0, none⟩, cap⟩ hO.hd (by omega) q) (Loc.row _ _) (fun w hst => hO.sees (r1 := []) (r2 := []) w (by simpa [orow] using hst)) (fun v D hv => ?_)
      rw [← haq] at hv
      obtain ⟨b2, c2, C2, rfl, hO2, rfl⟩ := hv
      refine ⟨fun w => trivial, ?_⟩
      conv => whnf
      refine XVal.ent (F' := ⟨fun w => By w h d ∧ RowAt w ko.a (enCs E), [(b2, Row.c C2)]⟩) (Ent.of_le ⟨by simp [Fx.and], fun w hw => hw.1⟩) ?_
    case' pB =>
      rw [if_neg (by simp [iLe_eq, hsz] at h60; omega)] at haq
      subst haq
      obtain ⟨b2, rfl⟩ : ∃ b2, b2 = b := ⟨_, rfl⟩
      obtain ⟨c2, rfl⟩ : ∃ c2, c2 = cap := ⟨_, rfl⟩
      obtain ⟨C2, rfl⟩ : ∃ C2, C2 = C := ⟨_, rfl⟩
      have hO2 := hO
      conv => whnf
    all_goals
      refine XVal.of_read (XRead.index tabOk (t := 127) rfl rfl rfl (by omega) (by omega) hko.nil fun ad had => ?_)
      conv => whnf
      refine XVal.of_read (XRead.loadF tabOk (t := 3) rfl rfl (ad := ad) (k := 2 * i + 1) (L := enCs E) (v := intV m) (.fact fun w hw => had ▸ hw.2) (fun hs => by rw [Addr.addAdd hs]; congr 1; simp; try omega) hc2' ?_)
      conv => whnf
      refine XCall.val hgt (fun w hw => hw.1) (fun v D hv => ?_)
      rw [hge] at hv
      subst hv
      conv => whnf
      intro b0
      conv => whnf
      repeat (refine XSame.of ?_; conv => whnf)
      refine XIf.split (fun hk2 => ?_) (fun hk2 => ?_)
      · have hk2' : rk d m = 2 := by
          simp [iEq_eq] at hk2
          omega
        have hdm := hdl hk2'
        conv => whnf
        repeat (refine XSame.of ?_; conv => whnf)
        refine XVal.of_read (XRead.index tabOk (t := 127) rfl rfl rfl (by omega) (by omega) hko.nil fun ad had => ?_)
        conv => whnf
        refine XVal.of_read (XRead.loadF tabOk (t := 3) rfl rfl (ad := ad) (k := 2 * i + 1) (L := enCs E) (v := intV m) (.fact fun w hw => had ▸ hw.2) (fun hs => by rw [Addr.addAdd hs]; congr 1; simp; try omega) hc2' ?_)
        have hrs := ih f' (by omega) m q o2 b2 c2 C2 hlow' hdm (by omega) (by omega) hO2
        have hfl := foldQ_len (belV d f' m q) o2
        generalize (belV d f' m q).foldl addQ o2 = o3 at *
        conv => whnf
        refine XCall.ent (F' := ⟨fun w => By w h d ∧ RowAt w ko.a (enCs E), [] ++ [(b2, Row.c C2)] ++ []⟩) (Ent.of_le ⟨by simp, fun w hw => hw⟩) ?_
        refine XCall.rows hrs (fun w hw => hw.1) (fun v D hv => ?_)
        obtain ⟨b3, c3, C3, rfl, hO3, rfl⟩ := hv
        conv => whnf
        repeat (refine XSame.of ?_; conv => whnf)
        refine ⟨(i + 1, o3, b3, c3, C3), ⟨⟨hlt', hR, by dsimp only; omega, hO3⟩, by dsimp only; omega⟩, ?_, ?_, ?_⟩
        · conv => whnf
          refine ⟨?_, rfl⟩
          repeat (first | exact FLe.nil | refine FLe.any ?_ | refine FLe.cons ?_ | refine FLe.eq (by rw [wrap_i64 (by omega)]; rfl) ?_)
        · conv => whnf
          exact trivial
        · exact Ent.of_le ⟨by simp, fun w hw => hw.1⟩
      · have hk2' : rk d m ≠ 2 := by
          simp [iEq_eq] at hk2
          omega
        rw [hnot hk2' q] at hR hlen
        conv => whnf
        repeat (refine XSame.of ?_; conv => whnf)
        refine ⟨(i + 1, o2, b2, c2, C2), ⟨⟨hlt', hR, by rw [List.length_nil] at hlen; dsimp only; omega, hO2⟩, by dsimp only; omega⟩, ?_, ?_, ?_⟩
        · conv => whnf
          refine ⟨?_, rfl⟩
          repeat (first | exact FLe.nil | refine FLe.any ?_ | refine FLe.cons ?_ | refine FLe.eq (by rw [wrap_i64 (by omega)]; rfl) ?_)
        · conv => whnf
          exact trivial
        · exact Ent.of_le ⟨by simp, fun w hw => hw⟩
  · have hie : i = E.length := by
      simp only [iLt_eq, decide_eq_false_iff_not] at hlt
      omega
    subst hie
    rw [List.drop_length] at hR
    have hR : R = o := hR
    rw [hR]
    conv => whnf
    exact ⟨⟨fun _ => True, [(b, Row.c C)]⟩, Ent.of_le ⟨List.Sublist.refl _, fun w _ => trivial⟩, b, cap, C, rfl, hO, rfl⟩

theorem paths38_spec (d : List UInt8) (h : Hd) (hh : h.Ok d.length) (hl : d.length ≤ 1000000) : PureSpec Tryz.prog 18 [h.v d.length] (fun w => By w h d) (RelPaths (chk38 d) (pathsR d)) := by
  have hch := check38_spec d h hh hl
  by_cases h38 : chk38 d = 0
  rotate_left
  · have hR : RelPaths (chk38 d) (pathsR d) (.tuple #[.slice none 0 0, .int .i64 (chk38 d : Int)]) ⟨fun _ => True, []⟩ := by
      unfold RelPaths
      rw [if_neg h38]
      exact ⟨rfl, rfl⟩
    generalize chk38 d = e at *
    refine PureSpec.of_xc tabOk Tryz.func18 rfl (by decide) (n := Tryz.f18.ntmps - 1) rfl rfl fun w0 av => ?_
    conv => whnf
    repeat (refine XSame.of ?_; conv => whnf)
    refine XCall.val hch (fun w hw => hw) (fun v D hv => ?_)
    subst hv
    conv => whnf
    repeat (refine XSame.of ?_; conv => whnf)
    refine XIf.yes (by simp [iNe_eq]; omega) ?_
    conv => whnf
    repeat (refine XSame.of ?_; conv => whnf)
    exact ⟨_, Ent.bare fun _ _ => trivial, hR⟩
  obtain ⟨-, hG, -⟩ := tree_facts h38
  have hVl := V_len hG
  rw [show (33 : Nat) = 32 + 1 from rfl, V_succ, List.length_cons] at hVl
  have hlow : Low (T0 d).ch (32 + 1) 0 := low_root (uniqT h38)
  have hroot : 0 ∈ (T0 d).dl := by
    obtain ⟨hd, hok⟩ := chk_zero (tree_facts h38).1
    exact mem_dl.2 ⟨by decide, (root_dir hd hok).1⟩
  have hbs := fun b => below_spec d h hh hl h38 32 0 [] [[47]] b 1 [strV [47]] hlow hroot (by decide) (by simp; omega) (Go.Sx.Own.full rfl)
  have hpr : (belV d 32 0 []).foldl addQ [[47]] = pathsR d := by
    unfold pathsR
    rw [if_neg (by rw [h38]; simp)]
  rw [hpr] at hbs
  have hR : ∀ b cap C, Go.Sx.Own 1 (pathsR d).length (some ⟨b, 0, none⟩) cap C ((pathsR d).map strV) → RelPaths (chk38 d) (pathsR d) (.tuple #[.slice (some ⟨b, 0, none⟩) (pathsR d).length cap, .int .i64 0]) ⟨fun _ => True, [(b, Row.c C)]⟩ := fun b cap C hO => by
    unfold RelPaths
    rw [if_pos h38]
    exact ⟨b, cap, C, hO, rfl, rfl⟩
  generalize pathsR d = L at *
  generalize chk38 d = e at *
  subst h38
  refine PureSpec.of_xc tabOk Tryz.func18 rfl (by decide) (n := Tryz.f18.ntmps - 1) rfl rfl fun w0 av => ?_
  conv => whnf
  repeat (refine XSame.of ?_; conv => whnf)
  refine XCall.val hch (fun w hw => hw) (fun v D hv => ?_)
  subst hv
  conv => whnf
  repeat (refine XSame.of ?_; conv => whnf)
  refine XIf.no (by simp [iNe_eq]) ?_
  conv => whnf
  repeat (refine XSame.of ?_; conv => whnf)
  refine XVal.build tabOk (t := 51) rfl rfl rfl [strV [47]] rfl rfl (by simp [Value.cells, strV]) (by decide) fun b0 => ?_
  conv => whnf
  repeat (refine XSame.of ?_; conv => whnf)
  refine XCall.ent (F' := ⟨fun w => By w h d, [] ++ [(b0, Row.c [strV [47]])] ++ []⟩) (Ent.of_le ⟨by simp [Value.cells, strV], fun w hw => hw⟩) ?_
  refine XCall.rows (hbs b0) (fun w hw => hw) (fun v D hv => ?_)
  obtain ⟨b, cap, C, rfl, hO, rfl⟩ := hv
  conv => whnf
  repeat (refine XSame.of ?_; conv => whnf)
  exact ⟨_, Ent.of_le ⟨by simp, fun w hw => trivial⟩, hR b cap C hO⟩

end Go.Proofs.YtfeoedkmndkbjaaGreatDoor
namespace Go.Proofs.YtfeoedkmndkbjaaGreatDoor
open Go Go.Sx
set_option maxRecDepth 100000
set_option linter.unusedVariables false
set_option linter.unusedSimpArgs false

/-- What has been taken for an inode. -/
structure Wt (d : List UInt8) (n : Nat) (i : Nat) (o : List UInt8) (b : Nat → Nat) : Prop where
  len : o.length = 12288
  has : ∀ q, q < i → b q ≠ 0
  old : ∀ q, rb d n q ≠ 0 → b q = rb d n q
  rest : ∀ q, i ≤ q → b q = rb d n q
  new : ∀ q, q < 12 → b q ≠ 0 → rb d n q = 0 → 18 ≤ b q ∧ b q < 96 ∧ getB (bmp d) (b q) = false ∧ ∀ r, r < 128 → byt o (128 * b q + r) = 0
  inj : ∀ q q', q < 12 → q' < 12 → b q ≠ 0 → b q = b q' → q = q'
  bits : ∀ j, getB (bmp o) j = true ↔ getB (bmp d) j = true ∨ ∃ q, q < 12 ∧ b q ≠ 0 ∧ b q = j
  byts : ∀ m, ¬ (1664 ≤ m ∧ m < 1676) → (∀ q, q < 12 → b q ≠ 0 → rb d n q = 0 → m / 128 ≠ b q) → byt o m = byt d m

theorem wt_inv {d : List UInt8} (hok : Ok37 d) (hd : d.length = 12288) {n : Nat} (hn : n < 32) : ∀ {i : Nat} {o : List UInt8} {b : Nat → Nat}, i ≤ 12 → wt d (rb d n) i = some (o, b) → Wt d n i o b
  | 0, o, b, _, h => by
    cases h
    refine ⟨hd, fun q hq => by omega, fun q _ => rfl, fun q _ => rfl, fun q hq h1 h2 => absurd h2 h1, fun q q' hq hq' h1 h2 => ?_, fun j => ?_, fun m _ _ => rfl⟩
    · have hnd := (ok_parts hok).1 n hn
      refine Classical.byContradiction fun hne => ?_
      have key : ∀ a c : Nat, a < c → c < 12 → rb d n a ≠ 0 → rb d n a = rb d n c → False := fun a c hac hc ha he => by
        unfold part at hnd
        have h3 : List.Pairwise (fun x y : Nat => x ≠ y) (((List.range 12).map (rb d n)).filter (· ≠ 0)) := hnd
        rw [List.filter_map] at h3
        have h4 := List.pairwise_map.1 h3
        have h5 : (List.range 12).Pairwise fun x y => rb d n x ≠ 0 → rb d n y ≠ 0 → rb d n x ≠ rb d n y := by
          have := List.pairwise_filter.1 h4
          refine this.imp fun {x y} hxy hx hy => hxy (by simpa using hx) (by simpa using hy)
        rw [List.pairwise_iff_getElem] at h5
        have := h5 a c (by simp; omega) (by simp; omega) hac
        simp only [List.getElem_range] at this
        exact this ha (by rw [← he]; exact ha) he
      rcases Nat.lt_or_gt_of_ne hne with h5 | h5
      · exact key q q' h5 hq' h1 h2
      · exact key q' q h5 hq (by rw [← h2]; exact h1) h2.symm
    · constructor
      · exact .inl
      · rintro (h | ⟨q, hq, h1, h2⟩)
        · exact h
        · exact (ok_bit hok j).2 (.inr ⟨n, hn, mem_part.2 ⟨by rw [← h2]; exact h1, q, hq, h2⟩⟩)
  | i + 1, o, b, hi, h => by
    unfold wt at h
    cases hw : wt d (rb d n) i with
    | none => rw [hw] at h; cases h
    | some r =>
      obtain ⟨o1, b1⟩ := r
      have W := wt_inv hok hd hn (by omega) hw
      rw [hw] at h
      try dsimp only at h
      by_cases hb : b1 i = 0
      · rw [if_pos hb] at h
        cases hx : freeB (bmp o1) with
        | none => rw [hx] at h; cases h
        | some x =>
          rw [hx] at h
          cases h
          obtain ⟨hx1, hx2⟩ := freeB_lt hx
          have hxc := freeB_clear hx
          have hbl := bmp_len W.len
          have hpb : (putB (bmp o1) x true).length = 12 := by rw [putB_len, hbl]
          have hz : (List.replicate 128 (0 : UInt8)).length = 128 := List.length_replicate
          have htl := takeD_len W.len hx2
          have hsl := setBmp_len W.len hpb
          have htb : ∀ m, byt (takeD o1 x) m = if 128 * x ≤ m ∧ m < 128 * x + 128 then byt (List.replicate 128 0) (m - 128 * x) else if 1664 ≤ m ∧ m < 1676 then byt (putB (bmp o1) x true) (m - 1664) else byt o1 m := fun m => by
            unfold takeD
            rw [byt_lay (by rw [hz]; omega), hz, byt_setBmp W.len hpb]
          have hzz : ∀ r, byt (List.replicate 128 (0 : UInt8)) r = 0 := fun r => by
            unfold byt
            rw [List.getD_eq_getElem?_getD, List.getElem?_replicate]
            split <;> rfl
          have hri : rb d n i = 0 := by rw [← W.rest i (Nat.le_refl _)]; exact hb
          have hxn : ∀ q, q < 12 → b1 q ≠ 0 → b1 q ≠ x := fun q hq h1 h2 => by
            have := (W.bits x).2 (.inr ⟨q, hq, h1, h2⟩)
            rw [hxc] at this
            cases this
          have hxd : getB (bmp d) x = false := by
            cases hg : getB (bmp d) x with
            | false => rfl
            | true =>
              have := (W.bits x).2 (.inl hg)
              rw [hxc] at this
              cases this
          have hbe : bmp (takeD o1 x) = putB (bmp o1) x true := by
            refine byt_ext (by rw [bmp_len htl, hpb]) fun r hr => ?_
            rw [bmp_len htl] at hr
            unfold bmp
            rw [byt_cut (by omega) hr, htb, if_neg (by omega), if_pos (by omega)]
            congr 1
            omega
          refine ⟨htl, fun q hq => ?_, fun q h1 => ?_, fun q hq => ?_, fun q hq h1 h2 => ?_, fun q q' hq hq' h1 h2 => ?_, fun j => ?_, fun m h1 h2 => ?_⟩
          · try dsimp only
            by_cases h5 : q = i
            · rw [if_pos h5]; omega
            · rw [if_neg h5]; exact W.has q (by omega)
          · try dsimp only
            rw [if_neg (fun h => by rw [h] at h1; exact h1 hri)]
            exact W.old q h1
          · try dsimp only
            rw [if_neg (by omega)]
            exact W.rest q (by omega)
          · try dsimp only at h1 ⊢
            by_cases h5 : q = i
            · rw [if_pos h5]
              exact ⟨hx1, hx2, hxd, fun r hr => by rw [htb, if_pos (by omega)]; exact hzz _⟩
            · rw [if_neg h5] at h1 ⊢
              obtain ⟨a1, a2, a3, a4⟩ := W.new q hq h1 h2
              have := hxn q hq h1
              exact ⟨a1, a2, a3, fun r hr => by rw [htb, if_neg (by omega), if_neg (by omega)]; exact a4 r hr⟩
          · try dsimp only at h1 h2
            by_cases h5 : q = i
            · rw [if_pos h5] at h1 h2
              by_cases h6 : q' = i
              · rw [h5, h6]
              · rw [if_neg h6] at h2
                exact absurd h2.symm (hxn q' hq' (by omega))
            · rw [if_neg h5] at h1 h2
              by_cases h6 : q' = i
              · rw [if_pos h6] at h2
                exact absurd h2 (hxn q hq h1)
              · rw [if_neg h6] at h2
                exact W.inj q q' hq hq' h1 h2
          · rw [hbe, getB_put true (by rw [hbl]; omega)]
            by_cases hj : j = x
            · rw [if_pos hj]
              exact ⟨fun _ => .inr ⟨i, by omega, by (try dsimp only); rw [if_pos rfl]; omega, by (try dsimp only); rw [if_pos rfl]; exact hj.symm⟩, fun _ => rfl⟩
            · rw [if_neg hj, W.bits]
              constructor
              · rintro (h | ⟨q, hq, h1, h2⟩)
                · exact .inl h
                · have : q ≠ i := fun h => by rw [h] at h1; exact h1 hb
                  exact .inr ⟨q, hq, by (try dsimp only); rw [if_neg this]; exact h1, by (try dsimp only); rw [if_neg this]; exact h2⟩
              · rintro (h | ⟨q, hq, h1, h2⟩)
                · exact .inl h
                · try dsimp only at h1 h2
                  by_cases h5 : q = i
                  · rw [if_pos h5] at h2
                    exact absurd h2.symm hj
                  · rw [if_neg h5] at h1 h2
                    exact .inr ⟨q, hq, h1, h2⟩
          · have hmx : m / 128 ≠ x := by
              have := h2 i (by omega) (by (try dsimp only); rw [if_pos rfl]; omega) hri
              try dsimp only at this
              rwa [if_pos rfl] at this
            rw [htb, if_neg (by omega), if_neg h1]
            refine W.byts m h1 fun q hq h3 h4 => ?_
            have h5 : q ≠ i := fun h => by rw [h] at h3; exact h3 hb
            have := h2 q hq (by (try dsimp only); rw [if_neg h5]; exact h3) h4
            try dsimp only at this
            rwa [if_neg h5] at this
      · rw [if_neg hb] at h
        cases h
        exact ⟨W.len, fun q hq => by
          by_cases h5 : q = i
          · rw [h5]; exact hb
          · exact W.has q (by omega), W.old, fun q hq => W.rest q (by omega), W.new, W.inj, W.bits, W.byts⟩

theorem wd_bytes {o data : List UInt8} {b : Nat → Nat} (ho : o.length = 12288) (hb : ∀ q, q < 12 → b q < 96) (hinj : ∀ q q', q < 12 → q' < 12 → b q ≠ 0 → b q = b q' → q = q') (hhas : ∀ q, 128 * q < data.length → b q ≠ 0) (hl : data.length ≤ 1536) : ∀ k, k ≤ data.length →
    (∀ q r, q < 12 → r < 128 → b q ≠ 0 → k ≤ 128 * q + r → byt (wd o b data k) (128 * b q + r) = byt o (128 * b q + r)) ∧ (∀ m, (∀ q, q < 12 → b q ≠ 0 → m / 128 ≠ b q) → byt (wd o b data k) m = byt o m)
  | 0, _ => ⟨fun q r _ _ _ _ => rfl, fun m _ => rfl⟩
  | k + 1, hk => by
    obtain ⟨ih1, ih2⟩ := wd_bytes ho hb hinj hhas hl k (by omega)
    have hkb := hb (k / 128) (by omega)
    have hk0 := hhas (k / 128) (by omega)
    have hput : ∀ m, byt (wd o b data (k + 1)) m = if m = 128 * b (k / 128) + k % 128 then byt data k else byt (wd o b data k) m := fun m => by
      show byt (bput (wd o b data k) _ _) m = _
      rw [byt_bput (by rw [wd_len]; omega) (byt_lt _ _)]
    refine ⟨fun q r hq hr h0 hkr => ?_, fun m hm => ?_⟩
    · rw [hput, if_neg fun h => ?_, ih1 q r hq hr h0 (by omega)]
      have h5 : b q = b (k / 128) := by omega
      have := hinj q (k / 128) hq (by omega) h0 h5
      omega
    · have := hm (k / 128) (by omega) hk0
      rw [hput, if_neg (by omega), ih2 m hm]

/-- Writing to a file leaves a tree. -/
theorem write_ok {d : List UInt8} (h38 : chk38 d = 0) {n : Nat} (hg : gete d n = 0) (hk : rk d n = 1) {data : List UInt8} (he : (writeR d n data).2 = 0) : chk38 (writeR d n data).1 = 0 := by
  obtain ⟨h0, hG, hE⟩ := tree_facts h38
  obtain ⟨hd, hok⟩ := chk_zero h0
  obtain ⟨hn, -⟩ := (gete_iff h0).1 hg
  obtain ⟨p1, p2⟩ := ok_parts hok
  have hn0 : n ≠ 0 := fun h => by
    have := (mem_dl.1 (root_in h0)).2
    rw [h] at hk
    omega
  unfold writeR at he ⊢
  rw [if_neg (by rw [hg]; simp)] at he ⊢
  by_cases hdl : data.length = 0
  · rw [if_pos hdl]
    exact h38
  rw [if_neg hdl, if_neg (show ¬ rk d n = 2 by omega)] at he ⊢
  by_cases hbig : 1536 < data.length
  · rw [if_pos hbig] at he; cases he
  rw [if_neg hbig] at he ⊢
  cases hw : wt d (rb d n) ((data.length + 127) / 128) with
  | none => rw [hw] at he; cases he
  | some r =>
    obtain ⟨o, b⟩ := r
    dsimp only
    have W := wt_inv hok hd hn (by omega) hw
    have hsz := form_size (hok.form n hn)
    have hb96 : ∀ q, q < 12 → b q < 96 := fun q hq => by
      by_cases h1 : b q = 0
      · omega
      · by_cases h2 : rb d n q = 0
        · exact (W.new q hq h1 h2).2.1
        · rw [W.old q h2]
          exact ok_blocks hok hn hq
    have hb18 : ∀ q, q < 12 → b q ≠ 0 → 18 ≤ b q := fun q hq h1 => by
      by_cases h2 : rb d n q = 0
      · exact (W.new q hq h1 h2).1
      · rw [W.old q h2]
        exact (form_blocks (hok.form n hn) q hq h2).1
    have hD := wd_bytes (data := data) W.len hb96 W.inj (fun q hq => W.has q (by omega)) (by omega) data.length (Nat.le_refl _)
    obtain ⟨D1, D2⟩ := hD
    have hwl : (wd o b data data.length).length = 12288 := by rw [wd_len, W.len]
    generalize wd o b data data.length = w at *
    obtain ⟨s, hs⟩ : ∃ s, s = max (rs d n) data.length := ⟨_, rfl⟩
    rw [← hs, hk]
    have hs1 : rs d n ≤ s ∧ data.length ≤ s ∧ s ≤ 1536 := by omega
    have hpl := putI_len hwl hn 1 s b
    obtain ⟨f1, f2, f3, f4⟩ := putI_fields hwl hn 1 s b (by decide) (by omega) (fun i hi => by have := hb96 i hi; omega)
    have hpb := byt_putI hwl hn 1 s b
    generalize putI w n 1 s b = e at *
    have hby : ∀ m, ¬ (1792 + 16 * n ≤ m ∧ m < 1792 + 16 * n + 16) → ¬ (1664 ≤ m ∧ m < 1676) → (∀ q, q < 12 → b q ≠ 0 → m / 128 ≠ b q) → byt e m = byt d m := fun m h1 h2 h3 => by
      rw [hpb, if_neg h1, D2 m h3, W.byts m h2 fun q hq h4 _ => h3 q hq h4]
    have hlow : ∀ m, m / 128 < 18 → ∀ q, q < 12 → b q ≠ 0 → m / 128 ≠ b q := fun m hm q hq h => by have := hb18 q hq h; omega
    have hbe : bmp e = bmp o := by
      refine byt_ext (by rw [bmp_len hpl, bmp_len W.len]) fun r hr => ?_
      rw [bmp_len hpl] at hr
      have hol := W.len
      unfold bmp
      rw [byt_cut (by omega) hr, byt_cut (by omega) hr, hpb, if_neg (by omega), D2 _ (hlow _ (by omega))]
    have hpe : ∀ x, x ∈ part e n 12 ↔ x ≠ 0 ∧ ∃ q, q < 12 ∧ b q = x := fun x => by
      rw [mem_part]
      constructor
      · rintro ⟨h1, q, hq, h2⟩; exact ⟨h1, q, hq, by rw [← f3 q hq]; exact h2⟩
      · rintro ⟨h1, q, hq, h2⟩; exact ⟨h1, q, hq, by rw [f3 q hq]; exact h2⟩
    have hoth : ∀ m, m < 32 → m ≠ n → ∀ y ∈ part d m 12, ∀ q, q < 12 → b q ≠ 0 → y ≠ b q := fun m hm hmn y hy q hq h1 h2 => by
      by_cases h3 : rb d n q = 0
      · have h4 := (W.new q hq h1 h3).2.2.1
        have := (ok_bit hok y).2 (.inr ⟨m, hm, hy⟩)
        rw [h2, h4] at this
        cases this
      · have h5 := W.old q h3
        exact p2 m n hm hn hmn y hy (mem_part.2 ⟨by rw [h2]; exact h1, q, hq, by rw [h2, h5]⟩)
    have hslot : ∀ m, m < 32 → m ≠ n → SlotSame d e m := fun m hm hmn r hr => hby _ (by omega) (by omega) (hlow _ (by omega))
    have hblk : ∀ m, m < 32 → m ≠ n → ∀ y ∈ part d m 12, ∀ i, 128 * y ≤ i → i < 128 * y + 128 → byt e i = byt d i := fun m hm hmn y hy i a c => by
      have := (part_rng hok hm hy).1
      have h5 : i / 128 = y := by omega
      exact hby i (by omega) (by omega) fun q hq h1 => by rw [h5]; exact hoth m hm hmn y hy q hq h1
    have hOk : Ok37 e := by
      refine ok_change hok hd hpl hn (fun m hm => hby m (by omega) (by omega) (hlow m (by omega))) (fun m a c => hby m (by omega) (by omega) (hlow m (by omega))) hslot ?_ hblk ?_ (fun m hm hmn x hx hx' => ?_) (fun j hj => ?_)
      · unfold formB
        rw [f4, Bool.and_eq_true]
        refine ⟨by simp, ?_⟩
        have hnz : ¬ inoZ (rk e n) (rs e n) (rb e n) = true := fun h => by
          have := (inoZ_iff.1 h).1
          omega
        rw [if_neg hnz, decide_eq_true_eq]
        refine ⟨.inl f1, by rw [f2]; exact hs1.2.2, fun h => absurd h hn0, fun i hi h => ?_, ?_, .inl f1⟩
        · rw [f3 i hi] at h ⊢
          rw [f2]
          refine ⟨hb18 i hi h, hb96 i hi, ?_⟩
          by_cases h2 : rb d n i = 0
          · by_cases h3 : i < (data.length + 127) / 128
            · omega
            · have := W.rest i (by omega)
              rw [this] at h
              exact absurd h2 h
          · have := (form_blocks (hok.form n hn) i hi h2).2.2
            omega
        · unfold tailZ
          rw [f2]
          by_cases q1 : s % 128 = 0
          · rw [decide_eq_true q1]; rfl
          have hq12 : s / 128 < 12 := by omega
          rw [decide_eq_false q1, Bool.false_or, f3 _ hq12]
          by_cases q2 : b (s / 128) = 0
          · rw [decide_eq_true q2]; rfl
          rw [decide_eq_false q2, Bool.false_or, allZ_iff]
          have h96 := hb96 _ hq12
          have h18 := hb18 _ hq12 q2
          intro r hr
          rw [cut_len (by omega)] at hr
          rw [byt_cut (by omega) hr, hpb, if_neg (by omega), Nat.add_assoc, D1 (s / 128) (s % 128 + r) hq12 (by omega) q2 (by omega)]
          by_cases h2 : rb d n (s / 128) = 0
          · exact (W.new _ hq12 q2 h2).2.2.2 _ (by omega)
          · have hro := W.old _ h2
            have hlt := (form_blocks (hok.form n hn) _ hq12 h2).2.2
            rw [W.byts _ (by omega) fun q hq h3 h4 h5 => ?_]
            · have hf := hok.form n hn
              unfold formB at hf
              rw [Bool.and_eq_true] at hf
              have hf2 := hf.2
              have hnz2 : ¬ inoZ (rk d n) (rs d n) (rb d n) = true := fun h => by
                have := (inoZ_iff.1 h).1
                omega
              rw [if_neg hnz2, decide_eq_true_eq] at hf2
              have ht := hf2.2.2.2.2.1
              unfold tailZ at ht
              have hrq : rs d n / 128 = s / 128 := by omega
              rw [decide_eq_false (by omega), Bool.false_or, hrq, decide_eq_false h2, Bool.false_or, allZ_iff] at ht
              have hro2 : rb d n (s / 128) = b (s / 128) := hro.symm
              rw [hro2] at ht
              have hcl : (cut d (128 * b (s / 128) + rs d n % 128) (128 - rs d n % 128)).length = 128 - rs d n % 128 := cut_len (by omega)
              have := ht (s % 128 + r - rs d n % 128) (by rw [hcl]; omega)
              rw [byt_cut (by omega) (by omega)] at this
              rw [← this]
              congr 1
              omega
            · have h6 : b (s / 128) = b q := by omega
              have := W.inj _ _ hq12 hq q2 h6
              rw [← this] at h4
              exact h2 h4
      · unfold part
        have hnd : List.Pairwise (fun x y : Nat => x ≠ y) (((List.range 12).map (rb e n)).filter (· ≠ 0)) := by
          rw [List.filter_map]
          refine List.pairwise_map.2 (List.pairwise_filter.2 ?_)
          have hr : (List.range 12).Pairwise fun x y => x ≠ y := List.nodup_range
          refine hr.imp_of_mem fun {x y} hx hy hxy hx0 hy0 he => hxy ?_
          have hx := List.mem_range.1 hx
          have hy := List.mem_range.1 hy
          rw [f3 x hx, f3 y hy] at he
          have hx0 : rb e n x ≠ 0 := by simpa using hx0
          rw [f3 x hx] at hx0
          exact W.inj x y hx hy hx0 he
        exact hnd
      · obtain ⟨h1, q, hq, h2⟩ := (hpe x).1 hx
        exact hoth m hm hmn x hx' q hq (by rw [h2]; exact h1) h2.symm
      · rw [hbe, W.bits, ok_bit hok]
        constructor
        · rintro ((h | ⟨m, hm, h⟩) | ⟨q, hq, h1, h2⟩)
          · exact .inl h
          · by_cases hmn : m = n
            · subst hmn
              obtain ⟨h3, q, hq, h4⟩ := mem_part.1 h
              exact .inr (.inl ((hpe j).2 ⟨h3, q, hq, by rw [W.old q (by rw [h4]; exact h3)]; exact h4⟩))
            · exact .inr (.inr ⟨m, hm, hmn, h⟩)
          · exact .inr (.inl ((hpe j).2 ⟨by rw [← h2]; exact h1, q, hq, h2⟩))
        · rintro (h | h | ⟨m, hm, _, h⟩)
          · exact .inl (.inl h)
          · obtain ⟨h1, q, hq, h2⟩ := (hpe j).1 h
            exact .inr ⟨q, hq, by rw [h2]; exact h1, h2⟩
          · exact .inl (.inr ⟨m, hm, h⟩)
    have g0 := chk_ok hpl hOk
    have hkinds : ∀ m, m < 32 → rk e m = rk d m := fun m hm => by
      by_cases hmn : m = n
      · rw [hmn, f1, hk]
      · exact (slot_all (hslot m hm hmn)).1
    have hdle : ∀ m, m ∈ (T0 e).dl ↔ m ∈ (T0 d).dl := fun m => by
      rw [mem_dl, mem_dl]
      constructor
      · rintro ⟨a, c⟩; exact ⟨a, by rw [← hkinds m a]; exact c⟩
      · rintro ⟨a, c⟩; exact ⟨a, by rw [hkinds m a]; exact c⟩
    have hcont : ∀ m ∈ (T0 d).dl, contentR e m = contentR d m := fun m hm => by
      obtain ⟨a, c⟩ := mem_dl.1 hm
      have hmn : m ≠ n := fun h => by rw [h] at c; omega
      exact content_same h0 g0 a (by omega) ⟨hslot m a hmn, hblk m a hmn⟩
    have hch : (T0 e).ch = (T0 d).ch := funext fun m => by
      by_cases hm : m ∈ (T0 d).dl
      · rw [(T0 e).ch_es ((hdle m).2 hm), (T0 d).ch_es hm, T0_E, T0_E, hcont m hm]
      · rw [(T0 e).ch_no fun h => hm ((hdle m).1 h), (T0 d).ch_no hm]
    refine chk38_of g0 (fun m hm => ?_) ⟨fun m hm x hx => ?_, fun m hm => ?_, fun m hm m' hm' x hx hx' => ?_⟩ fun m hm hmk => ?_
    · rw [hcont m ((hdle m).1 hm)]
      exact hE m ((hdle m).1 hm)
    · rw [hch] at hx
      obtain ⟨q1, q2, q3⟩ := hG.fine.ok m ((hdle m).1 hm) x hx
      exact ⟨q1, q2, by show rk e x ≠ 0; rw [hkinds x q2]; exact q3⟩
    · rw [hch]
      exact hG.fine.nd m ((hdle m).1 hm)
    · rw [hch] at hx hx'
      exact hG.fine.one m ((hdle m).1 hm) m' ((hdle m').1 hm') x hx hx'
    · rw [hch]
      exact tree_rch h38 hm (by rw [← hkinds m hm]; exact hmk)

end Go.Proofs.YtfeoedkmndkbjaaGreatDoor
namespace Go.Proofs.YtfeoedkmndkbjaaGreatDoor
open Go Go.Sx
set_option maxRecDepth 100000
set_option linter.unusedVariables false
set_option linter.unusedSimpArgs false

/-- A first write into an empty file. -/
theorem write_first {d : List UInt8} (h38 : chk38 d = 0) {n : Nat} (hn : n < 32) (hk : rk d n = 1) (hs : rs d n = 0) (hz : ∀ i, i < 12 → rb d n i = 0) {data : List UInt8} (h1 : 1 ≤ data.length) (h2 : data.length ≤ 128) {x : Nat} (hx : freeB (bmp d) = some x) :
    ∃ e, writeR d n data = (e, 0) ∧ e.length = 12288 ∧ chk38 e = 0 ∧ gete e n = 0 ∧ rk e n = 1 ∧ contentR e n = data ∧ (∀ m, ¬ (1664 ≤ m ∧ m < 1676) → ¬ (1792 + 16 * n ≤ m ∧ m < 1792 + 16 * n + 16) → m / 128 ≠ x → byt e m = byt d m) := by
  obtain ⟨h0, hG, hE⟩ := tree_facts h38
  obtain ⟨hd, hok⟩ := chk_zero h0
  obtain ⟨hx1, hx2⟩ := freeB_lt hx
  have hg : gete d n = 0 := (gete_iff h0).2 ⟨hn, by omega⟩
  obtain ⟨b', hb'⟩ : ∃ b' : Nat → Nat, b' = fun j => if j = 0 then x else rb d n j := ⟨_, rfl⟩
  have hwt : wt d (rb d n) ((data.length + 127) / 128) = some (takeD d x, b') := by
    rw [show (data.length + 127) / 128 = 0 + 1 by omega]
    unfold wt
    show (if rb d n 0 = 0 then (match freeB (bmp d) with
        | none => none
        | some x => some (takeD d x, fun j => if j = 0 then x else rb d n j)) else some (d, rb d n)) = _
    rw [if_pos (hz 0 (by decide)), hx, hb']
  have hw : writeR d n data = (putI (wd (takeD d x) b' data data.length) n 1 data.length b', 0) := by
    unfold writeR
    rw [if_neg (by rw [hg]; simp), if_neg (by omega), hk, if_neg (by simp; omega), hwt, hs, Nat.zero_max]
  have hok38 := write_ok h38 hg hk (data := data) (by rw [hw])
  rw [hw] at hok38
  have hbx : b' 0 = x := by rw [hb']; rfl
  have htl := takeD_len hd hx2
  have hwl : (wd (takeD d x) b' data data.length).length = 12288 := by rw [wd_len, htl]
  have hwb := fun m => byt_wd (o := takeD d x) (data := data) (b := b') h2 (by rw [hbx, htl]; omega) (Nat.le_refl _) m
  rw [hbx] at hwb
  have hpb := fun m => byt_putI hwl hn 1 data.length b' m
  have hpl := putI_len hwl hn 1 data.length b'
  have hpbl : (putB (bmp d) x true).length = 12 := by rw [putB_len, bmp_len hd]
  have hz128 : (List.replicate 128 (0 : UInt8)).length = 128 := List.length_replicate
  have htb : ∀ m, ¬ (1664 ≤ m ∧ m < 1676) → m / 128 ≠ x → byt (takeD d x) m = byt d m := fun m hm hmx => by
    unfold takeD
    rw [byt_lay (by rw [setBmp_len hd hpbl, hz128]; omega), hz128, if_neg (by omega), byt_setBmp hd hpbl, if_neg hm]
  obtain ⟨e, he⟩ : ∃ e, e = putI (wd (takeD d x) b' data data.length) n 1 data.length b' := ⟨_, rfl⟩
  rw [← he] at hw hok38 hpb hpl
  obtain ⟨g0, -, -⟩ := tree_facts hok38
  have i0 := byt_inoB0 1 data.length b'
  have hke : rk e n = 1 := by
    show byt e (1792 + 16 * n + 0) = 1
    rw [hpb, if_pos (by omega), show 1792 + 16 * n + 0 - (1792 + 16 * n) = 0 by omega, i0.1]
  have hse : rs e n = data.length := by
    unfold rs
    rw [hpb, hpb, if_pos (by omega), if_pos (by omega), show 1792 + 16 * n + 1 - (1792 + 16 * n) = 1 by omega, show 1792 + 16 * n + 2 - (1792 + 16 * n) = 2 by omega, i0.2.1, i0.2.2.1]
    omega
  have hbe : ∀ j, j < 12 → rb e n j = if j = 0 then x else 0 := fun j hj => by
    show byt e (1792 + 16 * n + (3 + j)) = _
    rw [hpb, if_pos (by omega), show 1792 + 16 * n + (3 + j) - (1792 + 16 * n) = 3 + j by omega, byt_inoB _ _ _ hj, hb']
    dsimp only
    by_cases hj0 : j = 0
    · rw [if_pos hj0, if_pos hj0]
      omega
    · rw [if_neg hj0, if_neg hj0, hz j hj]
  have hge : gete e n = 0 := (gete_iff g0 (m := n)).2 ⟨hn, by rw [hke]; decide⟩
  refine ⟨e, hw, hpl, hok38, hge, hke, ?_, fun m m1 m2 m3 => ?_⟩
  · have hcl : (contB e (rb e n) 12).length = 128 * 12 := contB_len hpl fun j hj => by rw [hbe j hj]; split <;> omega
    unfold contentR
    rw [if_neg (by rw [hge]; simp), hse]
    refine byt_ext (by rw [List.length_take, hcl]; omega) fun m hm => ?_
    rw [List.length_take, hcl] at hm
    have hm : m < data.length := by omega
    have ht : byt ((contB e (rb e n) 12).take data.length) m = byt (contB e (rb e n) 12) m := by
      unfold byt
      rw [List.getD_eq_getElem?_getD, List.getD_eq_getElem?_getD, List.getElem?_take, if_pos hm]
    rw [ht, byt_contB hpl (fun j hj => by rw [hbe j hj]; split <;> omega) 12 (Nat.le_refl _), show m / 128 = 0 by omega, hbe 0 (by decide), if_pos rfl, if_pos (by omega), hpb, if_neg (by omega), hwb, if_pos (by omega)]
    congr 1
    omega
  · rw [hpb, if_neg m2, hwb, if_neg (by omega), htb m m1 m3]

/-- What Make leaves where it makes a file. -/
theorem make_file {d p : List UInt8} {names : List (List UInt8)} {at0 k n : Nat} (h38 : chk38 d = 0) (hs : splitR p = (names, 0)) (hn : names ≠ []) (hf : followR d names.dropLast 0 = (at0, 0))
    (hdl : at0 ∈ (T0 d).dl) (hnew : fidx ((T0 d).E at0) (names.getLastD []) = none) (hfe : fidx ((T0 d).E at0) [] = some k) (hfr : freeI d = some n) :
    (makeR d p 1).2.1 = wr16 (putI d n 1 0 (fun _ => 0)) at0 k (enB (names.getLastD [], n)) := by
  obtain ⟨h0, hG, hE⟩ := tree_facts h38
  have hsn := splitR_names p
  rw [hs] at hsn
  have hlv : vname (names.getLastD []) = true := hsn _ (List.mem_of_getElem? (getLast_eq hn))
  have hA : allocR d 1 = (n, putI d n 1 0 (fun _ => 0), 0) := by
    unfold allocR
    rw [if_neg (show ¬ chk d ≠ 0 by rw [h0]; simp), hfr]
    rfl
  have hmw := make_write h38 (kind := 1) (.inl rfl) (by rw [hA]) hdl hlv hfe
  rw [hA] at hmw
  dsimp only at hmw
  rw [← hmw]
  unfold makeR
  rw [if_neg (show ¬ chk38 d ≠ 0 by rw [h38]; simp), hs]
  dsimp only
  rw [if_neg (by decide), if_neg (by omega), if_neg hn, hf]
  dsimp only
  rw [if_neg (by decide), dirR_dir h38 hdl]
  dsimp only
  rw [if_neg (by decide), if_neg (by rw [hnew]; simp), hfe]
  dsimp only
  rw [show (1 : Int).toNat = 1 from rfl, hA]
  dsimp only
  rw [if_neg (by decide)]

/-- The example: a file is made, written, found and read. -/
theorem awake39 {d : List UInt8} (hF : Fresh d) : ∃ d1 d2, makeR d [47, 97] 1 = (1, d1, 0) ∧ writeR d1 1 [104, 101, 108, 108, 111] = (d2, 0) ∧ d1.length = 12288 ∧ d2.length = 12288 ∧ chk38 d2 = 0 ∧ walkR d2 [47, 97] = (1, 0) ∧
    gete d2 1 = 0 ∧ rk d2 1 = 1 ∧ contentR d2 1 = [104, 101, 108, 108, 111] := by
  obtain ⟨h38, k0, ks, es0, y, hy⟩ := hF
  have hs1 : splitR [47, 97] = ([[97]], 0) := by decide
  have hdl0 : 0 ∈ (T0 d).dl := mem_dl.2 ⟨by decide, k0⟩
  have hfr : freeI d = some 1 := freeI_some (by decide) (fun j hj => by rw [show j = 0 by omega, k0]; decide) (ks 1 (by decide) (by decide))
  have hn1 : fidx ((T0 d).E 0) [97] = none := by rw [es0]; decide
  have hn2 : fidx ((T0 d).E 0) [] = some 0 := by rw [es0]; decide
  obtain ⟨e1, M1⟩ := made_at (p := [47, 97]) (kind := 1) (names := [[97]]) (at0 := 0) (k := 0) (n := 1) h38 hs1 (.inl rfl) (by simp) rfl hdl0 hn1 hn2 hfr (fun h => by cases h)
  have hmf := make_file (p := [47, 97]) (names := [[97]]) (at0 := 0) (k := 0) (n := 1) h38 hs1 (by simp) rfl hdl0 hn1 hn2 hfr
  obtain ⟨d1, hd1⟩ : ∃ d1, d1 = (makeR d [47, 97] 1).2.1 := ⟨_, rfl⟩
  rw [← hd1] at hmf e1 M1
  clear hd1
  obtain ⟨h0, hG, hE⟩ := tree_facts h38
  obtain ⟨hd, hok⟩ := chk_zero h0
  obtain ⟨g0, -, -⟩ := tree_facts M1.ok
  obtain ⟨hdl1, hok1⟩ := chk_zero g0
  have hpl := putI_len hd (show 1 < 32 by decide) 1 0 (fun _ => 0)
  have hpb := byt_putI hd (show 1 < 32 by decide) 1 0 (fun _ => 0)
  obtain ⟨r1, r2, r3⟩ := dir_form hok (show 0 < 32 by decide) k0
  have hrb : rb (putI d 1 1 0 fun _ => 0) 0 0 = rb d 0 0 := by
    show byt _ (1792 + 16 * 0 + (3 + 0)) = byt d (1792 + 16 * 0 + (3 + 0))
    rw [hpb, if_neg (by omega)]
  have hlx : (enB ([97], 1)).length = 16 := by decide
  have hb1 : ∀ m, m < 2304 → byt d1 m = byt (putI d 1 1 0 fun _ => 0) m := fun m hm => by
    rw [hmf]
    unfold wr16
    rw [hrb]
    show byt (lay _ _ (enB ([97], 1))) m = _
    rw [byt_lay (by rw [hlx, hpl]; omega), if_neg (by omega)]
  have i0 := byt_inoB0 1 0 (fun _ => 0)
  have hk1 : rk d1 1 = 1 := M1.kd
  have hs1' : rs d1 1 = 0 := by
    unfold rs
    rw [hb1 _ (by omega), hb1 _ (by omega), hpb, hpb, if_pos (by omega), if_pos (by omega), show 1792 + 16 * 1 + 1 - (1792 + 16 * 1) = 1 by omega, show 1792 + 16 * 1 + 2 - (1792 + 16 * 1) = 2 by omega, i0.2.1, i0.2.2.1]
  have hz1 : ∀ i, i < 12 → rb d1 1 i = 0 := fun i hi => by
    show byt d1 (1792 + 16 * 1 + (3 + i)) = 0
    rw [hb1 _ (by omega), hpb, if_pos (by omega), show 1792 + 16 * 1 + (3 + i) - (1792 + 16 * 1) = 3 + i by omega, byt_inoB _ _ _ hi]
  have hbm : bmp d1 = bmp d := by
    refine byt_ext (by rw [bmp_len hdl1, bmp_len hd]) fun j hj => ?_
    rw [bmp_len hdl1] at hj
    unfold bmp
    rw [byt_cut (by omega) hj, byt_cut (by omega) hj, hb1 _ (by omega), hpb, if_neg (by omega)]
  obtain ⟨d2, w1, w2, w3, w4, w5, w6, w7⟩ := write_first M1.ok (show 1 < 32 by decide) hk1 hs1' hz1 (data := [104, 101, 108, 108, 111]) (by decide) (by decide) (x := y) (by rw [hbm]; exact hy)
  refine ⟨d1, d2, e1, w1, hdl1, w2, w3, ?_, w4, w5, w6⟩
  have hk10 : rk d1 0 = 2 := by rw [M1.kinds 0 (by decide) (by decide)]; exact k0
  obtain ⟨q0, -, -⟩ := tree_facts w3
  have hyc := freeB_clear hy
  rw [← hbm] at hyc
  have hslot : ∀ r, r < 16 → byt d2 (1792 + 16 * 0 + r) = byt d1 (1792 + 16 * 0 + r) := fun r hr => w7 _ (by omega) (by omega) (by have := (freeB_lt hy).1; omega)
  have hsame : SameIno d1 d2 0 := ⟨hslot, fun z hz i hi1 hi2 => by
    have hbz := (ok_bit hok1 z).2 (.inr ⟨0, by decide, hz⟩)
    obtain ⟨hz0, j, hj, rfl⟩ := mem_part.1 hz
    have hfb := form_blocks (hok1.form 0 (by decide)) j hj hz0
    refine w7 i (by omega) (by omega) fun hiy => ?_
    have : rb d1 0 j = y := by omega
    rw [this, hyc] at hbz
    cases hbz⟩
  have hcs := content_same g0 q0 (show 0 < 32 by decide) (by omega) hsame
  have hk20 : rk d2 0 = 2 := (hslot 0 (by decide)).trans hk10
  have hdl2 : 0 ∈ (T0 d2).dl := mem_dl.2 ⟨by decide, hk20⟩
  have hE2 : (T0 d2).E 0 = (List.replicate 8 ([], 0)).set 0 ([97], 1) := by
    have h1 : (T0 d2).E 0 = (T0 d1).E 0 := by rw [T0_E, T0_E, hcs]
    rw [h1, M1.esAt, es0]
    rfl
  unfold walkR
  rw [if_neg (show ¬ chk38 d2 ≠ 0 by rw [w3]; simp), hs1]
  dsimp only
  rw [if_neg (by decide)]
  unfold followR
  rw [dirR_dir w3 hdl2, hE2]
  rfl

end Go.Proofs.YtfeoedkmndkbjaaGreatDoor
namespace Go.Proofs.YtfeoedkmndkbjaaGreatDoor
open Go Go.Proofs Go.RowKit Go.Shelf

attribute [local go_sem] Oper.semAt_some

/-- What a round keeps: the iterator's box, and that the row holds bytes. -/
def KpR (Bs b o len : Nat) (A B : World) : Prop := (∀ v, A.cell? ⟨Bs, 0, none⟩ = some v → B.cell? ⟨Bs, 0, none⟩ = some v) ∧
  ∀ j, j < len → (∃ x : Int, A.cell? ⟨b, o + j, none⟩ = some (.int .u8 x)) → ∃ x : Int, B.cell? ⟨b, o + j, none⟩ = some (.int .u8 x)

theorem KpR.trans {Bs b o len : Nat} {A B C : World} (h : KpR Bs b o len A B) (k : KpR Bs b o len B C) : KpR Bs b o len A C :=
  ⟨fun v hv => k.1 v (h.1 v hv), fun j hj hx => k.2 j hj (h.2 j hj hx)⟩

theorem KpR.put {Bs b o len : Nat} (W : World) (l : Nat) (x x' : Obj) (h : W.heap[l]? = some x) (hc : x.isCells = false) : KpR Bs b o len W (W.putObj l x') := by
  have key : ∀ a : Addr, ∀ v, W.cell? a = some v → (W.putObj l x').cell? a = some v := fun a v hv =>
    cell_kept hv (grownBy_putObj' W l x') fun r e => by cases e; exact ⟨x, h, hc⟩
  exact ⟨fun v hv => key _ v hv, fun j hj ⟨y, hy⟩ => ⟨y, key _ _ hy⟩⟩

def downs (len k : Nat) : List Nat := (List.range k).map fun q => len - 1 - q

theorem downs_succ (len k : Nat) : downs len (k + 1) = downs len k ++ [len - 1 - k] := by simp [downs, List.range_succ]

set_option maxRecDepth 100000 in
set_option maxHeartbeats 2000000 in
theorem backward1_in (F : Fence) (n : Nat) (hf : F.fn 185) (hro : F.round = none) (hn : 1 ≤ n) (l Bs b off len cap : Nat) (hreach : len ≤ 1000000) (J Jx : List (Fin len × Int) → World → Prop)
    (hY : ∀ pre x W, J pre W → pre.length < len → YieldAt F (n - 1) Tryz.prog l #[.int .i64 (x.1.val : Int), .int .u8 x.2] W fun e W' =>
      (e = .returned (.bool true) ∧ J (pre ++ [x]) W' ∧ KpR Bs b off len W W') ∨ (e = .returned (.bool false) ∧ Jx (pre ++ [x]) W'))
    (W : World) (hBs : W.cell? ⟨Bs, 0, none⟩ = some (.slice (some ⟨b, off, none⟩) len cap)) (hc : ∀ j, j < len → ∃ x : Int, W.cell? ⟨b, off + j, none⟩ = some (.int .u8 x)) (h0 : J [] W) :
    CallsIn F n Tryz.prog 185 #[.func (.yield l) #[] #[], .pointer (some ⟨Bs, 0, none⟩)] W fun e W' => (∃ v, e = .returned v) ∧
      ((∃ ys, ys.map (·.1.val) = downs len len ∧ J ys W') ∨ (∃ pre, True ∧ Jx pre W')) := by
  refine callsIn_of_wp Tryz.func185 rfl hf ?_ hro
  simp only [Tryz.ntmps185, List.size_toArray, List.length_cons, List.length_nil, Nat.reduceAdd, Nat.reduceSub, Array.replicate_succ, Array.replicate_zero, List.push_toArray, List.append_toArray, List.nil_append, List.cons_append]
  gi_wp2
  gi_loopw [3] (fun i wr => ∃ (k : Nat) (pre : List (Fin len × Int)), k ≤ len ∧ i = .int .i64 ((len : Int) - 1 - k) ∧ pre.map (·.1.val) = downs len k ∧ J pre wr ∧ wr.cell? ⟨Bs, 0, none⟩ = some (.slice (some ⟨b, off, none⟩) len cap) ∧ ∀ j, j < len → ∃ x : Int, wr.cell? ⟨b, off + j, none⟩ = some (.int .u8 x))
    (fun i _ => (intOf i + 1).toNat)
  case atStart =>
    exact ⟨0, [], Nat.zero_le _, by simp, rfl, h0, hBs, hc⟩
  case round =>
    obtain ⟨k, pre, hk, rfl, hpre, hJs, hBs', hcs⟩ := hrel
    have hpl : pre.length = k := by
      have := congrArg List.length hpre
      simpa [downs] using this
    by_cases hlt : k < len
    · obtain ⟨i, hi⟩ : ∃ i : Nat, i + 1 + k = len := ⟨len - 1 - k, by omega⟩
      have hii : (len : Int) - 1 - k = (i : Int) := by omega
      have hil : i < len := by omega
      rw [hii]
      obtain ⟨x, hx⟩ := hcs i hil
      obtain ⟨fn, tmps, assign, body, hy, hR⟩ := hY pre (⟨i, hil⟩, x) wr hJs (by omega)
      dsimp only at hy
      have hge : (0 : Int) ≤ (i : Int) := by omega
      gi_wp2
      refine hR.mono ?_
      rintro e W3 (⟨rfl, hJ3, hk3⟩ | ⟨rfl, hJx3⟩)
      · gi_wp2
        go_roundw
        case rel => exact ⟨k + 1, pre ++ [(⟨i, hil⟩, x)], by omega, by simp; omega, by rw [List.map_append, hpre, downs_succ, show len - 1 - k = i by omega]; rfl, hJ3, hk3.1 _ hBs', fun j hj => hk3.2 j hj (hcs j hj)⟩
        case measure => simp [intOf]
      · gi_wp2
        refine bodyPost_ret (results_none rfl _ _ _) rfl ?_
        exact ⟨⟨_, rfl⟩, .inr ⟨_, trivial, hJx3⟩⟩
    · obtain rfl : k = len := by omega
      have hii : (k : Int) - 1 - k = -1 := by omega
      rw [hii]
      gi_wp2
      go_end0
      exact ⟨⟨_, rfl⟩, .inl ⟨_, hpre, hJs⟩⟩

theorem backward_stops (F : Fence) (n : Nat) (hf : F.fn 185) (hro : F.round = none) (hn : 1 ≤ n) (Bs b off len cap : Nat) (hreach : len ≤ 1000000) (w : World) (hBs : Bs < w.heap.size) (hb : b < w.heap.size)
    (hc0 : w.cell? ⟨Bs, 0, none⟩ = some (.slice (some ⟨b, off, none⟩) len cap)) (hcs : ∀ j, j < len → ∃ x : Int, w.cell? ⟨b, off + j, none⟩ = some (.int .u8 x)) :
    SeqStopsK F n Tryz.prog 185 #[.pointer (some ⟨Bs, 0, none⟩)] (fun x : Fin len × Int => #[Value.int .i64 (x.1.val : Int), .int .u8 x.2]) (KpR Bs b off len) (fun ys => ys.map (·.1.val) = downs len len) (fun _ => True) len w :=
  fun l J Jx W hW _ _ hY h0 => backward1_in F n hf hro hn l Bs b off len cap hreach J Jx hY W ((hW.cell (p := ⟨Bs, 0, none⟩) hBs).trans hc0)
    (fun j hj => by obtain ⟨x, hx⟩ := hcs j hj; exact ⟨x, (hW.cell (p := ⟨b, off + j, none⟩) hb).trans hx⟩) h0

set_option maxHeartbeats 1000000 in
theorem backward_in (F : Fence) (n : Nat) (hf : F.fn 161) (hro : F.round = none) (a : Option Addr) (len cap : Nat) (w : World) :
    CallsIn F n Tryz.prog 161 #[.slice a len cap] w fun e w' => e = .returned (.func (.func 185) #[] #[.pointer (some ⟨w.heap.size, 0, none⟩)]) ∧ w' = w.alloc (.cells #[.slice a len cap] 23) := by
  refine callsIn_of_wp Tryz.func161 rfl hf ?_ hro
  simp only [Tryz.ntmps161, List.size_toArray, List.length_cons, List.length_nil, Nat.reduceAdd, Nat.reduceSub, Array.replicate_succ, Array.replicate_zero, List.push_toArray, List.append_toArray, List.nil_append, List.cons_append]
  gi_wp2
  go_ret
  exact ⟨rfl, rfl⟩

end Go.Proofs.YtfeoedkmndkbjaaGreatDoor
namespace Go.Proofs.YtfeoedkmndkbjaaGreatDoor
open Go Go.Proofs Go.RowKit Go.Shelf Go.Sx

attribute [local go_sem] Oper.semAt_some

/-- Bytes written one after the other. -/
def stP (d : List UInt8) (o n : Nat) (is : List Nat) : List UInt8 × Nat := is.foldl (fun s i => (bput s.1 (o + i) (s.2 % 256), s.2 / 256)) (d, n)

theorem stP_snoc (d : List UInt8) (o n : Nat) (is : List Nat) (i : Nat) : stP d o n (is ++ [i]) = (bput (stP d o n is).1 (o + i) ((stP d o n is).2 % 256), (stP d o n is).2 / 256) := by
  unfold stP
  rw [List.foldl_append]
  rfl

theorem stP_len (d : List UInt8) (o n : Nat) : ∀ is : List Nat, (stP d o n is).1.length = d.length := by
  intro is
  induction is generalizing d n with
  | nil => rfl
  | cons i is ih =>
    show (stP (bput d (o + i) (n % 256)) o (n / 256) is).1.length = _
    rw [ih, bput_len]

theorem stP_snd (d : List UInt8) (o n : Nat) (len : Nat) : ∀ k, (stP d o n (downs len k)).2 = n / 256 ^ k := by
  intro k
  induction k with
  | zero => simp [downs, stP]
  | succ k ih => rw [downs_succ, stP_snoc, ih, Nat.div_div_eq_div_mul, Nat.pow_succ]

theorem stP_byt (d : List UInt8) (o n len : Nat) (h : o + len ≤ d.length) : ∀ k, k ≤ len → ∀ m, byt (stP d o n (downs len k)).1 m = if o + (len - k) ≤ m ∧ m < o + len then n / 256 ^ (o + len - 1 - m) % 256 else byt d m := by
  intro k
  induction k with
  | zero =>
    intro _ m
    rw [if_neg (by omega)]
    rfl
  | succ k ih =>
    intro hk m
    rw [downs_succ, stP_snoc, byt_bput (by rw [stP_len]; omega) (Nat.mod_lt _ (by decide)), stP_snd, ih (by omega)]
    by_cases h1 : m = o + (len - 1 - k)
    · rw [if_pos h1, if_pos (by omega), show o + len - 1 - m = k by omega]
    · rw [if_neg h1]
      by_cases h2 : o + (len - k) ≤ m ∧ m < o + len
      · rw [if_pos h2, if_pos (by omega)]
      · rw [if_neg h2, if_neg (by omega)]

theorem byt_numM (n k i : Nat) (hi : i < k) : byt (numM n k) i = n / 256 ^ (k - 1 - i) % 256 := by
  unfold byt numM
  rw [List.getD_eq_getElem?_getD, List.getElem?_map, List.getElem?_range hi]
  show (UInt8.ofNat _).toNat = _
  rw [UInt8.toNat_ofNat', Nat.pow_mul]

theorem numM_len (n k : Nat) : (numM n k).length = k := by simp [numM]

theorem stP_end (d : List UInt8) (o n len : Nat) (h : o + len ≤ d.length) : (stP d o n (downs len len)).1 = lay d o (numM n len) := by
  refine byt_ext (by rw [stP_len, lay_len (by rw [numM_len]; exact h)]) fun m hm => ?_
  rw [stP_byt d o n len h len (Nat.le_refl _), byt_lay (by rw [numM_len]; exact h), numM_len, Nat.sub_self, Nat.add_zero]
  by_cases h1 : o ≤ m ∧ m < o + len
  · rw [if_pos h1, if_pos h1, byt_numM _ _ _ (by omega)]
    congr 3
    omega
  · rw [if_neg h1, if_neg h1]

end Go.Proofs.YtfeoedkmndkbjaaGreatDoor
namespace Go.Proofs.YtfeoedkmndkbjaaGreatDoor
open Go Go.Proofs Go.RowKit Go.Shelf Go.Sx

attribute [local go_sem] Oper.semAt_some

/-- What lies behind a put. -/
structure PutW (w : World) (b : Nat) (C : List Value) (et : TypeId) (W : World) : Prop where
  os : W.os = w.os
  tape : W.tape = w.tape
  output : W.output = w.output
  size : w.heap.size ≤ W.heap.size
  same : ∀ k, k < w.heap.size → k ≠ b → W.heap[k]? = w.heap[k]?
  row : W.heap[b]? = some (.cells C.toArray et (0, 0))

/-- Between two rounds. -/
structure PutI (w : World) (b o len cap : Nat) (Z : List Value) (et : TypeId) (s : List UInt8 × Nat) (W : World) : Prop where
  os : W.os = w.os
  tape : W.tape = w.tape
  output : W.output = w.output
  size : w.heap.size + 3 ≤ W.heap.size
  same : ∀ k, k < w.heap.size → k ≠ b → W.heap[k]? = w.heap[k]?
  row : W.heap[b]? = some (.cells (s.1.map byteV ++ Z).toArray et (0, 0))
  bx2 : W.heap[w.heap.size]? = some (.cells #[.slice (some ⟨b, o, none⟩) len cap] 23 (0, 0))
  bx3 : W.heap[w.heap.size + 1]? = some (.cells #[.int .u64 (s.2 : Int)] 178 (0, 0))

theorem PutI.own {w : World} {b o len cap : Nat} {Z : List Value} {et : TypeId} {α : Type} (f : α → List UInt8 × Nat) (hb : b < w.heap.size) : OwnFrom (w.heap.size + 3) fun (pre : α) W => PutI w b o len cap Z et (f pre) W := by
  intro s A B row hs hg hr
  obtain ⟨g1, g2, g3, g4, g5⟩ := hg
  have key : ∀ k, k < w.heap.size + 3 → B.heap[k]? = A.heap[k]? := fun k hk => g5 k (Nat.lt_of_lt_of_le hk hs.size) fun e => by
    have := (hr k e.symm).1
    omega
  exact ⟨g1.trans hs.os, g2.trans hs.tape, g3.trans hs.output, Nat.le_trans hs.size g4, fun k hk hkb => (key k (by omega)).trans (hs.same k hk hkb), (key b (by omega)).trans hs.row, (key _ (by omega)).trans hs.bx2, (key _ (by omega)).trans hs.bx3⟩

set_option maxRecDepth 100000 in
set_option maxHeartbeats 2000000 in
theorem put_in (F : Fence) (n : Nat) (h1 : F.fn 140) (h2 : F.fn 161) (h3 : F.fn 185) (hro : F.round = none) (hn : 3 ≤ n) (b o len cap : Nat) (d : List UInt8) (Z : List Value) (q : Nat)
    (hol : o + len ≤ d.length) (hlen : len ≤ 1000000) (w : World) (et : TypeId) (hrow : w.heap[b]? = some (.cells (d.map byteV ++ Z).toArray et (0, 0))) :
    CallsIn F n Tryz.prog 140 #[.slice (some ⟨b, o, none⟩) len cap, .int .u64 (q : Int)] w fun e W' => (∃ v, e = .returned v) ∧ PutW w b ((lay d o (numM q len)).map byteV ++ Z) et W' := by
  have hn1 : 1 ≤ n := by omega
  refine callsIn_of_wp_marks Tryz.func140 rfl h1 ?_ hro
  simp only [Tryz.ntmps140, List.size_toArray, List.length_cons, List.length_nil, Nat.reduceAdd, Nat.reduceSub, Array.replicate_succ, Array.replicate_zero, List.push_toArray, List.append_toArray, List.nil_append, List.cons_append]
  gi_wp2_with (gi_at_call 161; refine (backward_in F (n - 1) h2 hro _ _ _ _).mono ?_; rintro e w' ⟨rfl, rfl⟩)
  have hb : b < w.heap.size := lt_of_some hrow
  obtain ⟨W0, hW0⟩ : ∃ W0, ((w.alloc (Obj.cells #[Value.slice (some { block := b, off := o }) len cap] 23)).alloc (Obj.cells #[Value.int IntKind.u64 (q : Int)] 178)).alloc (Obj.cells #[Value.slice (some { block := b, off := o }) len cap] 23) = W0 := ⟨_, rfl⟩
  have hal : ∀ (W : World) (x : Obj) (k : Nat), k < W.heap.size → (W.alloc x).heap[k]? = W.heap[k]? := fun W x k hk => Below.heap_alloc W x k hk
  have hsz : W0.heap.size = w.heap.size + 3 := by rw [← hW0]; simp
  have hI0 : PutI w b o len cap Z et (d, q) W0 := by
    have hold : ∀ k, k < w.heap.size → W0.heap[k]? = w.heap[k]? := fun k hk => by
      rw [← hW0, hal _ _ k (by simp; omega), hal _ _ k (by simp; omega), hal _ _ k hk]
    refine ⟨by rw [← hW0]; rfl, by rw [← hW0]; rfl, by rw [← hW0]; rfl, by omega, fun k hk _ => hold k hk, (hold b hb).trans hrow, ?_, ?_⟩
    · rw [← hW0, hal _ _ _ (by simp; omega), hal _ _ _ (by simp)]
      exact World.alloc_heap_new _ _
    · rw [← hW0, hal _ _ _ (by simp)]
      have := World.alloc_heap_new (w.alloc (Obj.cells #[Value.slice (some { block := b, off := o }) len cap] 23)) (Obj.cells #[Value.int IntKind.u64 (q : Int)] 178)
      rwa [World.size_alloc] at this
  have hBs : W0.heap[w.heap.size + 2]? = some (.cells #[.slice (some ⟨b, o, none⟩) len cap] 23 (0, 0)) := by
    rw [← hW0]
    have := World.alloc_heap_new ((w.alloc (Obj.cells #[Value.slice (some { block := b, off := o }) len cap] 23)).alloc (Obj.cells #[Value.int IntKind.u64 (q : Int)] 178)) (Obj.cells #[Value.slice (some { block := b, off := o }) len cap] 23)
    rwa [World.size_alloc, World.size_alloc] at this
  have hcr : ∀ (W : World) (s : List UInt8 × Nat), s.1.length = d.length → PutI w b o len cap Z et s W → ∀ j, j < len → ∃ x : Int, W.cell? ⟨b, o + j, none⟩ = some (.int .u8 x) := fun W s hs h j hj => by
    refine ⟨(byt s.1 (o + j) : Int), ?_⟩
    have hlt : o + j < s.1.length := by omega
    simp [World.cell?, h.row, List.getElem?_append_left, hlt, byteV, byt, List.getD_eq_getElem?_getD]
  rw [hW0]
  refine wpIn_rangeFunc_ownG hro hn1 (gf := 185) (lb := #[.pointer (some ⟨w.heap.size + 2, 0, none⟩)]) rfl h3 (enters_of Tryz.func185 (by kernel_rfl) rfl)
    (backward_stops F (n - 1) h3 hro (by omega) (w.heap.size + 2) b o len cap hlen W0 (by omega) (by omega) (by simp [World.cell?, hBs]) (hcr W0 _ rfl hI0)) (fun h k => h.trans k) (fun W l x x' _ hx hc _ => KpR.put W l x x' hx hc) (Below.refl _ _) (fun _ => rfl)
    (fun pre W => PutI w b o len cap Z et (stP d o q (pre.map (·.1.val))) W) (fun _ _ _ => False) (by rw [hsz]; exact PutI.own _ hb) (fun _ _ _ _ _ hs _ _ => hs) hI0
    (fun x => { tmps := #[.slice (some ⟨b, o, none⟩) len cap, .int .u64 (q : Int), .pointer (some ⟨w.heap.size, 0, none⟩), .pointer (some ⟨w.heap.size + 1, 0, none⟩), .int .i64 (x.1.val : Int), .slice (some ⟨b, o, none⟩) len cap, .func (.func 185) #[] #[.pointer (some ⟨w.heap.size + 2, 0, none⟩)], .int .i64 (x.1.val : Int), .int .u8 x.2, undef, undef, undef, undef, undef, undef, undef], defers := [] }) ?assign ?body ?done ?stop
  case assign =>
    intro l x W K hK
    gi_wp2
    exact hK
  case body =>
    rintro l pre ⟨⟨i, hi⟩, y⟩ W hI hpl
    have hst := stP_len d o q (pre.map (·.1.val))
    obtain ⟨s, hs⟩ : ∃ s, s = stP d o q (pre.map (·.1.val)) := ⟨_, rfl⟩
    have hsn : stP d o q (List.map (fun x : Fin len × Int => x.1.val) (pre ++ [(⟨i, hi⟩, y)])) = (bput s.1 (o + i) (s.2 % 256), s.2 / 256) := by
      rw [List.map_append, hs]
      exact stP_snoc d o q _ i
    rw [← hs] at hI hst
    clear hs
    obtain ⟨z, hz⟩ := hcr W s hst hI i hi
    have c2 : W.cell? ⟨w.heap.size, 0, none⟩ = some (.slice (some ⟨b, o, none⟩) len cap) := by simp [World.cell?, hI.bx2]
    have c3 : W.cell? ⟨w.heap.size + 1, 0, none⟩ = some (.int .u64 (s.2 : Int)) := by simp [World.cell?, hI.bx3]
    have fz : W.frozen? ⟨b, o + i, none⟩ = false := by simp [World.frozen?, hI.row]
    have f3 : W.frozen? ⟨w.heap.size + 1, 0, none⟩ = false := by simp [World.frozen?, hI.bx3]
    dsimp only
    gi_wp2
    have hv1 : Value.int .u8 ((s.2 : Int) % 256) = byteV (UInt8.ofNat (s.2 % 256)) := by
      unfold byteV
      rw [UInt8.toNat_ofNat']
      congr 1
      omega
    have hv2 : ((s.2 : Int) / 256) = ((s.2 / 256 : Nat) : Int) := by omega
    rw [hv1, hv2]
    obtain ⟨W1, hW1⟩ : ∃ W1, (W.setCell ⟨b, o + i, none⟩ (byteV (UInt8.ofNat (s.2 % 256)))).setCell ⟨w.heap.size + 1, 0, none⟩ (.int .u64 ((s.2 / 256 : Nat) : Int)) = W1 := ⟨_, rfl⟩
    have hkf : KeepsFrom W0.heap.size W W1 := by
      rw [← hW1]
      exact ((KeepsOthers.setCell _ _ _).trans (KeepsOthers.setCell _ _ _)).from _
    have hot : ∀ k, k ≠ b → k ≠ w.heap.size + 1 → W1.heap[k]? = W.heap[k]? := fun k hk1 hk2 => by
      rw [← hW1]
      simp [World.setCell, Array.getElem?_modify, Ne.symm hk1, Ne.symm hk2]
    have hwb : W1.heap[b]? = some (.cells ((bput s.1 (o + i) (s.2 % 256)).map byteV ++ Z).toArray et (0, 0)) := by
      rw [← hW1]
      have hne : w.heap.size + 1 ≠ b := by omega
      simp only [World.setCell, Array.getElem?_modify, hI.row, hne, if_false, if_true, Option.map_some]
      rw [List.setIfInBounds_toArray, List.set_append_left _ _ (by simp; omega), ← List.map_set]
      rfl
    have hw3 : W1.heap[w.heap.size + 1]? = some (.cells #[.int .u64 ((s.2 / 256 : Nat) : Int)] 178 (0, 0)) := by
      rw [← hW1]
      have hne : b ≠ w.heap.size + 1 := by omega
      simp [World.setCell, Array.getElem?_modify, hI.bx3, hne]
    have hg : W1.os = W.os ∧ W1.tape = W.tape ∧ W1.output = W.output ∧ W1.heap.size = W.heap.size := by
      rw [← hW1]
      simp [World.setCell]
    rw [hW1]
    have hI1 : PutI w b o len cap Z et (bput s.1 (o + i) (s.2 % 256), s.2 / 256) W1 :=
      ⟨hg.1.trans hI.os, hg.2.1.trans hI.tape, hg.2.2.1.trans hI.output, by rw [hg.2.2.2]; exact hI.size, fun k hk hkb => (hot k hkb (by omega)).trans (hI.same k hk hkb), hwb, (hot _ (by omega) (by omega)).trans hI.bx2, hw3⟩
    refine ⟨hkf, ⟨fun v hv => ?_, fun j hj _ => hcr W1 _ ((bput_len _ _ _).trans hst) hI1 j hj⟩, ?_⟩
    · rw [← hv]
      exact World.cell?_of_block (hot _ (by show w.heap.size + 2 ≠ b; omega) (by show w.heap.size + 2 ≠ _; omega))
    · show PutI w b o len cap Z et (stP d o q (List.map (fun x : Fin len × Int => x.1.val) (pre ++ [(⟨i, hi⟩, y)]))) W1
      rw [hsn]
      exact hI1
  case done =>
    rintro D ys W hD hys hI hK
    gi_wp2
    refine ⟨by simp, .inl ⟨_, _, rfl, run_takeDeferred hK, ?_⟩⟩
    have hys' : ys.map (fun x : Fin len × Int => x.1.val) = downs len len := hys
    rw [hys'] at hI
    have hk : ∀ k, k < w.heap.size + 3 → (W.putObj D (.deferred none)).heap[k]? = W.heap[k]? := fun k hk => World.putObj_heap_other (by omega)
    have hrw := hI.row
    rw [stP_end d o q len hol] at hrw
    exact ⟨_, results_none rfl _ _ _, ⟨_, rfl⟩, hI.os, hI.tape, hI.output, by have := hI.size; simp; omega, fun k hk1 hkb => (hk k (by omega)).trans (hI.same k hk1 hkb), (hk b (by omega)).trans hrw⟩
  case stop =>
    rintro D c pre W _ _ h _
    exact h.elim

theorem put_calls (b o len cap : Nat) (d : List UInt8) (Z : List Value) (q : Nat) (hol : o + len ≤ d.length) (hlen : len ≤ 1000000) (w : World) (et : TypeId) (hrow : w.heap[b]? = some (.cells (d.map byteV ++ Z).toArray et (0, 0))) :
    Calls Tryz.prog 140 #[.slice (some ⟨b, o, none⟩) len cap, .int .u64 (q : Int)] w fun e W' => (∃ v, e = .returned v) ∧ PutW w b ((lay d o (numM q len)).map byteV ++ Z) et W' :=
  callsIn_wide.1 (put_in Fence.wide 3 trivial trivial trivial rfl (by omega) b o len cap d Z q hol hlen w et hrow)

theorem put_spec (b o len cap : Nat) (d : List UInt8) (Z : List Value) (q : Nat) (hol : o + len ≤ d.length) (hlen : len ≤ 1000000) :
    RowsSpec Tryz.prog 140 [.slice (some ⟨b, o, none⟩) len cap, .int .u64 (q : Int)] [(b, Row.c (d.map byteV ++ Z))] (fun _ => True) (fun v F => F = ⟨fun _ => True, [(b, Row.c ((lay d o (numM q len)).map byteV ++ Z))]⟩) := by
  unfold RowsSpec
  refine ⟨⟨_, Tryz.func140, by decide, by decide⟩, fun av w hav hrows hnd hpre => ?_⟩
  obtain ⟨⟨et, hrow⟩, hnav⟩ := hrows (b, Row.c (d.map byteV ++ Z)) (List.mem_singleton.2 rfl)
  refine (put_calls b o len cap d Z q hol hlen w et hrow).mono ?_
  rintro e W ⟨⟨v, rfl⟩, hW⟩
  have hb : b < w.heap.size := lt_of_some hrow
  refine ⟨v, _, rfl, ⟨hW.os, hW.tape, hW.output, hW.size, fun k x hk => ?_⟩, fun r hr => ?_, by simp, .pure trivial, rfl⟩
  · by_cases hkb : k = b
    · subst hkb
      rw [hrow] at hk
      cases hk
      exact ⟨_, hW.row, .inr (.inl ⟨_, _, _, _, rfl, rfl, by simp [lay_len (show o + (numM q len).length ≤ d.length by rw [numM_len]; exact hol)], fun i hi => absurd ⟨_, List.mem_singleton.2 rfl, rfl⟩ hi⟩)⟩
    · exact ⟨x, (hW.same k (lt_of_some hk) hkb).trans hk, .refl _ _⟩
  · rw [List.mem_singleton] at hr
    subst hr
    exact ⟨⟨et, hW.row⟩, .inr ⟨⟨_, List.mem_singleton.2 rfl, rfl⟩, CM_c _⟩⟩

end Go.Proofs.YtfeoedkmndkbjaaGreatDoor
namespace Go.Proofs.YtfeoedkmndkbjaaGreatDoor
open Go Go.Sx
set_option maxRecDepth 100000
set_option maxHeartbeats 4000000
set_option linter.unusedVariables false
set_option linter.unusedSimpArgs false

theorem step_xc (a x : Nat) : ∃ q : Nat, IntKind.u64.wrap (Sx.bits .xor .u64 (a : Int) (IntKind.u64.wrap (x : Int)) * 15111065706836454659) = (q : Int) ∧ Sx.bits .xor .u64 (q : Int) ((q / 2 ^ 29 : Nat) : Int) = (stepM a x : Int) := by
  obtain ⟨q, hq⟩ := u64_nat (Sx.bits .xor .u64 (a : Int) (IntKind.u64.wrap (x : Int)) * 15111065706836454659)
  refine ⟨q, hq, ?_⟩
  have hm : mixM a x = q := by
    unfold mixM
    rw [hq]
    rfl
  have hs : stepM a x = (Sx.bits .xor .u64 (mixM a x : Int) ((mixM a x / 2 ^ 29 : Nat) : Int)).toNat := by unfold stepM; rfl
  rw [hm] at hs
  obtain ⟨c, hc⟩ : ∃ c : Nat, Sx.bits .xor .u64 (q : Int) ((q / 2 ^ 29 : Nat) : Int) = (c : Int) := u64_nat _
  rw [hs, hc]
  rfl

theorem psumFrom_spec (h : Nat) (l : List UInt8) (k : Hd) (hk : k.Ok l.length) (hl : l.length ≤ 1000000) : PureSpec Tryz.prog 162 [.int .u64 (h : Int), k.v l.length] (fun w => By w k l) (fun v F => v = .int .u64 (fromM h l : Int)) := by
  refine PureSpec.of_xc tabOk Tryz.func162 rfl (by decide) (n := Tryz.f162.ntmps - 2) rfl rfl fun w0 av => ?_
  conv => whnf
  refine XStop.loop tabOk (ι := Nat × Nat) ([0, 5, 6, 7] ++ List.range' 10 14) (fun x => x.1 ≤ l.length ∧ x.2 = fromM h (l.take x.1))
    (fun x => [(0, .v (.int .u64 (x.2 : Int))), (10, .v (.int .i64 (x.1 : Int)))]) (fun _ => []) (fun _ => ⟨fun w => By w k l, []⟩)
    (fun x => l.length - x.1) (0, h) ⟨Nat.zero_le _, rfl⟩ ?_ rfl (Ent.refl _) fun x hx => ?_
  · conv => whnf
    repeat (first | exact FLe.nil | refine FLe.any ?_ | refine FLe.cons ?_)
  obtain ⟨i, a⟩ := x
  obtain ⟨hi, ha⟩ := hx
  dsimp only at hi ha ⊢
  conv => whnf
  refine XIf.split (fun hlt => ?_) (fun hlt => ?_)
  · have hlt' : i < l.length := by
      simp only [iLt_eq, decide_eq_true_eq] at hlt
      omega
    have hft := fromM_take (h := h) hlt'
    rw [← ha] at hft
    obtain ⟨q, hq, hs⟩ := step_xc a (byt l i)
    rw [← hft] at hs
    conv => whnf
    repeat (refine XSame.of ?_; conv => whnf)
    refine XVal.of_read (XRead.byteAt tabOk (t := 23) rfl rfl rfl rfl i rfl hlt' hk fun ad had => ?_)
    conv => whnf
    repeat (refine XSame.of ?_; conv => whnf)
    refine XVal.of_read (XRead.byteLd' tabOk (t := 5) rfl rfl had (.fact fun w h => h) rfl hlt' ?_)
    conv => whnf
    repeat (refine XSame.of ?_; conv => whnf)
    rw [hq]
    refine XVal.of_read (XRead.shr (a := q) (j := 29) rfl (by decide) ?_)
    conv => whnf
    repeat (refine XSame.of ?_; conv => whnf)
    rw [hs]
    refine ⟨(i + 1, fromM h (l.take (i + 1))), ⟨⟨hlt', rfl⟩, by dsimp only; omega⟩, ?_, ?_, Ent.refl _⟩
    · conv => whnf
      refine ⟨?_, rfl⟩
      repeat (first | exact FLe.nil | refine FLe.any ?_ | refine FLe.cons ?_ | refine FLe.eq (by rw [wrap_i64 (by omega)]; rfl) ?_)
    · conv => whnf
      exact trivial
  · have hie : i = l.length := by
      simp only [iLt_eq, decide_eq_false_iff_not] at hlt
      omega
    subst hie
    rw [List.take_length] at ha
    subst ha
    conv => whnf
    repeat (refine XSame.of ?_; conv => whnf)
    exact ⟨_, Ent.refl _, rfl⟩

theorem peight_spec (h : Nat) (hh : h < 1000000000) (c : Nat) (hc : c = 0) : PureSpec Tryz.prog 163 [.slice none c 0, .int .i64 (h : Int)] (fun _ => True) (fun v F => RelB (eightM h) v F) := by
  subst hc
  refine PureSpec.of_xc tabOk Tryz.func163 rfl (by decide) (n := Tryz.f163.ntmps - 2) rfl rfl fun w0 av => ?_
  conv => whnf
  generalize h8 : (8 : Int) = n8
  refine XStop.loop tabOk (ι := Nat × Option Addr × Nat × List Value × List UInt8) ([0, 5] ++ List.range' 6 13) (fun x => x.1 ≤ 8 ∧ x.2.2.2.2 = (List.range x.1).map (fun j => UInt8.ofNat (h / 256 ^ j)) ∧ Go.Sx.Own 1 x.1 x.2.1 x.2.2.1 x.2.2.2.1 (x.2.2.2.2.map byteV))
    (fun x => [(0, .v (.slice x.2.1 x.1 x.2.2.1)), (6, .v (.int .i64 (x.1 : Int)))]) (fun _ => []) (fun x => ⟨fun _ => True, orow x.2.1 x.2.2.2.1⟩)
    (fun x => 8 - x.1) (0, none, 0, [], []) ⟨Nat.zero_le _, rfl, Go.Sx.Own.nil 1⟩ ?_ rfl (Ent.of_le ⟨by simp [orow], fun w hw => hw⟩) fun x hx => ?_
  · conv => whnf
    repeat (first | exact FLe.nil | refine FLe.any ?_ | refine FLe.cons ?_)
  obtain ⟨i, a, cap, C, l⟩ := x
  obtain ⟨hi, hll, hO⟩ := hx
  dsimp only at hi hll hO ⊢
  subst h8
  conv => whnf
  refine XIf.split (fun hlt => ?_) (fun hlt => ?_)
  · have hlt' : i < 8 := by
      simp only [iLt_eq, decide_eq_true_eq] at hlt
      omega
    have e1 : IntKind.i64.wrap (8 * (i : Int)) = ((8 * i : Nat) : Int) := by rw [wrap_i64 (by omega)]; omega
    have e2 : IntKind.u64.wrap (h : Int) = (h : Int) := by
      simp [IntKind.wrap, IntKind.bits, IntKind.signed]
      omega
    have e3 : h / 2 ^ (8 * i) = h / 256 ^ i := by rw [Nat.pow_mul]
    conv => whnf
    repeat (refine XSame.of ?_; conv => whnf)
    rw [e2]
    refine XVal.of_read (XRead.shr (a := h) (j := 8 * i) e1 (by show _ ≤ 64; omega) ?_)
    rw [e3]
    conv => whnf
    repeat (refine XSame.of ?_; conv => whnf)
    generalize hqq : h / 256 ^ i = q
    rw [byte_u8]
    refine XVal.build tabOk (t := 23) rfl rfl rfl [byteV (UInt8.ofNat q)] rfl rfl (by simp [byteV, Value.cells]) (by decide) fun b0 => ?_
    conv => whnf
    repeat (refine XSame.of ?_; conv => whnf)
    refine XVal.ent (F' := ⟨fun _ => True, [] ++ orow a C ++ [(b0, Row.c [byteV (UInt8.ofNat q)])]⟩) (Ent.of_le ⟨by simp [byteV, Value.cells], fun w hw => hw⟩) ?_
    refine XVal.append tabOk (t := 23) (xt := 23) rfl rfl rfl rfl rfl rfl (r1 := []) (r2 := [(b0, Row.c [byteV (UInt8.ofNat q)])]) (M := [byteV (UInt8.ofNat q)]) hO (Sees.row (by simp)) rfl one_own (by omega) (by simp; omega) fun a' c' C' hO' => ?_
    conv => whnf
    repeat (refine XSame.of ?_; conv => whnf)
    refine ⟨(i + 1, a', c', C', l ++ [UInt8.ofNat q]), ⟨⟨hlt', ?_, ?_⟩, by dsimp only; omega⟩, ?_, ?_, ?_⟩
    · dsimp only
      rw [List.range_succ, List.map_append, List.map_singleton, hll, ← hqq]
    · dsimp only
      rw [List.map_append]
      exact hO'
    · conv => whnf
      refine ⟨?_, rfl⟩
      repeat (first | exact FLe.nil | refine FLe.any ?_ | refine FLe.cons ?_ | refine FLe.eq (by rw [wrap_i64 (by omega)]; rfl) ?_)
    · conv => whnf
      exact trivial
    · exact Ent.of_le ⟨by simp, fun w hw => hw⟩
  · have hie : i = 8 := by
      simp only [iLt_eq, decide_eq_false_iff_not] at hlt
      omega
    subst hie
    conv => whnf
    have hl8 : l.length = 8 := by rw [hll]; simp
    have hle : eightM h = l := hll.symm
    rw [hle]
    refine ⟨⟨fun w => RowAt w a (l.map byteV), []⟩, (Go.Sx.Own.gives hO).trans (Ent.imp fun w hw => hw.2), ⟨a, cap⟩, ?_, ?_, rfl⟩
    · rw [hl8]
    · rw [hl8]
      exact hO.hd

theorem psum_spec (l : List UInt8) (k : Hd) (hk : k.Ok l.length) (hl : l.length ≤ 1000000) : PureSpec Tryz.prog 141 [k.v l.length] (fun w => By w k l) (fun v F => v = .int .u64 (ofM l : Int)) := by
  have hof : ofM l = fromM (fromM 125762890854254 l) (eightM l.length) := rfl
  have hml : (eightM l.length).length = 8 := by simp [eightM]
  have he := peight_spec l.length (by omega) 0 rfl
  generalize ofM l = om at *
  generalize eightM l.length = m at *
  refine PureSpec.of_xc tabOk Tryz.func141 rfl (by decide) (n := Tryz.f141.ntmps - 1) rfl rfl fun w0 av => ?_
  conv => whnf
  repeat (refine XSame.of ?_; conv => whnf)
  have hf1 := psumFrom_spec 125762890854254 l k hk hl
  generalize fromM 125762890854254 l = a at *
  refine XCall.val hf1 (fun w hw => hw) (fun v D hv => ?_)
  subst hv
  conv => whnf
  repeat (refine XSame.of ?_; conv => whnf)
  refine XCall.pure he (fun w hw => trivial) (fun v D hv => ?_)
  obtain ⟨km, rfl, hkm, rfl⟩ := hv
  conv => whnf
  repeat (refine XSame.of ?_; conv => whnf)
  refine XCall.val (psumFrom_spec a m km hkm (by omega)) (fun w hw => hw.2) (fun v D hv => ?_)
  rw [← hof] at hv
  subst hv
  conv => whnf
  repeat (refine XSame.of ?_; conv => whnf)
  exact ⟨_, Ent.refl _, rfl⟩

end Go.Proofs.YtfeoedkmndkbjaaGreatDoor
namespace Go.Proofs.YtfeoedkmndkbjaaGreatDoor
open Go Go.Sx
set_option maxRecDepth 100000
set_option maxHeartbeats 4000000
set_option linter.unusedVariables false
set_option linter.unusedSimpArgs false

def hd16 : List UInt8 := lay (bput (lay (List.replicate 128 0) 0 [74, 82, 78, 48]) 4 0) 16 (numM 0 4)

theorem hd16_eq : hd16 = preM ++ List.replicate 108 0 := by decide +kernel

theorem preM_len : preM.length = 20 := by decide +kernel

theorem hd16_take : hd16.take 20 = preM := by
  rw [hd16_eq, ← preM_len, List.take_left]

theorem hd16_lay {m : List UInt8} (hm : m.length = 8) : lay hd16 20 m = preM ++ m ++ List.replicate 100 0 := by
  unfold lay
  rw [hd16_take, hm, hd16_eq, List.drop_append, List.drop_eq_nil_of_le (by rw [preM_len]; decide), preM_len]
  simp

theorem loc_by (h : Hd) (l : List UInt8) : Go.Sx.Loc fun w => By w h l := Loc.row _ _

theorem row_by {w0 : World} {R : Nat → Nat → Prop} {av : Nat → Prop} {w : World} {bs : List (Nat × Nat)} {cs : List (List Value)} {F : Fx} {b cap : Nat} {l : List UInt8} {Z : List Value} (hm : (b, Row.c (l.map byteV ++ Z)) ∈ F.rs) (hst : St w0 R av w bs cs F) : By w ⟨some ⟨b, 0, none⟩, cap⟩ l := by
  have h := (Sees.row hm w hst).take l.length
  have e : l.length = (l.map byteV).length := by simp
  rw [e, List.take_left] at h
  exact h

theorem pheader_spec (seq : Int) (hseq : seq = 0) (n c : Nat) (hn : n = 0) : PureSpec Tryz.prog 111 [strV [74, 82, 78, 48], .slice none n c, .int .i64 seq, .slice none 0 0] (fun _ => True) (RelO hdrM) := by
  have hH : hdrM = preM ++ numM (ofM preM) 8 ++ List.replicate 100 0 := rfl
  rw [← hd16_lay (numM_len _ _)] at hH
  have h16 : hd16 = lay (bput (lay (List.replicate 128 0) 0 [74, 82, 78, 48]) 4 0) 16 (numM 0 4) := rfl
  have htk := hd16_take
  have hpl := preM_len
  have hl16 : hd16.length = 128 := by rw [hd16_eq]; simp [preM_len]
  generalize hdrM = HH at *
  generalize preM = PP at *
  generalize hd16 = D16 at *
  refine PureSpec.of_xc tabOk Tryz.func111 rfl (by decide) (n := Tryz.f111.ntmps - 4) rfl rfl fun w0 av => ?_
  conv => whnf
  repeat (refine XSame.of ?_; conv => whnf)
  refine XVal.makeBytes tabOk (t := 23) rfl rfl rfl rfl rfl rfl 128 rfl rfl (by decide) (by decide) fun b => ?_
  have hl0 : (List.replicate 128 (0 : UInt8)).length = 128 := List.length_replicate
  generalize List.replicate 128 (0 : UInt8) = d0 at *
  conv => whnf
  repeat (refine XSame.of ?_; conv => whnf)
  refine XVal.ent (F' := ⟨fun w => True, [] ++ [(b, Row.c (d0.map byteV ++ []))] ++ []⟩) (Ent.of_le ⟨by simp, fun w hw => trivial⟩) ?_
  refine XVal.copyStr tabOk (t := 23) rfl rfl rfl rfl (r1 := []) (r2 := []) (b := b) (k := 0) (l := d0) (m := [74, 82, 78, 48]) (Z := []) rfl (by simp) (by simp; omega) ?_
  have hl1 : (lay d0 0 [74, 82, 78, 48]).length = 128 := by rw [lay_len (by simp; omega), hl0]
  generalize lay d0 0 [74, 82, 78, 48] = d1 at *
  conv => whnf
  repeat (refine XSame.of ?_; conv => whnf)
  refine XVal.of_read (XRead.rowIxAt tabOk (t := 23) rfl rfl rfl rfl 4 rfl (by omega) ?_)
  conv => whnf
  repeat (refine XSame.of ?_; conv => whnf)
  refine XUnit.storeByte tabOk (t := 5) rfl rfl (r1 := []) (r2 := []) (l := d1) (Z := []) 0 rfl (by rw [hn]; rfl) (by decide) (by omega) ?_
  have hl2 : (bput d1 4 0).length = 128 := by rw [bput_len, hl1]
  generalize bput d1 4 0 = d2 at *
  conv => whnf
  repeat (refine XSame.of ?_; conv => whnf)
  refine XStop.loop tabOk (ι := Nat) ([10, 11] ++ List.range' 23 12) (fun x => x = 0)
    (fun x => [(23, .v (.int .i64 (x : Int)))]) (fun _ => []) (fun x => ⟨fun w => True, [] ++ [(b, Row.c (d2.map byteV ++ []))] ++ []⟩)
    (fun x => x) 0 rfl ?_ rfl (Ent.refl _) fun y hy => ?_
  · conv => whnf
    repeat (first | exact FLe.nil | refine FLe.any ?_ | refine FLe.cons ?_)
  conv => whnf
  repeat (refine XSame.of ?_; conv => whnf)
  refine XIf.no (by subst hy; simp [iLt_eq, hn]) ?_
  conv => whnf
  repeat (refine XSame.of ?_; conv => whnf)
  refine XVal.of_read (XRead.sub2 tabOk (t := 23) rfl rfl rfl rfl (h := ⟨some ⟨b, 0, none⟩, 128⟩) 16 4 rfl rfl (by dsimp only; omega) ?_)
  rw [sub_row (by decide)]
  conv => whnf
  repeat (refine XSame.of ?_; conv => whnf)
  have hq : IntKind.u64.wrap seq = ((0 : Nat) : Int) := by rw [hseq]; rfl
  rw [hq]
  refine XCall.rows (put_spec b 16 4 (128 - 16) d2 [] 0 (by omega) (by decide)) (fun w hw => trivial) (fun v F hv => ?_)
  subst hv
  rw [← h16]
  conv => whnf
  repeat (refine XSame.of ?_; conv => whnf)
  refine XStop.ent (F' := ⟨fun w => True, [] ++ [(b, Row.c (D16.map byteV ++ []))] ++ []⟩) (Ent.of_le ⟨by simp, fun w hw => trivial⟩) ?_
  have hcl := clone_spec PP ⟨some ⟨b, 0, none⟩, 128⟩ ⟨fun h => (by cases h), by dsimp only; omega⟩ (by omega) (by omega)
  rw [hpl] at hcl
  have hby : ∀ (R : Nat → Nat → Prop) (bs : List (Nat × Nat)) (cs : List (List Value)) (F : Fx), (b, Row.c (D16.map byteV ++ [])) ∈ F.rs → ∀ w, St w0 R av w bs cs F → By w ⟨some ⟨b, 0, none⟩, 128⟩ PP := fun R bs cs F hm w hst => by
    have h := (Sees.row hm w hst).take 20
    rw [List.append_nil, ← List.map_take, htk] at h
    exact h
  refine XStop.draw tabOk mixed rfl rfl ?_
  conv => whnf
  refine XRead.sub2 tabOk (t := 23) rfl rfl rfl rfl (h := ⟨some ⟨b, 0, none⟩, 128⟩) 20 8 rfl rfl (by dsimp only; omega) ?_
  rw [sub_row (by decide)]
  conv => whnf
  refine XRead.subTo tabOk (t := 23) rfl rfl rfl (h := ⟨some ⟨b, 0, none⟩, 128⟩) 20 rfl (by dsimp only; omega) ?_
  conv => whnf
  refine XCall.from hcl (loc_by _ _) (fun w hst => hby _ _ _ _ (by simp) w hst) (fun v D hv => ?_)
  obtain ⟨b2, c2, Z2, rfl, hc2, rfl⟩ := hv
  refine ⟨fun w => trivial, ?_⟩
  have hps := psum_spec PP ⟨some ⟨b2, 0, none⟩, c2⟩ ⟨fun h => (by cases h), hc2⟩ (by omega)
  generalize ofM PP = s at *
  conv => whnf
  refine XVal.append0 tabOk (t := 23) (xt := 23) rfl rfl rfl rfl rfl hc2 rfl (.fact fun w hw => By.nil w) ?_
  conv => whnf
  refine XCall.look hps (loc_by _ _) (fun w hst => row_by (Z := Z2) (by simp [Fx.and]) hst) ?_
  conv => whnf
  refine XCall.ent (F' := ⟨fun w => True, [] ++ [(b, Row.c (D16.map byteV ++ []))] ++ []⟩) (Ent.of_le ⟨by simp [Fx.and], fun w hw => trivial⟩) ?_
  refine XCall.rows (put_spec b 20 8 (128 - 20) D16 [] s (by omega) (by decide)) (fun w hw => trivial) (fun v F hv => ?_)
  subst hv
  rw [← hH]
  have hHl : HH.length = 128 := by rw [hH, lay_len (by rw [numM_len]; omega), hl16]
  conv => whnf
  exact relO_row (by omega) (by omega)

theorem pempty_spec (seq : Int) (hs : seq = 0) : PureSpec Tryz.prog 62 [.int .i64 seq] (fun _ => True) (fun v F => ∃ b cap Z, v = .tuple #[.slice (some ⟨b, 0, none⟩) hdrM.length cap, .int .i64 0] ∧ hdrM.length ≤ cap ∧ F = ⟨fun _ => True, [(b, Row.c (hdrM.map byteV ++ Z))]⟩) := by
  have hp := pheader_spec seq hs 0 0 rfl
  generalize hdrM = HH at *
  refine PureSpec.of_xc tabOk Tryz.func62 rfl (by decide) (n := Tryz.f62.ntmps - 1) rfl rfl fun w0 av => ?_
  conv => whnf
  repeat (refine XSame.of ?_; conv => whnf)
  refine XIf.no (by simp [iLt_eq, iGt_eq, hs]) ?_
  conv => whnf
  repeat (refine XSame.of ?_; conv => whnf)
  refine XCall.pure hp (fun w hw => trivial) (fun v D hv => ?_)
  obtain ⟨b, c, Z, rfl, hc, rfl⟩ := hv
  conv => whnf
  repeat (refine XSame.of ?_; conv => whnf)
  exact ⟨⟨fun _ => True, [(b, Row.c (HH.map byteV ++ Z))]⟩, Ent.of_le ⟨by simp [Fx.and], fun w hw => trivial⟩, b, c, Z, rfl, hc, rfl⟩

end Go.Proofs.YtfeoedkmndkbjaaGreatDoor
namespace Go.Proofs.YtfeoedkmndkbjaaGreatDoor
open Go Go.Sx
set_option maxRecDepth 100000
set_option maxHeartbeats 4000000
set_option linter.unusedVariables false
set_option linter.unusedSimpArgs false

def qFst : Code → Code
  | .seq a _ => a
  | _ => .skip
def qSnd : Code → Code
  | .seq _ b => b
  | _ => .skip

def g0 : Nat → Ino := fun _ => (0, 0, fun _ => 0)

theorem byt_ino0 (r : Nat) : byt (inoB 0 0 fun _ => 0) r = 0 := by
  have h : inoB 0 0 (fun _ => 0) = List.replicate 16 0 := by decide
  rw [h]
  unfold byt
  rw [List.getD_eq_getElem?_getD, List.getElem?_replicate]
  split <;> rfl

theorem done_fmt {d bits : List UInt8} (hd : d.length = 12288) (hb : bits.length = 12) (hz : ∀ m, 1792 ≤ m → m < 2304 → byt d m = 0) (b : Nat → Nat) :
    doneD d (upd g0 0 (2, 128, b)) bits = putI (setBmp d bits) 0 2 128 b := by
  have h1 := setBmp_len hd hb
  refine byt_ext (by rw [doneD_len hd _ hb, putI_len h1 (by decide)]) fun m hm => ?_
  unfold doneD
  rw [byt_setBmp (putsD_len hd _ (Nat.le_refl _)) hb, byt_puts hd _ (Nat.le_refl _), byt_putI h1 (by decide), byt_setBmp hd hb]
  by_cases c1 : 1664 ≤ m ∧ m < 1676
  · rw [if_pos c1, if_neg (by omega), if_pos c1]
  rw [if_neg c1, if_neg c1]
  by_cases c2 : 1792 ≤ m ∧ m < 1792 + 16 * 32
  · rw [if_pos c2]
    by_cases c3 : (m - 1792) / 16 = 0
    · rw [if_pos (by omega)]
      unfold upd
      rw [if_pos c3, show (m - 1792) % 16 = m - (1792 + 16 * 0) by omega]
    · rw [if_neg (by omega), hz m (by omega) (by omega)]
      unfold upd
      rw [if_neg c3]
      exact byt_ino0 _
  · rw [if_neg c2, if_neg (by omega)]

theorem pformat_spec : PureSpec Tryz.prog 32 [] (fun _ => True) (RelO fmtX) := by
  have hX : fmtX = putI (setBmp (lay (lay (List.replicate 12288 0) 0 [82, 70, 83, 49]) 128 hdrM) (wantB (List.range 19))) 0 2 128 (fun i => if i = 0 then 18 else 0) := rfl
  generalize fmtX = XX at *
  have hep := pempty_spec 0 rfl
  have hhl : hdrM.length = 128 := by
    have : hdrM = preM ++ numM (ofM preM) 8 ++ List.replicate 100 0 := rfl
    rw [this, List.length_append, List.length_append, numM_len, preM_len, List.length_replicate]
  generalize hdrM = HH at *
  obtain ⟨c1, hc1⟩ : ∃ c, c = qSnd (Tryz.f32.body.getD .skip) := ⟨_, rfl⟩
  obtain ⟨c2, hc2⟩ : ∃ c, c = qSnd (qSnd (Tryz.f32.body.getD .skip)) := ⟨_, rfl⟩
  obtain ⟨c3, hc3⟩ : ∃ c, c = qSnd (qSnd (qSnd (Tryz.f32.body.getD .skip))) := ⟨_, rfl⟩
  obtain ⟨c4, hc4⟩ : ∃ c, c = qSnd (qSnd (qSnd (qSnd (Tryz.f32.body.getD .skip)))) := ⟨_, rfl⟩
  obtain ⟨c5, hc5⟩ : ∃ c, c = qSnd (qSnd (qSnd (qSnd (qSnd (Tryz.f32.body.getD .skip))))) := ⟨_, rfl⟩
  obtain ⟨c6, hc6⟩ : ∃ c, c = qSnd (qSnd (qSnd (qSnd (qSnd (qSnd (Tryz.f32.body.getD .skip)))))) := ⟨_, rfl⟩
  obtain ⟨c7, hc7⟩ : ∃ c, c = qSnd (qSnd (qSnd (qSnd (qSnd (qSnd (qSnd (Tryz.f32.body.getD .skip))))))) := ⟨_, rfl⟩
  obtain ⟨c8, hc8⟩ : ∃ c, c = qSnd (qSnd (qSnd (qSnd (qSnd (qSnd (qSnd (qSnd (Tryz.f32.body.getD .skip)))))))) := ⟨_, rfl⟩
  obtain ⟨c9, hc9⟩ : ∃ c, c = qSnd (qSnd (qSnd (qSnd (qSnd (qSnd (qSnd (qSnd (qSnd (Tryz.f32.body.getD .skip))))))))) := ⟨_, rfl⟩
  have hB : Tryz.f32.body = some (.seq (qFst (Tryz.f32.body.getD .skip)) c1) := by rw [hc1]; rfl
  have hB1 : c1 = .seq (qFst (qSnd (Tryz.f32.body.getD .skip))) c2 := by rw [hc1, hc2]; rfl
  have hB2 : c2 = .seq (qFst (qSnd (qSnd (Tryz.f32.body.getD .skip)))) c3 := by rw [hc2, hc3]; rfl
  have hB3 : c3 = .seq (qFst (qSnd (qSnd (qSnd (Tryz.f32.body.getD .skip))))) c4 := by rw [hc3, hc4]; rfl
  have hB4 : c4 = .seq (qFst (qSnd (qSnd (qSnd (qSnd (Tryz.f32.body.getD .skip)))))) c5 := by rw [hc4, hc5]; rfl
  have hB5 : c5 = .seq (qFst (qSnd (qSnd (qSnd (qSnd (qSnd (Tryz.f32.body.getD .skip))))))) c6 := by rw [hc5, hc6]; rfl
  have hB6 : c6 = .seq (qFst (qSnd (qSnd (qSnd (qSnd (qSnd (qSnd (Tryz.f32.body.getD .skip)))))))) c7 := by rw [hc6, hc7]; rfl
  have hB7 : c7 = .seq (qFst (qSnd (qSnd (qSnd (qSnd (qSnd (qSnd (qSnd (Tryz.f32.body.getD .skip))))))))) c8 := by rw [hc7, hc8]; rfl
  have hB8 : c8 = .seq (qFst (qSnd (qSnd (qSnd (qSnd (qSnd (qSnd (qSnd (qSnd (Tryz.f32.body.getD .skip)))))))))) c9 := by rw [hc8, hc9]; rfl
  have hB9 : c9 = (qSnd (qSnd (qSnd (qSnd (qSnd (qSnd (qSnd (qSnd (qSnd (Tryz.f32.body.getD .skip)))))))))) := hc9
  clear hc1 hc2 hc3 hc4 hc5 hc6 hc7 hc8 hc9
  refine PureSpec.of_xc tabOk Tryz.func32 hB (by decide) (n := Tryz.f32.ntmps) rfl rfl fun w0 av => ?_
  refine padK_mk ?_
  conv => whnf
  repeat (refine XSame.of ?_; conv => whnf)
  rw [hB1]
  conv => whnf
  repeat (refine XSame.of ?_; conv => whnf)
  obtain ⟨N, hN⟩ : ∃ N : Nat, N = 12288 := ⟨_, rfl⟩
  refine XVal.makeBytes tabOk (t := 23) rfl rfl rfl rfl rfl rfl N (by rw [hN]; rfl) (by rw [hN]; rfl) (by omega) (by omega) fun bd => ?_
  obtain ⟨d0, hd0⟩ : ∃ d0, d0 = List.replicate N (0 : UInt8) := ⟨_, rfl⟩
  have hl0 : d0.length = N := by rw [hd0]; exact List.length_replicate
  have hz0 : ∀ m, byt d0 m = 0 := fun m => by
    rw [hd0]
    unfold byt
    rw [List.getD_eq_getElem?_getD, List.getElem?_replicate]
    split <;> rfl
  rw [← hN, ← hd0] at hX
  rw [← hd0]
  clear hd0
  conv => whnf
  repeat (refine XSame.of ?_; conv => whnf)
  refine XVal.of_read (XRead.buildBig tabOk (t := 105) rfl rfl ?_)
  conv => whnf
  repeat (refine XSame.of ?_; conv => whnf)
  refine XVal.boxRow fun bv => ?_
  conv => whnf
  repeat (refine XSame.of ?_; conv => whnf)
  rw [hB2]
  conv => whnf
  repeat (refine XSame.of ?_; conv => whnf)
  obtain ⟨X, hXe⟩ : ∃ X : Value, X = .slice (some ⟨bd, 0, none⟩) N N := ⟨_, rfl⟩
  have hvw : ∀ Y : Value, X :: (List.replicate 448 (intV 0) ++ [Y]) = vwG X g0 Y := fun Y => rfl
  obtain ⟨V0, hV0⟩ : ∃ V0, V0 = vwG X g0 (.slice none 0 0) := ⟨_, rfl⟩
  have hV00 : V0[0]? = some (.slice (some ⟨bd, 0, none⟩) N N) := by rw [hV0, ← hXe]; rfl
  refine XVal.ent (F' := ⟨fun _ => True, [(bd, Row.c (d0.map byteV ++ [])), (bv, Row.c V0)]⟩) (Ent.of_le ⟨by rw [hV0, ← hvw, hXe]; exact List.Sublist.refl _, fun w _ => trivial⟩) ?_
  clear hvw
  have hv00 : ∀ g Y, (vwG X g Y)[0]? = some (.slice (some ⟨bd, 0, none⟩) N N) := fun g Y => by rw [← hXe]; rfl
  have hok0 : (⟨some ⟨bd, 0, none⟩, N⟩ : Hd).Ok N := ⟨fun h => (by cases h), Nat.le_refl _⟩
  have hvs := fun g Y i => vw_set X g Y (n := 0) (by decide) i
  have hvl := fun g Y => vwG_len X g Y
  have hvb := fun Y Y' => vw_bits X (upd g0 0 (2, 128, fun i => if i = 0 then 18 else 0)) Y Y'
  refine XVal.of_read (XRead.loadF tabOk (t := 23) rfl rfl (ad := ⟨bv, 0, none⟩) (k := 0) (L := V0) (v := .slice (some ⟨bd, 0, none⟩) N N) (Sees.row (by simp)) (fun _ => rfl) hV00 ?_)
  conv => whnf
  repeat (refine XSame.of ?_; conv => whnf)
  refine XVal.ent (F' := ⟨fun _ => True, [] ++ [(bd, Row.c (d0.map byteV ++ []))] ++ [(bv, Row.c V0)]⟩) (Ent.of_le ⟨by simp, fun w _ => trivial⟩) ?_
  refine XVal.copyStr tabOk (t := 23) rfl rfl rfl rfl (r1 := []) (r2 := [(bv, Row.c V0)]) (b := bd) (k := 0) (l := d0) (m := [82, 70, 83, 49]) (Z := []) rfl (by simp; try omega) (by simp; try omega) ?_
  have hb1 := fun m => byt_lay (l := d0) (m := [82, 70, 83, 49]) (k := 0) (by simp; omega) m
  have hl1 : (lay d0 0 [82, 70, 83, 49]).length = N := by rw [lay_len (by simp; omega), hl0]
  generalize lay d0 0 [82, 70, 83, 49] = d1 at *
  conv => whnf
  repeat (refine XSame.of ?_; conv => whnf)
  rw [hB3]
  conv => whnf
  repeat (refine XSame.of ?_; conv => whnf)
  refine XCall.pure hep (fun w hw => trivial) (fun v D hv => ?_)
  obtain ⟨bh, ch, Zh, rfl, hch, rfl⟩ := hv
  conv => whnf
  repeat (refine XSame.of ?_; conv => whnf)
  rw [hB4]
  conv => whnf
  repeat (refine XSame.of ?_; conv => whnf)
  refine XCall.look (vblock_spec bv V0 ⟨some ⟨bd, 0, none⟩, N⟩ N hV00 hok0 hN 1 (by decide)) (Loc.row _ _) (fun w hst => Sees.row (by simp [Fx.and]) w hst) ?_
  rw [sub_row (by omega)]
  conv => whnf
  repeat (refine XSame.of ?_; conv => whnf)
  refine XVal.ent (F' := ⟨fun _ => True, [] ++ [(bd, Row.c (d1.map byteV ++ []))] ++ [(bv, Row.c V0), (bh, Row.c (HH.map byteV ++ Zh))]⟩) (Ent.of_le ⟨by simp [Fx.and], fun w _ => trivial⟩) ?_
  refine XVal.copyB tabOk (t := 23) rfl rfl rfl rfl (r1 := []) (r2 := [(bv, Row.c V0), (bh, Row.c (HH.map byteV ++ Zh))]) (b := bd) (k := 128) (l := d1) (m := HH) (Z := []) rfl (Sees.bytes (Z := Zh) (by simp)) rfl (by omega) (by omega) ?_
  have hb2 := fun m => byt_lay (l := d1) (m := HH) (k := 128) (by omega) m
  have hl2 : (lay d1 128 HH).length = N := by rw [lay_len (by omega), hl1]
  generalize lay d1 128 HH = d2 at *
  conv => whnf
  repeat (refine XSame.of ?_; conv => whnf)
  rw [hB5]
  conv => whnf
  repeat (refine XSame.of ?_; conv => whnf)
  refine XVal.of_read (XRead.indexArr tabOk (t := 103) rfl rfl rfl 0 rfl (by decide) rfl ?_)
  conv => whnf
  repeat (refine XSame.of ?_; conv => whnf)
  have hi0 : ∀ Y, laid (vwG X g0 Y) 1 (inoV (2, 128, fun i => if i = 0 then 18 else 0)) = vwG X (upd g0 0 (2, 128, fun i => if i = 0 then 18 else 0)) Y := fun Y => hvs g0 Y _
  have hg1 : ∀ n, (upd g0 0 (2, 128, fun i => if i = 0 then 18 else 0) n).1 ≤ 1000000 ∧ (upd g0 0 (2, 128, fun i => if i = 0 then 18 else 0) n).2.1 ≤ 1000000 ∧ ∀ i, (upd g0 0 (2, 128, fun i => if i = 0 then 18 else 0) n).2.2 i ≤ 1000000 := fun n => by
    unfold upd
    split
    · exact ⟨by decide, by decide, fun i => by dsimp only; split <;> omega⟩
    · exact ⟨Nat.zero_le _, Nat.zero_le _, fun i => Nat.zero_le _⟩
  have hl2' : d2.length = 12288 := hl2.trans hN
  have hz2 : ∀ m, 1792 ≤ m → m < 2304 → byt d2 m = 0 := fun m h1 h2 => by
    rw [hb2, if_neg (by omega), hb1, if_neg (by simp; omega), hz0]
  have hdf := done_fmt hl2' (bits := wantB (List.range 19)) (wantB_len _) hz2 (fun i => if i = 0 then 18 else 0)
  rw [← hX] at hdf
  have hdl := doneD_len hl2' (upd g0 0 (2, 128, fun i => if i = 0 then 18 else 0)) (wantB_len (List.range 19))
  rw [hdf] at hdl
  have hdn := fun k hk => done_spec bd bv N d2 [] hl2' (by omega) (upd g0 0 (2, 128, fun i => if i = 0 then 18 else 0)) hg1 k hk (wantB (List.range 19)) (wantB_len _)
  rw [hdf, hl2, ← hXe] at hdn
  have hV0l := hvl g0 (.slice none 0 0)
  have hi0 := hi0 (.slice none 0 0)
  rw [← hV0] at hV0l hi0
  have hg1l := fun Y => hvl (upd g0 0 (2, 128, fun i => if i = 0 then 18 else 0)) Y
  have hg1t := fun Y => vw_last X (upd g0 0 (2, 128, fun i => if i = 0 then 18 else 0)) Y
  refine XUnit.ent (F' := ⟨fun _ => True, [(bd, Row.c (d2.map byteV ++ []))] ++ [(bv, Row.c V0)] ++ []⟩) (Ent.of_le ⟨by simp, fun w _ => trivial⟩) ?_
  refine XUnit.storeIn tabOk (t := 82) rfl (r1 := [(bd, Row.c (d2.map byteV ++ []))]) (r2 := []) (b := bv) (k := 1) (C := V0) (v := .agg ⟨inoL 2 128 fun i => if i = 0 then 18 else 0⟩) (by show (Addr.add ⟨bv, 0, none⟩ 1).add (0 * _) = _; simp only [Addr.add_none, Nat.zero_mul]) rfl (by simp [Value.cells, inoL, intV, oneCell]) (by rw [hV0l]; show _ + 14 ≤ _; omega) ?_
  rw [show laid V0 1 (Value.agg ⟨inoL 2 128 fun i => if i = 0 then 18 else 0⟩).cells.toList = vwG X (upd g0 0 (2, 128, fun i => if i = 0 then 18 else 0)) (.slice none 0 0) from hi0]
  clear hvs hi0 hg1 hdf hX hv00
  generalize upd g0 0 (2, 128, fun i => if i = 0 then 18 else 0) = g1 at *
  obtain ⟨V1, hV1⟩ : ∃ V1, V1 = vwG X g1 (.slice none 0 0) := ⟨_, rfl⟩
  have hV1l : V1.length = 450 := by rw [hV1]; exact hg1l _
  rw [← hV1]
  conv => whnf
  repeat (refine XSame.of ?_; conv => whnf)
  rw [hB6]
  conv => whnf
  repeat (refine XSame.of ?_; conv => whnf)
  obtain ⟨Nb, hNb⟩ : ∃ Nb : Nat, Nb = 12 := ⟨_, rfl⟩
  refine XVal.makeBytes tabOk (t := 23) rfl rfl rfl rfl rfl rfl Nb (by rw [hNb]; rfl) (by rw [hNb]; rfl) (by omega) (by omega) fun bb => ?_
  conv => whnf
  repeat (refine XSame.of ?_; conv => whnf)
  refine XUnit.ent (F' := ⟨fun _ => True, [(bd, Row.c (d2.map byteV ++ []))] ++ [(bv, Row.c V1)] ++ [(bb, Row.c ((wantB (List.range 0)).map byteV ++ []))]⟩) (Ent.of_le ⟨by rw [hNb]; exact List.Sublist.refl _, fun w _ => trivial⟩) ?_
  refine XUnit.storeIn tabOk (t := 23) rfl (r1 := [(bd, Row.c (d2.map byteV ++ []))]) (r2 := [(bb, Row.c ((wantB (List.range 0)).map byteV ++ []))]) (b := bv) (k := 449) (C := V1) (v := .slice (some ⟨bb, 0, none⟩) Nb Nb) (by rw [Addr.add_none]) rfl (by simp [Value.cells, oneCell]) (by rw [hV1l]; decide) ?_
  rw [show laid V1 449 (Value.slice (some ⟨bb, 0, none⟩) Nb Nb).cells.toList = vwG X g1 (.slice (some ⟨bb, 0, none⟩) Nb Nb) by rw [hV1]; exact hvb _ _]
  conv => whnf
  repeat (refine XSame.of ?_; conv => whnf)
  rw [hB7]
  conv => whnf
  repeat (refine XSame.of ?_; conv => whnf)
  rw [hB8]
  conv => whnf
  repeat (refine XSame.of ?_; conv => whnf)
  refine XStop.loop tabOk (ι := Nat × Nat × Nat × List Value) ([4] ++ List.range' 31 16) (fun x => x.1 ≤ 19 ∧ 12 ≤ x.2.2.1)
    (fun x => [(31, .v (.int .i64 (x.1 : Int)))]) (fun _ => []) (fun x => ⟨fun _ => True, [(bd, Row.c (d2.map byteV ++ [])), (bv, Row.c (vwG X g1 (.slice (some ⟨x.2.1, 0, none⟩) Nb x.2.2.1))), (x.2.1, Row.c ((wantB (List.range x.1)).map byteV ++ x.2.2.2))]⟩)
    (fun x => 19 - x.1) (0, bb, Nb, []) ⟨Nat.zero_le _, by dsimp only; omega⟩ ?_ rfl (Ent.of_le ⟨by simp, fun w hw => hw⟩) fun x hx => ?_
  · conv => whnf
    repeat (first | exact FLe.nil | refine FLe.any ?_ | refine FLe.cons ?_)
  obtain ⟨i, b, cap, Z⟩ := x
  obtain ⟨hi, hcap⟩ := hx
  dsimp only at hi hcap ⊢
  conv => whnf
  repeat (refine XSame.of ?_; conv => whnf)
  refine XIf.split (fun hlt => ?_) (fun hlt => ?_)
  · have hlt' : i < 19 := by
      simp only [iLt_eq, decide_eq_true_eq] at hlt
      omega
    have hsp := set7P_spec (wantB (List.range i)) ⟨some ⟨b, 0, none⟩, cap⟩ (by rw [wantB_len]; exact ⟨fun h => (by cases h), hcap⟩) i true (by rw [wantB_len]; omega) (by rw [wantB_len]; omega)
    rw [← wantB_snoc, ← List.range_succ, wantB_len, ← hNb] at hsp
    conv => whnf
    repeat (refine XSame.of ?_; conv => whnf)
    refine XVal.of_read (XRead.loadF tabOk (t := 23) rfl rfl (ad := ⟨bv, 0, none⟩) (k := 449) (L := vwG X g1 (.slice (some ⟨b, 0, none⟩) Nb cap)) (v := .slice (some ⟨b, 0, none⟩) Nb cap) (Sees.row (by simp)) (fun _ => rfl) (hg1t _) ?_)
    conv => whnf
    repeat (refine XSame.of ?_; conv => whnf)
    refine XCall.from hsp (loc_by _ _) (fun w hst => row_by (Z := Z) (by simp) hst) (fun v D hv => ?_)
    obtain ⟨b2, c2', Z2, hv, hc2, rfl⟩ := hv
    rw [wantB_len] at hc2
    rw [wantB_len, ← hNb] at hv
    subst hv
    refine ⟨fun w => trivial, ?_⟩
    conv => whnf
    repeat (refine XSame.of ?_; conv => whnf)
    refine XUnit.ent (F' := ⟨fun _ => True, [(bd, Row.c (d2.map byteV ++ []))] ++ [(bv, Row.c (vwG X g1 (.slice (some ⟨b, 0, none⟩) Nb cap)))] ++ [(b2, Row.c ((wantB (List.range (i + 1))).map byteV ++ Z2))]⟩) (Ent.of_le ⟨by simp [Fx.and], fun w _ => trivial⟩) ?_
    refine XUnit.storeIn tabOk (t := 23) rfl (r1 := [(bd, Row.c (d2.map byteV ++ []))]) (r2 := [(b2, Row.c ((wantB (List.range (i + 1))).map byteV ++ Z2))]) (b := bv) (k := 449) (C := vwG X g1 (.slice (some ⟨b, 0, none⟩) Nb cap)) (v := .slice (some ⟨b2, 0, none⟩) Nb c2') (by rw [Addr.add_none]) rfl (by simp [Value.cells, oneCell]) (by rw [hg1l]; decide) ?_
    rw [show laid (vwG X g1 (.slice (some ⟨b, 0, none⟩) Nb cap)) 449 (Value.slice (some ⟨b2, 0, none⟩) Nb c2').cells.toList = vwG X g1 (.slice (some ⟨b2, 0, none⟩) Nb c2') from hvb _ _]
    conv => whnf
    repeat (refine XSame.of ?_; conv => whnf)
    refine ⟨(i + 1, b2, c2', Z2), ⟨⟨hlt', hc2⟩, by dsimp only; omega⟩, ?_, ?_, ?_⟩
    · conv => whnf
      refine ⟨?_, rfl⟩
      repeat (first | exact FLe.nil | refine FLe.any ?_ | refine FLe.cons ?_ | refine FLe.eq (by rw [wrap_i64 (by omega)]; rfl) ?_)
    · conv => whnf
      exact trivial
    · exact Ent.of_le ⟨by simp, fun w hw => hw⟩
  have hie : i = 19 := by
    simp only [iLt_eq, decide_eq_false_iff_not] at hlt
    omega
  subst hie
  conv => whnf
  repeat (refine XSame.of ?_; conv => whnf)
  have hdn2 := hdn ⟨some ⟨b, 0, none⟩, cap⟩ ⟨fun h => (by cases h), hcap⟩
  rw [show (⟨some ⟨b, 0, none⟩, cap⟩ : Hd).v 12 = .slice (some ⟨b, 0, none⟩) Nb cap by rw [hNb]] at hdn2
  have hwl := wantB_len (List.range 19)
  generalize wantB (List.range 19) = wb at *
  refine XCall.ent (F' := ⟨fun w => By w ⟨some ⟨b, 0, none⟩, cap⟩ wb, [] ++ [(bd, Row.c (d2.map byteV ++ [])), (bv, Row.c (vwG X g1 (.slice (some ⟨b, 0, none⟩) Nb cap)))] ++ []⟩)
    ((show Ent ⟨fun _ => True, [(bd, Row.c (d2.map byteV ++ [])), (bv, Row.c (vwG X g1 (.slice (some ⟨b, 0, none⟩) Nb cap)))] ++ [(b, Row.c (wb.map byteV ++ Z))]⟩ ⟨fun w => True ∧ RowAt w (some ⟨b, 0, none⟩) (wb.map byteV ++ Z), [(bd, Row.c (d2.map byteV ++ [])), (bv, Row.c (vwG X g1 (.slice (some ⟨b, 0, none⟩) Nb cap)))]⟩ from Ent.shareLast).trans (Ent.of_le ⟨by simp, fun w h => by
      have := h.2.take wb.length
      have e : wb.length = (wb.map byteV).length := by simp
      rw [e, List.take_left] at this
      exact this⟩)) ?_
  rw [hXe] at hdn2 ⊢
  refine XCall.rows (r1 := []) (r2 := []) hdn2 (fun w hw => hw) (fun v F hv => ?_)
  obtain ⟨rfl, rfl⟩ := hv
  conv => whnf
  repeat (refine XSame.of ?_; conv => whnf)
  rw [hB9]
  conv => whnf
  repeat (refine XSame.of ?_; conv => whnf)
  exact relO_row (r1 := []) (r2 := []) (by omega) (by omega)

end Go.Proofs.YtfeoedkmndkbjaaGreatDoor
namespace Go.Proofs.YtfeoedkmndkbjaaGreatDoor
open Go Go.Sx
set_option maxRecDepth 100000
set_option maxHeartbeats 4000000
set_option linter.unusedVariables false
set_option linter.unusedSimpArgs false

/-- The unused blocks ahead of a place. -/
def freeU (b : List UInt8) (i : Nat) : List Nat := (List.range' 18 (i - 18)).filter fun j => !getB b j

theorem freeU_succ (b : List UInt8) {i : Nat} (hi : 18 ≤ i) : freeU b (i + 1) = freeU b i ++ (if getB b i = true then [] else [i]) := by
  unfold freeU
  rw [show i + 1 - 18 = i - 18 + 1 by omega, List.range'_1_concat, List.filter_append, show 18 + (i - 18) = i by omega]
  congr 1
  by_cases h : getB b i = true
  · rw [if_pos h, List.filter_cons_of_neg (by simp [h])]
    rfl
  · rw [if_neg h, List.filter_cons_of_pos (by simpa using h)]
    rfl

theorem freeU_pre (b : List UInt8) {i : Nat} (h1 : 18 ≤ i) (h2 : i ≤ 96) : ∃ r, freeL b = freeU b i ++ r := by
  refine ⟨(List.range' i (96 - i)).filter fun j => !getB b j, ?_⟩
  unfold freeL freeU
  rw [← List.filter_append]
  congr 1
  have := List.range'_append_1 (s := 18) (m := i - 18) (n := 96 - i)
  rw [show 18 + (i - 18) = i by omega, show (i - 18) + (96 - i) = 78 by omega] at this
  exact this.symm

theorem freeU_end (b : List UInt8) : freeU b 96 = freeL b := rfl

/-- What Take hands back. -/
def RelTG (b : List UInt8) (n : Nat) (v : Value) (F : Fx) : Prop :=
  if (freeL b).length < n then ∃ e : Int, e = 13 ∧ v = .tuple #[.slice none 0 0, .slice none 0 0, .int .i64 e] ∧ F = ⟨fun w => True, []⟩
  else ∃ (l k : Hd) (e : Int), e = 0 ∧ v = .tuple #[l.v n, k.v b.length, .int .i64 e] ∧ l.Ok n ∧ k.Ok b.length ∧ F = ⟨fun w => RowAt w l.a (((freeL b).take n).map intV) ∧ By w k (setAll b ((freeL b).take n)), []⟩

theorem take7G_spec (b : List UInt8) (h : Hd) (hh : h.Ok b.length) (hb : b.length = 12) (n : Nat) (hn : 1 ≤ n) (hn2 : n ≤ 1000) : PureSpec Tryz.prog 125 [h.v b.length, .int .i64 18, .int .i64 96, .int .i64 (n : Int)] (fun w => By w h b) (RelTG b n) := by
  generalize h96 : (96 : Int) = n96
  generalize h18 : (18 : Int) = n18
  refine PureSpec.of_xc tabOk Tryz.func125 rfl (by decide) (n := Tryz.f125.ntmps - 4) rfl rfl fun w0 av => ?_
  conv => whnf
  subst h18 h96
  refine XCall.val (valid7P_spec b h 18 96 (by omega) (by omega)) (fun w hw => trivial) (fun v D hv => ?_)
  obtain ⟨vv, hvv⟩ : ∃ vv, vv = true := ⟨_, rfl⟩
  rw [← hvv] at hv
  subst hv
  conv => whnf
  repeat (refine XSame.of ?_; conv => whnf)
  refine XIf.no (by subst hvv; simp [iLt_eq]; omega) ?_
  conv => whnf
  refine XCall.pure (clone_spec b h hh (by omega) (by omega)) (fun w hw => hw) (fun v D hv => ?_)
  obtain ⟨b1, cap1, Z, rfl, hcap1, rfl⟩ := hv
  conv => whnf
  generalize h96 : (96 : Int) = n96
  refine XStop.loop tabOk (ι := Nat × Nat × List Nat × List UInt8 × Option Addr × Nat × List Value) ([8, 11] ++ List.range' 24 22)
    (fun x => (18 ≤ x.1 ∧ x.1 ≤ 96) ∧ x.2.2.1 = freeU b x.1 ∧ x.2.1 = x.2.2.1.length ∧ x.2.1 ≤ n ∧ x.2.2.2.1 = setAll b x.2.2.1 ∧ x.2.2.2.1.length = 12 ∧ Go.Sx.Own 1 x.2.1 x.2.2.2.2.1 x.2.2.2.2.2.1 x.2.2.2.2.2.2 (x.2.2.1.map intV))
    (fun x => [(8, .v (.slice x.2.2.2.2.1 x.2.1 x.2.2.2.2.2.1)), (11, .v (.int .i64 (x.1 : Int)))]) (fun _ => [])
    (fun x => ⟨fun w => By w h b, [] ++ [(b1, Row.c (x.2.2.2.1.map byteV ++ Z))] ++ orow x.2.2.2.2.1 x.2.2.2.2.2.2⟩)
    (fun x => 96 - x.1) (18, 0, [], b, none, 0, []) ⟨⟨Nat.le_refl _, by omega⟩, rfl, rfl, Nat.zero_le _, rfl, hb, Go.Sx.Own.nil 1⟩ ?_ rfl (Ent.of_le ⟨by simp [orow, Fx.and], fun w hw => by exact hw.1⟩) fun x hx => ?_
  · conv => whnf
    repeat (first | exact FLe.nil | refine FLe.any ?_ | refine FLe.cons ?_)
  obtain ⟨i, m, acc, ba, a, cap, C⟩ := x
  obtain ⟨⟨hi1, hi2⟩, hac, hm, hmn, hba, hbl, hO⟩ := hx
  dsimp only at hi1 hi2 hac hm hmn hba hbl hO ⊢
  conv => whnf
  repeat (refine XSame.of ?_; conv => whnf)
  refine XIf.split (fun ht => ?_) (fun ht => ?_)
  · have hlt : i < 96 ∧ m < n := by
      subst h96
      simp only [iLt_eq, Bool.and_eq_true, decide_eq_true_eq] at ht
      omega
    have hsu := freeU_succ b hi1
    have hlen := freeU_succ b hi1
    conv => whnf
    refine XCall.val (get7P_spec b h hh i (by omega) (by omega)) (fun w hw => hw) (fun v D hv => ?_)
    generalize hg : getB b i = g at hv hsu
    subst hv
    conv => whnf
    cases g
    · rw [if_neg (by simp)] at hsu
      conv => whnf
      repeat' (first
        | (refine XIf.yes rfl ?_; conv => whnf))
      refine XVal.build tabOk (t := 97) rfl rfl rfl [.int .i64 (i : Int)] rfl rfl (by simp [Value.cells]) (by decide) fun b0 => ?_
      conv => whnf
      refine XVal.ent (F' := ⟨fun w => By w h b, [(b1, Row.c (ba.map byteV ++ Z))] ++ orow a C ++ [(b0, Row.c [intV i])]⟩) (Ent.of_le ⟨by simp [Value.cells, intV], fun w hw => hw⟩) ?_
      refine XVal.append tabOk (t := 97) (xt := 97) rfl rfl rfl rfl rfl rfl (r1 := [(b1, Row.c (ba.map byteV ++ Z))]) (r2 := [(b0, Row.c [intV i])]) (M := [intV i]) hO (Sees.row (by simp)) rfl (by simp [intV, oneCell]) (by omega) (by simp; omega) fun a' c' C' hO' => ?_
      conv => whnf
      refine XCall.ent (F' := ⟨fun w => By w h b, [] ++ [(b1, Row.c (ba.map byteV ++ Z))] ++ orow a' C'⟩) (Ent.of_le ⟨by simp, fun w hw => hw⟩) ?_
      rw [show b.length = ba.length by omega]
      refine XCall.rows (put7P_spec b1 ba Z cap1 i true (by omega) (by omega) (by omega)) (fun w hw => trivial) (fun v F hv => ?_)
      subst hv
      have hpl := putB_len ba i true
      conv => whnf
      refine ⟨(i + 1, m + 1, acc ++ [i], putB ba i true, a', c', C'), ⟨⟨⟨by dsimp only; omega, by dsimp only; omega⟩, ?_, ?_, ?_, ?_, ?_, ?_⟩, by dsimp only; omega⟩, ?_, ?_, ?_⟩
      · dsimp only
        rw [hsu, hac]
      · dsimp only
        simp [hm]
      · dsimp only
        omega
      · dsimp only
        rw [hba, setAll, setAll, List.foldl_append]
        rfl
      · dsimp only
        omega
      · dsimp only
        rw [List.map_append]
        exact hO'
      · conv => whnf
        refine ⟨?_, rfl⟩
        repeat (first | exact FLe.nil | refine FLe.any ?_ | refine FLe.cons ?_ | refine FLe.eq (by rw [wrap_i64 (by omega)]; rfl) ?_)
      · conv => whnf
        exact trivial
      · exact Ent.of_le ⟨by simp, fun w hw => hw.1⟩
    · rw [if_pos rfl, List.append_nil] at hsu
      conv => whnf
      repeat' (first
        | (refine XIf.no rfl ?_; conv => whnf))
      refine ⟨(i + 1, m, acc, ba, a, cap, C), ⟨⟨⟨by dsimp only; omega, by dsimp only; omega⟩, ?_, hm, hmn, hba, hbl, hO⟩, by dsimp only; omega⟩, ?_, ?_, Ent.refl _⟩
      · dsimp only
        rw [hsu, hac]
      · conv => whnf
        refine ⟨?_, rfl⟩
        repeat (first | exact FLe.nil | refine FLe.any ?_ | refine FLe.cons ?_ | refine FLe.eq (by rw [wrap_i64 (by omega)]; rfl) ?_)
      · conv => whnf
        exact trivial
  · have hend : ¬ (i < 96 ∧ m < n) := fun hc => by
      subst h96
      simp [iLt_eq] at ht
      omega
    obtain ⟨r, hr⟩ := freeU_pre b hi1 hi2
    conv => whnf
    refine XIf.split (fun hq => ?_) (fun hq => ?_)
    · have hq' : m < n := by simpa [iLt_eq] using hq
      have hie : i = 96 := by omega
      subst hie
      rw [freeU_end] at hac
      conv => whnf
      refine ⟨⟨fun w => True, []⟩, Ent.bare fun w hw => trivial, ?_⟩
      unfold RelTG
      rw [if_pos (by rw [← hac]; omega)]
      exact ⟨13, rfl, rfl, rfl⟩
    · have hq' : m = n := by
        simp [iLt_eq] at hq
        omega
      subst hq'
      have htk : (freeL b).take m = acc := by
        rw [hr, ← hac, hm, List.take_left]
      have hll : ¬ (freeL b).length < m := by
        rw [hr, ← hac, List.length_append]
        omega
      conv => whnf
      refine ⟨⟨fun w => RowAt w a (acc.map intV) ∧ By w ⟨some ⟨b1, 0, none⟩, cap1⟩ ba, []⟩, ?_, ?_⟩
      · refine (Go.Sx.Own.share (r1 := [] ++ [(b1, Row.c (ba.map byteV ++ Z))]) (r2 := []) hO |> fun h => (show Ent ⟨_, [] ++ [(b1, Row.c (ba.map byteV ++ Z))] ++ orow a C⟩ ⟨_, [] ++ [(b1, Row.c (ba.map byteV ++ Z))] ++ []⟩ from by simpa using h)).trans ?_
        exact Ent.factB.trans (Ent.imp fun w hw => ⟨hw.1.2, hw.2⟩)
      · unfold RelTG
        rw [if_neg hll, htk, ← hba]
        exact ⟨⟨a, cap⟩, ⟨some ⟨b1, 0, none⟩, cap1⟩, 0, rfl, rfl, hO.hd, ⟨fun h => (by cases h), hcap1⟩, rfl⟩

/-- What the view's take hands back, for any number. -/
def RelVG (bv : Nat) (X : Value) (g : Nat → Ino) (k : Hd) (bits : List UInt8) (n : Nat) (v : Value) (F : Fx) : Prop :=
  if (freeL bits).length < n then ∃ r : Bool, r = false ∧ v = .tuple #[.slice none 0 0, .bool r] ∧ VwF bv X g k bits F
  else ∃ (l k2 : Hd) (r : Bool), r = true ∧ v = .tuple #[l.v n, .bool r] ∧ l.Ok n ∧ k2.Ok 12 ∧ F = ⟨fun w => RowAt w l.a (((freeL bits).take n).map intV) ∧ By w k2 (setAll bits ((freeL bits).take n)), [(bv, Row.c (vwG X g (k2.v 12)))]⟩

theorem vtakeG_spec (bv : Nat) (X : Value) (g : Nat → Ino) (k : Hd) (bits : List UInt8) (hk : k.Ok 12) (hb : bits.length = 12) (n : Nat) (hn2 : n ≤ 1000) :
    RowsSpec Tryz.prog 75 [.pointer (some ⟨bv, 0, none⟩), .int .i64 (n : Int)] [(bv, Row.c (vwG X g (k.v 12)))] (fun w => By w k bits) (RelVG bv X g k bits n) := by
  have hV := vwG_len X g (k.v 12)
  have hl := vw_last X g (k.v 12)
  have hst := fun Y' => vw_bits X g (k.v 12) Y'
  have hs := fun hn => take7G_spec bits k (by rw [hb]; exact hk) hb n hn hn2
  have hno : (freeL bits).length < n → ∀ r : Bool, r = false → RelVG bv X g k bits n (.tuple #[.slice none 0 0, .bool r]) ⟨fun w => By w k bits, [(bv, Row.c (vwG X g (k.v 12)))]⟩ := fun h r hr => by
    unfold RelVG VwF
    rw [if_pos h]
    exact ⟨r, hr, rfl, rfl⟩
  have hyes : ¬ (freeL bits).length < n → ∀ (l k2 : Hd) (r : Bool), r = true → l.Ok n → k2.Ok 12 → RelVG bv X g k bits n (.tuple #[l.v n, .bool r]) ⟨fun w => RowAt w l.a (((freeL bits).take n).map intV) ∧ By w k2 (setAll bits ((freeL bits).take n)), [(bv, Row.c (vwG X g (k2.v 12)))]⟩ := fun h l k2 r hr hl hk => by
    unfold RelVG
    rw [if_neg h]
    exact ⟨l, k2, r, hr, rfl, hl, hk, rfl⟩
  generalize RelVG bv X g k bits n = RV at *
  refine RowsSpec.of_xc tabOk Tryz.func75 rfl (by decide) (n := Tryz.f75.ntmps - 2) rfl rfl (by simp) fun w0 av => ?_
  rw [hb] at hs
  generalize hVe : vwG X g (k.v 12) = V at *
  conv => whnf
  repeat (refine XSame.of ?_; conv => whnf)
  refine XIf.split (fun hz => ?_) (fun hz => ?_)
  · have hz' : n = 0 := by
      simp [iEq_eq] at hz
      omega
    subst hz'
    have hy := hyes (by omega) Hd.nil k true rfl Hd.nil_ok hk
    rw [hVe] at hy
    conv => whnf
    repeat (refine XSame.of ?_; conv => whnf)
    exact ⟨⟨fun w => RowAt w Hd.nil.a (((freeL bits).take 0).map intV) ∧ By w k (setAll bits ((freeL bits).take 0)), [(bv, Row.c V)]⟩, Ent.of_le ⟨List.Sublist.refl _, fun w hw => ⟨By.nil w, hw⟩⟩, hy⟩
  have hn : 1 ≤ n := by
    simp [iEq_eq] at hz
    omega
  have hs := hs hn
  unfold RelTG at hs
  rw [hb] at hs
  conv => whnf
  repeat (refine XSame.of ?_; conv => whnf)
  refine XVal.of_read (XRead.loadF tabOk (t := 23) rfl rfl (ad := ⟨bv, 0, none⟩) (k := 449) (L := V) (v := k.v 12) (Sees.row (by simp)) (fun _ => rfl) hl ?_)
  conv => whnf
  repeat (refine XSame.of ?_; conv => whnf)
  by_cases hf : (freeL bits).length < n
  · simp only [if_pos hf] at hs
    refine XCall.pure hs (fun w hw => hw) (fun v D hv => ?_)
    obtain ⟨e, he, rfl, rfl⟩ := hv
    conv => whnf
    refine XIf.yes (by subst he; simp [iNe_eq]) ?_
    conv => whnf
    exact ⟨_, Ent.of_le ⟨by simp [Fx.and], fun w hw => hw.1⟩, hno hf false rfl⟩
  · simp only [if_neg hf] at hs
    have hyes := hyes hf
    refine XCall.pure hs (fun w hw => hw) (fun v D hv => ?_)
    obtain ⟨l, k2, e, he, rfl, hlo, hk2, rfl⟩ := hv
    generalize setAll bits ((freeL bits).take n) = bits' at *
    generalize (freeL bits).take n = LL at *
    conv => whnf
    refine XIf.no (by subst he; simp [iNe_eq]) ?_
    conv => whnf
    refine XUnit.storeIn tabOk (t := 23) rfl (r1 := []) (r2 := []) (b := bv) (k := 449) (C := V) (v := k2.v 12) (by rw [Addr.add_none]) rfl (by simp [Value.cells, oneCell, Hd.v]) (by rw [hV]; decide) ?_
    rw [show laid V 449 (k2.v 12).cells.toList = vwG X g (k2.v 12) from hst _]
    conv => whnf
    repeat (refine XSame.of ?_; conv => whnf)
    exact ⟨⟨fun w => RowAt w l.a (LL.map intV) ∧ By w k2 bits', [(bv, Row.c (vwG X g (k2.v 12)))]⟩, Ent.of_le ⟨by simp [Fx.and], fun w hw => hw.2⟩, hyes l k2 true rfl hlo hk2⟩

end Go.Proofs.YtfeoedkmndkbjaaGreatDoor
namespace Go.Proofs.YtfeoedkmndkbjaaGreatDoor
open Go Go.Sx
set_option maxRecDepth 100000
set_option maxHeartbeats 4000000
set_option linter.unusedVariables false
set_option linter.unusedSimpArgs false

theorem relDE_row2 {D : World → Prop} {b cap e : Nat} {d : List UInt8} {Z : List Value} {m : Nat} {rs : List (Nat × Row)} (hm : m = d.length) (hc : m ≤ cap) : ∃ F', Ent ⟨D, (b, Row.c (d.map byteV ++ Z)) :: rs⟩ F' ∧ RelDE d e (.tuple #[.slice (some ⟨b, 0, none⟩) m cap, .int .i64 (e : Int)]) F' := by
  obtain ⟨F', h1, h2⟩ := relDE_row (D := D) (b := b) (cap := cap) (e := e) (d := d) (Z := Z) hm hc
  exact ⟨F', (show Ent ⟨D, (b, Row.c (d.map byteV ++ Z)) :: rs⟩ ⟨D, [(b, Row.c (d.map byteV ++ Z))]⟩ from Ent.of_le ⟨by simp, fun w hw => hw⟩).trans h1, h2⟩

theorem zip_take {fr L : List Nat} {j : Nat} (h1 : j < fr.length) (h2 : j < L.length) : (fr.zip L).take (j + 1) = (fr.zip L).take j ++ [(fr[j], L[j])] := by
  have : j < (fr.zip L).length := by rw [List.length_zip]; omega
  rw [List.take_succ_eq_append_getElem this, List.getElem_zip]

theorem zip_take_len : ∀ {fr L : List Nat}, fr.zip L = fr.zip (L.take fr.length)
  | [], L => by simp
  | a :: fr, [] => by simp
  | a :: fr, x :: L => by
    rw [List.length_cons, List.take_succ_cons, List.zip_cons_cons, List.zip_cons_cons, zip_take_len (fr := fr) (L := L)]

theorem clr_snoc (d : List UInt8) {L : List Nat} {j : Nat} (h : j < L.length) : clr d (L.take (j + 1)) = lay (clr d (L.take j)) (128 * L[j]) (List.replicate 128 0) := by
  unfold clr
  rw [List.take_succ_eq_append_getElem h, List.foldl_append]
  rfl

theorem asg_le {b : Nat → Nat} {ps : List (Nat × Nat)} {N : Nat} (hb : ∀ j, b j ≤ N) (hp : ∀ p ∈ ps, p.2 ≤ N) (j : Nat) : asg b ps j ≤ N := by
  by_cases h : ∃ p ∈ ps, p.1 = j
  · obtain ⟨p, h1, h2⟩ := asg_mem (b := b) h
    rw [h2]
    exact hp p h1
  · rw [asg_not fun p h1 h2 => h ⟨p, h1, h2⟩]
    exact hb j

theorem pwriteG_spec (d : List UInt8) (h : Hd) (hh : h.Ok d.length) (hl : d.length ≤ 1000000) (n off : Nat) (hof : off ≤ 9223372036854775807) (offI : Int) (ho : offI = (off : Int)) (data : List UInt8) (kd : Hd) (hkd : kd.Ok data.length) (hdl : data.length ≤ 1000000) :
    PureSpec Tryz.prog 34 [h.v d.length, .int .i64 (n : Int), .int .i64 offI, kd.v data.length] (fun w => By w h d ∧ By w kd data) (RelDE (pwriteR d n off data).1 (pwriteR d n off data).2) := by
  refine PureSpec.of_xc tabOk Tryz.func34 rfl (by decide) (n := Tryz.f34.ntmps - 4) rfl rfl fun w0 av => ?_
  conv => whnf
  refine XCall.pure (with_spec d h hh hl n) (fun w hw => hw.1) (fun v D hv => ?_)
  unfold RelW at hv
  split at hv
  rotate_left
  · rename_i h0
    obtain ⟨rfl, rfl⟩ := hv
    have he : gete d n = chk d := by
      unfold gete
      rw [if_pos h0]
    have : pwriteR d n off data = ([], chk d) := by
      unfold pwriteR
      rw [if_pos (by rw [he]; exact h0), he]
    rw [this]
    generalize chk d = e at *
    conv => whnf
    repeat (refine XSame.of ?_; conv => whnf)
    intro b11
    conv => whnf
    repeat (refine XSame.of ?_; conv => whnf)
    refine XIf.yes (by simp [iNe_eq]; omega) ?_
    conv => whnf
    repeat (refine XSame.of ?_; conv => whnf)
    exact relDE_nil
  rename_i h0
  obtain ⟨hd, hok⟩ := chk_zero h0
  obtain ⟨bd, bv, cap, Z, kb, rfl, hcap, hkb, rfl⟩ := hv
  have hge := pgete d n h0
  by_cases hg : gete d (n : Int) = 0
  rotate_left
  · have : pwriteR d n off data = ([], gete d n) := by
      unfold pwriteR
      rw [if_pos hg]
    rw [this]
    rw [hge]
    generalize gete d (n : Int) = e at *
    generalize getGi (dIno d) (n : Int) = i
    conv => whnf
    repeat (refine XSame.of ?_; conv => whnf)
    intro b11
    conv => whnf
    repeat (refine XSame.of ?_; conv => whnf)
    refine XIf.yes (by simp [iNe_eq]; omega) ?_
    conv => whnf
    repeat (refine XSame.of ?_; conv => whnf)
    exact relDE_nil
  obtain ⟨-, -, m, hm, hn, hrk⟩ := gete_zero hg
  obtain rfl : n = m := by omega
  obtain ⟨e1, e2⟩ := getGi_ok hn hrk
  obtain ⟨e0, he0⟩ : ∃ e : Nat, e = getGe (dIno d) (n : Int) := ⟨_, rfl⟩
  rw [← he0, e2]
  rw [e1] at he0
  have hbm := bmp_len hd
  obtain ⟨R, hR⟩ : ∃ R, R = pwriteR d n off data := ⟨_, rfl⟩
  rw [← hR]
  unfold pwriteR at hR
  rw [if_neg (by omega)] at hR
  have hs2 := form_size (hok.form n hn)
  have hfl := fun x => freeL_lt (b := bmp d) (x := x)
  have hbl : ∀ j, j < 12 → rb d n j ≠ 0 → 18 ≤ rb d n j ∧ rb d n j < 96 := fun j hj h => ⟨(form_blocks (hok.form n hn) j hj h).1, (form_blocks (hok.form n hn) j hj h).2.1⟩
  have hrb := rb_lt d n
  have hrkl := rk_lt d n
  have hone := fun (e bits : List UInt8) he hb hin => doneD_one (d := d) (e := e) (bits := bits) hok he hb hin hn
  have hsm : ∀ i : Ino, i.1 ≤ 1000000 ∧ i.2.1 ≤ 1000000 ∧ (∀ j, i.2.2 j ≤ 1000000) → ∀ m, (upd (dIno d) n i m).1 ≤ 1000000 ∧ (upd (dIno d) n i m).2.1 ≤ 1000000 ∧ ∀ j, (upd (dIno d) n i m).2.2 j ≤ 1000000 := fun i hi => upd_small hi
  have hvs := fun (k2 : Value) i => vw_set (.slice (some ⟨bd, 0, none⟩) d.length cap) (dIno d) k2 hn i
  have hvl := fun (k2 : Value) => vwG_len (.slice (some ⟨bd, 0, none⟩) d.length cap) (dIno d) k2
  have hv00 : ∀ (k2 : Value), (vwG (.slice (some ⟨bd, 0, none⟩) d.length cap) (dIno d) k2)[0]? = some (.slice (some ⟨bd, 0, none⟩) d.length cap) := fun k2 => rfl
  have hok0 : (⟨some ⟨bd, 0, none⟩, cap⟩ : Hd).Ok d.length := ⟨fun h => (by cases h), hcap⟩
  have hvt := fun m hm => vtakeG_spec bv (.slice (some ⟨bd, 0, none⟩) d.length cap) (dIno d) kb (bmp d) hkb hbm m hm
  unfold RelVG VwF at hvt
  have hwd := fun (e : List UInt8) (he : e.length = 12288) g hg (k2 : Hd) hk2 bits hb => done_spec bd bv cap e Z he (by omega) g hg k2 hk2 bits hb
  have hclb := fun l (hl : ∀ x ∈ l, x < 96) => byt_clr (l := l) hd hl
  have hcll := fun l (hl : ∀ x ∈ l, x < 96) => clr_len (l := l) hd hl
  generalize dIno d = G at *
  generalize rk d n = k at *
  generalize rs d n = s at *
  generalize rb d n = b at *
  generalize hVe : vwG (.slice (some ⟨bd, 0, none⟩) d.length cap) G (kb.v 12) = V at *
  conv => whnf
  repeat (refine XSame.of ?_; conv => whnf)
  intro b11
  conv => whnf
  repeat (refine XSame.of ?_; conv => whnf)
  refine XIf.no (by subst he0; simp [iNe_eq]) ?_
  conv => whnf
  repeat (refine XSame.of ?_; conv => whnf)
  obtain ⟨most, hmost⟩ : ∃ m : Nat, (if k = 2 then 128 else 1536) = m := ⟨_, rfl⟩
  rw [hmost] at hR
  refine XIf.split (fun hk2 => ?_) (fun hk2 => ?_)
  all_goals
    have hmv : (most = 128 ∧ iEq (k : Int) 2 = true) ∨ (most = 1536 ∧ iEq (k : Int) 2 = false) := by
      rw [show iEq (k : Int) 2 = decide (k = 2) from iEq_nat k 2]
      by_cases hq : k = 2
      · rw [if_pos hq] at hmost
        exact .inl ⟨hmost.symm, by simp [hq]⟩
      · rw [if_neg hq] at hmost
        exact .inr ⟨hmost.symm, by simp [hq]⟩
    rw [hk2] at hmv
    simp only [Bool.true_eq_false, Bool.false_eq_true, and_true, and_false, or_false, false_or] at hmv
    subst hmv
    clear hmost
    conv => whnf
    repeat (refine XSame.of ?_; conv => whnf)
    refine XIf.no (by subst ho; rw [iLt_eq, decide_eq_false_iff_not]; omega) ?_
    conv => whnf
    repeat (refine XSame.of ?_; conv => whnf)
    refine XIf.split (fun hz0 => ?_) (fun hz0 => ?_)
    · have h0' : data.length = 0 := by
        simp [iEq_eq] at hz0
        simp [hz0]
      rw [if_pos h0'] at hR
      rw [hR]
      conv => whnf
      repeat (refine XSame.of ?_; conv => whnf)
      refine XVal.of_read (XRead.loadF tabOk (t := 23) rfl rfl (ad := ⟨bv, 0, none⟩) (k := 0) (L := V) (v := .slice (some ⟨bd, 0, none⟩) d.length cap) (Sees.row (by simp [Fx.and])) (fun _ => rfl) (by rw [← hVe]; rfl) ?_)
      conv => whnf
      repeat (refine XSame.of ?_; conv => whnf)
      exact relDE_row2 rfl hcap
    have h0' : data.length ≠ 0 := by
      simp [iEq_eq] at hz0
      simp
      exact hz0
    rw [if_neg h0'] at hR
    conv => whnf
    repeat (refine XSame.of ?_; conv => whnf)
    generalize hr : (iGt _ _ || _) = r
    cases r
    rotate_left
    · rw [if_pos (by
        simp only [iGt_eq, Bool.or_eq_true, decide_eq_true_eq] at hr
        subst ho
        rw [wrap_i64 (by omega)] at hr
        omega)] at hR
      rw [hR]
      conv => whnf
      repeat (refine XSame.of ?_; conv => whnf)
      exact relDE_nil
    have hlen : off + data.length ≤ 1536 := by
      simp only [iGt_eq, Bool.or_eq_false_iff, decide_eq_false_iff_not] at hr
      subst ho
      rw [wrap_i64 (by omega)] at hr
      omega
    rw [if_neg (by
      simp only [iGt_eq, Bool.or_eq_false_iff, decide_eq_false_iff_not] at hr
      subst ho
      rw [wrap_i64 (by omega)] at hr
      omega)] at hR
    clear hr
    obtain ⟨M, hM⟩ : ∃ M, (off + data.length + 127) / 128 = M := ⟨_, rfl⟩
    obtain ⟨i0, hi0⟩ : ∃ i0, off / 128 = i0 := ⟨_, rfl⟩
    rw [hM, hi0] at hR
    have hMi : i0 < M ∧ M ≤ 12 := by omega
    have hq0 : IntKind.i64.wrap (Int.tdiv offI (Int.ofNat 128)) = ((i0 : Nat) : Int) := by
      subst ho
      rw [← hi0]
      exact wdiv off 128 (by omega)
    have hps := parts_spec (off + data.length) (by omega)
    rw [hM] at hps
    have hsum : IntKind.i64.wrap (offI + (data.length : Int)) = ((off + data.length : Nat) : Int) := by
      subst ho
      rw [wrap_i64 (by omega)]
      omega
    conv => whnf
    repeat (refine XSame.of ?_; conv => whnf)
    rw [hq0]
    refine XStop.loop tabOk (ι := Nat × Nat × List Nat × Option Addr × Nat × List Value) ([14, 15] ++ List.range' 61 18) (fun x => (i0 ≤ x.1 ∧ x.1 ≤ M) ∧ x.2.2.1 = fresh b i0 (x.1 - i0) ∧ x.2.1 = x.2.2.1.length ∧ x.2.1 ≤ x.1 ∧ Go.Sx.Own 1 x.2.1 x.2.2.2.1 x.2.2.2.2.1 x.2.2.2.2.2 (x.2.2.1.map intV))
      (fun x => [(14, .v (.slice x.2.2.2.1 x.2.1 x.2.2.2.2.1)), (15, .v (.int .i64 (x.1 : Int)))]) (fun _ => [inoL k s b]) (fun x => ⟨fun w => By w kb (bmp d) ∧ By w kd data, [(bd, Row.c (d.map byteV ++ Z)), (bv, Row.c V)] ++ orow x.2.2.2.1 x.2.2.2.2.2⟩)
      (fun x => M - x.1) (i0, 0, [], none, 0, []) ⟨⟨Nat.le_refl _, by dsimp only; omega⟩, by dsimp only; rw [Nat.sub_self]; rfl, rfl, Nat.zero_le _, Go.Sx.Own.nil 1⟩ ?_ rfl (Ent.of_le ⟨by simp [Fx.and, orow], fun w hw => ⟨hw.2, hw.1.2⟩⟩) fun x hx => ?_
    · conv => whnf
      repeat (first | exact FLe.nil | refine FLe.any ?_ | refine FLe.cons ?_)
    obtain ⟨i, m, acc, a, ca, C⟩ := x
    obtain ⟨⟨hi1, hi2⟩, hac, hm, hmi, hO⟩ := hx
    dsimp only at hi1 hi2 hac hm hmi hO ⊢
    conv => whnf
    repeat (refine XSame.of ?_; conv => whnf)
    rw [hsum]
    refine XCall.val hps (fun w hw => trivial) (fun v D hv => ?_)
    subst hv
    conv => whnf
    repeat (refine XSame.of ?_; conv => whnf)
    refine XIf.split (fun hlt => ?_) (fun hlt => ?_)
    · have hlt' : i < M := by
        simp only [iLt_eq, decide_eq_true_eq] at hlt
        omega
      have hi12 : i < 12 := by omega
      have hfs := fresh_succ b i0 (i - i0)
      rw [show i0 + (i - i0) = i by omega, show i - i0 + 1 = i + 1 - i0 by omega, ← hac] at hfs
      conv => whnf
      repeat (refine XSame.of ?_; conv => whnf)
      rw [blt_yes hi12]
      conv => whnf
      repeat (refine XSame.of ?_; conv => whnf)
      refine nthK_mk (x := intV (b i)) (by dsimp only; rw [Nat.mul_one, Nat.zero_add]; exact ino_get hi12) ?_
      conv => whnf
      repeat (refine XSame.of ?_; conv => whnf)
      refine XIf.split (fun hz => ?_) (fun hz => ?_)
      · have hz' : b i = 0 := by
          simp [iEq_eq] at hz
          omega
        rw [if_pos hz'] at hfs
        conv => whnf
        repeat (refine XSame.of ?_; conv => whnf)
        refine XVal.build tabOk (t := 97) rfl rfl rfl [.int .i64 (i : Int)] rfl rfl (by simp [Value.cells]) (by decide) fun b0 => ?_
        conv => whnf
        repeat (refine XSame.of ?_; conv => whnf)
        refine XVal.ent (F' := ⟨fun w => By w kb (bmp d) ∧ By w kd data, [(bd, Row.c (d.map byteV ++ Z)), (bv, Row.c V)] ++ orow a C ++ [(b0, Row.c [intV i])]⟩) (Ent.of_le ⟨by simp [Value.cells, intV], fun w hw => hw⟩) ?_
        refine XVal.append tabOk (t := 97) (xt := 97) rfl rfl rfl rfl rfl rfl (r1 := [(bd, Row.c (d.map byteV ++ Z)), (bv, Row.c V)]) (r2 := [(b0, Row.c [intV i])]) (M := [intV i]) hO (Sees.row (by simp)) rfl (by simp [intV, oneCell]) (by omega) (by simp; omega) fun a' c' C' hO' => ?_
        conv => whnf
        repeat (refine XSame.of ?_; conv => whnf)
        refine ⟨(i + 1, m + 1, acc ++ [i], a', c', C'), ⟨⟨⟨by dsimp only; omega, by dsimp only; omega⟩, hfs.symm, ?_, ?_, ?_⟩, by dsimp only; omega⟩, ?_, ?_, ?_⟩
        · dsimp only
          simp [hm]
        · dsimp only
          omega
        · dsimp only
          rw [List.map_append]
          exact hO'
        · conv => whnf
          refine ⟨?_, rfl⟩
          repeat (first | exact FLe.nil | refine FLe.any ?_ | refine FLe.cons ?_ | refine FLe.eq (by rw [wrap_i64 (by omega)]; rfl) ?_)
        · conv => whnf
          exact ⟨⟨rfl, rfl⟩, trivial⟩
        · exact Ent.of_le ⟨by simp, fun w hw => hw⟩
      · have hz' : b i ≠ 0 := by
          simp [iEq_eq] at hz
          omega
        rw [if_neg hz', List.append_nil] at hfs
        conv => whnf
        repeat (refine XSame.of ?_; conv => whnf)
        refine ⟨(i + 1, m, acc, a, ca, C), ⟨⟨⟨by dsimp only; omega, by dsimp only; omega⟩, hfs.symm, hm, by dsimp only; omega, hO⟩, by dsimp only; omega⟩, ?_, ?_, Ent.refl _⟩
        · conv => whnf
          refine ⟨?_, rfl⟩
          repeat (first | exact FLe.nil | refine FLe.any ?_ | refine FLe.cons ?_ | refine FLe.eq (by rw [wrap_i64 (by omega)]; rfl) ?_)
        · conv => whnf
          exact ⟨⟨rfl, rfl⟩, trivial⟩
    have hie : i = M := by
      simp only [iLt_eq, decide_eq_false_iff_not] at hlt
      omega
    subst hie
    rw [← hac, ← hm, zip_take_len, ← hm] at hR
    have hvt := hvt m (by omega)
    conv => whnf
    repeat (refine XSame.of ?_; conv => whnf)
    refine XCall.ent (F' := ⟨fun w => By w kb (bmp d) ∧ By w kd data, [(bd, Row.c (d.map byteV ++ Z))] ++ [(bv, Row.c V)] ++ orow a C⟩) (Ent.of_le ⟨by simp, fun w hw => hw⟩) ?_
    refine XCall.rows hvt (fun w hw => hw.1) (fun v F hv => ?_)
    by_cases hf : (freeL (bmp d)).length < m
    · rw [if_pos hf] at hv
      obtain ⟨r, hr, rfl, rfl⟩ := hv
      rw [if_pos hf] at hR
      rw [hR]
      conv => whnf
      repeat (refine XSame.of ?_; conv => whnf)
      refine XIf.yes (by subst hr; rfl) ?_
      conv => whnf
      repeat (refine XSame.of ?_; conv => whnf)
      exact relDE_nil
    rw [if_neg hf] at hv
    obtain ⟨l, k2, r, hr, rfl, hlo, hk2o, rfl⟩ := hv
    rw [if_neg hf] at hR
    have hvl2 := hvl (k2.v 12)
    have hv002 := hv00 (k2.v 12)
    have hvs2 := fun i => hvs (k2.v 12) i
    generalize hV2 : vwG (.slice (some ⟨bd, 0, none⟩) d.length cap) G (k2.v 12) = V2 at *
    generalize hLL : (freeL (bmp d)).take m = LL at *
    have hLm : LL.length = m := by rw [← hLL, List.length_take]; omega
    have hLx : ∀ x ∈ LL, 18 ≤ x ∧ x < 96 := fun x hx => by
      have := hfl x (by rw [← hLL] at hx; exact List.mem_of_mem_take hx)
      exact ⟨this.1, this.2.1⟩
    have hb12 : (setAll (bmp d) LL).length = 12 := by rw [setAll_len]; exact hbm
    generalize setAll (bmp d) LL = bits at *
    have hzl : (acc.zip LL).length = m := by rw [List.length_zip]; omega
    conv => whnf
    repeat (refine XSame.of ?_; conv => whnf)
    refine XIf.no (by subst hr; rfl) ?_
    conv => whnf
    repeat (refine XSame.of ?_; conv => whnf)
    refine XStop.loop tabOk (ι := Nat) ([18, 19] ++ List.range' 90 19) (fun x => x ≤ m)
      (fun x => [(90, .v (.int .i64 (x : Int)))]) (fun x => [inoL k s (asg b ((acc.zip LL).take x))]) (fun x => ⟨fun w => (By w kd data ∧ RowAt w l.a (LL.map intV) ∧ By w k2 bits) ∧ RowAt w a (acc.map intV), [(bd, Row.c ((clr d (LL.take x)).map byteV ++ Z)), (bv, Row.c V2)]⟩)
      (fun x => m - x) 0 (Nat.zero_le _) ?_ rfl ?_ fun j hj => ?_
    · conv => whnf
      repeat (first | exact FLe.nil | refine FLe.any ?_ | refine FLe.cons ?_)
    · refine (Go.Sx.Own.share (r1 := [(bd, Row.c (d.map byteV ++ Z))] ++ [(bv, Row.c V2)]) (r2 := []) hO |> fun h => (show Ent ⟨_, [(bd, Row.c (d.map byteV ++ Z))] ++ [(bv, Row.c V2)] ++ orow a C⟩ ⟨_, [(bd, Row.c (d.map byteV ++ Z))] ++ [(bv, Row.c V2)] ++ []⟩ from by simpa using h)).trans ?_
      exact Ent.of_le ⟨by simp [clr], fun w hw => ⟨⟨hw.1.1.2, hw.1.2⟩, hw.2⟩⟩
    have hcj := hcll (LL.take j) fun x hx => (hLx x (List.mem_of_mem_take hx)).2
    conv => whnf
    repeat (refine XSame.of ?_; conv => whnf)
    refine XIf.split (fun hlt2 => ?_) (fun hlt2 => ?_)
    · have hjm : j < m := by
        simp only [iLt_eq, decide_eq_true_eq] at hlt2
        omega
      have hja : j < acc.length := by omega
      have hjl : j < LL.length := by omega
      have hzt := zip_take hja hjl
      have hct := clr_snoc d hjl
      have hxj := hLx LL[j] (List.getElem_mem hjl)
      have hfj : acc[j] < 12 := by
        have hmem : acc[j] ∈ fresh b i0 (i - i0) := by
          rw [← hac]
          exact List.getElem_mem hja
        have := (mem_fresh.1 hmem).2.1
        omega
      conv => whnf
      repeat (refine XSame.of ?_; conv => whnf)
      refine XVal.of_read (XRead.index tabOk (t := 97) rfl rfl rfl (by omega) (by omega) hO.hd.nil fun ad had => ?_)
      conv => whnf
      repeat (refine XSame.of ?_; conv => whnf)
      refine XVal.of_read (XRead.load tabOk (t := 3) rfl rfl (ad := ad) (k := j) (L := acc.map intV) (v := intV acc[j]) (.fact fun w hw => had ▸ hw.2) (by simp) (by simp [hja]) ?_)
      conv => whnf
      repeat (refine XSame.of ?_; conv => whnf)
      refine XVal.of_read (XRead.index tabOk (t := 97) rfl rfl rfl (by omega) (by omega) hlo.nil fun ad2 had2 => ?_)
      conv => whnf
      repeat (refine XSame.of ?_; conv => whnf)
      refine XVal.of_read (XRead.load tabOk (t := 3) rfl rfl (ad := ad2) (k := j) (L := LL.map intV) (v := intV LL[j]) (.fact fun w hw => had2 ▸ hw.1.2.1) (by simp) (by simp [hjl]) ?_)
      have hlj : (LL.map intV)[j]? = some (intV LL[j]) := by simp [hjl]
      generalize acc[j] = fj at *
      generalize LL[j] = xj at *
      conv => whnf
      repeat (refine XSame.of ?_; conv => whnf)
      rw [blt_yes hfj]
      conv => whnf
      repeat (refine XSame.of ?_; conv => whnf)
      refine overK_mk (by simp [inoL]; omega) ?_
      conv => whnf
      repeat (refine XSame.of ?_; conv => whnf)
      refine XVal.of_read (XRead.index tabOk (t := 97) rfl rfl rfl (by omega) (by omega) hlo.nil fun ad3 had3 => ?_)
      conv => whnf
      repeat (refine XSame.of ?_; conv => whnf)
      refine XVal.of_read (XRead.load tabOk (t := 3) rfl rfl (ad := ad3) (k := j) (L := LL.map intV) (v := intV xj) (.fact fun w hw => had3 ▸ hw.1.2.1) (by simp) hlj ?_)
      conv => whnf
      repeat (refine XSame.of ?_; conv => whnf)
      refine XCall.look (vblock_spec bv V2 ⟨some ⟨bd, 0, none⟩, cap⟩ d.length hv002 hok0 hd xj hxj.2) (Loc.row _ _) (fun w hst => Sees.row (by simp) w hst) ?_
      rw [sub_row (by omega)]
      conv => whnf
      repeat (refine XSame.of ?_; conv => whnf)
      refine XVal.clearZ tabOk (t := 23) rfl rfl rfl rfl (z := .int .u8 0) rfl rfl (r1 := []) (r2 := [(bv, Row.c V2)]) (b := bd) (k := 128 * xj) (C := (clr d (LL.take j)).map byteV ++ Z) rfl (by decide) (by simp; omega) ?_
      rw [zeros_byteV, laid_bytes (by simp; omega), ← hct]
      conv => whnf
      repeat (refine XSame.of ?_; conv => whnf)
      refine ⟨j + 1, ⟨hjm, by dsimp only; omega⟩, ?_, ?_, ?_⟩
      · conv => whnf
        refine ⟨?_, rfl⟩
        repeat (first | exact FLe.nil | refine FLe.any ?_ | refine FLe.cons ?_ | refine FLe.eq (by rw [wrap_i64 (by omega)]; rfl) ?_)
      · conv => whnf
        refine ⟨⟨rfl, ?_⟩, trivial⟩
        dsimp only
        rw [hzt, asg_snoc, Nat.mul_one, Nat.zero_add]
        exact laid_ino hfj xj
      · exact Ent.of_le ⟨List.Sublist.refl _, fun w hw => hw⟩
    have hje : j = m := by
      simp only [iLt_eq, decide_eq_false_iff_not] at hlt2
      omega
    subst hje
    have ht1 : LL.take j = LL := List.take_of_length_le (by omega)
    have ht2 : (acc.zip LL).take j = acc.zip LL := List.take_of_length_le (by omega)
    rw [ht1] at hcj ⊢
    rw [ht2]
    have hcb := hclb LL fun x hx => (hLx x hx).2
    have hbk : ∀ q, q < data.length → 18 ≤ asg b (acc.zip LL) ((off + q) / 128) ∧ asg b (acc.zip LL) ((off + q) / 128) < 96 := by
      intro q hq
      have hao := asg_ok (b := b) (i := i0) (m := i - i0) (j := (off + q) / 128) (L := LL) (by rw [← hac]; omega) (by omega) (by omega)
      rw [← hac] at hao
      rcases hao with ⟨h1, h2⟩ | ⟨h1, h2⟩
      · rw [h2]
        exact hbl _ (by omega) h1
      · exact hLx _ h2
    have hb2 : ∀ j, asg b (acc.zip LL) j ≤ 1000000 := asg_le (fun j => by have := hrb j; omega) fun p hp => by
      have := hLx _ (List.of_mem_zip hp).2
      omega
    generalize asg b (acc.zip LL) = b2 at *
    generalize clr d LL = e0 at *
    have hwl := fun q => (wdO_len e0 b2 off data q).trans hcj
    obtain ⟨-, hw2⟩ := wdO_parts (o := e0) (o' := e0) (b := b2) (off := off) (data := data) hcj hcj hbk (fun m hm => rfl) data.length (Nat.le_refl _)
    have hin : ∀ m, 1792 ≤ m → m < 2304 → byt (wdO e0 b2 off data data.length) m = byt d m := fun m h1 h2 => by
      rw [hw2 m h2, hcb, if_neg (fun h => by have := (hLx _ h).1; omega)]
    have hmx : max s (off + data.length) ≤ 1000000 := by omega
    have hdn := hwd (wdO e0 b2 off data data.length) (hwl _) (upd G n (k, max s (off + data.length), b2)) (hsm _ ⟨by dsimp only; omega, hmx, hb2⟩) k2 hk2o bits hb12
    rw [hone _ bits (hwl _) hb12 hin] at hdn
    dsimp only at hdn
    have hvs3 := hvs2 (k, max s (off + data.length), b2)
    have hpl := putI_len (hwl data.length) hn k (max s (off + data.length)) b2
    have hfl2 := setBmp_len hpl hb12
    rw [show (wdO e0 b2 off data data.length).length = d.length by rw [hwl, hd]] at hdn
    generalize hX : setBmp (putI (wdO e0 b2 off data data.length) n k (max s (off + data.length)) b2) bits = XX at *
    generalize vwG (.slice (some ⟨bd, 0, none⟩) d.length cap) (upd G n (k, max s (off + data.length), b2)) (k2.v 12) = V3 at *
    rw [hR]
    have hws : ∀ q, wdO e0 b2 off data (q + 1) = bput (wdO e0 b2 off data q) (128 * b2 ((off + q) / 128) + (off + q) % 128) (byt data q) := fun q => rfl
    have hw0 : wdO e0 b2 off data 0 = e0 := rfl
    clear hw2 hin hX hR
    generalize wdO e0 b2 off data = wq at *
    conv => whnf
    repeat (refine XSame.of ?_; conv => whnf)
    refine XStop.loop tabOk (ι := Nat) ([20, 21, 22] ++ List.range' 111 20) (fun x => x ≤ data.length)
      (fun x => [(111, .v (.int .i64 (x : Int)))]) (fun _ => [inoL k s b2]) (fun x => ⟨fun w => By w kd data ∧ By w k2 bits, [(bd, Row.c ((wq x).map byteV ++ Z)), (bv, Row.c V2)]⟩)
      (fun x => data.length - x) 0 (Nat.zero_le _) ?_ rfl (Ent.of_le ⟨by rw [hw0]; exact List.Sublist.refl _, fun w hw => ⟨hw.1.1, hw.1.2.2⟩⟩) fun q hq => ?_
    · conv => whnf
      repeat (first | exact FLe.nil | refine FLe.any ?_ | refine FLe.cons ?_)
    conv => whnf
    repeat (refine XSame.of ?_; conv => whnf)
    refine XIf.split (fun hlt3 => ?_) (fun hlt3 => ?_)
    · have hq' : q < data.length := by
        simp only [iLt_eq, decide_eq_true_eq] at hlt3
        omega
      have f1 : IntKind.i64.wrap (offI + (q : Int)) = ((off + q : Nat) : Int) := by
        subst ho
        rw [wrap_i64 (by omega)]
        omega
      have f2 : IntKind.i64.wrap (Int.tdiv ((off + q : Nat) : Int) (Int.ofNat 128)) = (((off + q) / 128 : Nat) : Int) := wdiv (off + q) 128 (by omega)
      have f3 : Int.tmod ((off + q : Nat) : Int) (Int.ofNat 128) = (((off + q) % 128 : Nat) : Int) := tmod_nat (off + q) 128
      have hi12 : (off + q) / 128 < 12 := by omega
      obtain ⟨hk1, hk2'⟩ := hbk q hq'
      have hwq := hwl q
      conv => whnf
      repeat (refine XSame.of ?_; conv => whnf)
      refine XVal.of_read (XRead.byteAt tabOk (t := 23) rfl rfl rfl rfl q rfl hq' hkd fun ad had => ?_)
      conv => whnf
      repeat (refine XSame.of ?_; conv => whnf)
      refine XVal.of_read (XRead.byteLd' tabOk (t := 5) rfl rfl had (.fact fun w h => h.1) rfl hq' ?_)
      conv => whnf
      repeat (refine XSame.of ?_; conv => whnf)
      rw [f1, f2]
      conv => whnf
      repeat (refine XSame.of ?_; conv => whnf)
      rw [blt_yes hi12]
      conv => whnf
      repeat (refine XSame.of ?_; conv => whnf)
      refine nthK_mk (x := intV (b2 ((off + q) / 128))) (by dsimp only; rw [Nat.mul_one, Nat.zero_add]; exact ino_get hi12) ?_
      conv => whnf
      repeat (refine XSame.of ?_; conv => whnf)
      refine XCall.look (vblock_spec bv V2 ⟨some ⟨bd, 0, none⟩, cap⟩ d.length hv002 hok0 hd (b2 ((off + q) / 128)) hk2') (Loc.row _ _) (fun w hst => Sees.row (by simp) w hst) ?_
      rw [sub_row (by omega)]
      conv => whnf
      repeat (refine XSame.of ?_; conv => whnf)
      refine XVal.of_read (XRead.rowIxAt tabOk (t := 23) rfl rfl rfl rfl ((off + q) % 128) f3 (Nat.mod_lt _ (by decide)) ?_)
      conv => whnf
      repeat (refine XSame.of ?_; conv => whnf)
      refine XUnit.storeByte tabOk (t := 5) rfl rfl (r1 := []) (r2 := [(bv, Row.c V2)]) (k := 128 * b2 ((off + q) / 128) + (off + q) % 128) (l := wq q) (Z := Z) (byt data q) rfl rfl (byt_lt _ _) (by omega) ?_
      rw [← hws]
      conv => whnf
      repeat (refine XSame.of ?_; conv => whnf)
      refine ⟨q + 1, ⟨hq', by dsimp only; omega⟩, ?_, ?_, Ent.refl _⟩
      · conv => whnf
        refine ⟨?_, rfl⟩
        repeat (first | exact FLe.nil | refine FLe.any ?_ | refine FLe.cons ?_ | refine FLe.eq (by rw [wrap_i64 (by omega)]; rfl) ?_)
      · conv => whnf
        exact ⟨⟨rfl, rfl⟩, trivial⟩
    have hqe : q = data.length := by
      simp only [iLt_eq, decide_eq_false_iff_not] at hlt3
      omega
    subst hqe
    generalize wq data.length = dd at *
    conv => whnf
    repeat (refine XSame.of ?_; conv => whnf)
    rw [hsum]
    refine XVal.of_read (XRead.max ?_)
    generalize max s (off + data.length) = mx at *
    conv => whnf
    repeat (refine XSame.of ?_; conv => whnf)
    refine XStop.draw tabOk mixed rfl rfl ?_
    conv => whnf
    repeat' (first
      | (refine And.intro ?_ ?_ <;> conv => whnf)
      | (refine XHeld.same rfl ?_; conv => whnf)
      | (refine XHeld.row rfl ?_; conv => whnf)
      | (refine XHeld.call rfl ?_; conv => whnf)
      | (refine XKeep.of ?_; conv => whnf)
      | (refine XSame.of ?_; conv => whnf)
      | (refine XRead.indexArr tabOk (t := 103) rfl rfl rfl n rfl hn rfl ?_; conv => whnf)
      | (refine XHeld.mk ?_ ?_; (focus (first | exact Ent.refl _ | exact Ent.left _ _ | exact Ent.of_le ⟨List.sublist_append_left _ _, fun w h => h⟩ | exact Ent.of_le ⟨List.Sublist.refl _, fun w h => h.1⟩)); conv => whnf))
    refine XUnit.storeIn tabOk (t := 82) rfl (r1 := [(bd, Row.c (dd.map byteV ++ Z))]) (r2 := []) (b := bv) (k := 1 + 14 * n) (C := V2) (v := .agg ⟨inoL k mx b2⟩) (by show (Addr.add ⟨bv, 0, none⟩ 1).add (n * 14) = _; simp only [Addr.add_none]; rw [Nat.zero_add, Nat.mul_comm]) rfl (by simp [Value.cells, inoL, intV, oneCell]) (by rw [hvl2]; show _ + 14 ≤ _; omega) ?_
    rw [show laid V2 (1 + 14 * n) (Value.agg ⟨inoL k mx b2⟩).cells.toList = V3 from hvs3]
    conv => whnf
    repeat (refine XSame.of ?_; conv => whnf)
    refine XCall.rows (r1 := []) (r2 := []) hdn (fun w hw => hw.2) (fun v F hv => ?_)
    obtain ⟨rfl, rfl⟩ := hv
    conv => whnf
    repeat (refine XSame.of ?_; conv => whnf)
    exact relDE_row (by omega) hcap

end Go.Proofs.YtfeoedkmndkbjaaGreatDoor
namespace Go.Proofs.YtfeoedkmndkbjaaGreatDoor
open Go Go.Sx
set_option maxRecDepth 100000
set_option maxHeartbeats 4000000
set_option linter.unusedVariables false
set_option linter.unusedSimpArgs false

/-- A file or directory, with the place of its data. -/
structure Fl where
  path : List UInt8
  dir : Bool
  h : Hd
  data : List UInt8

def flC (x : Fl) : List Value := [strV x.path, .bool x.dir, x.h.v x.data.length]

def flCs (l : List Fl) : List Value := l.flatMap flC

theorem flCs_len (l : List Fl) : (flCs l).length = l.length * 3 := by
  induction l with
  | nil => rfl
  | cons e l ih => simp [flCs, flC] at ih ⊢; omega

theorem flCs_get : ∀ {l : List Fl} {i : Nat} (h : i < l.length), ((flCs l).drop (i * 3)).take 3 = flC l[i]
  | [], i, h => by simp at h
  | e :: l, 0, h => rfl
  | e :: l, i + 1, h => by
    have := flCs_get (l := l) (i := i) (by simpa using h)
    have e1 : flCs (e :: l) = strV e.path :: .bool e.dir :: e.h.v e.data.length :: flCs l := rfl
    rw [e1, show (i + 1) * 3 = i * 3 + 1 + 1 + 1 by omega]
    simpa using this

theorem flCs_at {l : List Fl} {i : Nat} (h : i < l.length) : (flCs l)[i * 3]? = some (strV l[i].path) ∧ (flCs l)[i * 3 + 1]? = some (.bool l[i].dir) ∧ (flCs l)[i * 3 + 2]? = some (l[i].h.v l[i].data.length) := by
  have hg := flCs_get h
  have e : ∀ j, j < 3 → (flCs l)[i * 3 + j]? = (flC l[i])[j]? := fun j hj => by
    rw [← hg, List.getElem?_take, if_pos hj, List.getElem?_drop]
  exact ⟨e 0 (by decide), e 1 (by decide), e 2 (by decide)⟩

def FlsAt (w : World) (a : Option Addr) (l : List Fl) : Prop := RowAt w a (flCs l) ∧ ∀ x ∈ l, By w x.h x.data

/-- One file more. -/
noncomputable def mkF (d : List UInt8) (x : Fl) : List UInt8 × Nat :=
  if (makeR d x.path (if x.dir = true then 2 else 1)).2.2 ≠ 0 then ([], (makeR d x.path (if x.dir = true then 2 else 1)).2.2)
  else if x.dir = true then ((makeR d x.path (if x.dir = true then 2 else 1)).2.1, 0)
  else if (writeR (makeR d x.path (if x.dir = true then 2 else 1)).2.1 (makeR d x.path (if x.dir = true then 2 else 1)).1 x.data).2 ≠ 0 then ([], (writeR (makeR d x.path (if x.dir = true then 2 else 1)).2.1 (makeR d x.path (if x.dir = true then 2 else 1)).1 x.data).2)
  else ((writeR (makeR d x.path (if x.dir = true then 2 else 1)).2.1 (makeR d x.path (if x.dir = true then 2 else 1)).1 x.data).1, 0)

noncomputable def filesR (d : List UInt8) : List Fl → List UInt8 × Nat
  | [] => (d, 0)
  | x :: l => if (mkF d x).2 ≠ 0 then ([], (mkF d x).2) else filesR (mkF d x).1 l

theorem makeR_le (d p : List UInt8) (kind : Int) : (makeR d p kind).2.2 = 0 → (makeR d p kind).2.1.length = 12288 := fun h => (chk_zero (tree_facts (make_made h).2.2.choose_spec.choose_spec.choose_spec.2.2.2.2.2.ok).1).1

theorem writeR_le {d : List UInt8} {n : Nat} {data : List UInt8} (h : (writeR d n data).2 = 0) : (writeR d n data).1.length = 12288 := by
  unfold writeR at h ⊢
  by_cases hg : gete d n ≠ 0
  · rw [if_pos hg] at h
    exact absurd h hg
  rw [if_neg hg] at h ⊢
  obtain ⟨hd, hok, m, hm, hm32, hrk⟩ := gete_zero (show gete d n = 0 by omega)
  have hm : n = m := by omega
  subst hm
  by_cases h1 : data.length = 0
  · rw [if_pos h1]
    exact hd
  rw [if_neg h1] at h ⊢
  by_cases h2 : (if rk d n = 2 then 128 else 1536) < data.length
  · rw [if_pos h2] at h
    cases h
  rw [if_neg h2] at h ⊢
  have hw := wt_is hd (rb d n) ((data.length + 127) / 128)
  dsimp only at hw
  split at hw
  · obtain ⟨o, h3, h4, -⟩ := hw
    rw [h3]
    exact putI_len ((wd_len o _ data data.length).trans h4) hm32 _ _ _
  · rw [hw] at h
    cases h

theorem fmtX_ok : FmtBytes fmtX := by
  have hX : fmtX = putI (setBmp (lay (lay (List.replicate 12288 0) 0 [82, 70, 83, 49]) 128 hdrM) (wantB (List.range 19))) 0 2 128 (fun i => if i = 0 then 18 else 0) := rfl
  have hH : hdrM.length = 128 := by
    have : hdrM = preM ++ numM (ofM preM) 8 ++ List.replicate 100 0 := rfl
    rw [this, List.length_append, List.length_append, numM_len, preM_len, List.length_replicate]
  rw [hX]
  generalize hdrM = H at *
  clear hX
  obtain ⟨d0, hd0⟩ : ∃ d0, d0 = List.replicate 12288 (0 : UInt8) := ⟨_, rfl⟩
  have hl0 : d0.length = 12288 := by rw [hd0]; exact List.length_replicate
  have hz0 : ∀ m, byt d0 m = 0 := fun m => by
    rw [hd0]
    unfold byt
    rw [List.getD_eq_getElem?_getD, List.getElem?_replicate]
    split <;> rfl
  rw [← hd0]
  clear hd0
  have hb1 := fun m => byt_lay (l := d0) (m := [82, 70, 83, 49]) (k := 0) (by simp; omega) m
  have hl1 : (lay d0 0 [82, 70, 83, 49]).length = 12288 := by rw [lay_len (by simp; omega), hl0]
  generalize lay d0 0 [82, 70, 83, 49] = d1 at *
  have hb2 := fun m => byt_lay (l := d1) (m := H) (k := 128) (by omega) m
  have hl2 : (lay d1 128 H).length = 12288 := by rw [lay_len (by omega), hl1]
  generalize lay d1 128 H = d2 at *
  have hbf := fun m => byt_setBmp hl2 (b := wantB (List.range 19)) (wantB_len _) m
  have hl3 := setBmp_len hl2 (b := wantB (List.range 19)) (wantB_len _)
  generalize setBmp d2 (wantB (List.range 19)) = d3 at *
  have hpl := putI_len hl3 (show 0 < 32 by decide) 2 128 (fun i => if i = 0 then 18 else 0)
  have hpb := byt_putI hl3 (show 0 < 32 by decide) 2 128 (fun i => if i = 0 then 18 else 0)
  generalize putI d3 0 2 128 (fun i => if i = 0 then 18 else 0) = d4 at *
  refine ⟨hpl, fun m h1 h2 => ?_, fun m h1 h2 => ?_, fun m h1 => ?_, fun m h1 h2 h3 h4 => ?_⟩
  · rw [hpb, if_pos (by omega)]
  · rw [hpb, if_neg (by omega), hbf, if_pos (by omega)]
  · rw [hpb, if_neg (by omega), hbf, if_neg (by omega), hb2, if_neg (by omega), hb1, if_pos (by simp; omega)]
    rfl
  · rw [hpb, if_neg (by omega), hbf, if_neg (by omega), hb2, if_neg (by omega), hb1, if_neg (by simp; omega), hz0]

theorem formatB_spec : PureSpec Tryz.prog 20 [] (fun _ => True) (RelB fmtX) :=
  formatX_spec.weaken fun v F hv => by
    obtain ⟨d, hd, hF, b, c, Z, rfl, hc, rfl⟩ := hv
    subst hd
    exact relB_row (r1 := []) (r2 := []) rfl hc

theorem refMake_spec (l : List Fl) (k : Hd) (hk : k.Ok l.length) (hl : l.length ≤ 1000000) (hx : ∀ x ∈ l, x.path.length ≤ 200 ∧ x.data.length ≤ 1000000 ∧ x.h.Ok x.data.length) :
    PureSpec Tryz.prog 17 [k.v l.length] (fun w => FlsAt w k.a l) (RelDE (filesR fmtX l).1 (filesR fmtX l).2) := by
  obtain ⟨R, hR⟩ : ∃ R, R = filesR fmtX l := ⟨_, rfl⟩
  rw [← hR]
  refine PureSpec.of_xc tabOk Tryz.func17 rfl (by decide) (n := Tryz.f17.ntmps - 1) rfl rfl fun w0 av => ?_
  conv => whnf
  have hfl := fmtX_ok.len
  have hfs := formatB_spec
  generalize fmtX = fd at *
  refine XCall.pure hfs (fun w hw => trivial) (fun v D hv => ?_)
  obtain ⟨h0, rfl, hh0, rfl⟩ := hv
  conv => whnf
  refine XStop.loop tabOk (ι := Nat × List UInt8 × Hd) ([4, 5, 6, 7, 8, 9] ++ List.range' 11 48) (fun x => x.1 ≤ l.length ∧ R = filesR x.2.1 (l.drop x.1) ∧ x.2.1.length = 12288 ∧ x.2.2.Ok x.2.1.length)
    (fun x => [(4, .v (x.2.2.v x.2.1.length)), (5, .v (.int .i64 (x.1 : Int)))]) (fun _ => []) (fun x => ⟨fun w => FlsAt w k.a l ∧ By w x.2.2 x.2.1, []⟩)
    (fun x => l.length - x.1) (0, fd, h0) ⟨Nat.zero_le _, hR, hfl, hh0⟩ ?_ rfl (Ent.of_le ⟨by simp [Fx.and], fun w hw => hw⟩) fun x hx' => ?_
  · conv => whnf
    repeat (first | exact FLe.nil | refine FLe.any ?_ | refine FLe.cons ?_)
  clear hR hfl hfs hh0
  obtain ⟨i, d, h⟩ := x
  obtain ⟨hi, hfo, hdl, hh⟩ := hx'
  dsimp only at hi hfo hdl hh ⊢
  conv => whnf
  repeat (refine XSame.of ?_; conv => whnf)
  refine XIf.split (fun hlt => ?_) (fun hlt => ?_)
  · have hlt' : i < l.length := by
      simp [iLt_eq] at hlt
      omega
    obtain ⟨x1, x2, x3⟩ := hx _ (List.getElem_mem hlt')
    obtain ⟨c1, c2, c3⟩ := flCs_at hlt'
    have hby : ∀ w, FlsAt w k.a l → By w l[i].h l[i].data := fun w hw => hw.2 _ (List.getElem_mem hlt')
    rw [List.drop_eq_getElem_cons hlt'] at hfo
    unfold filesR at hfo
    have hmk : mkF d l[i] = mkF d l[i] := rfl
    conv at hmk => rhs; unfold mkF
    generalize mkF d l[i] = mk at *
    generalize l[i] = y at *
    obtain ⟨p, dir, kh, data⟩ := y
    dsimp only at x1 x2 x3 c1 c2 c3 hby hmk
    cases dir
    · simp only [Bool.false_eq_true, if_false] at hmk
      have hml := makeR_le d p 1
      have hms := make38_spec d h hh (by omega) p x1 1
      generalize makeR d p 1 = mr at *
      obtain ⟨n, d2, e⟩ := mr
      dsimp only at hmk hml hms
      conv => whnf
      repeat (refine XSame.of ?_; conv => whnf)
      refine XVal.of_read (XRead.index tabOk (t := 22) rfl rfl rfl (by omega) (by omega) hk.nil fun ad had => ?_)
      conv => whnf
      repeat (refine XSame.of ?_; conv => whnf)
      refine XVal.of_read (XRead.loadF tabOk (t := 4) rfl rfl (ad := ad) (k := i * 3 + 1) (L := flCs l) (v := .bool false) (.fact fun w hw => had ▸ hw.1.1) (fun hs => by rw [Addr.addAdd hs]; congr 1) c2 ?_)
      conv => whnf
      repeat (refine XSame.of ?_; conv => whnf)
      refine XVal.of_read (XRead.index tabOk (t := 22) rfl rfl rfl (by omega) (by omega) hk.nil fun ad2 had2 => ?_)
      conv => whnf
      repeat (refine XSame.of ?_; conv => whnf)
      refine XVal.of_read (XRead.loadF tabOk (t := 9) rfl rfl (ad := ad2) (k := i * 3) (L := flCs l) (v := strV p) (.fact fun w hw => had2 ▸ hw.1.1) (fun hs => by rw [Addr.addAdd hs]; congr 1) c1 ?_)
      conv => whnf
      repeat (refine XSame.of ?_; conv => whnf)
      refine XCall.pure hms (fun w hw => hw.2) (fun v D hv => ?_)
      obtain ⟨k2, rfl, hk2, rfl⟩ := hv
      conv => whnf
      repeat (refine XSame.of ?_; conv => whnf)
      generalize hq : iEq (e : Int) 0 = q
      cases q
      · have he : e ≠ 0 := by
          simp [iEq_eq] at hq
          omega
        rw [if_pos he] at hmk
        subst hmk
        rw [if_pos he] at hfo
        rw [hfo]
        conv => whnf
        repeat (refine XSame.of ?_; conv => whnf)
        refine XIf.yes (by simp [iNe_eq]; omega) ?_
        conv => whnf
        repeat (refine XSame.of ?_; conv => whnf)
        exact relDE_nil
      have he : e = 0 := by
        simp [iEq_eq] at hq
        omega
      rw [if_neg (by omega)] at hmk
      have hwl := writeR_le (d := d2) (n := n) (data := data)
      have hws := write37_spec d2 k2 hk2 (by have := hml he; omega) n 0 rfl data kh x3 x2
      generalize writeR d2 n data = wr at *
      obtain ⟨d3, e3⟩ := wr
      dsimp only at hmk hwl hws
      conv => whnf
      repeat (refine XSame.of ?_; conv => whnf)
      refine XVal.of_read (XRead.index tabOk (t := 22) rfl rfl rfl (by omega) (by omega) hk.nil fun ad3 had3 => ?_)
      conv => whnf
      repeat (refine XSame.of ?_; conv => whnf)
      refine XVal.of_read (XRead.loadF tabOk (t := 4) rfl rfl (ad := ad3) (k := i * 3 + 1) (L := flCs l) (v := .bool false) (.fact fun w hw => had3 ▸ hw.1.1.1) (fun hs => by rw [Addr.addAdd hs]; congr 1) c2 ?_)
      conv => whnf
      repeat (refine XSame.of ?_; conv => whnf)
      refine XVal.of_read (XRead.index tabOk (t := 22) rfl rfl rfl (by omega) (by omega) hk.nil fun ad4 had4 => ?_)
      conv => whnf
      repeat (refine XSame.of ?_; conv => whnf)
      refine XVal.of_read (XRead.loadF tabOk (t := 23) rfl rfl (ad := ad4) (k := i * 3 + 2) (L := flCs l) (v := kh.v data.length) (.fact fun w hw => had4 ▸ hw.1.1.1) (fun hs => by rw [Addr.addAdd hs]; congr 1) c3 ?_)
      conv => whnf
      repeat (refine XSame.of ?_; conv => whnf)
      refine XCall.pure hws (fun w hw => ⟨hw.2, hby w hw.1.1⟩) (fun v D hv => ?_)
      obtain ⟨k3, rfl, hk3, rfl⟩ := hv
      conv => whnf
      repeat (refine XSame.of ?_; conv => whnf)
      refine XIf.split (fun hq3 => ?_) (fun hq3 => ?_)
      · have he3 : e3 ≠ 0 := by
          simp [iNe_eq] at hq3
          omega
        rw [if_pos he3] at hmk
        subst hmk
        rw [if_pos he3] at hfo
        rw [hfo]
        conv => whnf
        repeat (refine XSame.of ?_; conv => whnf)
        exact relDE_nil
      have he3 : e3 = 0 := by
        simp [iNe_eq] at hq3
        omega
      rw [if_neg (by omega)] at hmk
      subst hmk
      rw [if_neg (by simp)] at hfo
      conv => whnf
      repeat (refine XSame.of ?_; conv => whnf)
      refine ⟨(i + 1, d3, k3), ⟨⟨hlt', hfo, hwl he3, hk3⟩, by dsimp only; omega⟩, ?_, ?_, ?_⟩
      · conv => whnf
        refine ⟨?_, rfl⟩
        repeat (first | exact FLe.nil | refine FLe.any ?_ | refine FLe.cons ?_ | refine FLe.eq (by rw [wrap_i64 (by omega)]; rfl) ?_)
      · conv => whnf
        exact trivial
      · exact Ent.of_le ⟨by simp [Fx.and], fun w hw => ⟨hw.1.1.1, hw.2⟩⟩
    · simp only [if_true] at hmk
      have hml := makeR_le d p 2
      have hms := make38_spec d h hh (by omega) p x1 2
      generalize makeR d p 2 = mr at *
      obtain ⟨n, d2, e⟩ := mr
      dsimp only at hmk hml hms
      conv => whnf
      repeat (refine XSame.of ?_; conv => whnf)
      refine XVal.of_read (XRead.index tabOk (t := 22) rfl rfl rfl (by omega) (by omega) hk.nil fun ad had => ?_)
      conv => whnf
      repeat (refine XSame.of ?_; conv => whnf)
      refine XVal.of_read (XRead.loadF tabOk (t := 4) rfl rfl (ad := ad) (k := i * 3 + 1) (L := flCs l) (v := .bool true) (.fact fun w hw => had ▸ hw.1.1) (fun hs => by rw [Addr.addAdd hs]; congr 1) c2 ?_)
      conv => whnf
      repeat (refine XSame.of ?_; conv => whnf)
      refine XVal.of_read (XRead.index tabOk (t := 22) rfl rfl rfl (by omega) (by omega) hk.nil fun ad2 had2 => ?_)
      conv => whnf
      repeat (refine XSame.of ?_; conv => whnf)
      refine XVal.of_read (XRead.loadF tabOk (t := 9) rfl rfl (ad := ad2) (k := i * 3) (L := flCs l) (v := strV p) (.fact fun w hw => had2 ▸ hw.1.1) (fun hs => by rw [Addr.addAdd hs]; congr 1) c1 ?_)
      conv => whnf
      repeat (refine XSame.of ?_; conv => whnf)
      refine XCall.pure hms (fun w hw => hw.2) (fun v D hv => ?_)
      obtain ⟨k2, rfl, hk2, rfl⟩ := hv
      conv => whnf
      repeat (refine XSame.of ?_; conv => whnf)
      generalize hq : iEq (e : Int) 0 = q
      cases q
      · have he : e ≠ 0 := by
          simp [iEq_eq] at hq
          omega
        rw [if_pos he] at hmk
        subst hmk
        rw [if_pos he] at hfo
        rw [hfo]
        conv => whnf
        repeat (refine XSame.of ?_; conv => whnf)
        refine XIf.yes (by simp [iNe_eq]; omega) ?_
        conv => whnf
        repeat (refine XSame.of ?_; conv => whnf)
        exact relDE_nil
      have he : e = 0 := by
        simp [iEq_eq] at hq
        omega
      rw [if_neg (by omega)] at hmk
      subst hmk
      rw [if_neg (by simp)] at hfo
      conv => whnf
      repeat (refine XSame.of ?_; conv => whnf)
      refine XVal.of_read (XRead.index tabOk (t := 22) rfl rfl rfl (by omega) (by omega) hk.nil fun ad3 had3 => ?_)
      conv => whnf
      repeat (refine XSame.of ?_; conv => whnf)
      refine XVal.of_read (XRead.loadF tabOk (t := 4) rfl rfl (ad := ad3) (k := i * 3 + 1) (L := flCs l) (v := .bool true) (.fact fun w hw => had3 ▸ hw.1.1.1) (fun hs => by rw [Addr.addAdd hs]; congr 1) c2 ?_)
      conv => whnf
      repeat (refine XSame.of ?_; conv => whnf)
      refine XIf.no (by simp [iNe_eq]; omega) ?_
      conv => whnf
      repeat (refine XSame.of ?_; conv => whnf)
      refine ⟨(i + 1, d2, k2), ⟨⟨hlt', hfo, hml he, hk2⟩, by dsimp only; omega⟩, ?_, ?_, ?_⟩
      · conv => whnf
        refine ⟨?_, rfl⟩
        repeat (first | exact FLe.nil | refine FLe.any ?_ | refine FLe.cons ?_ | refine FLe.eq (by rw [wrap_i64 (by omega)]; rfl) ?_)
      · conv => whnf
        exact trivial
      · exact Ent.of_le ⟨by simp [Fx.and], fun w hw => ⟨hw.1.1, hw.2⟩⟩
  · have hie : i = l.length := by
      simp [iLt_eq] at hlt
      omega
    subst hie
    rw [List.drop_length] at hfo
    have hfo : R = (d, 0) := hfo
    rw [hfo]
    conv => whnf
    repeat (refine XSame.of ?_; conv => whnf)
    exact ⟨⟨fun w => By w h d, []⟩, Ent.of_le ⟨by simp, fun w hw => hw.2⟩, h, rfl, hh, rfl⟩

end Go.Proofs.YtfeoedkmndkbjaaGreatDoor
namespace Go.Proofs.YtfeoedkmndkbjaaGreatDoor
open Go Go.Sx
set_option maxRecDepth 100000
set_option maxHeartbeats 4000000
set_option linter.unusedVariables false
set_option linter.unusedSimpArgs false

theorem pmakeN_spec (d : List UInt8) (h : Hd) (hh : h.Ok d.length) (hl : d.length ≤ 1000000) (p : List UInt8) (hp : p.length ≤ 200) (kind : Int) :
    PureSpec Tryz.prog 33 [h.v d.length, strV p, .int .i64 kind] (fun w => By w h d) (RelN (makeR d p kind).1 (makeR d p kind).2.1 (makeR d p kind).2.2) := by
  have := pmake_spec d h hh hl p hp kind
  rw [make_eq] at this
  exact this

theorem pwrite0_spec (d : List UInt8) (h : Hd) (hh : h.Ok d.length) (hl : d.length ≤ 1000000) (n : Nat) (data : List UInt8) (kd : Hd) (hkd : kd.Ok data.length) (hdl : data.length ≤ 1000000) :
    PureSpec Tryz.prog 34 [h.v d.length, .int .i64 (n : Int), .int .i64 0, kd.v data.length] (fun w => By w h d ∧ By w kd data) (RelDE (writeR d n data).1 (writeR d n data).2) := by
  have := pwriteG_spec d h hh hl n 0 (by decide) 0 rfl data kd hkd hdl
  rw [pwrite_zero] at this
  exact this

theorem filesMake_spec (l : List Fl) (k : Hd) (hk : k.Ok l.length) (hl : l.length ≤ 1000000) (hx : ∀ x ∈ l, x.path.length ≤ 200 ∧ x.data.length ≤ 1000000 ∧ x.h.Ok x.data.length) :
    PureSpec Tryz.prog 15 [k.v l.length] (fun w => FlsAt w k.a l) (RelDE (filesR fmtX l).1 (filesR fmtX l).2) := by
  obtain ⟨R, hR⟩ : ∃ R, R = filesR fmtX l := ⟨_, rfl⟩
  rw [← hR]
  refine PureSpec.of_xc tabOk Tryz.func15 rfl (by decide) (n := Tryz.f15.ntmps - 1) rfl rfl fun w0 av => ?_
  conv => whnf
  have hfl := fmtX_ok.len
  have hfs := pformat_spec.ofO
  generalize fmtX = fd at *
  refine XCall.pure hfs (fun w hw => trivial) (fun v D hv => ?_)
  obtain ⟨h0, rfl, hh0, rfl⟩ := hv
  conv => whnf
  refine XStop.loop tabOk (ι := Nat × List UInt8 × Hd) ([4, 5, 6, 7, 8, 9, 10] ++ List.range' 14 34) (fun x => x.1 ≤ l.length ∧ R = filesR x.2.1 (l.drop x.1) ∧ x.2.1.length = 12288 ∧ x.2.2.Ok x.2.1.length)
    (fun x => [(4, .v (x.2.2.v x.2.1.length)), (14, .v (.int .i64 (x.1 : Int)))]) (fun _ => []) (fun x => ⟨fun w => FlsAt w k.a l ∧ By w x.2.2 x.2.1, []⟩)
    (fun x => l.length - x.1) (0, fd, h0) ⟨Nat.zero_le _, hR, hfl, hh0⟩ ?_ rfl (Ent.of_le ⟨by simp [Fx.and], fun w hw => hw⟩) fun x hx' => ?_
  · conv => whnf
    repeat (first | exact FLe.nil | refine FLe.any ?_ | refine FLe.cons ?_)
  clear hR hfl hfs hh0
  obtain ⟨i, d, h⟩ := x
  obtain ⟨hi, hfo, hdl, hh⟩ := hx'
  dsimp only at hi hfo hdl hh ⊢
  conv => whnf
  repeat (refine XSame.of ?_; conv => whnf)
  refine XIf.split (fun hlt => ?_) (fun hlt => ?_)
  · have hlt' : i < l.length := by
      simp [iLt_eq] at hlt
      omega
    obtain ⟨x1, x2, x3⟩ := hx _ (List.getElem_mem hlt')
    have hcg := flCs_get hlt'
    have hby : ∀ w, FlsAt w k.a l → By w l[i].h l[i].data := fun w hw => hw.2 _ (List.getElem_mem hlt')
    rw [List.drop_eq_getElem_cons hlt'] at hfo
    unfold filesR at hfo
    have hmk : mkF d l[i] = mkF d l[i] := rfl
    conv at hmk => rhs; unfold mkF
    generalize mkF d l[i] = mk at *
    generalize l[i] = y at *
    obtain ⟨p, dir, kh, data⟩ := y
    dsimp only at x1 x2 x3 hcg hby hmk
    cases dir
    · simp only [Bool.false_eq_true, if_false] at hmk
      have hml := makeR_le d p 1
      have hms := pmakeN_spec d h hh (by omega) p x1 1
      generalize makeR d p 1 = mr at *
      obtain ⟨n, d2, e⟩ := mr
      dsimp only at hmk hml hms
      conv => whnf
      repeat (refine XSame.of ?_; conv => whnf)
      refine XVal.of_read (XRead.index tabOk (t := 46) rfl rfl rfl (by omega) (by omega) hk.nil fun ad had => ?_)
      conv => whnf
      repeat (refine XSame.of ?_; conv => whnf)
      refine XVal.of_read (XRead.loads tabOk (t := 57) rfl rfl (ad := ad) (k := i * 3) (L := flCs l) (m := flC ⟨p, false, kh, data⟩) (.fact fun w hw => had ▸ hw.1.1) (by simp) hcg rfl ?_)
      conv => whnf
      repeat (refine XSame.of ?_; conv => whnf)
      intro b0
      conv => whnf
      repeat (refine XSame.of ?_; conv => whnf)
      refine XCall.pure hms (fun w hw => hw.2) (fun v D hv => ?_)
      obtain ⟨k2, rfl, hk2, rfl⟩ := hv
      conv => whnf
      repeat (refine XSame.of ?_; conv => whnf)
      refine XIf.split (fun hq => ?_) (fun hq => ?_)
      · have he : e ≠ 0 := by
          simp [iNe_eq] at hq
          omega
        rw [if_pos he] at hmk
        subst hmk
        rw [if_pos he] at hfo
        rw [hfo]
        conv => whnf
        repeat (refine XSame.of ?_; conv => whnf)
        exact relDE_nil
      have he : e = 0 := by
        simp [iNe_eq] at hq
        omega
      rw [if_neg (by omega)] at hmk
      have hwl := writeR_le (d := d2) (n := n) (data := data)
      have hws := pwrite0_spec d2 k2 hk2 (by have := hml he; omega) n data kh x3 x2
      generalize writeR d2 n data = wr at *
      obtain ⟨d3, e3⟩ := wr
      dsimp only at hmk hwl hws
      conv => whnf
      repeat (refine XSame.of ?_; conv => whnf)
      refine XCall.pure hws (fun w hw => ⟨hw.2, hby w hw.1.1⟩) (fun v D hv => ?_)
      obtain ⟨k3, rfl, hk3, rfl⟩ := hv
      conv => whnf
      repeat (refine XSame.of ?_; conv => whnf)
      refine XIf.split (fun hq3 => ?_) (fun hq3 => ?_)
      · have he3 : e3 ≠ 0 := by
          simp [iNe_eq] at hq3
          omega
        rw [if_pos he3] at hmk
        subst hmk
        rw [if_pos he3] at hfo
        rw [hfo]
        conv => whnf
        repeat (refine XSame.of ?_; conv => whnf)
        exact relDE_nil
      have he3 : e3 = 0 := by
        simp [iNe_eq] at hq3
        omega
      rw [if_neg (by omega)] at hmk
      subst hmk
      rw [if_neg (by simp)] at hfo
      conv => whnf
      repeat (refine XSame.of ?_; conv => whnf)
      refine ⟨(i + 1, d3, k3), ⟨⟨hlt', hfo, hwl he3, hk3⟩, by dsimp only; omega⟩, ?_, ?_, ?_⟩
      · conv => whnf
        refine ⟨?_, rfl⟩
        repeat (first | exact FLe.nil | refine FLe.any ?_ | refine FLe.cons ?_ | refine FLe.eq (by rw [wrap_i64 (by omega)]; rfl) ?_)
      · conv => whnf
        exact trivial
      · exact Ent.of_le ⟨by simp [Fx.and], fun w hw => ⟨hw.1.1.1, hw.2⟩⟩
    · simp only [if_true] at hmk
      have hml := makeR_le d p 2
      have hms := pmakeN_spec d h hh (by omega) p x1 2
      generalize makeR d p 2 = mr at *
      obtain ⟨n, d2, e⟩ := mr
      dsimp only at hmk hml hms
      conv => whnf
      repeat (refine XSame.of ?_; conv => whnf)
      refine XVal.of_read (XRead.index tabOk (t := 46) rfl rfl rfl (by omega) (by omega) hk.nil fun ad had => ?_)
      conv => whnf
      repeat (refine XSame.of ?_; conv => whnf)
      refine XVal.of_read (XRead.loads tabOk (t := 57) rfl rfl (ad := ad) (k := i * 3) (L := flCs l) (m := flC ⟨p, true, kh, data⟩) (.fact fun w hw => had ▸ hw.1.1) (by simp) hcg rfl ?_)
      conv => whnf
      repeat (refine XSame.of ?_; conv => whnf)
      intro b0
      conv => whnf
      repeat (refine XSame.of ?_; conv => whnf)
      refine XCall.pure hms (fun w hw => hw.2) (fun v D hv => ?_)
      obtain ⟨k2, rfl, hk2, rfl⟩ := hv
      conv => whnf
      repeat (refine XSame.of ?_; conv => whnf)
      refine XIf.split (fun hq => ?_) (fun hq => ?_)
      · have he : e ≠ 0 := by
          simp [iNe_eq] at hq
          omega
        rw [if_pos he] at hmk
        subst hmk
        rw [if_pos he] at hfo
        rw [hfo]
        conv => whnf
        repeat (refine XSame.of ?_; conv => whnf)
        exact relDE_nil
      have he : e = 0 := by
        simp [iNe_eq] at hq
        omega
      rw [if_neg (by omega)] at hmk
      subst hmk
      rw [if_neg (by simp)] at hfo
      conv => whnf
      repeat (refine XSame.of ?_; conv => whnf)
      refine XIf.no (by simp [iNe_eq]; omega) ?_
      conv => whnf
      repeat (refine XSame.of ?_; conv => whnf)
      refine ⟨(i + 1, d2, k2), ⟨⟨hlt', hfo, hml he, hk2⟩, by dsimp only; omega⟩, ?_, ?_, ?_⟩
      · conv => whnf
        refine ⟨?_, rfl⟩
        repeat (first | exact FLe.nil | refine FLe.any ?_ | refine FLe.cons ?_ | refine FLe.eq (by rw [wrap_i64 (by omega)]; rfl) ?_)
      · conv => whnf
        exact trivial
      · exact Ent.of_le ⟨by simp [Fx.and], fun w hw => ⟨hw.1.1, hw.2⟩⟩
  · have hie : i = l.length := by
      simp [iLt_eq] at hlt
      omega
    subst hie
    rw [List.drop_length] at hfo
    have hfo : R = (d, 0) := hfo
    rw [hfo]
    conv => whnf
    repeat (refine XSame.of ?_; conv => whnf)
    exact ⟨⟨fun w => By w h d, []⟩, Ent.of_le ⟨by simp, fun w hw => hw.2⟩, h, rfl, hh, rfl⟩

end Go.Proofs.YtfeoedkmndkbjaaGreatDoor
namespace Go.Proofs.YtfeoedkmndkbjaaGreatDoor
open Go Go.Sx
set_option maxRecDepth 100000
set_option maxHeartbeats 4000000
set_option linter.unusedVariables false
set_option linter.unusedSimpArgs false

def fewF (l : List Fl) : Bool := l.all (fun x => decide (x.path.length ≤ 100) && decide (x.data.length ≤ 400)) && decide (l.length ≤ 8)

theorem fewF_spec (l : List Fl) (k : Hd) (hk : k.Ok l.length) (hl : l.length ≤ 3000000000000000000) : PureSpec Tryz.prog 7 [k.v l.length] (fun w => FlsAt w k.a l) (fun v F => v = .bool (fewF l)) := by
  refine PureSpec.of_xc tabOk Tryz.func7 rfl (by decide) (n := Tryz.f7.ntmps - 1) rfl rfl fun w0 av => ?_
  conv => whnf
  refine XStop.loop tabOk (ι := Nat) ([3] ++ List.range' 4 22) (fun x => x ≤ l.length ∧ (l.take x).all (fun x => decide (x.path.length ≤ 100) && decide (x.data.length ≤ 400)) = true)
    (fun x => [(3, .v (.int .i64 (x : Int)))]) (fun _ => []) (fun _ => ⟨fun w => FlsAt w k.a l, []⟩)
    (fun x => l.length - x) 0 ⟨Nat.zero_le _, rfl⟩ ?_ rfl (Ent.refl _) fun i hi => ?_
  · conv => whnf
    repeat (first | exact FLe.nil | refine FLe.any ?_ | refine FLe.cons ?_)
  obtain ⟨hi, hall⟩ := hi
  conv => whnf
  refine XIf.split (fun hlt => ?_) (fun hlt => ?_)
  · have hlt' : i < l.length := by
      simp only [iLt_eq, decide_eq_true_eq] at hlt
      omega
    obtain ⟨c1, c2, c3⟩ := flCs_at hlt'
    have hno : ¬ (l[i].path.length ≤ 100 ∧ l[i].data.length ≤ 400) → fewF l = false := by
      intro hn
      unfold fewF
      have : l.all (fun x => decide (x.path.length ≤ 100) && decide (x.data.length ≤ 400)) = false := by
        rw [List.all_eq_false]
        exact ⟨_, List.getElem_mem hlt', by simpa using hn⟩
      rw [this]
      rfl
    conv => whnf
    refine XVal.of_read (XRead.index tabOk (t := 22) rfl rfl rfl (by omega) (by omega) hk.nil fun ad had => ?_)
    conv => whnf
    refine XVal.of_read (XRead.loadF tabOk (t := 9) rfl rfl (ad := ad) (k := i * 3) (L := flCs l) (v := strV l[i].path) (.fact fun w hw => had ▸ hw.1) (fun hs => by rw [Addr.addAdd hs]; congr 1) c1 ?_)
    conv => whnf
    repeat (refine XSame.of ?_; conv => whnf)
    have hsz : (ByteArray.mk ⟨l[i].path⟩).size = l[i].path.length := rfl
    refine XIf.split (fun h1 => ?_) (fun h1 => ?_)
    · conv => whnf
      repeat (refine XSame.of ?_; conv => whnf)
      repeat' (first
        | (refine XIf.yes rfl ?_; conv => whnf))
      have : ¬ l[i].path.length ≤ 100 := by
        simp [iGt_eq, hsz] at h1
        omega
      exact ⟨_, Ent.refl _, by rw [hno fun h => this h.1]⟩
    have h1' : l[i].path.length ≤ 100 := by
      simp [iGt_eq, hsz] at h1
      omega
    conv => whnf
    repeat (refine XSame.of ?_; conv => whnf)
    refine XVal.of_read (XRead.index tabOk (t := 22) rfl rfl rfl (by omega) (by omega) hk.nil fun ad had => ?_)
    conv => whnf
    refine XVal.of_read (XRead.loadF tabOk (t := 23) rfl rfl (ad := ad) (k := i * 3 + 2) (L := flCs l) (v := l[i].h.v l[i].data.length) (.fact fun w hw => had ▸ hw.1) (fun hs => by rw [Addr.addAdd hs]; congr 1) c3 ?_)
    conv => whnf
    repeat (refine XSame.of ?_; conv => whnf)
    refine XIf.split (fun h2 => ?_) (fun h2 => ?_)
    · conv => whnf
      repeat (refine XSame.of ?_; conv => whnf)
      have : ¬ l[i].data.length ≤ 400 := by
        simp [iGt_eq] at h2
        omega
      exact ⟨_, Ent.refl _, by rw [hno fun h => this h.2]⟩
    · have h2' : l[i].data.length ≤ 400 := by
        simp [iGt_eq] at h2
        omega
      conv => whnf
      repeat (refine XSame.of ?_; conv => whnf)
      refine ⟨i + 1, ⟨⟨hlt', ?_⟩, by dsimp only; omega⟩, ?_, ?_, Ent.refl _⟩
      · rw [List.take_succ_eq_append_getElem hlt', List.all_append, hall]
        simp [h1', h2']
      · conv => whnf
        refine ⟨?_, rfl⟩
        repeat (first | exact FLe.nil | refine FLe.any ?_ | refine FLe.cons ?_ | refine FLe.eq (by rw [wrap_i64 (by omega)]; rfl) ?_)
      · conv => whnf
        exact trivial
  · have hie : i = l.length := by
      simp only [iLt_eq, decide_eq_false_iff_not] at hlt
      omega
    subst hie
    rw [List.take_length] at hall
    conv => whnf
    refine ⟨_, Ent.refl _, ?_⟩
    unfold fewF
    rw [hall, Bool.true_and]
    show Value.bool (iLe _ _) = _
    congr 1
    rw [iLe_eq, decide_eq_decide]
    omega

theorem flC_one (x : Fl) : ∀ v ∈ flC x, oneCell v = true := by
  intro v hv
  simp [flC] at hv
  rcases hv with rfl | rfl | rfl <;> rfl

end Go.Proofs.YtfeoedkmndkbjaaGreatDoor
namespace Go.Proofs.YtfeoedkmndkbjaaGreatDoor
open Go Go.Sx
set_option maxRecDepth 100000
set_option maxHeartbeats 4000000
set_option linter.unusedVariables false
set_option linter.unusedSimpArgs false

theorem pcheck38_spec (d : List UInt8) (h : Hd) (hh : h.Ok d.length) (hl : d.length ≤ 1000000) : PureSpec Tryz.prog 21 [h.v d.length] (fun w => By w h d) (fun v F => v = .int .i64 (chk38 d : Int)) := by
  have ho := openT_spec d h hh hl
  rw [openE_eq] at ho
  refine PureSpec.of_xc tabOk Tryz.func21 rfl (by decide) (n := Tryz.f21.ntmps - 1) rfl rfl fun w0 av => ?_
  generalize chk38 d = e at *
  conv => whnf
  repeat (refine XSame.of ?_; conv => whnf)
  refine XCall.val ho (fun w hw => hw) (fun v D hv => ?_)
  obtain ⟨p, rfl⟩ : ∃ p, v = .tuple #[.pointer p, .int .i64 (e : Int)] := by
    unfold RelTr at hv
    split at hv
    · obtain ⟨bt, bm, H, _, rfl, _⟩ := hv
      exact ⟨_, rfl⟩
    · obtain ⟨p, rfl, _⟩ := hv
      exact ⟨p, rfl⟩
  conv => whnf
  repeat (refine XSame.of ?_; conv => whnf)
  exact ⟨_, Ent.refl _, rfl⟩

theorem theTree_find (d : List UInt8) (H : Nat → Hd) (n : Nat) (s : List UInt8) : (theTree d H).find n s = (T0 d).find n s := rfl

theorem theTree_walk (d : List UInt8) (H : Nat → Hd) : ∀ (l : List (List UInt8)) (n : Nat), (theTree d H).walk l n = (T0 d).walk l n
  | [], n => rfl
  | s :: r, n => by
    unfold Tree.walk
    rw [theTree_find, theTree_walk d H r]

theorem walkR_P {d : List UInt8} (h38 : chk38 d = 0) (p : List UInt8) : walkR d p = if (splitR p).2 ≠ 0 then (0, 15) else (T0 d).walk (splitR p).1 0 := by
  obtain ⟨h0, hG, hE⟩ := tree_facts h38
  obtain ⟨hr1, hr2⟩ := mem_dl.1 (root_in h0)
  have hsn := splitR_names p
  unfold walkR
  rw [if_neg (show ¬ chk38 d ≠ 0 by rw [h38]; simp)]
  split
  · rfl
  · exact ((walk_follow h38 (splitR p).1 0 hr1 (by omega) fun s hs h => by
      have := hsn s hs
      rw [h] at this
      cases this).1).symm

theorem dwalk_spec (d : List UInt8) (h : Hd) (hh : h.Ok d.length) (hl : d.length ≤ 1000000) (p : List UInt8) (hp : p.length ≤ 200) :
    PureSpec Tryz.prog 45 [h.v d.length, strV p] (fun w => By w h d) (RelII (walkR d p).1 (walkR d p).2) := by
  obtain ⟨M, hM⟩ : ∃ x, x = walkR d p := ⟨_, rfl⟩
  rw [← hM]
  have hos := openT_spec d h hh hl
  rw [openE_eq] at hos
  refine PureSpec.of_xc tabOk Tryz.func45 rfl (by decide) (n := Tryz.f45.ntmps - 2) rfl rfl fun w0 av => ?_
  conv => whnf
  refine XCall.pure hos (fun w hw => hw) (fun v D hv => ?_)
  unfold RelTr at hv
  by_cases h0 : chk38 d = 0
  rotate_left
  · rw [if_neg h0] at hv
    obtain ⟨q, rfl, rfl⟩ := hv
    have : M = (0, chk38 d) := by
      rw [hM]
      unfold walkR
      rw [if_pos h0]
    rw [this]
    generalize chk38 d = e at *
    conv => whnf
    repeat (refine XSame.of ?_; conv => whnf)
    refine XIf.yes (by simp [iNe_eq]; omega) ?_
    conv => whnf
    repeat (refine XSame.of ?_; conv => whnf)
    exact ⟨_, Ent.refl _, rfl⟩
  rw [walkR_P h0] at hM
  rw [if_pos h0] at hv
  obtain ⟨bt, bm, H, hH, rfl, rfl⟩ := hv
  have hT := theTree_ok d hH
  have hwe := theTree_walk d H (splitR p).1 0
  rw [← hwe] at hM
  generalize theTree d H = T at *
  generalize chk38 d = e at *
  subst h0
  clear hos hwe
  conv => whnf
  repeat (refine XSame.of ?_; conv => whnf)
  refine XIf.no (by simp [iNe_eq]) ?_
  conv => whnf
  repeat (refine XSame.of ?_; conv => whnf)
  refine XCall.pure (dirsSplit_spec p hp) (fun w hw => trivial) (fun v D hv => ?_)
  obtain ⟨kn, rfl, hkn, rfl⟩ := hv
  have hsm := splitR_small p hp
  have hse := splitR_err p
  generalize splitR p = sp at *
  obtain ⟨names, se⟩ := sp
  dsimp only at hkn hM hsm hse ⊢
  conv => whnf
  repeat (refine XSame.of ?_; conv => whnf)
  refine XIf.split (fun hs => ?_) (fun hs => ?_)
  · have hs' : se ≠ 0 := by
      simp [iNe_eq] at hs
      omega
    rw [if_pos hs'] at hM
    have hs15 : se = 15 := by omega
    rw [hM]
    conv => whnf
    repeat (refine XSame.of ?_; conv => whnf)
    refine ⟨_, Ent.refl _, ?_⟩
    unfold RelII
    rw [hs15]
    rfl
  · have hs' : ¬ se ≠ 0 := by
      simp [iNe_eq] at hs
      omega
    rw [if_neg hs'] at hM
    have htw := twalk_spec T hT (h.v d.length) bt bm kn names hkn hsm
    rw [← hM] at htw
    conv => whnf
    repeat (refine XSame.of ?_; conv => whnf)
    refine XCall.val htw (fun w hw => ⟨hw.1.2, hw.2⟩) (fun v D hv => ?_)
    unfold RelII at hv
    subst hv
    conv => whnf
    repeat (refine XSame.of ?_; conv => whnf)
    exact ⟨_, Ent.refl _, rfl⟩

end Go.Proofs.YtfeoedkmndkbjaaGreatDoor
namespace Go.Proofs.YtfeoedkmndkbjaaGreatDoor
open Go Go.Sx
set_option maxRecDepth 100000
set_option maxHeartbeats 4000000
set_option linter.unusedVariables false
set_option linter.unusedSimpArgs false

theorem contentR_bad {d : List UInt8} {n : Nat} (h : gete d n ≠ 0) : contentR d n = [] := by
  unfold contentR
  rw [if_pos h]

end Go.Proofs.YtfeoedkmndkbjaaGreatDoor
namespace Go.Proofs.YtfeoedkmndkbjaaGreatDoor
open Go Go.Sx
set_option maxRecDepth 100000
set_option maxHeartbeats 4000000
set_option linter.unusedVariables false
set_option linter.unusedSimpArgs false

theorem cut_drop (c : List UInt8) (off cnt : Nat) : cut c (min off c.length) (min cnt (c.length - min off c.length)) = (c.drop off).take cnt := by
  unfold cut
  by_cases h : off ≤ c.length
  · rw [Nat.min_eq_left h]
    by_cases h2 : cnt ≤ c.length - off
    · rw [Nat.min_eq_left h2]
    · rw [Nat.min_eq_right (by omega), List.take_of_length_le (l := List.drop off c) (by simp), List.take_of_length_le (l := List.drop off c) (by simp; omega)]
  · have hm : min off c.length = c.length := Nat.min_eq_right (by omega)
    have hd : c.drop off = [] := List.drop_eq_nil_of_le (by omega)
    rw [hm, Nat.sub_self, Nat.min_zero, hd]
    simp

theorem preadG_spec (d : List UInt8) (h : Hd) (hh : h.Ok d.length) (hl : d.length ≤ 1000000) (n : Nat) (offN cntN : Nat) (hoN : offN ≤ 9223372036854775807) (hcN : cntN ≤ 1000000000) (off cnt : Int) (ho : off = (offN : Int)) (hc : cnt = (cntN : Int)) :
    PureSpec Tryz.prog 49 [h.v d.length, .int .i64 (n : Int), .int .i64 off, .int .i64 cnt] (fun w => By w h d) (RelDE (((contentR d n).drop offN).take cntN) (gete d n)) := by
  have hge := pgete d n
  have hgi := getGi_ok (d := d) (m := n)
  have hbad := contentR_bad (d := d) (n := n)
  refine PureSpec.of_xc tabOk Tryz.func49 rfl (by decide) (n := Tryz.f49.ntmps - 4) rfl rfl fun w0 av => ?_
  conv => whnf
  refine XCall.pure (with_spec d h hh hl n) (fun w hw => hw) (fun v D hv => ?_)
  unfold RelW at hv
  by_cases h0 : chk d = 0
  rotate_left
  · rw [if_neg h0] at hv
    obtain ⟨rfl, rfl⟩ := hv
    have he : gete d n = chk d := by
      unfold gete
      rw [if_pos h0]
    rw [hbad (by rw [he]; exact h0), he, List.drop_nil, List.take_nil]
    generalize chk d = e at *
    conv => whnf
    repeat (refine XSame.of ?_; conv => whnf)
    intro b11
    conv => whnf
    repeat (refine XSame.of ?_; conv => whnf)
    refine XIf.yes (by simp [iNe_eq]; omega) ?_
    conv => whnf
    repeat (refine XSame.of ?_; conv => whnf)
    exact relDE_nil
  rw [if_pos h0] at hv
  obtain ⟨bd, bv, cap, Z, k, rfl, hcap, hk, rfl⟩ := hv
  have hge := hge h0
  obtain ⟨hd, hok⟩ := chk_zero h0
  by_cases hg : gete d n = 0
  rotate_left
  · rw [hbad hg, List.drop_nil, List.take_nil]
    rw [← hge] at hg ⊢
    generalize getGe (dIno d) n = ge at *
    generalize getGi (dIno d) n = gi at *
    conv => whnf
    repeat (refine XSame.of ?_; conv => whnf)
    intro b11
    conv => whnf
    repeat (refine XSame.of ?_; conv => whnf)
    refine XIf.yes (by simp [iNe_eq]; omega) ?_
    conv => whnf
    repeat (refine XSame.of ?_; conv => whnf)
    exact relDE_nil
  obtain ⟨hn, hkn⟩ := (gete_iff h0).1 hg
  obtain ⟨g1, g2⟩ := hgi hn hkn
  rw [g2, show inoV (rk d n, rs d n, rb d n) = inoL (rk d n) (rs d n) (rb d n) from rfl]
  have hcr : contentR d n = (contB d (rb d n) 12).take (rs d n) := by
    unfold contentR
    rw [if_neg (by rw [hg]; simp)]
  have hf := hok.form n hn
  have hsz := form_size hf
  have hvc := vcontent_spec bv (vwG (.slice (some ⟨bd, 0, none⟩) d.length cap) (dIno d) (k.v 12)) ⟨some ⟨bd, 0, none⟩, cap⟩ d rfl ⟨fun h => (by cases h), hcap⟩ hd (rk d n) (rs d n) (rb d n) hsz (fun i hi => ok_blocks hok hn hi) (fun i hi h0 => (form_blocks hf i hi h0).2.2)
  rw [← hcr] at hvc
  have hcl : (contentR d n).length ≤ 1536 := by
    rw [hcr, List.length_take]
    omega
  generalize vwG (.slice (some ⟨bd, 0, none⟩) d.length cap) (dIno d) (k.v 12) = V at *
  generalize contentR d n = c at *
  rw [← hge]
  generalize rk d n = kk at *
  generalize rs d n = ss at *
  generalize rb d n = bb at *
  generalize getGe (dIno d) n = e at *
  have he : e = 0 := g1
  conv => whnf
  repeat (refine XSame.of ?_; conv => whnf)
  intro b11
  conv => whnf
  repeat (refine XSame.of ?_; conv => whnf)
  refine XIf.no (by simp [iNe_eq, he]) ?_
  conv => whnf
  repeat (refine XSame.of ?_; conv => whnf)
  refine XIf.no (by rw [ho, hc]; simp [iLt_eq] <;> omega) ?_
  conv => whnf
  repeat (refine XSame.of ?_; conv => whnf)
  refine XCall.ent (F' := ⟨fun w => RowAt w (some ⟨bv, 0, none⟩) V ∧ By w ⟨some ⟨bd, 0, none⟩, cap⟩ d, []⟩) (Ent.shareAll.trans (Ent.imp fun w hw => ?_)) ?_
  · obtain ⟨-, h1, h2, -⟩ := hw
    refine ⟨h2, ?_⟩
    have h3 := RowAt.take h1 d.length
    rw [List.take_append_of_le_length (by simp), List.take_of_length_le (by simp)] at h3
    exact h3
  refine XCall.pure hvc (fun w hw => hw) (fun v D hv => ?_)
  obtain ⟨kc, rfl, hkc, rfl⟩ := hv
  conv => whnf
  repeat (refine XSame.of ?_; conv => whnf)
  have hlo : (if (c.length : Int) < off then (c.length : Int) else off) = ((min offN c.length : Nat) : Int) := by
    rw [ho]
    split <;> omega
  have hcc := hkc.cap
  have hcd := cut_drop c offN cntN
  have hlm : min offN c.length ≤ c.length := Nat.min_le_right _ _
  generalize min offN c.length = lo at *
  have hlen : min cntN (c.length - lo) ≤ c.length - lo := Nat.min_le_right _ _
  have hmn : ∀ z : Int, z = ((c.length - lo : Nat) : Int) → (if z < cnt then z else cnt) = ((min cntN (c.length - lo) : Nat) : Int) := fun z hz => by
    rw [hc, hz]
    split <;> omega
  generalize min cntN (c.length - lo) = len at *
  have hcl2 : (cut c lo len).length = len := cut_len (by omega)
  rw [hcd] at hcl2
  refine XVal.of_read (XRead.sub2 tabOk (t := 23) rfl rfl rfl rfl lo len hlo ?_ (by omega) ?_)
  · rw [hlo, hmn _ (by rw [wrap_i64 (by omega)]; omega), wrap_i64 (by omega)]
    omega
  conv => whnf
  repeat (refine XSame.of ?_; conv => whnf)
  refine ⟨⟨fun w => By w (Hd.sub kc lo) ((c.drop offN).take cntN), []⟩, Ent.of_le ⟨by simp [Fx.and], fun w hw => ?_⟩, Hd.sub kc lo, by rw [he, hcl2]; rfl, by rw [hcl2]; exact Hd.sub_ok hkc (by omega), rfl⟩
  have h5 := By.sub hw.2 (l := lo) (k := len) (by omega)
  rw [hcd] at h5
  exact h5

end Go.Proofs.YtfeoedkmndkbjaaGreatDoor
