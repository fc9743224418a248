/- Parts of the proof: NbA, NbB, NbC, NbD. -/
import Derived.Test.YtfeoedkmndkbjaaGreatDoorQE
import Derived.Test.YtfeoedkmndkbjaaGreatDoorQF
namespace Go.Proofs.YtfeoedkmndkbjaaGreatDoor
open Go Go.Sx
set_option maxRecDepth 100000
set_option maxHeartbeats 4000000
set_option linter.unusedVariables false
set_option linter.unusedSimpArgs false

/-- A bit on and off. -/
def onN (x k : Nat) : Nat := if x / 2 ^ k % 2 = 1 then x else x + 2 ^ k
def offN (x k : Nat) : Nat := if x / 2 ^ k % 2 = 1 then x - 2 ^ k else x

theorem all256 {p : Nat → Nat → Prop} [∀ x k, Decidable (p x k)] (h : (List.range 256).all (fun x => (List.range 8).all fun k => decide (p x k)) = true) {x k : Nat} (hx : x < 256) (hk : k < 8) : p x k := by
  rw [List.all_eq_true] at h
  have := h x (List.mem_range.2 hx)
  rw [List.all_eq_true] at this
  simpa using this k (List.mem_range.2 hk)

theorem or_bit {x k : Nat} (hx : x < 256) (hk : k < 8) : Sx.bits .or .u8 (x : Int) (IntKind.u8.wrap (1 * 2 ^ k)) = (onN x k : Int) :=
  all256 (p := fun x k => Sx.bits .or .u8 (x : Int) (IntKind.u8.wrap (1 * 2 ^ k)) = (onN x k : Int)) (by decide +kernel) hx hk

theorem andNot_bit {x k : Nat} (hx : x < 256) (hk : k < 8) : Sx.bits .andNot .u8 (x : Int) (IntKind.u8.wrap (1 * 2 ^ k)) = (offN x k : Int) :=
  all256 (p := fun x k => Sx.bits .andNot .u8 (x : Int) (IntKind.u8.wrap (1 * 2 ^ k)) = (offN x k : Int)) (by decide +kernel) hx hk

theorem and_bit {x k : Nat} (hx : x < 256) (hk : k < 8) : Sx.bits .and .u8 ((x / 2 ^ k : Nat) : Int) 1 = ((x / 2 ^ k % 2 : Nat) : Int) :=
  all256 (p := fun x k => Sx.bits .and .u8 ((x / 2 ^ k : Nat) : Int) 1 = ((x / 2 ^ k % 2 : Nat) : Int)) (by decide +kernel) hx hk

theorem on_off {x k : Nat} (hx : x < 256) (hk : k < 8) : onN (offN x k) k = onN x k :=
  all256 (p := fun x k => onN (offN x k) k = onN x k) (by decide +kernel) hx hk

theorem onN_lt {x k : Nat} (hx : x < 256) (hk : k < 8) : onN x k < 256 :=
  all256 (p := fun x k => onN x k < 256) (by decide +kernel) hx hk

theorem offN_lt {x k : Nat} (hx : x < 256) (hk : k < 8) : offN x k < 256 :=
  all256 (p := fun x k => offN x k < 256) (by decide +kernel) hx hk

def getB (b : List UInt8) (i : Nat) : Bool := decide (i / 8 < b.length) && decide (byt b (i / 8) / 2 ^ (i % 8) % 2 = 1)

def putB (b : List UInt8) (i : Nat) (on : Bool) : List UInt8 := b.set (i / 8) (UInt8.ofNat (if on then onN (byt b (i / 8)) (i % 8) else offN (byt b (i / 8)) (i % 8)))

theorem putB_len (b : List UInt8) (i : Nat) (on : Bool) : (putB b i on).length = b.length := by simp [putB]

theorem get7_spec (b : List UInt8) (h : Hd) (hh : h.Ok b.length) (i : Nat) (hi : i ≤ 1000000) (hb : b.length ≤ 1000000) : PureSpec Tryz.prog 103 [h.v b.length, .int .i64 (i : Int)] (fun w => By w h b) (fun v F => v = .bool (getB b i)) := by
  refine PureSpec.of_xc tabOk Tryz.func103 rfl (by decide) (n := Tryz.f103.ntmps - 2) rfl rfl fun w0 av => ?_
  have hw : IntKind.i64.wrap (Int.tdiv (i : Int) (Int.ofNat 8)) = ((i / 8 : Nat) : Int) := wdiv i 8 (by omega)
  have hm : Int.tmod (i : Int) (Int.ofNat 8) = ((i % 8 : Nat) : Int) := tmod_nat i 8
  conv => whnf
  repeat (refine XSame.of ?_; conv => whnf)
  refine XIf.split (fun ht => ?_) (fun ht => ?_)
  · conv => whnf
    have hlt : i / 8 < b.length := by
      simp only [iGe_eq, iLt_eq, Bool.and_eq_true, decide_eq_true_eq] at ht
      have := ht.2
      rw [hw] at this
      omega
    refine XVal.of_read (XRead.byteAt tabOk (t := 23) rfl rfl rfl rfl (i / 8) hw hlt hh fun ad had => ?_)
    conv => whnf
    refine XVal.of_read (XRead.byteLd' tabOk (t := 5) rfl rfl had (.fact fun w h => h) rfl hlt ?_)
    conv => whnf
    refine XVal.of_read (XRead.shr (a := byt b (i / 8)) hm (by show i % 8 ≤ 8; omega) ?_)
    conv => whnf
    repeat (refine XSame.of ?_; conv => whnf)
    refine ⟨_, Ent.refl _, ?_⟩
    show Value.bool (true && iEq (Sx.bits .and .u8 ((byt b (i / 8) / 2 ^ (i % 8) : Nat) : Int) 1) 1) = _
    rw [and_bit (byt_lt _ _) (Nat.mod_lt _ (by decide)), iEq_eq]
    unfold getB
    rw [decide_eq_true hlt, Bool.true_and]
    generalize byt b (i / 8) / 2 ^ (i % 8) % 2 = q
    congr 1
    rw [Bool.eq_iff_iff]
    simp only [Bool.true_and, beq_iff_eq, decide_eq_true_eq]
    omega
  · conv => whnf
    repeat (refine XSame.of ?_; conv => whnf)
    refine ⟨_, Ent.refl _, ?_⟩
    have hlt : ¬ i / 8 < b.length := by
      simp only [iGe_eq, iLt_eq, Bool.and_eq_false_iff, decide_eq_false_iff_not] at ht
      rw [hw] at ht
      omega
    unfold getB
    rw [decide_eq_false hlt]
    rfl

theorem put7_spec (b : List UInt8) (h : Hd) (hh : h.Ok b.length) (i : Nat) (on : Bool) (hi : i / 8 < b.length) (hb : b.length ≤ 1000000) : PureSpec Tryz.prog 85 [h.v b.length, .int .i64 (i : Int), .bool on] (fun w => By w h b) (RelB (putB b i on)) := by
  refine PureSpec.of_xc tabOk Tryz.func85 rfl (by decide) (n := Tryz.f85.ntmps - 3) rfl rfl fun w0 av => ?_
  have hw : IntKind.i64.wrap (Int.tdiv (i : Int) (Int.ofNat 8)) = ((i / 8 : Nat) : Int) := wdiv i 8 (by omega)
  have hm : Int.tmod (i : Int) (Int.ofNat 8) = ((i % 8 : Nat) : Int) := tmod_nat i 8
  have h8 : i % 8 < 8 := Nat.mod_lt _ (by decide)
  conv => whnf
  repeat (refine XSame.of ?_; conv => whnf)
  refine XVal.build tabOk (t := 23) rfl rfl rfl [] rfl rfl (by simp) (by decide) fun b0 => ?_
  conv => whnf
  refine XVal.ent (F' := ⟨fun w => By w h b, []⟩) (Ent.of_le ⟨by simp, fun w hw => hw⟩) ?_
  refine XVal.copyBytes tabOk (t := 23) (xt := 23) rfl rfl rfl rfl rfl rfl rfl rfl (l := b) (.fact fun w hw => hw) (by omega) hb fun b1 c1 Z hc hZ => ?_
  conv => whnf
  refine XStop.draw tabOk mixed rfl rfl ?_
  conv => whnf
  repeat' (first
    | (refine And.intro ?_ ?_ <;> conv => whnf)
    | (refine XHeld.same rfl ?_; conv => whnf)
    | (refine XHeld.row rfl ?_; conv => whnf)
    | (refine XHeld.call rfl ?_; conv => whnf)
    | (refine XKeep.of ?_; conv => whnf)
    | (refine XSame.of ?_; conv => whnf)
    | (refine XRead.rowIx tabOk (t := 23) rfl rfl rfl rfl (i / 8) hw hi ?_; conv => whnf)
    | (refine XRead.rowLd tabOk (t := 5) rfl rfl (l := b) (Sees.bytes (Z := Z) (by simp)) hi ?_; conv => whnf)
    | (refine XRead.shl (j := i % 8) hm (by show i % 8 ≤ 8; omega) ?_; conv => whnf)
    | (refine XUnit.storeByte tabOk (t := 5) rfl rfl (r1 := []) (r2 := []) (l := b) (Z := Z) (offN (byt b (i / 8)) (i % 8)) rfl (andNot_bit (byt_lt _ _) h8) (offN_lt (byt_lt _ _) h8) hi ?_; conv => whnf)
    | (refine XHeld.mk ?_ ?_; (focus (first | exact Ent.refl _ | exact Ent.left _ _ | exact Ent.of_le ⟨List.sublist_append_left _ _, fun w h => h⟩ | exact Ent.of_le ⟨List.Sublist.refl _, fun w h => h.1⟩)); conv => whnf))
  refine XIf.split (fun hon => ?_) (fun hon => ?_)
  · conv => whnf
    have e1 : byt (bput b (i / 8) (offN (byt b (i / 8)) (i % 8))) (i / 8) = offN (byt b (i / 8)) (i % 8) := by rw [byt_bput hi (offN_lt (byt_lt _ _) h8), if_pos rfl]
    have e2 : (bput b (i / 8) (offN (byt b (i / 8)) (i % 8))).length = b.length := bput_len ..
    have e3 : bput (bput b (i / 8) (offN (byt b (i / 8)) (i % 8))) (i / 8) (onN (byt b (i / 8)) (i % 8)) = putB b i on := by
      subst hon
      simp [bput, putB]
    generalize hb' : bput b (i / 8) (offN (byt b (i / 8)) (i % 8)) = b' at *
    refine XStop.draw tabOk mixed rfl rfl ?_
    conv => whnf
    repeat' (first
      | (refine And.intro ?_ ?_ <;> conv => whnf)
      | (refine XHeld.same rfl ?_; conv => whnf)
      | (refine XHeld.row rfl ?_; conv => whnf)
      | (refine XHeld.call rfl ?_; conv => whnf)
      | (refine XKeep.of ?_; conv => whnf)
      | (refine XSame.of ?_; conv => whnf)
      | (refine XRead.rowIx tabOk (t := 23) rfl rfl rfl rfl (i / 8) hw hi ?_; conv => whnf)
      | (refine XRead.rowLd tabOk (t := 5) rfl rfl (l := b') (Sees.bytes (Z := Z) (by simp)) (by omega) ?_; conv => whnf)
      | (refine XRead.shl (j := i % 8) hm (by show i % 8 ≤ 8; omega) ?_; conv => whnf)
      | (refine XUnit.storeByte tabOk (t := 5) rfl rfl (r1 := []) (r2 := []) (l := b') (Z := Z) (onN (byt b (i / 8)) (i % 8)) rfl ((or_bit (byt_lt _ _) h8).trans (by rw [e1, on_off (byt_lt _ _) h8])) (onN_lt (byt_lt _ _) h8) (by omega) ?_; conv => whnf)
      | (refine XHeld.mk ?_ ?_; (focus (first | exact Ent.refl _ | exact Ent.left _ _ | exact Ent.of_le ⟨List.sublist_append_left _ _, fun w h => h⟩ | exact Ent.of_le ⟨List.Sublist.refl _, fun w h => h.1⟩)); conv => whnf))
    rw [e3]
    exact relB_row (putB_len ..).symm hc
  · conv => whnf
    repeat (refine XSame.of ?_; conv => whnf)
    have e3 : bput b (i / 8) (offN (byt b (i / 8)) (i % 8)) = putB b i on := by
      subst hon
      simp [bput, putB]
    rw [e3]
    exact relB_row (putB_len ..).symm hc

theorem set7_spec (b : List UInt8) (h : Hd) (hh : h.Ok b.length) (i : Nat) (on : Bool) (hi : i / 8 < b.length) (hb : b.length ≤ 1000000) :
    PureSpec Tryz.prog 41 [h.v b.length, .int .i64 (i : Int), .bool on] (fun w => By w h b) (fun v F => ∃ k : Hd, v = .tuple #[k.v b.length, .int .i64 0] ∧ k.Ok b.length ∧ F = ⟨fun w => By w k (putB b i on), []⟩) := by
  refine PureSpec.of_xc tabOk Tryz.func41 rfl (by decide) (n := Tryz.f41.ntmps - 3) rfl rfl fun w0 av => ?_
  have hw : IntKind.i64.wrap (Int.tdiv (i : Int) (Int.ofNat 8)) = ((i / 8 : Nat) : Int) := wdiv i 8 (by omega)
  conv => whnf
  repeat (refine XSame.of ?_; conv => whnf)
  generalize hc : (iLt _ _ || _) = c
  cases c
  rotate_left
  · exfalso
    simp only [iLt_eq, iGe_eq, Bool.or_eq_true, decide_eq_true_eq] at hc
    rcases hc with hc | hc
    · omega
    · rw [show (Int.ofNat (7 + 1)) = Int.ofNat 8 from rfl, hw] at hc
      omega
  conv => whnf
  refine XCall.pure (put7_spec b h hh i on hi hb) (fun w hw => hw) (fun v D hv => ?_)
  obtain ⟨k, rfl, hk, rfl⟩ := hv
  rw [putB_len] at hk ⊢
  conv => whnf
  exact ⟨_, Ent.of_le ⟨by simp [Fx.and], fun w hw => hw.2⟩, k, rfl, hk, rfl⟩

theorem valid7_spec (b : List UInt8) (h : Hd) (i j : Nat) (hb : b.length ≤ 1000000) (hij : i ≤ j ∧ j ≤ 8 * b.length) :
    PureSpec Tryz.prog 151 [h.v b.length, .int .i64 (i : Int), .int .i64 (j : Int)] (fun w => True) (fun v F => v = .bool true) := by
  refine PureSpec.of_xc tabOk Tryz.func151 rfl (by decide) (n := Tryz.f151.ntmps - 3) rfl rfl fun w0 av => ?_
  conv => whnf
  repeat (refine XSame.of ?_; conv => whnf)
  refine ⟨_, Ent.refl _, ?_⟩
  congr 1
  simp only [iLe_eq, iGe_eq, Bool.and_eq_true, decide_eq_true_eq]
  rw [wrap_i64 (by omega)]
  omega

end Go.Proofs.YtfeoedkmndkbjaaGreatDoor
namespace Go.Proofs.YtfeoedkmndkbjaaGreatDoor
open Go Go.Sx
set_option maxRecDepth 100000
set_option maxHeartbeats 4000000
set_option linter.unusedVariables false
set_option linter.unusedSimpArgs false

/-- The first block that is not in use. -/
def freeB (b : List UInt8) : Option Nat := (List.range' 18 78).find? fun i => !getB b i

theorem freeB_some {b : List UInt8} {i : Nat} (h1 : 18 ≤ i) (h2 : i < 96) (hb : ∀ j, 18 ≤ j → j < i → getB b j = true) (hi : getB b i = false) : freeB b = some i := by
  unfold freeB
  rw [List.find?_range'_eq_some]
  refine ⟨by simp [hi], ?_, ?_⟩
  · rw [List.mem_range'_1]
    omega
  · intro j hj hj2
    simp [hb j hj hj2]

theorem freeB_none {b : List UInt8} (hb : ∀ j, 18 ≤ j → j < 96 → getB b j = true) : freeB b = none := by
  unfold freeB
  rw [List.find?_eq_none]
  intro j hj
  rw [List.mem_range'_1] at hj
  simp [hb j (by omega) (by omega)]

def intV (n : Nat) : Value := .int .i64 (n : Int)

/-- What Take hands back. -/
def RelT (b : List UInt8) (v : Value) (F : Fx) : Prop :=
  match freeB b with
  | none => ∃ e : Int, e = 13 ∧ v = .tuple #[.slice none 0 0, .slice none 0 0, .int .i64 e] ∧ F = ⟨fun w => True, []⟩
  | some i => ∃ (l k : Hd) (e : Int), e = 0 ∧ v = .tuple #[l.v 1, k.v b.length, .int .i64 e] ∧ l.Ok 1 ∧ k.Ok b.length ∧ F = ⟨fun w => RowAt w l.a [intV i] ∧ By w k (putB b i true), []⟩

theorem take7_spec (b : List UInt8) (h : Hd) (hh : h.Ok b.length) (hb : b.length = 12) : PureSpec Tryz.prog 127 [h.v b.length, .int .i64 18, .int .i64 96, .int .i64 1] (fun w => By w h b) (RelT b) := by
  generalize hone : (1 : Int) = one
  generalize h96 : (96 : Int) = n96
  generalize h18 : (18 : Int) = n18
  refine PureSpec.of_xc tabOk Tryz.func127 rfl (by decide) (n := Tryz.f127.ntmps - 4) rfl rfl fun w0 av => ?_
  conv => whnf
  subst h18 h96
  refine XCall.val (valid7_spec b h 18 96 (by omega) (by omega)) (fun w hw => trivial) (fun v D hv => ?_)
  obtain ⟨vv, hvv⟩ : ∃ vv, vv = true := ⟨_, rfl⟩
  rw [← hvv] at hv
  subst hv
  conv => whnf
  repeat (refine XSame.of ?_; conv => whnf)
  refine XIf.no (by subst hvv hone; simp [iLt_eq]) ?_
  conv => whnf
  generalize h96 : (96 : Int) = n96
  refine XStop.loop tabOk (ι := Nat × Bool × Option Addr × Nat × List Value × Hd) ([11, 12, 13] ++ List.range' 25 22)
    (fun x => (18 ≤ x.1 ∧ x.1 ≤ 96) ∧ x.2.2.2.2.2.Ok b.length ∧ match x.2.1 with
      | false => (∀ j, 18 ≤ j → j < x.1 → getB b j = true) ∧ x.2.2.1 = none ∧ x.2.2.2.1 = 0 ∧ x.2.2.2.2.1 = []
      | true => 19 ≤ x.1 ∧ freeB b = some (x.1 - 1) ∧ Own 1 1 x.2.2.1 x.2.2.2.1 x.2.2.2.2.1 [intV (x.1 - 1)])
    (fun x => [(11, .v (.slice x.2.2.1 (cond x.2.1 1 0) x.2.2.2.1)), (12, .v (x.2.2.2.2.2.v b.length)), (13, .v (.int .i64 (x.1 : Int)))]) (fun _ => [])
    (fun x => ⟨fun w => By w h b ∧ By w x.2.2.2.2.2 (cond x.2.1 (putB b (x.1 - 1) true) b), orow x.2.2.1 x.2.2.2.2.1⟩)
    (fun x => 96 - x.1) (18, false, none, 0, [], h) ⟨⟨Nat.le_refl _, by omega⟩, hh, fun j h1 h2 => by omega, rfl, rfl, rfl⟩ ?_ rfl (Ent.of_le ⟨by simp [orow], fun w hw => by exact ⟨hw, hw⟩⟩) fun x hx => ?_
  · conv => whnf
    repeat (first | exact FLe.nil | refine FLe.any ?_ | refine FLe.cons ?_)
  obtain ⟨i, fo, a, cap, C, k⟩ := x
  obtain ⟨⟨hi1, hi2⟩, hk, hx⟩ := hx
  dsimp only at hi1 hi2 hk hx ⊢
  cases fo
  · obtain ⟨hall, rfl, rfl, rfl⟩ := hx
    conv => whnf
    repeat (refine XSame.of ?_; conv => whnf)
    refine XIf.split (fun ht => ?_) (fun ht => ?_)
    · conv => whnf
      have hlt : i < 96 := by
        subst h96
        simp only [iLt_eq, Bool.and_eq_true, decide_eq_true_eq] at ht
        omega
      refine XCall.val (get7_spec b h hh i (by omega) (by omega)) (fun w hw => hw.1) (fun v D hv => ?_)
      generalize hg : getB b i = g at hv
      subst hv
      conv => whnf
      cases g
      · conv => whnf
        repeat' (first
          | (refine XIf.yes rfl ?_; conv => whnf))
        refine XVal.build tabOk (t := 97) rfl rfl rfl [.int .i64 (i : Int)] rfl rfl (by simp [Value.cells]) (by decide) fun b0 => ?_
        conv => whnf
        refine XVal.ent (F' := ⟨fun w => By w h b ∧ By w k b, [] ++ orow none [] ++ [(b0, Row.c [intV i])]⟩) (Ent.of_le ⟨by simp [Value.cells, orow, intV], fun w hw => hw⟩) ?_
        refine XVal.append tabOk (t := 97) (xt := 97) rfl rfl rfl rfl rfl rfl (r1 := []) (r2 := [(b0, Row.c [intV i])]) (M := [intV i]) (Own.nil 1) (Sees.row (by simp)) rfl (by simp [intV, oneCell]) (by simp) (by simp) fun a' c' C' hO' => ?_
        conv => whnf
        refine XCall.pure (put7_spec b k hk i true (by omega) (by omega)) (fun w hw => hw.2) (fun v D hv => ?_)
        obtain ⟨k2, rfl, hk2, rfl⟩ := hv
        rw [putB_len] at hk2 ⊢
        conv => whnf
        refine ⟨(i + 1, true, a', c', C', k2), ⟨⟨⟨by dsimp only; omega, by dsimp only; omega⟩, hk2, by dsimp only; omega, ?_, ?_⟩, by dsimp only; omega⟩, ?_, ?_, ?_⟩
        · exact freeB_some hi1 hlt hall hg
        · simpa using hO'
        · conv => whnf
          refine ⟨?_, rfl⟩
          repeat (first | exact FLe.nil | refine FLe.any ?_ | refine FLe.cons ?_ | refine FLe.eq (by rw [wrap_i64 (by omega)]; rfl) ?_)
        · conv => whnf
          exact trivial
        · refine Ent.of_le ⟨by simp [Fx.and, orow], fun w hw => ⟨hw.1.1, hw.2⟩⟩
      · conv => whnf
        repeat' (first
          | (refine XIf.no rfl ?_; conv => whnf))
        refine ⟨(i + 1, false, none, 0, [], k), ⟨⟨⟨by dsimp only; omega, by dsimp only; omega⟩, hk, fun j h1 h2 => ?_, rfl, rfl, rfl⟩, by dsimp only; omega⟩, ?_, ?_, Ent.refl _⟩
        · rcases Nat.lt_or_eq_of_le (Nat.lt_succ_iff.1 h2) with h3 | h3
          · exact hall j h1 h3
          · subst h3
            exact hg
        · conv => whnf
          refine ⟨?_, rfl⟩
          repeat (first | exact FLe.nil | refine FLe.any ?_ | refine FLe.cons ?_ | refine FLe.eq (by rw [wrap_i64 (by omega)]; rfl) ?_)
        · conv => whnf
          exact trivial
    · conv => whnf
      have hie : i = 96 := by
        subst h96
        subst hone
        simp [iLt_eq] at ht
        omega
      refine XIf.yes (by subst hone; simp [iLt_eq]) ?_
      conv => whnf
      refine ⟨⟨fun w => True, []⟩, Ent.bare fun w hw => trivial, ?_⟩
      unfold RelT
      rw [freeB_none (fun j h1 h2 => hall j h1 (by omega))]
      exact ⟨13, rfl, rfl, rfl⟩
  · obtain ⟨hi3, hfr, hO⟩ := hx
    conv => whnf
    repeat (refine XSame.of ?_; conv => whnf)
    refine XIf.no (by subst hone; simp [iLt_eq]) ?_
    conv => whnf
    refine XIf.no (by subst hone; simp [iLt_eq]) ?_
    conv => whnf
    refine ⟨⟨fun w => RowAt w a [intV (i - 1)] ∧ By w k (putB b (i - 1) true), []⟩, (Own.gives hO).trans (Ent.imp fun w hw => ⟨hw.2, hw.1.2⟩), ?_⟩
    unfold RelT
    rw [hfr]
    exact ⟨⟨a, cap⟩, k, 0, rfl, rfl, hO.hd, hk, rfl⟩

end Go.Proofs.YtfeoedkmndkbjaaGreatDoor
namespace Go.Proofs.YtfeoedkmndkbjaaGreatDoor
open Go Go.Sx
set_option maxRecDepth 100000
set_option maxHeartbeats 4000000
set_option linter.unusedVariables false
set_option linter.unusedSimpArgs false

theorem block_spec (h : Hd) (m n : Nat) (hh : h.Ok m) (hn : 128 * (n + 1) ≤ m) (hm : m ≤ 1000000) : PureSpec Tryz.prog 39 [h.v m, .int .i64 (n : Int)] (fun w => True) (fun v F => v = (Hd.sub h (128 * n)).v 128) := by
  have hc := hh.cap
  refine PureSpec.of_xc tabOk Tryz.func39 rfl (by decide) (n := Tryz.f39.ntmps - 2) rfl rfl fun w0 av => ?_
  conv => whnf
  refine XVal.of_read (XRead.sub2 tabOk (t := 23) rfl rfl rfl rfl (128 * n) 128
    (by show IntKind.i64.wrap ((n : Int) * 128) = _; rw [wrap_i64 (by omega)]; omega) (by show IntKind.i64.wrap ((IntKind.i64.wrap ((n : Int) + 1)) * 128) = _; rw [wrap_i64 (n := (n : Int) + 1) (by omega), wrap_i64 (by omega)]; omega) (by omega) ?_)
  conv => whnf
  exact ⟨_, Ent.refl _, rfl⟩

theorem at_spec (n : Nat) (hn : n ≤ 1000) : PureSpec Tryz.prog 86 [.int .i64 (n : Int)] (fun w => True) (fun v F => v = .int .i64 ((1792 + 16 * n : Nat) : Int)) := by
  refine PureSpec.of_xc tabOk Tryz.func86 rfl (by decide) (n := Tryz.f86.ntmps - 1) rfl rfl fun w0 av => ?_
  conv => whnf
  refine ⟨_, Ent.refl _, ?_⟩
  show Value.int _ _ = Value.int _ _
  congr 1
  rw [wrap_i64 (n := 16 * (n : Int)) (by omega), wrap_i64 (by omega)]
  omega

/-- An inode's cells. -/
def inoL (k s : Nat) (b : Nat → Nat) : List Value := [intV k, intV s, intV (b 0), intV (b 1), intV (b 2), intV (b 3), intV (b 4), intV (b 5), intV (b 6), intV (b 7), intV (b 8), intV (b 9), intV (b 10), intV (b 11)]

theorem laid_ino {k s : Nat} {b : Nat → Nat} {i : Nat} (hi : i < 12) (v : Nat) : laid (inoL k s b) (2 + i) [intV v] = inoL k s (fun j => if j = i then v else b j) := by
  match i, hi with
  | 0, _ | 1, _ | 2, _ | 3, _ | 4, _ | 5, _ | 6, _ | 7, _ | 8, _ | 9, _ | 10, _ | 11, _ => rfl

theorem ino_get {k s : Nat} {b : Nat → Nat} {i : Nat} (hi : i < 12) : (inoL k s b)[2 + i]? = some (intV (b i)) := by
  match i, hi with
  | 0, _ | 1, _ | 2, _ | 3, _ | 4, _ | 5, _ | 6, _ | 7, _ | 8, _ | 9, _ | 10, _ | 11, _ => rfl

theorem ino_congr {k s : Nat} {b b' : Nat → Nat} (h : ∀ i, i < 12 → b i = b' i) : inoL k s b = inoL k s b' := by
  simp only [inoL, h 0 (by decide), h 1 (by decide), h 2 (by decide), h 3 (by decide), h 4 (by decide), h 5 (by decide), h 6 (by decide), h 7 (by decide), h 8 (by decide), h 9 (by decide), h 10 (by decide), h 11 (by decide)]

/-- The fields of an inode on a disk. -/
def rk (d : List UInt8) (n : Nat) : Nat := byt d (1792 + 16 * n)
def rs (d : List UInt8) (n : Nat) : Nat := 256 * byt d (1792 + 16 * n + 1) + byt d (1792 + 16 * n + 2)
def rb (d : List UInt8) (n i : Nat) : Nat := byt d (1792 + 16 * n + (3 + i))
def rp (d : List UInt8) (n : Nat) : Nat := byt d (1792 + 16 * n + 15)

theorem wrap_byt (l : List UInt8) (i : Nat) : IntKind.i64.wrap (byt l i : Int) = (byt l i : Int) := by
  have := byt_lt l i
  rw [wrap_i64 (by omega)]

theorem raw_spec (d : List UInt8) (h : Hd) (n : Nat) (hh : h.Ok d.length) (hd : d.length = 12288) (hn : n < 32) : PureSpec Tryz.prog 102 [h.v d.length, .int .i64 (n : Int)] (fun w => By w h d) (fun v F => v = .agg ⟨inoL (rk d n) (rs d n) (rb d n)⟩) := by
  have hc := hh.cap
  refine PureSpec.of_xc tabOk Tryz.func102 rfl (by decide) (n := Tryz.f102.ntmps - 2) rfl rfl fun w0 av => ?_
  refine padK_mk ?_
  refine xc_alloc1 (ti := (Sx.look tab 74).get rfl) rfl rfl ?_
  conv => whnf
  intro b0
  conv => whnf
  refine XCall.val (at_spec n (by omega)) (fun w hw => trivial) (fun v D hv => ?_)
  subst hv
  conv => whnf
  refine XCall.val (at_spec n (by omega)) (fun w hw => trivial) (fun v D hv => ?_)
  subst hv
  conv => whnf
  refine XVal.of_read (XRead.sub2 tabOk (t := 23) rfl rfl rfl rfl (1792 + 16 * n) 16
    rfl (by show IntKind.i64.wrap (((1792 + 16 * n : Nat) : Int) + 16) = _; rw [wrap_i64 (by omega)]; omega) (by omega) ?_)
  have hsub := fun w (hw : By w h d) => By.sub hw (l := 1792 + 16 * n) (k := 16) (by omega)
  have hcl : (cut d (1792 + 16 * n) 16).length = 16 := cut_len (by omega)
  have hok : (Hd.sub h (1792 + 16 * n)).Ok 16 := Hd.sub_ok hh (by omega)
  conv => whnf
  refine XStop.draw tabOk mixed rfl rfl ?_
  conv => whnf
  repeat' (first
    | (refine And.intro ?_ ?_ <;> conv => whnf)
    | (refine XHeld.same rfl ?_; conv => whnf)
    | (refine XHeld.row rfl ?_; conv => whnf)
    | (refine XHeld.call rfl ?_; conv => whnf)
    | (refine XKeep.of ?_; conv => whnf)
    | (refine XSame.of ?_; conv => whnf)
    | (refine XRead.byteAt tabOk (t := 23) rfl rfl rfl rfl 0 rfl (by decide) hok fun ad had => ?_; conv => whnf)
    | (refine XRead.byteAt tabOk (t := 23) rfl rfl rfl rfl 1 rfl (by decide) hok fun ad had => ?_; conv => whnf)
    | (refine XRead.byteAt tabOk (t := 23) rfl rfl rfl rfl 2 rfl (by decide) hok fun ad had => ?_; conv => whnf)
    | (refine XRead.byteLd' tabOk (t := 5) rfl rfl had (.fact fun w h => hsub w h) rfl (by omega) ?_; conv => whnf)
    | (refine XHeld.mk ?_ ?_; (focus (first | exact Ent.refl _ | exact Ent.left _ _ | exact Ent.of_le ⟨List.sublist_append_left _ _, fun w h => h⟩ | exact Ent.of_le ⟨List.Sublist.refl _, fun w h => h.1⟩)); conv => whnf))
  intro b1
  conv => whnf
  repeat' (first
    | (refine And.intro ?_ ?_ <;> conv => whnf)
    | (refine XHeld.same rfl ?_; conv => whnf)
    | (refine XHeld.row rfl ?_; conv => whnf)
    | (refine XHeld.call rfl ?_; conv => whnf)
    | (refine XKeep.of ?_; conv => whnf)
    | (refine XSame.of ?_; conv => whnf)
    | (refine XHeld.mk ?_ ?_; (focus (first | exact Ent.refl _ | exact Ent.left _ _ | exact Ent.of_le ⟨List.sublist_append_left _ _, fun w h => h⟩ | exact Ent.of_le ⟨List.Sublist.refl _, fun w h => h.1⟩)); conv => whnf))
  simp only [byt_cut (show 1792 + 16 * n + 16 ≤ d.length by omega) (show 0 < 16 by decide), byt_cut (show 1792 + 16 * n + 16 ≤ d.length by omega) (show 1 < 16 by decide), byt_cut (show 1792 + 16 * n + 16 ≤ d.length by omega) (show 2 < 16 by decide)]
  have e1 : IntKind.i64.wrap (byt d (1792 + 16 * n + 0) : Int) = (rk d n : Int) := wrap_byt _ _
  have e2 : IntKind.i64.wrap (IntKind.i64.wrap (256 * IntKind.i64.wrap (byt d (1792 + 16 * n + 1) : Int)) + IntKind.i64.wrap (byt d (1792 + 16 * n + 2) : Int)) = (rs d n : Int) := by
    have h1 := byt_lt d (1792 + 16 * n + 1)
    have h2 := byt_lt d (1792 + 16 * n + 2)
    rw [wrap_byt, wrap_byt, wrap_i64 (n := 256 * (byt d (1792 + 16 * n + 1) : Int)) (by omega), wrap_i64 (by omega)]
    unfold rs
    omega
  refine XStop.loop tabOk (ι := Nat) ([7] ++ List.range' 30 13) (fun x => x ≤ 12)
    (fun x => [(7, .v (.int .i64 (x : Int)))]) (fun x => [((Sx.look tab 74).get rfl).zero, inoL (rk d n) (rs d n) fun j => if j < x then rb d n j else 0]) (fun _ => ⟨fun w => By w h d, []⟩)
    (fun x => 12 - x) 0 (Nat.zero_le _) ?_ (by simp only [e1, e2]; rfl) (Ent.refl _) fun i hi => ?_
  · conv => whnf
    repeat (first | exact FLe.nil | refine FLe.any ?_ | refine FLe.cons ?_)
  conv => whnf
  refine XIf.split (fun hlt => ?_) (fun hlt => ?_)
  · conv => whnf
    have hlt' : i < 12 := by
      simp only [iLt_eq, decide_eq_true_eq] at hlt
      omega
    refine XVal.of_read (XRead.byteAt tabOk (t := 23) rfl rfl rfl rfl (3 + i) (by rw [wrap_i64 (by omega)]; rfl) (by omega) hok fun ad had => ?_)
    conv => whnf
    refine XVal.of_read (XRead.byteLd' tabOk (t := 5) rfl rfl had (.fact fun w h => hsub w h) rfl (by omega) ?_)
    conv => whnf
    rw [blt_yes hlt']
    conv => whnf
    refine overK_mk (by simp [inoL]; omega) ?_
    conv => whnf
    refine ⟨i + 1, ⟨hlt', by dsimp only; omega⟩, ?_, ?_, Ent.refl _⟩
    · conv => whnf
      refine ⟨?_, rfl⟩
      repeat (first | exact FLe.nil | refine FLe.any ?_ | refine FLe.cons ?_ | refine FLe.eq (by rw [wrap_i64 (by omega)]; rfl) ?_)
    · conv => whnf
      refine ⟨⟨rfl, rfl⟩, ⟨rfl, ?_⟩, trivial⟩
      rw [byt_cut (by omega) (by omega), wrap_byt]
      dsimp only
      rw [Nat.mul_one, Nat.zero_add]
      show laid (inoL _ _ _) (2 + i) [intV (rb d n i)] = _
      rw [laid_ino hlt']
      refine ino_congr fun j hj => ?_
      by_cases hji : j = i
      · subst hji
        simp
      · simp only [if_neg hji]
        by_cases h1 : j < i
        · rw [if_pos h1, if_pos (by omega)]
        · rw [if_neg h1, if_neg (by omega)]
  · conv => whnf
    have hie : i = 12 := by
      simp only [iLt_eq, decide_eq_false_iff_not] at hlt
      omega
    subst hie
    refine ⟨_, Ent.refl _, ?_⟩
    have e := ino_congr (k := rk d n) (s := rs d n) (b := fun j => if j < 12 then rb d n j else 0) (b' := rb d n) fun j hj => by simp [hj]
    exact congrArg (fun l => Value.agg ⟨l⟩) e

end Go.Proofs.YtfeoedkmndkbjaaGreatDoor
namespace Go.Proofs.YtfeoedkmndkbjaaGreatDoor
open Go Go.Sx
set_option maxRecDepth 100000
set_option maxHeartbeats 4000000
set_option linter.unusedVariables false
set_option linter.unusedSimpArgs false

def allZ (l : List UInt8) : Bool := l.all (· == 0)

theorem allZ_iff {l : List UInt8} : allZ l = true ↔ ∀ i, i < l.length → byt l i = 0 := by
  unfold allZ
  rw [List.all_eq_true]
  constructor
  · intro h i hi
    rw [byt_get hi]
    have := h _ (List.getElem_mem hi)
    simp at this
    rw [this]
    rfl
  · intro h x hx
    obtain ⟨i, hi, rfl⟩ := List.getElem_of_mem hx
    have := h i hi
    rw [byt_get hi] at this
    simpa using UInt8.toNat_inj.1 this

theorem zeros_spec (l : List UInt8) (h : Hd) (hh : h.Ok l.length) (hl : l.length ≤ 1000000) : PureSpec Tryz.prog 100 [h.v l.length] (fun w => By w h l) (fun v F => v = .bool (allZ l)) := by
  refine PureSpec.of_xc tabOk Tryz.func100 rfl (by decide) (n := Tryz.f100.ntmps - 1) rfl rfl fun w0 av => ?_
  conv => whnf
  refine XStop.loop tabOk (ι := Nat) ([3] ++ List.range' 4 11) (fun x => x ≤ l.length ∧ ∀ j, j < x → byt l j = 0)
    (fun x => [(3, .v (.int .i64 (x : Int)))]) (fun _ => []) (fun _ => ⟨fun w => By w h l, []⟩)
    (fun x => l.length - x) 0 ⟨Nat.zero_le _, fun j hj => by omega⟩ ?_ rfl (Ent.refl _) fun i hi => ?_
  · conv => whnf
    repeat (first | exact FLe.nil | refine FLe.any ?_ | refine FLe.cons ?_)
  obtain ⟨hi, hall⟩ := hi
  conv => whnf
  refine XIf.split (fun hlt => ?_) (fun hlt => ?_)
  · conv => whnf
    have hlt' : i < l.length := by
      simp only [iLt_eq, decide_eq_true_eq] at hlt
      omega
    refine XVal.of_read (XRead.byteAt tabOk (t := 23) rfl rfl rfl rfl i rfl hlt' hh fun ad had => ?_)
    conv => whnf
    refine XVal.of_read (XRead.byteLd' tabOk (t := 5) rfl rfl had (.fact fun w h => h) rfl hlt' ?_)
    conv => whnf
    refine XIf.split (fun h0 => ?_) (fun h0 => ?_)
    · conv => whnf
      refine ⟨_, Ent.refl _, ?_⟩
      have : allZ l = false := by
        rw [Bool.eq_false_iff, Ne, allZ_iff]
        intro hh
        have := hh i hlt'
        simp [iNe_eq, this] at h0
      rw [this]
    · conv => whnf
      refine ⟨i + 1, ⟨⟨hlt', fun j hj => ?_⟩, by dsimp only; omega⟩, ?_, ?_, Ent.refl _⟩
      · rcases Nat.lt_or_eq_of_le (Nat.lt_succ_iff.1 hj) with h1 | h1
        · exact hall j h1
        · subst h1
          simp [iNe_eq] at h0
          omega
      · conv => whnf
        refine ⟨?_, rfl⟩
        repeat (first | exact FLe.nil | refine FLe.any ?_ | refine FLe.cons ?_ | refine FLe.eq (by rw [wrap_i64 (by omega)]; rfl) ?_)
      · conv => whnf
        exact trivial
  · conv => whnf
    have hie : i = l.length := by
      simp only [iLt_eq, decide_eq_false_iff_not] at hlt
      omega
    subst hie
    exact ⟨_, Ent.refl _, by rw [allZ_iff.2 hall]⟩

/-- An inode's bytes. -/
def inoB (k s : Nat) (b : Nat → Nat) : List UInt8 := [UInt8.ofNat k, UInt8.ofNat (s / 256), UInt8.ofNat (s % 256)] ++ (List.range 12).map (fun i => UInt8.ofNat (b i)) ++ [0]

theorem inoB_len (k s : Nat) (b : Nat → Nat) : (inoB k s b).length = 16 := by simp [inoB]

def putI (d : List UInt8) (n k s : Nat) (b : Nat → Nat) : List UInt8 := lay d (1792 + 16 * n) (inoB k s b)

theorem putI_len {d : List UInt8} (hd : d.length = 12288) {n : Nat} (hn : n < 32) (k s : Nat) (b : Nat → Nat) : (putI d n k s b).length = 12288 := by
  unfold putI
  rw [lay_len (by rw [inoB_len]; omega), hd]

theorem put37O_spec (d : List UInt8) (h : Hd) (n k s : Nat) (b : Nat → Nat) (hh : h.Ok d.length) (hd : d.length = 12288) (hn : n < 32) (hk : k ≤ 1000000) (hs : s ≤ 1000000) (hb : ∀ i, b i ≤ 1000000) :
    PureSpec Tryz.prog 42 [h.v d.length, .int .i64 (n : Int), .agg ⟨inoL k s b⟩] (fun w => By w h d) (RelO (putI d n k s b)) := by
  have hc := hh.cap
  refine PureSpec.of_xc tabOk Tryz.func42 rfl (by decide) (n := Tryz.f42.ntmps - 3) rfl rfl fun w0 av => ?_
  conv => whnf
  intro b0
  conv => whnf
  refine XVal.build tabOk (t := 23) rfl rfl rfl [] rfl rfl (by simp) (by decide) fun b1 => ?_
  conv => whnf
  refine XVal.ent (F' := ⟨fun w => By w h d, []⟩) (Ent.of_le ⟨by simp, fun w hw => hw⟩) ?_
  refine XVal.copyBytes tabOk (t := 23) (xt := 23) rfl rfl rfl rfl rfl rfl rfl rfl (l := d) (.fact fun w hw => hw) (by omega) (by omega) fun b2 c2 Z hc2 hZ => ?_
  conv => whnf
  refine XVal.build tabOk (t := 23) rfl rfl rfl [.int .u8 (IntKind.u8.wrap (k : Int)), .int .u8 (IntKind.u8.wrap (IntKind.i64.wrap (Int.tdiv (s : Int) (Int.ofNat 256)))), .int .u8 (IntKind.u8.wrap (Int.tmod (s : Int) (Int.ofNat 256)))] rfl rfl (by simp [Value.cells]) (by decide) fun b3 => ?_
  have e1 : IntKind.i64.wrap (Int.tdiv (s : Int) (Int.ofNat 256)) = ((s / 256 : Nat) : Int) := wdiv s 256 (by omega)
  have e2 : Int.tmod (s : Int) (Int.ofNat 256) = ((s % 256 : Nat) : Int) := tmod_nat s 256
  rw [e1, e2]
  simp only [byte_u8]
  conv => whnf
  let pre : Nat → List UInt8 := fun i => [UInt8.ofNat k, UInt8.ofNat (s / 256), UInt8.ofNat (s % 256)] ++ (List.range i).map (fun i => UInt8.ofNat (b i))
  have pre_len : ∀ i, (pre i).length = 3 + i := fun i => by simp [pre]; omega
  refine XStop.loop tabOk (ι := Nat × Option Addr × Nat × List Value) ([8, 9] ++ List.range' 25 12) (fun x => x.1 ≤ 12 ∧ Own 1 (3 + x.1) x.2.1 x.2.2.1 x.2.2.2 ((pre x.1).map byteV))
    (fun x => [(8, .v (.slice x.2.1 (3 + x.1) x.2.2.1)), (9, .v (.int .i64 (x.1 : Int)))]) (fun _ => [inoL k s b]) (fun x => ⟨fun w => By w h d, [(b2, Row.c (d.map byteV ++ Z))] ++ orow x.2.1 x.2.2.2⟩)
    (fun x => 12 - x.1) (0, some ⟨b3, 0, none⟩, 3, (pre 0).map byteV) ⟨Nat.zero_le _, Own.full (by simp [pre])⟩ ?_ rfl (Ent.of_le ⟨by simp [Value.cells, orow, pre, byteV], fun w hw => hw⟩) fun x hx => ?_
  · conv => whnf
    repeat (first | exact FLe.nil | refine FLe.any ?_ | refine FLe.cons ?_)
  obtain ⟨i, a, cap, C⟩ := x
  obtain ⟨hi, hO⟩ := hx
  dsimp only at hi hO ⊢
  obtain ⟨ba, rfl⟩ := own_some hO (by omega)
  conv => whnf
  refine XIf.split (fun hlt => ?_) (fun hlt => ?_)
  · conv => whnf
    have hlt' : i < 12 := by
      simp only [iLt_eq, decide_eq_true_eq] at hlt
      omega
    rw [blt_yes hlt']
    conv => whnf
    refine nthK_mk (x := intV (b i)) (by dsimp only; rw [Nat.mul_one, Nat.zero_add]; exact ino_get hlt') ?_
    conv => whnf
    refine XVal.build tabOk (t := 23) rfl rfl rfl [.int .u8 (IntKind.u8.wrap (b i : Int))] rfl rfl (by simp [Value.cells]) (by decide) fun b4 => ?_
    rw [byte_u8]
    conv => whnf
    refine XVal.ent (F' := ⟨fun w => By w h d, [(b2, Row.c (d.map byteV ++ Z))] ++ orow (some ⟨ba, 0, none⟩) C ++ [(b4, Row.c [byteV (UInt8.ofNat (b i))])]⟩) (Ent.of_le ⟨by simp [Value.cells, orow, byteV], fun w hw => hw⟩) ?_
    refine XVal.append tabOk (t := 23) (xt := 23) rfl rfl rfl rfl rfl rfl (r1 := [(b2, Row.c (d.map byteV ++ Z))]) (r2 := [(b4, Row.c [byteV (UInt8.ofNat (b i))])]) (M := [byteV (UInt8.ofNat (b i))]) hO (Sees.row (by simp)) rfl (by simp [byteV, oneCell]) (by omega) (by simp; omega) fun a' c' C' hO' => ?_
    conv => whnf
    refine ⟨(i + 1, a', c', C'), ⟨⟨hlt', ?_⟩, by dsimp only; omega⟩, ?_, ?_, ?_⟩
    · have : pre (i + 1) = pre i ++ [UInt8.ofNat (b i)] := by simp [pre, List.range_succ]
      dsimp only
      rw [this, List.map_append]
      exact hO'
    · conv => whnf
      refine ⟨?_, rfl⟩
      repeat (first | exact FLe.nil | refine FLe.any ?_ | refine FLe.cons ?_ | refine FLe.eq (by rw [wrap_i64 (by omega)]; rfl) ?_)
    · conv => whnf
      exact ⟨⟨rfl, rfl⟩, trivial⟩
    · refine Ent.of_le ⟨by simp, fun w hw => hw⟩
  · conv => whnf
    have hie : i = 12 := by
      simp only [iLt_eq, decide_eq_false_iff_not] at hlt
      omega
    subst hie
    refine XStop.draw tabOk mixed rfl rfl ?_
    conv => whnf
    repeat' (first
      | (refine And.intro ?_ ?_ <;> conv => whnf)
      | (refine XHeld.same rfl ?_; conv => whnf)
      | (refine XHeld.row rfl ?_; conv => whnf)
      | (refine XHeld.call rfl ?_; conv => whnf)
      | (refine XKeep.of ?_; conv => whnf)
      | (refine XSame.of ?_; conv => whnf)
      | (refine XCall.val (at_spec n (by omega)) (fun w hw => trivial) (fun v D hv => ?_); subst hv; conv => whnf)
      | (refine XRead.sub2 tabOk (t := 23) rfl rfl rfl rfl (h := ⟨some ⟨b2, 0, none⟩, c2⟩) (1792 + 16 * n) 16 rfl (by show IntKind.i64.wrap (((1792 + 16 * n : Nat) : Int) + 16) = _; rw [wrap_i64 (by omega)]; omega) (by dsimp only; omega) ?_; conv => whnf)
      | (refine XVal.build tabOk (t := 23) rfl rfl rfl [.int .u8 0] rfl rfl (by simp [Value.cells]) (by decide) fun b5 => ?_; conv => whnf)
      | (refine XVal.append tabOk (t := 23) (xt := 23) rfl rfl rfl rfl rfl rfl (r1 := [(b2, Row.c (d.map byteV ++ Z))]) (r2 := [(b5, Row.c [.int .u8 0])]) (M := [.int .u8 0]) hO (Sees.row (by simp [Value.cells])) rfl (by simp [oneCell]) (by omega) (by simp) fun a' c' C' hO' => ?_; conv => whnf)
      | (refine XHeld.mk ?_ ?_; (focus (first | exact Ent.refl _ | exact Ent.left _ _ | exact Ent.of_le ⟨List.sublist_append_left _ _, fun w h => h⟩ | exact Ent.of_le ⟨List.Sublist.refl _, fun w h => h.1⟩)); conv => whnf))
    all_goals (
      have hpre : (pre 12).map byteV ++ [.int .u8 0] = (inoB k s b).map byteV := by simp [pre, inoB]; rfl
      rw [hpre] at hO'
      rw [sub_row (show c2 ≠ 1792 + 16 * n by omega)])
    all_goals (
      refine XVal.copyB tabOk (t := 23) rfl rfl rfl rfl (r1 := []) (r2 := orow a' C' ++ [(b5, Row.c [.int .u8 0])]) (b := b2) (k := 1792 + 16 * n) (l := d) (m := inoB k s b) (Z := Z) rfl ?_ (inoB_len ..) (by omega) (by omega) ?_
      · exact Own.sees hO' (r1 := [(b2, Row.c (d.map byteV ++ Z))]) (r2 := [(b5, Row.c [.int .u8 0])])
      conv => whnf)
    all_goals exact relO_row (l := putI d n k s b) (by rw [putI_len hd hn, hd]) hc2

theorem put37_spec (d : List UInt8) (h : Hd) (n k s : Nat) (b : Nat → Nat) (hh : h.Ok d.length) (hd : d.length = 12288) (hn : n < 32) (hk : k ≤ 1000000) (hs : s ≤ 1000000) (hb : ∀ i, b i ≤ 1000000) :
    PureSpec Tryz.prog 42 [h.v d.length, .int .i64 (n : Int), .agg ⟨inoL k s b⟩] (fun w => By w h d) (RelB (putI d n k s b)) :=
  (put37O_spec d h n k s b hh hd hn hk hs hb).ofO

/-- The bitmap of a disk. -/
def bmp (d : List UInt8) : List UInt8 := cut d 1664 12

theorem bmp_len {d : List UInt8} (hd : d.length = 12288) : (bmp d).length = 12 := cut_len (by omega)

theorem bitmap_spec (d : List UInt8) (h : Hd) (hh : h.Ok d.length) (hd : d.length = 12288) : PureSpec Tryz.prog 40 [h.v d.length] (fun w => By w h d) (RelB (bmp d)) := by
  have hc := hh.cap
  refine PureSpec.of_xc tabOk Tryz.func40 rfl (by decide) (n := Tryz.f40.ntmps - 1) rfl rfl fun w0 av => ?_
  conv => whnf
  refine XVal.build tabOk (t := 23) rfl rfl rfl [] rfl rfl (by simp) (by decide) fun b1 => ?_
  conv => whnf
  refine XCall.ent (F' := ⟨fun w => By w h d, []⟩) (Ent.of_le ⟨by simp, fun w hw => hw⟩) ?_
  refine XCall.val (block_spec h d.length 13 hh (by omega) (by omega)) (fun w hw => trivial) (fun v D hv => ?_)
  subst hv
  conv => whnf
  refine XVal.of_read (XRead.subTo tabOk (t := 23) rfl rfl rfl 12 rfl (by show 12 ≤ h.c - 128 * 13; omega) ?_)
  conv => whnf
  refine XVal.copyZ tabOk (t := 23) (xt := 23) rfl rfl rfl rfl rfl rfl (M := (bmp d).map byteV) (.fact fun w hw => By.sub hw (l := 1664) (k := 12) (by omega)) (by simp [bmp_len hd]) (by omega) (by simp) fun k hk => ?_
  conv => whnf
  refine ⟨⟨fun w => By w k (bmp d), []⟩, Ent.of_le ⟨by simp, fun w hw => hw.2⟩, k, ?_, ?_, rfl⟩
  · rw [bmp_len hd]
  · rw [bmp_len hd]
    exact hk

def setBmp (d b : List UInt8) : List UInt8 := lay d 1664 b

theorem setBmp_len {d b : List UInt8} (hd : d.length = 12288) (hb : b.length = 12) : (setBmp d b).length = 12288 := by
  unfold setBmp
  rw [lay_len (by omega), hd]

theorem withBitmapO_spec (d : List UInt8) (h : Hd) (hh : h.Ok d.length) (hd : d.length = 12288) (b : List UInt8) (k : Hd) (hk : k.Ok b.length) (hb : b.length = 12) :
    PureSpec Tryz.prog 43 [h.v d.length, k.v b.length] (fun w => By w h d ∧ By w k b) (RelO (setBmp d b)) := by
  have hc := hh.cap
  refine PureSpec.of_xc tabOk Tryz.func43 rfl (by decide) (n := Tryz.f43.ntmps - 2) rfl rfl fun w0 av => ?_
  conv => whnf
  refine XVal.build tabOk (t := 23) rfl rfl rfl [] rfl rfl (by simp) (by decide) fun b1 => ?_
  conv => whnf
  refine XVal.ent (F' := ⟨fun w => By w h d ∧ By w k b, []⟩) (Ent.of_le ⟨by simp, fun w hw => hw⟩) ?_
  refine XVal.copyBytes tabOk (t := 23) (xt := 23) rfl rfl rfl rfl rfl rfl rfl rfl (l := d) (.fact fun w hw => hw.1) (by omega) (by omega) fun b2 c2 Z hc2 hZ => ?_
  conv => whnf
  refine XCall.val (block_spec ⟨some ⟨b2, 0, none⟩, c2⟩ d.length 13 ⟨fun h => (by cases h), hc2⟩ (by omega) (by omega)) (fun w hw => trivial) (fun v D hv => ?_)
  rw [sub_row (by omega)] at hv
  subst hv
  conv => whnf
  refine XVal.copyB tabOk (t := 23) rfl rfl rfl rfl (r1 := []) (r2 := []) (b := b2) (k := 1664) (l := d) (m := b) (Z := Z) rfl (.fact fun w hw => hw.2) rfl (by omega) (by omega) ?_
  conv => whnf
  exact relO_row (l := setBmp d b) (by rw [setBmp_len hd hb, hd]) hc2

theorem withBitmap_spec (d : List UInt8) (h : Hd) (hh : h.Ok d.length) (hd : d.length = 12288) (b : List UInt8) (k : Hd) (hk : k.Ok b.length) (hb : b.length = 12) :
    PureSpec Tryz.prog 43 [h.v d.length, k.v b.length] (fun w => By w h d ∧ By w k b) (RelB (setBmp d b)) := (withBitmapO_spec d h hh hd b k hk hb).ofO

end Go.Proofs.YtfeoedkmndkbjaaGreatDoor
