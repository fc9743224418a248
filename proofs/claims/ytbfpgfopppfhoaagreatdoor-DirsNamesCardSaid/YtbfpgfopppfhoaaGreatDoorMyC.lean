/- The executors, part MyC: many small texts in one. -/
import Derived.Test.YtbfpgfopppfhoaaGreatDoorMyB
import Derived.Lib.Bytealg
import Derived.LoopN

/- Ye, part P: append as an operation. -/
namespace Go.Ye
open Go.Sx (TI TK mkTI mkTI_parts run_bind_ok run_pure run_value run_skip run_underlying' run_sizeOf run_typeInfo run_zero run_isAgg struct_of arr_of mkTK map_toList execOp_call_builtin execOp_call_func Callable run_callFunc oneCell Addr.add_none lt_of_some some_of_lt slice_of string_of run_bound int_of)
set_option linter.unusedVariables false
set_option linter.constructorNameAsVariable false
set_option linter.unusedSimpArgs false

section
variable {P : Program} {w0 : World} {O : Nat → Prop} {B : Nat → Option YB} {φ : Lm} {m : YM} {w : World} {r : YV} {ev : Ev} {xOf : Operand → Option X} {ρ : Operand → Value} {K : YV → YM → R}
  {call : FuncId → List YV → YM → (YV → YM → R) → R} {dst : Option Tmp} {ty : TypeId} {pos : String} {after : Array Edge} {guard : Option (Nat × Bool)} {y : Ye.O}

/-- What append takes, and how it goes. -/
theorem apK_ok (hok : Ok w0 O B φ m w) {z : Nat} (hz : 0 < z) {x yv : YV} {v u : Value} (hx : VR φ x v) (hy : VR φ yv u) (h : apK m z x yv K = .ok r) :
    ∃ k xs, (Builtin.lenOf u).run P w = .ok k w ∧ (∀ d, (Builtin.firstCells z k u).run P { w with drawn := d } = .ok ⟨xs⟩ { w with drawn := d }) ∧ App P w0 O B φ K r w z k v xs := by
  have plain : (lenOfK yv fun k => firstK m z k yv fun vs => appK m z x k vs K) = .ok r →
      ∃ k xs, (Builtin.lenOf u).run P w = .ok k w ∧ (∀ d, (Builtin.firstCells z k u).run P { w with drawn := d } = .ok ⟨xs⟩ { w with drawn := d }) ∧ App P w0 O B φ K r w z k v xs := by
    intro h
    replace h := lenOfK_ok h; obtain ⟨k, h, hk⟩ := h
    obtain ⟨vs, xs, f1, f2, f3, f4, h⟩ := firstK_ok (P := P) hok hy h hk (Nat.le_refl k)
    exact ⟨k, xs, lenOf_run hy hk, f1, appK_ok hok hz hx f3 f4 (by rw [← f3.len, f2]) h⟩
  unfold apK at h
  cases hnr : noRoom x with
  | false => rw [hnr] at h; exact plain h
  | true =>
    rw [hnr] at h
    simp only at h
    unfold shareK at h
    split at h
    · rename_i l k e z'
      replace h := IF_ok h
      rcases h with ⟨hzz, h⟩ | ⟨_, h⟩
      · have hzz := Nat.eq_of_beq_eq_true hzz
        subst hzz
        cases k with
        | zero => exact plain h
        | succ k =>
          simp only at h
          cases hg : m.get l with
          | none =>
            exfalso
            obtain ⟨b, hb, _⟩ := YM.getK_ok h
            rw [hg] at hb
            cases hb
          | some b =>
            obtain ⟨b', hb, h⟩ := YM.getK_ok h
            rw [hg] at hb
            cases hb
            cases b with
            | m _ _ => exact plain h
            | im _ _ _ _ => exact plain h
            | is _ _ => exact plain h
            | c kin wr s zs es t =>
              simp only [natK_eq] at h
              cases hle : Nat.ble (Nat.mul (Nat.succ k) z) s with
              | false => rw [hle] at h; exact plain h
              | true =>
                rw [hle] at h
                have hle : (k + 1) * z ≤ s := Nat.le_of_ble_eq_true hle
                replace h := (IF_ok h).resolve_right fun h => (by cases h.2)
                obtain ⟨hk, h⟩ := h
                have hk : k + 1 ≤ 1000000 := Nat.le_of_ble_eq_true hk
                have hy' := hy
                unfold VR at hy
                obtain ⟨L, a, cap, q1, rfl, q3, q4, q5, q6, q7⟩ := hy
                obtain ⟨L', k1, k2, k3⟩ := hok.blk l _ hg
                rw [q1] at k1
                cases k1
                obtain ⟨arr, et, fz, c1, c2, c3, c4, c5⟩ := k2
                -- the source's values
                have hcell : ∀ j, j < (k + 1) * z → ∃ y x, cellAt zs es t j = some y ∧ arr[L.base + j]? = some x ∧ VC φ y x := fun j hj => c5 j (by omega)
                have hxs : ∃ xs : List Value, xs.length = (k + 1) * z ∧ ∀ j, j < (k + 1) * z → arr[L.base + j]? = xs[j]? := by
                  refine ⟨(List.range ((k + 1) * z)).map fun j => (arr[L.base + j]?).getD undef, by simp, fun j hj => ?_⟩
                  obtain ⟨_, x, _, h2, _⟩ := hcell j hj
                  rw [h2, List.getElem?_map, List.getElem?_range hj]
                  simp [h2]
                obtain ⟨xs, x1, x2⟩ := hxs
                refine ⟨k + 1, xs, rfl, fun d => run_first_sl (w := { w with drawn := d }) q7 q6 x1 (fun j hj => ?_), ?_⟩
                · rw [Nat.add_zero]
                  exact (cell_at (w := w) c1).trans (x2 j hj)
                · -- the slice that is appended to has no room
                  have hv : ∃ a', v = .slice a' 0 0 ∧ (∀ d, (Builtin.firstCells z 0 v).run P { w with drawn := d } = .ok ⟨[]⟩ { w with drawn := d }) := by
                    unfold noRoom at hnr
                    split at hnr
                    · unfold VR at hx
                      subst hx
                      exact ⟨none, rfl, fun _ => rfl⟩
                    · rename_i l2 o2 e2 z2
                      have hnr := Nat.le_of_ble_eq_true hnr
                      unfold VR at hx
                      obtain ⟨L2, a2, cap2, p1, rfl, p3, p4, p5, p6, p7⟩ := hx
                      simp only [Option.getD_some] at p4
                      have hc0 : cap2 = 0 := by
                        rcases Nat.eq_zero_or_pos cap2 with h | h
                        · exact h
                        · have := Nat.mul_pos h p3
                          omega
                      subst hc0
                      refine ⟨some a2, rfl, fun d => ?_⟩
                      show (loadCells a2 (0 * z)).run P _ = _
                      rw [Nat.zero_mul]
                      rfl
                    · cases hnr
                  obtain ⟨a', rfl, hfirst⟩ := hv
                  refine ⟨a', 0, 0, rfl, .inr ⟨by omega, by omega, [], hfirst, by simp, fun newCap rest ee e1 e2 => ?_⟩⟩
                  obtain ⟨m', u1, u2, u3, u4⟩ := YM.newK_ok h
                  have hl : newCap * z = (xs ++ rest).length := by
                    rw [List.length_append, x1, e2, ← Nat.add_mul]
                    congr 1
                    omega
                  refine ⟨_, _, m', hok.ext_upd ⟨w.heap.size, 0, (xs ++ rest).length⟩, ?_, ?_, u1⟩
                  · rw [List.nil_append]
                    refine hok.new (L := ⟨w.heap.size, 0, (xs ++ rest).length⟩) u2 u3 u4 rfl ?_
                    refine ⟨⟨xs ++ rest⟩, ee, (0, 0), push_new, .inl rfl, by simp, by simp only [List.length_append, x1]; show (k + 1) * z ≤ _; omega, fun j hj => ?_⟩
                    have hj : j < (k + 1) * z := hj
                    obtain ⟨y, x, h1, h2, h3⟩ := hcell j hj
                    refine ⟨y, x, h1, ?_, h3.1.ext (hok.ext_upd _), h3.2⟩
                    simp only [Nat.zero_add, List.getElem?_toArray]
                    rw [List.getElem?_append_left (by omega), ← x2 j hj, h2]
                  · rw [Nat.zero_add]
                    exact newSlice_VR hz hl (by omega)
      · exact plain h
    · exact plain h

theorem go_append {x z : Operand} {t u : TypeId} (hc : compO P xOf (.call ⟨.builtin .append, ⟨[x, z]⟩, ⟨[t, u]⟩⟩) = some y) (he : EvOk φ ev xOf ρ) (hok : Ok w0 O B φ m w) (h : opK call y ev m K = .ok r) (haz : ∀ a b c d e, y ≠ .az a b c d e) :
    Goes P (execOp ρ ⟨dst, .call ⟨.builtin .append, ⟨[x, z]⟩, ⟨[t, u]⟩⟩, ty, pos, after, guard⟩) w (Post w0 O B φ K r) := by
  rw [execOp_call_builtin]
  simp only [compO, Option.bind_eq_bind, Option.bind_eq_some_iff] at hc
  obtain ⟨ti, hti, hc⟩ := hc
  obtain ⟨inf, d, zv, g1, g2, g3, g4, g5, g6, -, -⟩ := mkTI_parts hti
  split at hc
  · rename_i e hk
    simp only [Option.bind_eq_some_iff] at hc
    obtain ⟨te, hte, hc⟩ := hc
    split at hc
    · cases hc
    · rename_i hcond
      simp only [not_or, Decidable.not_not, Nat.not_lt] at hcond
      obtain ⟨hs0, hzl, hby⟩ := hcond
      rw [g4] at hk
      obtain rfl := slice_of hk
      obtain ⟨i2, d2, z2, p1, p2, p3, p4, p5, p6, p7, -⟩ := mkTI_parts hte
      have go : ∀ (a b : X) (zs : List YV), xOf x = some a → xOf z = some b → y = .ap te.size te.bytes zs a b → ((∃ xe, P.underlying u = some (.slice xe)) ∨ P.underlying u = some .string) →
          Goes P (builtin .append #[t, u] ty ((⟨[x, z]⟩ : Array Operand).map fun | .const _ => true | _ => false) ⟨[x, z].map ρ⟩) w (Post w0 O B φ K r) := by
        intro a b zs ha hb hy hu
        subst hy
        have h : op_ap te.size te.bytes zs a b ev m K = .ok r := h
        replace h := he.get ha h; obtain ⟨xv, hx, h⟩ := h
        replace h := he.get hb h; obtain ⟨zv', hz, h⟩ := h
        obtain ⟨k, xs, q1, q2, q3⟩ := apK_ok (P := P) hok (by omega : 0 < te.size) hx hz h
        rw [p5] at q2 q3
        obtain ⟨v', w', r1, r2⟩ := run_app (P := P) (ty := ty) g2 hu p1 p3 (by rw [← p5, ← hzl, p6]; simp) (by rw [← p7]; exact hby) q1 q2 q3
        exact .val (sem := Builtin.append_ #[t, u] ty #[ρ x, ρ z]) r1 r2
      split at hc
      · simp only [Option.bind_eq_some_iff, Option.some.injEq] at hc
        obtain ⟨zs, _, a, _, b, _, rfl⟩ := hc
        exact absurd rfl (haz _ _ _ _ _)
      · rename_i xe hu
        simp only [Option.bind_eq_some_iff, Option.some.injEq] at hc
        obtain ⟨zs, _, a, ha, b, hb, rfl⟩ := hc
        exact go a b zs ha hb rfl (.inl ⟨xe, hu⟩)
      · rename_i hu
        simp only [Option.bind_eq_some_iff, Option.some.injEq] at hc
        obtain ⟨zs, _, a, ha, b, hb, rfl⟩ := hc
        exact go a b zs ha hb rfl (.inr hu)
      · cases hc
  · cases hc

end
end Go.Ye

/- Ye, part Q: append of zeroes; counting and finding a byte; calls. -/
namespace Go.Ye
open Go.Sx (TI TK mkTI mkTI_parts run_bind_ok run_pure run_value run_skip run_underlying' run_sizeOf run_typeInfo run_zero run_isAgg struct_of arr_of mkTK map_toList execOp_call_builtin execOp_call_func Callable run_callFunc oneCell Addr.add_none lt_of_some some_of_lt slice_of string_of run_bound int_of)
set_option linter.unusedVariables false
set_option linter.constructorNameAsVariable false
set_option linter.unusedSimpArgs false

section
variable {P : Program} {w0 : World} {O : Nat → Prop} {B : Nat → Option YB} {φ : Lm} {m : YM} {w : World} {r : YV} {ev : Ev} {xOf : Operand → Option X} {ρ : Operand → Value} {K : YV → YM → R}
  {call : FuncId → List YV → YM → (YV → YM → R) → R} {dst : Option Tmp} {ty : TypeId} {pos : String} {after : Array Edge} {guard : Option (Nat × Bool)} {y : Ye.O}

/-- append of zeroes. -/
theorem run_appz {t u ty e : TypeId} {ik : IntKind} {i2 : TypeInfo} {z0 : Value} (ht : P.underlying t = some (.slice e)) (hu : P.underlying u = some (.int ik)) (he : P.info? e = some i2) (hz : i2.zero = some z0)
    (hzl : z0.cells.size = i2.size) (hs0 : 0 < i2.size) (hby : i2.bytes ≤ 100000) {v : Value} {j : IntKind} {k : Nat} (hk : k ≤ 100000) (h : App P w0 O B φ K r w i2.size k v ((List.replicate k z0.cells.toList).flatten)) :
    ∃ v' w', (Builtin.append_ #[t, u] ty #[v, .int j (k : Int)]).run P w = .ok v' w' ∧ Post w0 O B φ K r v' w' := by
  obtain ⟨a, n, cap, rfl, h⟩ := h
  have hwrap : IntKind.i64.wrap (k : Int) = k := Go.Sx.wrap_i64 (by omega)
  have hneg : ¬ ((k : Int) < 0) := by omega
  have hbig : ¬ ((k : Int) * (i2.bytes : Int) > 2 ^ 48) := by
    have e48 : (2 : Int) ^ 48 = 281474976710656 := by decide
    have h1 : k * i2.bytes ≤ 100000 * 100000 := Nat.mul_le_mul hk hby
    have h2 : ((k * i2.bytes : Nat) : Int) ≤ ((100000 * 100000 : Nat) : Int) := Int.ofNat_le.2 h1
    rw [Int.natCast_mul] at h2
    rw [e48]
    have h3 : ((100000 * 100000 : Nat) : Int) = 10000000000 := by decide
    omega
  have happ : ∀ d, ((if k * i2.size = 0 then pure #[] else do pure (Builtin.zeroCells (← zeroValue e).cells k)) : Sem (Array Value)).run P { w with drawn := d } = .ok ⟨(List.replicate k z0.cells.toList).flatten⟩ { w with drawn := d } := by
    intro d
    by_cases h0 : k * i2.size = 0
    · have : k = 0 := by
        rcases Nat.mul_eq_zero.1 h0 with h | h
        · exact h
        · omega
      subst this
      simp
    · rw [if_neg h0, run_bind_ok (run_zero he hz _)]
      simp only [run_pure]
      congr 1
      apply Array.toList_inj.1
      have := zeroCells_eq z0.cells.toList (by simp; omega) k
      simpa using this
  rcases h with ⟨hfit, w', h1, h2, h3⟩ | ⟨hnf, hbd, os, h1, h2, h3⟩
  · refine ⟨_, w', ?_, h3⟩
    unfold Builtin.append_
    simp only [show (#[t, u] : Array TypeId)[0]? = some t from rfl, show (#[t, u] : Array TypeId)[1]? = some u from rfl, show ∀ u v : Value, (#[u, v] : Array Value)[0]? = some u from fun _ _ => rfl,
      show ∀ u v : Value, (#[u, v] : Array Value)[1]? = some v from fun _ _ => rfl]
    rw [run_bind_ok (run_underlying' ht w)]
    simp only
    rw [run_bind_ok (run_sizeOf he w), run_bind_ok (run_underlying' hu w), run_bind_ok (run_pure P _ w)]
    simp only [Bool.not_true, Bool.false_eq_true, if_false, if_true]
    rw [run_bind_ok (m := asInt _) (a := (k : Int)) (w' := w) rfl, hwrap, if_neg hneg, run_bind_ok (run_typeInfo he w), if_neg hbig, run_bind_ok (run_pure P _ w)]
    simp only [Int.toNat_natCast]
    rw [if_pos hfit, run_bind_ok (happ w.drawn)]
    cases a with
    | none => rw [h2 rfl]; rfl
    | some ad =>
      simp only
      rw [run_bind_ok (h1 ad rfl)]
      rfl
  · have hcap : ¬ Builtin.nextslicecap (n + k) cap * i2.bytes > 2 ^ 48 := by
      have h1 := Go.Sx.nextslicecap_le (need := n + k) (cap := cap) (by omega)
      have h2 := Nat.mul_le_mul h1 hby
      have h3 : (2 * (n + k) + 1000) * 100000 ≤ (2 * 1000000 + 1000) * 100000 := Nat.mul_le_mul_right _ (by omega)
      have h4 : (2 : Nat) ^ 48 = 281474976710656 := by decide
      rw [h4]
      omega
    have hmax : ¬ ((n + k : Nat) : Int) > IntKind.i64.max := by
      have : IntKind.i64.max = 9223372036854775807 := by decide
      rw [this]
      omega
    have hnc : n + k ≤ Question.cut (.appendCap (n + k) cap e) (w.tape w.drawn (.appendCap (n + k) cap e)) := by simp [Question.cut]
    refine ⟨_, _, ?_, (h3 (Question.cut (.appendCap (n + k) cap e) (w.tape w.drawn (.appendCap (n + k) cap e))) (Builtin.zeroCells z0.cells (Question.cut (.appendCap (n + k) cap e) (w.tape w.drawn (.appendCap (n + k) cap e)) - (n + k))).toList e hnc ?_).drew (w.drawn + 1)⟩
    · unfold Builtin.append_
      simp only [show (#[t, u] : Array TypeId)[0]? = some t from rfl, show (#[t, u] : Array TypeId)[1]? = some u from rfl, show ∀ u v : Value, (#[u, v] : Array Value)[0]? = some u from fun _ _ => rfl,
        show ∀ u v : Value, (#[u, v] : Array Value)[1]? = some v from fun _ _ => rfl]
      rw [run_bind_ok (run_underlying' ht w)]
      simp only
      rw [run_bind_ok (run_sizeOf he w), run_bind_ok (run_underlying' hu w), run_bind_ok (run_pure P _ w)]
      simp only [Bool.not_true, Bool.false_eq_true, if_false, if_true]
      rw [run_bind_ok (m := asInt _) (a := (k : Int)) (w' := w) rfl, hwrap, if_neg hneg, run_bind_ok (run_typeInfo he w), if_neg hbig, run_bind_ok (run_pure P _ w)]
      simp only [Int.toNat_natCast]
      rw [if_neg hnf, run_bind_ok (run_typeInfo he w), if_neg (fun h => hmax h.1), run_bind_ok (run_typeInfo he w), if_neg hcap]
      rw [run_bind_ok (m := choose _) (w' := { w with drawn := w.drawn + 1 }) rfl]
      rw [run_bind_ok (run_typeInfo he _), run_bind_ok (Go.Sx.run_askRoom _ _)]
      rw [run_bind_ok (h1 (w.drawn + 1)), run_bind_ok (happ (w.drawn + 1)), run_bind_ok (run_zero he hz _)]
      have hc : ∀ xs : List Value, (⟨os⟩ : Array Value) ++ ⟨xs⟩ ++ Builtin.zeroCells z0.cells (Question.cut (.appendCap (n + k) cap e) (w.tape w.drawn (.appendCap (n + k) cap e)) - (n + k)) =
          ⟨os ++ xs ++ (Builtin.zeroCells z0.cells (Question.cut (.appendCap (n + k) cap e) (w.tape w.drawn (.appendCap (n + k) cap e)) - (n + k))).toList⟩ := by
        intro xs
        apply Array.toList_inj.1
        simp
      rw [hc, run_bind_ok (run_newRow' _ e _)]
      rfl
    · unfold Builtin.zeroCells
      simp [hzl]

theorem go_az {x z : Operand} {t u : TypeId} {a1 b1 : Nat} {c1 : List YV} {d1 e1 : X} (hc : compO P xOf (.call ⟨.builtin .append, ⟨[x, z]⟩, ⟨[t, u]⟩⟩) = some (.az a1 b1 c1 d1 e1)) (he : EvOk φ ev xOf ρ) (hok : Ok w0 O B φ m w)
    (h : opK call (.az a1 b1 c1 d1 e1) ev m K = .ok r) :
    Goes P (execOp ρ ⟨dst, .call ⟨.builtin .append, ⟨[x, z]⟩, ⟨[t, u]⟩⟩, ty, pos, after, guard⟩) w (Post w0 O B φ K r) := by
  rw [execOp_call_builtin]
  simp only [compO, Option.bind_eq_bind, Option.bind_eq_some_iff] at hc
  obtain ⟨ti, hti, hc⟩ := hc
  obtain ⟨inf, d, zv, g1, g2, g3, g4, g5, g6, -, -⟩ := mkTI_parts hti
  split at hc
  · rename_i e hk
    simp only [Option.bind_eq_some_iff] at hc
    obtain ⟨te, hte, hc⟩ := hc
    split at hc
    · cases hc
    · rename_i hcond
      simp only [not_or, Decidable.not_not, Nat.not_lt] at hcond
      obtain ⟨hs0, hzl, hby⟩ := hcond
      rw [g4] at hk
      obtain rfl := slice_of hk
      obtain ⟨i2, d2, z2, p1, p2, p3, p4, p5, p6, p7, -⟩ := mkTI_parts hte
      split at hc
      · rename_i ik hu
        simp only [Option.bind_eq_some_iff, Option.some.injEq, Ye.O.az.injEq] at hc
        obtain ⟨zs, hzs, a, ha, b, hb, rfl, rfl, rfl, rfl, rfl⟩ := hc
        have h : op_az te.size te.bytes zs a b ev m K = .ok r := h
        replace h := he.get ha h; obtain ⟨xv, hx, h⟩ := h
        replace h := he.get hb h; obtain ⟨zv', hz, h⟩ := h
        split at h
        · rename_i k
          obtain ⟨hk, h⟩ := mLe h
          obtain ⟨k1, k2⟩ := zeroOf_ok (φ := φ) hzs
          unfold VR at hz
          have happ := appK_ok (P := P) hok (by omega : 0 < te.size) hx (k1.flat k) (ones_flat k2 k) (by rw [flat_len, ← k1.len, hzl]) h
          rw [p5, p6] at happ
          obtain ⟨v', w', r1, r2⟩ := run_appz (P := P) (ty := ty) (j := .i64) g2 hu p1 p3 (by rw [← p5, ← hzl, p6]; simp) (by omega) (by rw [← p7]; exact hby) hk happ
          refine .val (sem := Builtin.append_ #[t, u] ty #[ρ x, ρ z]) ?_ r2
          rw [hz]
          exact r1
        · cases h
      · simp only [Option.bind_eq_some_iff, Option.some.injEq] at hc
        obtain ⟨zs, _, a, _, b, _, hh⟩ := hc
        cases hh
      · simp only [Option.bind_eq_some_iff, Option.some.injEq] at hc
        obtain ⟨zs, _, a, _, b, _, hh⟩ := hc
        cases hh
      · cases hc
  · cases hc

end
end Go.Ye

/- Ye, part R: maps. -/
namespace Go.Ye
open Go.Sx (TI TK mkTI mkTI_parts run_bind_ok run_pure run_value run_skip run_underlying' run_sizeOf run_typeInfo run_zero run_isAgg struct_of arr_of mkTK map_toList lt_of_some some_of_lt)
set_option linter.unusedVariables false
set_option linter.constructorNameAsVariable false
set_option linter.unusedSimpArgs false

section
variable {P : Program} {w0 : World} {O : Nat → Prop} {B : Nat → Option YB} {φ : Lm} {m : YM} {w : World} {r : YV} {ev : Ev} {xOf : Operand → Option X} {ρ : Operand → Value} {K : YV → YM → R}
  {call : FuncId → List YV → YM → (YV → YM → R) → R} {dst : Option Tmp} {ty : TypeId} {pos : String} {after : Array Edge} {guard : Option (Nat × Bool)} {y : Ye.O}

theorem map_of {d : TypeDesc} {k e : TypeId} (h : mkTK d = .map k e) : d = .map k e := by
  cases d <;> simp [mkTK] at h
  obtain ⟨rfl, rfl⟩ := h
  rfl

theorem eqPlain_ok {a b : YV} {c : Bool} (h : eqPlain a b = some c) {u v : Value} (hu : VR φ a u) (hv : VR φ b v) (k : IntKind) :
    Instr.sameNow (.int k) u v = some c ∧ ∃ j x y, u = .int j x ∧ v = .int j y ∧ c = (x == y) := by
  cases a <;> first | (cases h; done) | skip
  rename_i j x
  cases b <;> first | (cases h; done) | skip
  rename_i j' y
  simp only [eqPlain] at h
  split at h
  · rename_i hk
    have := kindIs_eq hk
    subst this
    cases h
    unfold VR at hu hv
    subst hu
    subst hv
    exact ⟨by simp [Instr.sameNow], j, x, y, rfl, rfl, rfl⟩
  · cases h

theorem findK_ok {k : YV} {kv : Value} (hk : VR φ k kv) {ik : IntKind} : ∀ {es : List ME} {ents : List MapEntry} (i : Nat) {K : Option YV → R}, EntR φ es ents → findK k es K = .ok r →
    (Instr.findNow (.int ik) kv ents i = some none ∧ K none = .ok r) ∨ ∃ n v y, Instr.findNow (.int ik) kv ents i = some (some (n, v)) ∧ VR φ y v ∧ K (some y) = .ok r
  | [], ents, i, K, he, h => by
    have he : ents = [] := he
    subst he
    exact .inl ⟨rfl, h⟩
  | e :: es, ents, i, K, he, h => by
    obtain ⟨x, xs, rfl, h1, h2, h3, h4⟩ := he
    simp only [findK] at h
    cases hq : eqPlain k e.k with
    | none => rw [hq] at h; cases h
    | some c =>
      rw [hq] at h
      obtain ⟨g1, -⟩ := eqPlain_ok hq hk h1.1 ik
      cases c with
      | true =>
        simp only at h
        exact .inr ⟨i, x.val, e.v, by simp [Instr.findNow, g1], h2, h⟩
      | false =>
        simp only at h
        have := findK_ok hk (ik := ik) (i + 1) h4 h
        simpa [Instr.findNow, g1] using this

theorem run_checkKey {t : TypeId} {ik : IntKind} (ht : P.underlying t = some (.int ik)) (b : Bool) (v : Value) (w : World) : (Instr.checkKey b 10000 t v).run P w = .ok () w := by
  have : ∀ n, (Instr.checkKey b (n + 1) t v).run P w = .ok () w := fun n => by
    unfold Instr.checkKey
    rw [run_bind_ok (run_underlying' ht w)]
    cases v <;> rfl
  exact this 9999

theorem run_getMap {l : Nat} {es : Array MapEntry} {c : Nat} (h : w.heap[l]? = some (.map es c)) : (getObj l).run P w = .ok (.map es c) w := by
  simp [getObj, Sem.run, h]

theorem plain_int {t : TypeId} (h : plainK P t = true) : ∃ ik, P.underlying t = some (.int ik) := by
  unfold plainK at h
  split at h
  · exact ⟨_, by assumption⟩
  · cases h

theorem zvOf_ok {t : TypeId} {y : YV} (h : zvOf P t = some y) : ∃ z, (∀ w, (zeroValue t).run P w = .ok z w) ∧ VR φ y z := by
  unfold zvOf at h
  simp only [Option.bind_eq_some_iff] at h
  obtain ⟨z, ⟨i, h1, h2⟩, h3⟩ := h
  exact ⟨z, fun w => run_zero h1 h2 w, vOf_ok h3⟩

theorem go_lookup {t : TypeId} {x k : Operand} {ok : Bool} (hc : compO P xOf (.lookup t x k ok) = some y) (he : EvOk φ ev xOf ρ) (hok : Ok w0 O B φ m w) (h : opK call y ev m K = .ok r) :
    Goes P (execOp ρ ⟨dst, .lookup t x k ok, ty, pos, after, guard⟩) w (Post w0 O B φ K r) := by
  simp only [compO, Option.bind_eq_bind, Option.bind_eq_some_iff] at hc
  obtain ⟨ti, hti, hc⟩ := hc
  obtain ⟨inf, d, zv, g1, g2, g3, g4, g5, g6, -, -⟩ := mkTI_parts hti
  split at hc
  · rename_i kt et hk
    split at hc
    · rename_i hp
      simp only [Option.bind_eq_some_iff, Option.some.injEq] at hc
      obtain ⟨z, hz, a, ha, b, hb, rfl⟩ := hc
      rw [g4] at hk
      obtain rfl := map_of hk
      obtain ⟨ik, hik⟩ := plain_int hp
      obtain ⟨zval, hz1, hz2⟩ := zvOf_ok (P := P) (φ := φ) hz
      have h : op_lu z a b ok ev m K = .ok r := h
      replace h := he.get ha h; obtain ⟨xv, hx, h⟩ := h
      replace h := he.get hb h; obtain ⟨kv, hkv, h⟩ := h
      -- the answer
      have hans : ∀ (v : YV) (val : Value) (found : Bool), VR φ v val → (match ok with
          | true => K (.tu [v, .b found]) m
          | false => K v m) = .ok r → ∃ yv, VR φ yv (if ok then .tuple #[val, .bool found] else val) ∧ K yv m = .ok r := by
        intro v val found hv hh
        cases ok with
        | true => exact ⟨_, by unfold VR; exact ⟨[val, .bool found], rfl, by unfold VRs; exact ⟨_, _, rfl, hv, by unfold VRs; exact ⟨_, _, rfl, by unfold VR; rfl, by unfold VRs; rfl⟩⟩⟩, hh⟩
        | false => exact ⟨v, hv, hh⟩
      cases xv with
      | mn =>
        unfold VR at hx
        obtain ⟨yv, q1, q2⟩ := hans z zval false hz2 (by cases ok <;> exact h)
        refine .val (sem := Instr.lookup t (ρ x) (ρ k) ok) (w' := w) ?_ (.here hok q1 q2)
        rw [hx]
        unfold Instr.lookup
        rw [run_bind_ok (run_underlying' g2 w)]
        simp only
        rw [run_bind_ok (run_pure P _ w), run_bind_ok (run_checkKey hik _ _ w)]
        unfold Instr.findKey
        rw [run_bind_ok (a := none) (w' := w) (by rw [run_bind_ok (run_underlying' hik w)]; rfl)]
        simp only
        rw [run_bind_ok (hz1 w)]
        rfl
      | m l =>
        simp only at h
        replace h := YM.getK_ok h
        obtain ⟨b', hb', h⟩ := h
        obtain ⟨L, l1, l2, -⟩ := hok.blk l _ hb'
        unfold VR at hx
        obtain ⟨L', l1', hx⟩ := hx
        rw [l1] at l1'
        cases l1'
        cases b' with
        | c _ _ _ _ _ _ => cases h
        | im _ _ _ _ => cases h
        | is _ _ => cases h
        | m es cl =>
          obtain ⟨ents, e1, e2⟩ := l2
          have hrun : ∀ res, Instr.findNow (.int ik) (ρ k) ents 0 = some res → (Instr.lookup t (ρ x) (ρ k) ok).run P w = (match res with
              | some p => (pure (if ok then .tuple #[p.2, .bool true] else p.2) : Sem Value)
              | none => do
                let z ← zeroValue et
                pure (if ok then .tuple #[z, .bool false] else z)).run P w := by
            intro res hres
            rw [hx]
            unfold Instr.lookup
            rw [run_bind_ok (run_underlying' g2 w)]
            simp only
            rw [run_bind_ok (run_getMap e1)]
            simp only
            rw [run_bind_ok (run_pure P _ w), run_bind_ok (run_checkKey hik _ _ w)]
            rw [run_bind_ok (a := res) (w' := w) (by
              unfold Instr.findKey
              rw [run_bind_ok (run_underlying' hik w), hres]
              rfl)]
            cases res with
            | none => rfl
            | some p => rfl
          rcases findK_ok hkv (ik := ik) 0 e2 h with ⟨f1, f2⟩ | ⟨n, val, yv, f1, f2, f3⟩
          · obtain ⟨yv, q1, q2⟩ := hans z zval false hz2 (by cases ok <;> exact f2)
            refine .val (sem := Instr.lookup t (ρ x) (ρ k) ok) (w' := w) ?_ (.here hok q1 q2)
            rw [hrun none f1]
            simp only
            rw [run_bind_ok (hz1 w)]
            rfl
          · obtain ⟨yv', q1, q2⟩ := hans yv val true f2 (by cases ok <;> exact f3)
            refine .val (sem := Instr.lookup t (ρ x) (ρ k) ok) (w' := w) ?_ (.here hok q1 q2)
            rw [hrun (some (n, val)) f1]
            rfl
      | _ => cases h
    · cases hc
  · cases hc

/-! ### writing a map -/

theorem updK_ok {k v : YV} {kv vv : Value} (hk : VC φ k kv) (hv : VR φ v vv) {ik : IntKind} {clock : Nat} : ∀ {es : List ME} {ents : List MapEntry} (s : Nat) {K : List ME → Nat → R}, EntR φ es ents → updK k v clock es K = .ok r →
    ∃ es' c' ents', K es' c' = .ok r ∧ EntR φ es' ents' ∧
      ((∃ i e, Instr.findNow (.int ik) kv ents s = some (some (s + i, e.val)) ∧ ents[i]? = some e ∧ e.key = kv ∧ ents' = ents.modify i (fun e => { e with key := kv, val := vv }) ∧ c' = clock) ∨
        (Instr.findNow (.int ik) kv ents s = some none ∧ ents' = ents ++ [⟨kv, vv, clock⟩] ∧ c' = clock + 1))
  | [], ents, s, K, he, h => by
    have he : ents = [] := he
    subst he
    exact ⟨_, _, [⟨kv, vv, clock⟩], h, ⟨_, _, rfl, hk, hv, rfl, rfl⟩, .inr ⟨rfl, rfl, rfl⟩⟩
  | e :: es, ents, s, K, he, h => by
    obtain ⟨x, xs, rfl, h1, h2, h3, h4⟩ := he
    simp only [updK] at h
    cases hq : eqPlain k e.k with
    | none => rw [hq] at h; cases h
    | some c =>
      rw [hq] at h
      obtain ⟨g1, j, p, q, hp, hq', hpq⟩ := eqPlain_ok hq hk.1 h1.1 ik
      cases c with
      | true =>
        simp only at h
        have hpq : p = q := by simpa using hpq.symm
        refine ⟨_, _, { x with key := kv, val := vv } :: xs, h, ⟨_, _, rfl, hk, hv, h3, h4⟩, .inl ⟨0, x, by simp [Instr.findNow, g1], rfl, by rw [hq', hp, hpq], rfl, rfl⟩⟩
      | false =>
        simp only at h
        obtain ⟨es', c', ents', k1, k2, k3⟩ := updK_ok hk hv (ik := ik) (s + 1) h4 h
        refine ⟨_, _, x :: ents', k1, ⟨_, _, rfl, h1, h2, h3, k2⟩, ?_⟩
        rcases k3 with ⟨i, e', f1, f2, f3, f4, f5⟩ | ⟨f1, f2, f3⟩
        · exact .inl ⟨i + 1, e', by simp [Instr.findNow, g1, f1]; omega, by simpa using f2, f3, by rw [f4]; rfl, f5⟩
        · exact .inr ⟨by simp [Instr.findNow, g1, f1], by rw [f2]; rfl, f3⟩

/-- A map's block takes another map. -/
theorem Ok.setMap (hok : Ok w0 O B φ m w) {l : Nat} {es : List ME} {c : Nat} (hb : m.get l = some (.m es c)) {L : Loc} (hL : φ l = some L) {m' : YM} {b' : YB} (hn : m'.n = m.n) (hlo : m'.lo = m.lo) (hl : m.lo ≤ l)
    (hg : ∀ j, m'.get j = if j = l then some b' else m.get j) {o : Obj} (hB : BR φ { w with heap := w.heap.setIfInBounds L.blk o } L b') : Ok w0 O B φ m' { w with heap := w.heap.setIfInBounds L.blk o } := by
  obtain ⟨L', h1, h2, h3⟩ := hok.blk l _ hb
  rw [hL] at h1
  cases h1
  have hsame : ∀ j c', j ≠ l → m.get j = some c' → ∀ M, φ j = some M → M.blk ≠ L.blk := fun j c' hne hc' M hM hbl => by
    have := hok.apart l j _ c' L M (Ne.symm hne) hb hc' hL hM hbl.symm
    cases this
  refine hok.change (Ch := fun b => b = L.blk) (New := fun j => j = l) rfl rfl rfl (by simp) (fun b hb hn => ?_) (fun b hb => by subst hb; exact h3 rfl) (Ext.refl φ)
    (fun j M hM => by rw [hn]; exact hok.fresh j M hM) hlo (by omega) (fun j c' hc' hne => ?_) (fun j c' hc' hj => ?_) (fun j j' c1 c2 M M' hj hne hc hc' hM hM' hbl => ?_) (fun j hj => ?_)
  · simp [Array.getElem?_setIfInBounds_ne (Ne.symm hn)]
  · rw [hg, if_neg hne] at hc'
    exact ⟨hc', fun M hM => hsame j c' hne hc' M hM⟩
  · subst hj
    rw [hg, if_pos rfl] at hc'
    cases hc'
    exact ⟨L, hL, hB, fun _ => h3 rfl⟩
  · exfalso
    subst hj
    rw [hg, if_neg hne.symm] at hc'
    rw [hL] at hM
    cases hM
    exact hsame j' c2 hne.symm hc' M' hM' hbl.symm
  · rw [hg, if_neg (by omega)]

theorem run_setMap {l : Nat} {es : Array MapEntry} {c : Nat} (h : w.heap[l]? = some (.map es c)) (o : Obj) : (setObj l o).run P w = .ok () { w with heap := w.heap.setIfInBounds l o } := by
  simp [setObj, Sem.run, h]

theorem go_mapUpdate {t : TypeId} {x k v : Operand} (hc : compO P xOf (.mapUpdate t x k v) = some y) (he : EvOk φ ev xOf ρ) (hok : Ok w0 O B φ m w) (h : opK call y ev m K = .ok r) :
    Goes P (execOp ρ ⟨dst, .mapUpdate t x k v, ty, pos, after, guard⟩) w (Post w0 O B φ K r) := by
  simp only [compO, Option.bind_eq_bind, Option.bind_eq_some_iff] at hc
  obtain ⟨ti, hti, hc⟩ := hc
  obtain ⟨inf, d, zv, g1, g2, g3, g4, g5, g6, -, -⟩ := mkTI_parts hti
  split at hc
  · rename_i kt et hk
    split at hc
    · rename_i hp
      simp only [Option.bind_eq_some_iff, Option.some.injEq] at hc
      obtain ⟨a, ha, b, hb, c, hcv, rfl⟩ := hc
      rw [g4] at hk
      obtain rfl := map_of hk
      obtain ⟨ik, hik⟩ := plain_int hp
      have h : op_mu a b c ev m K = .ok r := h
      replace h := he.get ha h; obtain ⟨xv, hx, h⟩ := h
      replace h := he.get hb h; obtain ⟨kv, hkv, h⟩ := h
      replace h := he.get hcv h; obtain ⟨vv, hvv, h⟩ := h
      cases xv with
      | m l =>
        simp only at h
        replace h := YM.getK_ok h
        obtain ⟨b', hb', h⟩ := h
        obtain ⟨L, l1, l2, l3⟩ := hok.blk l _ hb'
        unfold VR at hx
        obtain ⟨L', l1', hx⟩ := hx
        rw [l1] at l1'
        cases l1'
        cases b' with
        | c _ _ _ _ _ _ => cases h
        | im _ _ _ _ => cases h
        | is _ _ => cases h
        | m es cl =>
          obtain ⟨ents, e1, e2⟩ := l2
          cases kv with
          | i kj kn =>
            simp only at h
            have hkv' := hkv
            unfold VR at hkv'
            obtain ⟨es', c', ents', u1, u2, u3⟩ := updK_ok (ik := ik) ⟨hkv, rfl⟩ hvv 0 e2 h
            obtain ⟨m', s1, s2, s3, s4, s5⟩ := YM.setK_ok u1
            have hget : ({ w with heap := w.heap.setIfInBounds L.blk (.map ⟨ents'⟩ c') } : World).heap[L.blk]? = some (.map ⟨ents'⟩ c') := by
              have := lt_of_some e1
              simp [this]
            have hok' := hok.setMap hb' l1 s2 s3 s4 s5 (o := .map ⟨ents'⟩ c') ⟨ents', hget, u2⟩
            refine .unit (sem := Instr.mapUpdate t (ρ x) (ρ k) (ρ v)) (w' := { w with heap := w.heap.setIfInBounds L.blk (.map ⟨ents'⟩ c') }) ?_ ⟨φ, _, m', Ext.refl φ, hok', VR_undef, s1⟩
            rw [hx]
            unfold Instr.mapUpdate
            rw [run_bind_ok (run_underlying' g2 w)]
            simp only
            rw [run_bind_ok (run_getMap e1)]
            simp only
            rw [run_bind_ok (run_checkKey hik _ _ w)]
            rcases u3 with ⟨i, e, f1, f2, f3, f4, f5⟩ | ⟨f1, f2, f3⟩
            · rw [Nat.zero_add] at f1
              rw [run_bind_ok (a := some (i, e.val)) (w' := w) (by
                unfold Instr.findKey
                rw [run_bind_ok (run_underlying' hik w), f1]
                rfl)]
              simp only
              have hes : ((⟨ents⟩ : Array MapEntry)[i]?) = some e := by simpa using f2
              rw [hes]
              simp only [Option.map_some, Option.getD_some, f3]
              have hst : (Instr.keyThatStays (ρ k) (ρ k)).run P w = .ok (ρ k) w := by
                rw [hkv']
                unfold Instr.keyThatStays
                rw [if_pos (by simp [Instr.sameBits])]
                rfl
              rw [run_bind_ok hst, run_setMap e1]
              subst f5
              congr 3
              rw [f4]
              simp
            · rw [run_bind_ok (a := none) (w' := w) (by
                unfold Instr.findKey
                rw [run_bind_ok (run_underlying' hik w), f1]
                rfl)]
              simp only
              rw [run_setMap e1]
              subst f3
              congr 3
              rw [f2]
              simp
          | _ => cases h
      | _ => cases h
    · cases hc
  · cases hc

end
end Go.Ye

/- Ye, part S: ways through maps. -/
namespace Go.Ye
open Go.Sx (TI TK mkTI mkTI_parts run_bind_ok run_pure run_value run_skip run_underlying' run_sizeOf run_typeInfo run_zero run_isAgg struct_of arr_of mkTK map_toList lt_of_some some_of_lt)
set_option linter.unusedVariables false
set_option linter.constructorNameAsVariable false
set_option linter.unusedSimpArgs false

section
variable {P : Program} {w0 : World} {O : Nat → Prop} {B : Nat → Option YB} {φ : Lm} {m : YM} {w : World} {r : YV} {ev : Ev} {xOf : Operand → Option X} {ρ : Operand → Value} {K : YV → YM → R}
  {call : FuncId → List YV → YM → (YV → YM → R) → R} {dst : Option Tmp} {ty : TypeId} {pos : String} {after : Array Edge} {guard : Option (Nat × Bool)} {y : Ye.O}

theorem nbeq {a b : Nat} (h : Nat.beq a b = true) : a = b := Nat.eq_of_beq_eq_true h

theorem beq1_eq {a b : YV} (h : beq1 a b = true) : a = b := by
  unfold beq1 at h
  split at h
  · rw [eq_of_beq h]
  · simp only [Bool.and_eq_true] at h
    rw [kindIs_eq h.1, eq_of_beq h.2]
  · rw [eqList_iff.1 h]
  · rfl
  · rfl
  · rfl
  · simp only [Bool.and_eq_true] at h
    rw [nbeq h.1, nbeq h.2]
  · simp only [Bool.and_eq_true] at h
    rw [nbeq h.1, nbeq h.2.1, nbeq h.2.2.1, nbeq h.2.2.2.1, nbeq h.2.2.2.2]
  · simp only [Bool.and_eq_true] at h
    rw [nbeq h.1, nbeq h.2.1, nbeq h.2.2.1, nbeq h.2.2.2]
  · rw [nbeq h]
  · cases h

theorem beqL_eq : ∀ {a b : List YV}, beqL a b = true → a = b
  | [], [], _ => rfl
  | [], _ :: _, h => by cases h
  | _ :: _, [], h => by cases h
  | x :: a, y :: b, h => by
    simp only [beqL] at h
    cases hq : beq1 x y with
    | false => rw [hq] at h; cases h
    | true =>
      rw [hq] at h
      rw [beq1_eq hq, beqL_eq h]

theorem beqV_eq {a b : YV} (h : beqV a b = true) : a = b := by
  unfold beqV at h
  split at h
  · rw [beqL_eq h]
  · rw [beqL_eq h]
  · exact beq1_eq h

theorem sameR_ok {a b : R} (h : sameR beqV a b = .ok r) : a = .ok r ∧ b = .ok r := by
  unfold sameR at h
  split at h
  · cases h
  · split at h
    · cases h
    · split at h
      · rename_i hq
        cases h
        rw [beqV_eq hq]
        exact ⟨rfl, rfl⟩
      · cases h

theorem eachK_ok {K : ME → R} : ∀ {l : List ME}, eachK K l = .ok r → ∀ e ∈ l, K e = .ok r
  | [], h => by cases h
  | [e], h => fun e' he => by
    simp at he
    subst he
    exact h
  | e :: e2 :: l, h => fun e' he => by
    have h : sameR beqV (K e) (eachK K (e2 :: l)) = .ok r := h
    obtain ⟨h1, h2⟩ := sameR_ok h
    rcases List.mem_cons.1 he with rfl | he
    · exact h1
    · exact eachK_ok h2 e' he

theorem go_range {t : TypeId} {x : Operand} (hc : compO P xOf (.range t x) = some y) (he : EvOk φ ev xOf ρ) (hok : Ok w0 O B φ m w) (h : opK call y ev m K = .ok r) :
    Goes P (execOp ρ ⟨dst, .range t x, ty, pos, after, guard⟩) w (Post w0 O B φ K r) := by
  simp only [compO, Option.bind_eq_bind, Option.bind_eq_some_iff] at hc
  obtain ⟨ti, hti, hc⟩ := hc
  obtain ⟨inf, d, zv, g1, g2, g3, g4, g5, g6, -, -⟩ := mkTI_parts hti
  split at hc
  · rename_i kt et hk
    simp only [Option.map_eq_some_iff] at hc
    obtain ⟨a, ha, rfl⟩ := hc
    rw [g4] at hk
    obtain rfl := map_of hk
    have h : op_rg a ev m K = .ok r := h
    replace h := he.get ha h; obtain ⟨xv, hx, h⟩ := h
    cases xv with
    | m l =>
      simp only at h
      replace h := YM.getK_ok h
      obtain ⟨b', hb', h⟩ := h
      obtain ⟨L, l1, l2, l3⟩ := hok.blk l _ hb'
      unfold VR at hx
      obtain ⟨L', l1', hx⟩ := hx
      rw [l1] at l1'
      cases l1'
      cases b' with
      | c _ _ _ _ _ _ => cases h
      | im _ _ _ _ => cases h
      | is _ _ => cases h
      | m es cl =>
        obtain ⟨ents, e1, e2⟩ := l2
        obtain ⟨m', q1, q2, q3, q4⟩ := YM.newK_ok h
        refine .val (sem := Instr.range t (ρ x)) (v := .pointer (some ⟨w.heap.size, 0, none⟩)) (w' := { w with heap := w.heap.push (.mapIter (some L.blk) cl #[] cl) }) ?_
          ⟨upd φ m.n ⟨w.heap.size, 0, 0⟩, _, m', hok.ext_upd _, hok.new (L := ⟨w.heap.size, 0, 0⟩) q2 q3 q4 rfl ⟨rfl, L, hok.ext_upd _ _ _ l1, push_new⟩, ?_, q1⟩
        · rw [hx]
          unfold Instr.range
          rw [run_bind_ok (run_underlying' g2 w)]
          simp only
          rw [run_bind_ok (run_getMap e1)]
          simp only
          rw [run_bind_ok (run_pure P _ w)]
          rfl
        · unfold VR
          exact ⟨_, upd_self .., rfl⟩
    | _ => cases h
  · cases hc

theorem allLt_ok {n : Nat} : ∀ {es : List ME} {ents : List MapEntry}, EntR φ es ents → allLt n es = true → ∀ e ∈ ents, e.born < n
  | [], ents, he, _, e, hm => by
    have he : ents = [] := he
    subst he
    simp at hm
  | x :: es, ents, he, h, e, hm => by
    obtain ⟨p, ps, rfl, h1, h2, h3, h4⟩ := he
    simp only [allLt] at h
    cases hb : Nat.blt x.n n with
    | false => rw [hb] at h; cases h
    | true =>
      rw [hb] at h
      rcases List.mem_cons.1 hm with rfl | hm
      · have : x.n < n := Nat.le_of_ble_eq_true hb
        omega
      · exact allLt_ok h4 h e hm

theorem memN_iff : ∀ {l : List Nat} {n : Nat}, memN l n = true ↔ n ∈ l
  | [], n => by simp [memN]
  | x :: l, n => by
    simp only [memN]
    cases hb : Nat.beq x n with
    | true => simp [nbeq hb]
    | false =>
      have : n ≠ x := fun e => by subst e; rw [Nat.beq_refl] at hb; cases hb
      simp [memN_iff, this]

theorem leftOf_ok {seen : List Nat} : ∀ {es : List ME} {ents : List MapEntry}, EntR φ es ents → EntR φ (leftOf seen es) (ents.filter fun e => !(seen.contains e.born))
  | [], ents, he => by
    have he : ents = [] := he
    subst he
    exact rfl
  | x :: es, ents, he => by
    obtain ⟨p, ps, rfl, h1, h2, h3, h4⟩ := he
    simp only [leftOf]
    have hc : seen.contains p.born = memN seen x.n := by
      rw [h3]
      cases hm : memN seen x.n with
      | true => simpa using memN_iff.1 hm
      | false =>
        have : x.n ∉ seen := fun h => by rw [memN_iff.2 h] at hm; cases hm
        simpa using this
    cases hm : memN seen x.n with
    | true =>
      rw [List.filter_cons_of_neg (by rw [hc, hm]; simp)]
      exact leftOf_ok h4
    | false =>
      rw [List.filter_cons_of_pos (by rw [hc, hm]; simp)]
      exact ⟨p, _, rfl, h1, h2, h3, leftOf_ok h4⟩

theorem EntR.get {φ : Lm} : ∀ {es : List ME} {ents : List MapEntry}, EntR φ es ents → ∀ {i : Nat} {x : MapEntry}, ents[i]? = some x → ∃ e, es[i]? = some e ∧ VC φ e.k x.key ∧ VR φ e.v x.val ∧ x.born = e.n
  | [], ents, he, i, x, hx => by
    have he : ents = [] := he
    subst he
    simp at hx
  | y :: es, ents, he, i, x, hx => by
    obtain ⟨p, ps, rfl, h1, h2, h3, h4⟩ := he
    cases i with
    | zero => simp at hx; subst hx; exact ⟨y, rfl, h1, h2, h3⟩
    | succ i =>
      obtain ⟨e, k1, k2⟩ := EntR.get h4 (i := i) (by simpa using hx)
      exact ⟨e, by simpa using k1, k2⟩

theorem EntR.len {φ : Lm} : ∀ {es : List ME} {ents : List MapEntry}, EntR φ es ents → ents.length = es.length
  | [], ents, he => by
    have he : ents = [] := he
    subst he
    rfl
  | y :: es, ents, he => by
    obtain ⟨p, ps, rfl, h1, h2, h3, h4⟩ := he
    simp [EntR.len h4]

theorem run_getIter {l : Nat} {a : Option Nat} {b : Nat} {c : Array Nat} {d : Nat} (h : w.heap[l]? = some (.mapIter a b c d)) : (getObj l).run P w = .ok (.mapIter a b c d) w := by
  simp [getObj, Sem.run, h]

theorem run_setIter {l : Nat} {a : Option Nat} {b : Nat} {c : Array Nat} {d : Nat} (h : w.heap[l]? = some (.mapIter a b c d)) (o : Obj) : (setObj l o).run P w = .ok () { w with heap := w.heap.setIfInBounds l o } := by
  simp [setObj, Sem.run, h]

/-- An iterator's block takes another one. -/
theorem Ok.setIter (hok : Ok w0 O B φ m w) {l : Nat} {b0 : YB} (hk : kinOf b0 = none) (ho : owned b0 = true) (hb : m.get l = some b0) {L : Loc} (hL : φ l = some L) {m' : YM} {b' : YB} (hn : m'.n = m.n) (hlo : m'.lo = m.lo) (hl : m.lo ≤ l)
    (hg : ∀ j, m'.get j = if j = l then some b' else m.get j) {o : Obj} (hB : BR φ { w with heap := w.heap.setIfInBounds L.blk o } L b') : Ok w0 O B φ m' { w with heap := w.heap.setIfInBounds L.blk o } := by
  obtain ⟨L', h1, h2, h3⟩ := hok.blk l _ hb
  rw [hL] at h1
  cases h1
  have hsame : ∀ j c', j ≠ l → m.get j = some c' → ∀ M, φ j = some M → M.blk ≠ L.blk := fun j c' hne hc' M hM hbl => by
    have := hok.apart l j _ c' L M (Ne.symm hne) hb hc' hL hM hbl.symm
    rw [hk] at this
    cases this
  refine hok.change (Ch := fun b => b = L.blk) (New := fun j => j = l) rfl rfl rfl (by simp) (fun b hb hn => ?_) (fun b hb => by subst hb; exact h3 ho) (Ext.refl φ)
    (fun j M hM => by rw [hn]; exact hok.fresh j M hM) hlo (by omega) (fun j c' hc' hne => ?_) (fun j c' hc' hj => ?_) (fun j j' c1 c2 M M' hj hne hc hc' hM hM' hbl => ?_) (fun j hj => ?_)
  · simp [Array.getElem?_setIfInBounds_ne (Ne.symm hn)]
  · rw [hg, if_neg hne] at hc'
    exact ⟨hc', fun M hM => hsame j c' hne hc' M hM⟩
  · subst hj
    rw [hg, if_pos rfl] at hc'
    cases hc'
    exact ⟨L, hL, hB, fun _ => h3 ho⟩
  · exfalso
    subst hj
    rw [hg, if_neg hne.symm] at hc'
    rw [hL] at hM
    cases hM
    exact hsame j' c2 hne.symm hc' M' hM' hbl.symm
  · rw [hg, if_neg (by omega)]

theorem run_choose (n : Nat) (hn : 0 < n) : ∃ i d, (choose (.mapNext n)).run P w = .ok i { w with drawn := d } ∧ i < n := by
  by_cases h : n ≤ 1
  · refine ⟨0, w.drawn, ?_, hn⟩
    simp [choose, Sem.run, Question.forced, h]
  · refine ⟨w.tape w.drawn (.mapNext n) % n, w.drawn + 1, ?_, Nat.mod_lt _ hn⟩
    simp [choose, Sem.run, Question.forced, h, Question.cut]

theorem go_next {it : Operand} {s : Bool} (hc : compO P xOf (.next it s) = some y) (he : EvOk φ ev xOf ρ) (hok : Ok w0 O B φ m w) (h : opK call y ev m K = .ok r) :
    Goes P (execOp ρ ⟨dst, .next it s, ty, pos, after, guard⟩) w (Post w0 O B φ K r) := by
  simp only [compO] at hc
  split at hc
  · cases hc
  · rename_i hs
    have hs : s = false := by simpa using hs
    subst hs
    simp only [Option.map_eq_some_iff] at hc
    obtain ⟨a, ha, rfl⟩ := hc
    have h : op_nx a ev m K = .ok r := h
    replace h := he.get ha h; obtain ⟨xv, hx, h⟩ := h
    cases xv with
    | p l o =>
      cases o with
      | succ o => cases h
      | zero =>
        simp only at h
        replace h := YM.getK_ok h
        obtain ⟨b', hb', h⟩ := h
        obtain ⟨L, l1, l2, l3⟩ := hok.blk l _ hb'
        unfold VR at hx
        obtain ⟨L', l1', hx⟩ := hx
        rw [l1] at l1'
        cases l1'
        cases b' with
        | c _ _ _ _ _ _ => cases h
        | m _ _ => cases h
        | is _ _ => cases h
        | im ml since seen last =>
          obtain ⟨hbase, Lm, lm1, lm2⟩ := l2
          simp only at h
          replace h := YM.getK_ok h
          obtain ⟨bm, hbm, h⟩ := h
          obtain ⟨Lm', k1, k2, -⟩ := hok.blk ml _ hbm
          rw [lm1] at k1
          cases k1
          cases bm with
          | c _ _ _ _ _ _ => cases h
          | im _ _ _ _ => cases h
          | is _ _ => cases h
          | m es cl =>
            obtain ⟨ents, e1, e2⟩ := k2
            simp only at h
            cases hcond : (Nat.beq cl since && (Nat.beq cl last && allLt cl es)) with
            | false => rw [hcond] at h; cases h
            | true =>
              rw [hcond] at h
              simp only [Bool.and_eq_true] at hcond
              obtain ⟨c1, c2, c3⟩ := hcond
              have c1 := nbeq c1
              have c2 := nbeq c2
              subst c1
              subst c2
              have hlt := allLt_ok e2 c3
              have hleft := leftOf_ok (seen := seen) e2
              -- the run, up to the choice
              obtain ⟨Xs, hXs⟩ : ∃ Xs, Xs = ents.filter fun e => !(seen.contains e.born) := ⟨_, rfl⟩
              rw [← hXs] at hleft
              have hleft1 : (⟨ents⟩ : Array MapEntry).filter (fun e => !((⟨seen.reverse⟩ : Array Nat).contains e.born)) = ⟨Xs⟩ := by
                apply Array.toList_inj.1
                rw [Array.toList_filter]
                show ents.filter (fun e => !((⟨seen.reverse⟩ : Array Nat).contains e.born)) = Xs
                rw [hXs]
                congr 1
                funext e
                simp
              have hXlt : ∀ e ∈ Xs, e.born < cl := fun e hm => hlt e (by rw [hXs] at hm; exact (List.mem_filter.1 hm).1)
              have hold : (⟨Xs⟩ : Array MapEntry).filter (fun e => decide (e.born < cl)) = ⟨Xs⟩ := by
                apply Array.toList_inj.1
                rw [Array.toList_filter]
                exact List.filter_eq_self.2 fun e hm => decide_eq_true (hXlt e hm)
              have hnew : (⟨Xs⟩ : Array MapEntry).filter (fun e => decide (e.born ≥ cl)) = ⟨[]⟩ := by
                apply Array.toList_inj.1
                rw [Array.toList_filter]
                exact List.filter_eq_nil_iff.2 fun e hm => by
                  have := hXlt e hm
                  simp
                  omega
              have hrun : ∀ cands : Array (Option MapEntry), cands = (if (⟨Xs⟩ : Array MapEntry).isEmpty then #[none] else #[]) ++ ((⟨Xs⟩ : Array MapEntry) ++ ⟨[]⟩).map some → (Instr.next (ρ it) false ty).run P w = (do
                  let i ← choose (.mapNext cands.size)
                  match cands[i]? with
                  | some (some e) => do
                    setObj L.blk (.mapIter (some Lm.blk) cl ((⟨seen.reverse⟩ : Array Nat).push e.born) cl)
                    pure (.tuple #[.bool true, e.key, e.val])
                  | some none => pure (.tuple #[.bool false])
                  | none => stuck "Next: no such candidate" : Sem Value).run P w := by
                intro cands hcands
                rw [hx, hbase]
                unfold Instr.next
                simp only [Nat.zero_add]
                rw [run_bind_ok (run_getIter lm2)]
                simp only
                rw [run_bind_ok (run_getMap e1)]
                simp only
                have hnot : (!(⟨seen.reverse⟩ : Array Nat).isEmpty && !(⟨ents⟩ : Array MapEntry).isEmpty && (⟨ents⟩ : Array MapEntry).all (·.born ≥ cl)) = false := by
                  cases ents with
                  | nil => simp
                  | cons e es' =>
                    have := hlt e (by simp)
                    have : ¬ cl ≤ e.born := by omega
                    simp [this]
                rw [hnot]
                simp only [Bool.false_eq_true, if_false, hleft1, hold, hnew, ← hcands]
                rfl
              rcases Nat.eq_zero_or_pos Xs.length with hX0 | hX0
              · have hnil : Xs = [] := List.length_eq_zero_iff.1 hX0
                subst hnil
                have hnl : leftOf seen es = [] := List.length_eq_zero_iff.1 (by rw [← hleft.len]; rfl)
                rw [hnl] at h
                simp only at h
                obtain ⟨i, d, q1, q2⟩ := run_choose (P := P) (w := w) 1 (by omega)
                have hi : i = 0 := by omega
                subst hi
                refine .val (sem := Instr.next (ρ it) false ty) (v := .tuple #[.bool false]) (w' := { w with drawn := d }) ?_ ⟨φ, _, m, Ext.refl φ, hok.drew d, ?_, h⟩
                · rw [hrun #[none] (by simp)]
                  show (choose (.mapNext 1) >>= _ : Sem Value).run P w = _
                  rw [run_bind_ok q1]
                  rfl
                · unfold VR
                  exact ⟨[.bool false], rfl, by unfold VRs; exact ⟨_, _, rfl, by unfold VR; rfl, by unfold VRs; rfl⟩⟩
              · have hne : ∃ e0 rest0, leftOf seen es = e0 :: rest0 := by
                  have := hleft.len
                  cases hl : leftOf seen es with
                  | nil => rw [hl] at this; simp at this; rw [this] at hX0; simp at hX0
                  | cons e0 r0 => exact ⟨e0, r0, rfl⟩
                obtain ⟨e0, rest0, hl⟩ := hne
                rw [hl] at h
                simp only at h
                have hall := eachK_ok h
                rw [← hl] at hall
                have hcands : (if (⟨Xs⟩ : Array MapEntry).isEmpty then #[none] else #[]) ++ ((⟨Xs⟩ : Array MapEntry) ++ ⟨[]⟩).map some = ⟨Xs.map some⟩ := by
                  have : (⟨Xs⟩ : Array MapEntry).isEmpty = false := by
                    cases Xs with
                    | nil => simp at hX0
                    | cons _ _ => rfl
                  rw [this]
                  apply Array.toList_inj.1
                  simp
                obtain ⟨i, d, q1, q2⟩ := run_choose (P := P) (w := w) Xs.length hX0
                have hxi : Xs[i]? = some Xs[i] := List.getElem?_eq_getElem q2
                obtain ⟨e, f1, f2, f3, f4⟩ := hleft.get hxi
                have hK := hall e (List.mem_of_getElem? f1)
                obtain ⟨m', s1, s2, s3, s4, s5⟩ := YM.setK_ok hK
                have hlm2 : ({ w with drawn := d } : World).heap[L.blk]? = some (.mapIter (some Lm.blk) cl ⟨seen.reverse⟩ cl) := lm2
                have hok' := (hok.drew d).setIter (b0 := .im ml cl seen cl) rfl rfl hb' l1 s2 s3 s4 s5 (o := .mapIter (some Lm.blk) cl ((⟨seen.reverse⟩ : Array Nat).push e.n) cl)
                  ⟨hbase, Lm, lm1, by
                    have := lt_of_some lm2
                    simp [this]⟩
                refine .val (sem := Instr.next (ρ it) false ty) (v := .tuple #[.bool true, Xs[i].key, Xs[i].val]) (w' := _) ?_ ⟨φ, _, m', Ext.refl φ, hok', ?_, s1⟩
                · rw [hrun _ hcands.symm]
                  have hsz : (⟨Xs.map some⟩ : Array (Option MapEntry)).size = Xs.length := by simp
                  rw [hsz, run_bind_ok q1]
                  have hci : (⟨Xs.map some⟩ : Array (Option MapEntry))[i]? = some (some Xs[i]) := by simp [hxi]
                  rw [hci]
                  simp only
                  rw [run_bind_ok (run_setIter hlm2 _), f4]
                  rfl
                · unfold VR
                  exact ⟨[.bool true, Xs[i].key, Xs[i].val], rfl, by
                    unfold VRs
                    exact ⟨_, _, rfl, by unfold VR; rfl, by unfold VRs; exact ⟨_, _, rfl, f2.1, by unfold VRs; exact ⟨_, _, rfl, f3, by unfold VRs; rfl⟩⟩⟩⟩
    | _ => cases h

theorem bornK_ok {n : Nat} : ∀ {es : List ME} {ents : List MapEntry} {K : ME → R}, EntR φ es ents → bornK n es K = .ok r → ∃ e x, ents.find? (fun x => x.born == n) = some x ∧ VC φ e.k x.key ∧ VR φ e.v x.val ∧ K e = .ok r
  | [], ents, K, he, h => by cases h
  | y :: es, ents, K, he, h => by
    obtain ⟨p, ps, rfl, h1, h2, h3, h4⟩ := he
    simp only [bornK] at h
    cases hb : Nat.beq y.n n with
    | true =>
      rw [hb] at h
      exact ⟨y, p, by rw [List.find?_cons_of_pos (by rw [h3, nbeq hb]; simp)], h1, h2, h⟩
    | false =>
      rw [hb] at h
      obtain ⟨e, x, k1, k2⟩ := bornK_ok h4 h
      refine ⟨e, x, ?_, k2⟩
      rw [List.find?_cons_of_neg (by
        rw [h3]
        intro hh
        have := eq_of_beq hh
        rw [this, Nat.beq_refl] at hb
        cases hb)]
      exact k1

theorem go_entry {it : Operand} (hc : compO P xOf (.entry it) = some y) (he : EvOk φ ev xOf ρ) (hok : Ok w0 O B φ m w) (h : opK call y ev m K = .ok r) :
    Goes P (execOp ρ ⟨dst, .entry it, ty, pos, after, guard⟩) w (Post w0 O B φ K r) := by
  simp only [compO, Option.map_eq_some_iff] at hc
  obtain ⟨a, ha, rfl⟩ := hc
  have h : op_en a ev m K = .ok r := h
  replace h := he.get ha h; obtain ⟨xv, hx, h⟩ := h
  cases xv with
  | p l o =>
    cases o with
    | succ o => cases h
    | zero =>
      simp only at h
      replace h := YM.getK_ok h
      obtain ⟨b', hb', h⟩ := h
      obtain ⟨L, l1, l2, l3⟩ := hok.blk l _ hb'
      unfold VR at hx
      obtain ⟨L', l1', hx⟩ := hx
      rw [l1] at l1'
      cases l1'
      cases b' with
      | c _ _ _ _ _ _ => cases h
      | m _ _ => cases h
      | is _ _ => cases h
      | im ml since seen last =>
        obtain ⟨hbase, Lm, lm1, lm2⟩ := l2
        cases seen with
        | nil => cases h
        | cons n seen =>
          simp only at h
          replace h := YM.getK_ok h
          obtain ⟨bm, hbm, h⟩ := h
          obtain ⟨Lm', k1, k2, -⟩ := hok.blk ml _ hbm
          rw [lm1] at k1
          cases k1
          cases bm with
          | c _ _ _ _ _ _ => cases h
          | im _ _ _ _ => cases h
          | is _ _ => cases h
          | m es cl =>
            obtain ⟨ents, e1, e2⟩ := k2
            simp only at h
            cases hcl : Nat.beq cl last with
            | false => rw [hcl] at h; cases h
            | true =>
              rw [hcl] at h
              have hcl := nbeq hcl
              subst hcl
              obtain ⟨e, x, f1, f2, f3, f4⟩ := bornK_ok e2 h
              refine .val (sem := Instr.entry (ρ it)) (v := .tuple #[x.key, x.val]) (w' := w) ?_ (.here hok ?_ f4)
              · rw [hx, hbase]
                unfold Instr.entry
                simp only [Nat.zero_add]
                rw [run_bind_ok (run_getIter lm2)]
                simp only
                have hback : (⟨(n :: seen).reverse⟩ : Array Nat).back? = some n := by simp
                rw [hback]
                simp only
                rw [run_bind_ok (run_getMap e1)]
                simp only [bne_self_eq_false, Bool.false_eq_true, if_false]
                have hfind : (⟨ents⟩ : Array MapEntry).find? (fun x => x.born == n) = some x := by simpa using f1
                rw [hfind]
                rfl
              · unfold VR
                exact ⟨[x.key, x.val], rfl, by
                  unfold VRs
                  exact ⟨_, _, rfl, f2.1, by unfold VRs; exact ⟨_, _, rfl, f3, by unfold VRs; rfl⟩⟩⟩
  | _ => cases h

end
end Go.Ye

/- Ye, part T: calls. -/
namespace Go.Ye
open Go.Sx (TI TK mkTI mkTI_parts run_bind_ok run_pure run_value run_skip run_underlying' map_toList execOp_call_builtin execOp_call_func Callable run_callFunc lt_of_some some_of_lt)
set_option linter.unusedVariables false
set_option linter.constructorNameAsVariable false
set_option linter.unusedSimpArgs false

/-- What the evaluator says of a call is so. -/
def CallOk (P : Program) (call : FuncId → List YV → YM → (YV → YM → R) → R) : Prop :=
  ∀ (w0 : World) (O : Nat → Prop) (B : Nat → Option YB) (φ : Lm) (m : YM) (w : World) (g : FuncId) (vs : List YV) (xs : List Value) (K : YV → YM → R) (r : YV), call g vs m K = .ok r → Ok w0 O B φ m w → VRs φ vs xs →
    Callable P g ∧ Calls P g xs.toArray w fun e w' => ∃ v, e = .returned v ∧ Post w0 O B φ K r v w'

section
variable {P : Program} {w0 : World} {O : Nat → Prop} {B : Nat → Option YB} {φ : Lm} {m : YM} {w : World} {r : YV} {ev : Ev} {xOf : Operand → Option X} {ρ : Operand → Value} {K : YV → YM → R}
  {call : FuncId → List YV → YM → (YV → YM → R) → R} {dst : Option Tmp} {ty : TypeId} {pos : String} {after : Array Edge} {guard : Option (Nat × Bool)} {y : Ye.O}

theorem find_count {fn : Func} (h1 : fn.name = "internal/bytealg.CountString") (h2 : fn.origin = "") : Extern.findNext fn = none ∧ Extern.find fn = some Extern.BytealgCount.count := by
  constructor
  · unfold Extern.findNext
    rw [h1, h2]
    rfl
  · unfold Extern.find
    rw [h1, h2]
    rfl

theorem find_index {fn : Func} (h1 : fn.name = "internal/bytealg.IndexByteString") (h2 : fn.origin = "") : Extern.findNext fn = none ∧ Extern.find fn = some Extern.BytealgIndexByte.indexByte := by
  constructor
  · unfold Extern.findNext
    rw [h1, h2]
    rfl
  · unfold Extern.find
    rw [h1, h2]
    rfl

theorem go_ca {f : FuncId} {xs : List Operand} {ts : Array TypeId} {vs : List X} (hcall : CallOk P call) (hρ : ρ (.func f) = .func (.func f) #[] #[]) (hvs : xs.mapM xOf = some vs) (he : EvOk φ ev xOf ρ) (hok : Ok w0 O B φ m w)
    (h : opK call (.ca f vs) ev m K = .ok r) : Goes P (execOp ρ ⟨dst, .call ⟨.value (.func f), ⟨xs⟩, ts⟩, ty, pos, after, guard⟩) w (Post w0 O B φ K r) := by
  have h : op_ca call f vs ev m K = .ok r := h
  replace h := he.gets hvs h
  obtain ⟨ys, h1, h2⟩ := h
  obtain ⟨c1, c2⟩ := hcall _ _ _ _ _ _ _ _ _ _ _ h2 hok h1
  refine .inr (.inr ⟨f, (xs.map ρ).toArray, ?_, c2⟩)
  rw [execOp_call_func ρ dst (.func f) f [] [] xs ts ty pos after guard hρ, run_callFunc c1]
  simp

theorem go_cc {t : Tmp} {xs : List Operand} {ts : Array TypeId} {a : X} {vs : List X} (hcall : CallOk P call) (ha : xOf (.tmp t) = some a) (hvs : xs.mapM xOf = some vs) (he : EvOk φ ev xOf ρ) (hok : Ok w0 O B φ m w)
    (h : opK call (.cc a vs) ev m K = .ok r) : Goes P (execOp ρ ⟨dst, .call ⟨.value (.tmp t), ⟨xs⟩, ts⟩, ty, pos, after, guard⟩) w (Post w0 O B φ K r) := by
  have h : op_cc call a vs ev m K = .ok r := h
  replace h := he.get ha h; obtain ⟨fv, hf, h⟩ := h
  replace h := he.gets hvs h
  obtain ⟨ys, h1, h2⟩ := h
  cases fv with
  | f g us =>
    simp only at h2
    unfold VR at hf
    obtain ⟨us', hf1, hf2⟩ := hf
    obtain ⟨c1, c2⟩ := hcall _ _ _ _ _ _ _ _ _ _ _ h2 hok (h1.append hf2)
    refine .inr (.inr ⟨g, (xs.map ρ ++ us').toArray, ?_, c2⟩)
    rw [execOp_call_func ρ dst (.tmp t) g [] us' xs ts ty pos after guard hf1, run_callFunc c1]
    simp
  | _ => cases h2

/-- A function without a body that answers a value. -/
theorem go_extern {f : FuncId} {fn : Func} {xs : List Operand} {ts : Array TypeId} {e : Array Value → Sem Value} (hfn : P.funcs[f]? = some fn) (hb : fn.body = none) (hnm : (fn.name == "runtime.NumGoroutine") = false)
    (h1 : Extern.findNext fn = none) (h2 : Extern.find fn = some e) (hρ : ρ (.func f) = .func (.func f) #[] #[]) {v : Value} {Q : Value → World → Prop} (hrun : (e (xs.map ρ).toArray).run P w = .ok v w) (hq : Q v w) :
    Goes P (execOp ρ ⟨dst, .call ⟨.value (.func f), ⟨xs⟩, ts⟩, ty, pos, after, guard⟩) w Q := by
  refine .inl ⟨v, w, ?_, hq⟩
  rw [execOp_call_func ρ dst (.func f) f [] [] xs ts ty pos after guard hρ]
  have hargs : (⟨[] ++ xs.map ρ ++ []⟩ : Array Value) = (xs.map ρ).toArray := by simp
  rw [hargs]
  unfold callFunc
  rw [run_bind_ok (m := program) (a := P) (w' := w) rfl]
  simp only [hfn, hnm, hb, Option.isNone_none, if_true, Bool.false_eq_true, if_false]
  rw [run_bind_ok (m := mark _) (a := ()) (w' := w) rfl]
  simp only [h1, h2]
  rw [run_bind_ok hrun]
  rfl

theorem ofNat_beq {a c : Nat} (ha : a < 256) (hc : c < 256) : (UInt8.ofNat a == UInt8.ofNat c) = Nat.beq a c := by
  cases h : Nat.beq a c with
  | true => rw [nbeq h]; simp
  | false =>
    refine beq_eq_false_iff_ne.2 fun e => ?_
    have := ofNat_inj ha hc e
    subst this
    rw [Nat.beq_refl] at h
    cases h

theorem countL_eq {c : Nat} (hc : c < 256) : ∀ {l : List Nat} (n : Nat) (K : Nat → R), (∀ a ∈ l, a < 256) → countL c l n K = K (n + Lib.countByte (l.map UInt8.ofNat) (UInt8.ofNat c))
  | [], n, K, _ => rfl
  | a :: l, n, K, h => by
    have ha := ofNat_beq (h a (by simp)) hc
    have ih := fun n => countL_eq hc (l := l) n K (fun x hx => h x (by simp [hx]))
    simp only [countL, Lib.countByte, List.map_cons, List.count_cons]
    rw [ha]
    cases hb : Nat.beq a c with
    | true =>
      simp only [ih, if_true]
      congr 1
      simp [Lib.countByte]
      omega
    | false =>
      simp only [ih, Bool.false_eq_true, if_false]
      rfl

theorem indexL_eq {c : Nat} (hc : c < 256) : ∀ {l : List Nat} (n : Nat) (K : Option Nat → R), (∀ a ∈ l, a < 256) →
    (Lib.indexByte (l.map UInt8.ofNat) (UInt8.ofNat c) = -1 ∧ indexL c l n K = K none) ∨ ∃ i : Nat, Lib.indexByte (l.map UInt8.ofNat) (UInt8.ofNat c) = i ∧ indexL c l n K = K (some (n + i))
  | [], n, K, _ => .inl ⟨rfl, rfl⟩
  | a :: l, n, K, h => by
    have ha := ofNat_beq (h a (by simp)) hc
    have ih := indexL_eq hc (l := l) (Nat.succ n) K (fun x hx => h x (by simp [hx]))
    simp only [indexL, List.map_cons, Lib.indexByte]
    rw [ha]
    cases hb : Nat.beq a c with
    | true => exact .inr ⟨0, by simp, by simp⟩
    | false =>
      simp only [Bool.false_eq_true, if_false]
      rcases ih with ⟨h1, h2⟩ | ⟨i, h1, h2⟩
      · exact .inl ⟨by rw [h1]; simp, h2⟩
      · refine .inr ⟨i + 1, ?_, ?_⟩
        · rw [h1]
          have : ((i : Int) == -1) = false := by
            refine beq_eq_false_iff_ne.2 fun e => ?_
            omega
          rw [this]
          simp
        · rw [h2]
          congr 2
          omega

theorem go_xn {f : FuncId} {fn : Func} {x z : Operand} {ts : Array TypeId} {a b : X} (hfn : P.funcs[f]? = some fn) (hb : fn.body = none) (hnm : fn.name = "internal/bytealg.CountString") (hor : fn.origin = "") (hρ : ρ (.func f) = .func (.func f) #[] #[])
    (hx : xOf x = some a) (hz : xOf z = some b) (he : EvOk φ ev xOf ρ) (hok : Ok w0 O B φ m w) (h : opK call (.xn a b) ev m K = .ok r) :
    Goes P (execOp ρ ⟨dst, .call ⟨.value (.func f), ⟨[x, z]⟩, ts⟩, ty, pos, after, guard⟩) w (Post w0 O B φ K r) := by
  obtain ⟨f1, f2⟩ := find_count hnm hor
  have h : op_xn a b ev m K = .ok r := h
  replace h := he.get hx h; obtain ⟨xv, hxv, h⟩ := h
  replace h := he.get hz h; obtain ⟨zv, hzv, h⟩ := h
  replace h := mS h; obtain ⟨l, rfl, h⟩ := h
  split at h
  · rename_i c
    replace h := (IF_ok h).resolve_right fun h => (by cases h.2)
    obtain ⟨hc, h⟩ := h
    have hc : c < 256 := Nat.le_of_ble_eq_true hc
    unfold VR at hxv hzv
    obtain ⟨hx1, hx2⟩ := hxv
    rw [countL_eq hc 0 _ hx2] at h
    refine go_extern hfn hb (by rw [hnm]; decide) f1 f2 hρ (v := .int .i64 ((0 + Lib.countByte (l.map UInt8.ofNat) (UInt8.ofNat c) : Nat) : Int)) ?_ (.here hok (by unfold VR; rfl) h)
    have := Lib.run_countString (P := P) (str l) (c : Int) w
    rw [str_data] at this
    simp only [List.map_cons, List.map_nil, hx1, hzv, Nat.zero_add]
    exact this
  · cases h

theorem go_xi {f : FuncId} {fn : Func} {x z : Operand} {ts : Array TypeId} {a b : X} (hfn : P.funcs[f]? = some fn) (hb : fn.body = none) (hnm : fn.name = "internal/bytealg.IndexByteString") (hor : fn.origin = "") (hρ : ρ (.func f) = .func (.func f) #[] #[])
    (hx : xOf x = some a) (hz : xOf z = some b) (he : EvOk φ ev xOf ρ) (hok : Ok w0 O B φ m w) (h : opK call (.xi a b) ev m K = .ok r) :
    Goes P (execOp ρ ⟨dst, .call ⟨.value (.func f), ⟨[x, z]⟩, ts⟩, ty, pos, after, guard⟩) w (Post w0 O B φ K r) := by
  obtain ⟨f1, f2⟩ := find_index hnm hor
  have h : op_xi a b ev m K = .ok r := h
  replace h := he.get hx h; obtain ⟨xv, hxv, h⟩ := h
  replace h := he.get hz h; obtain ⟨zv, hzv, h⟩ := h
  replace h := mS h; obtain ⟨l, rfl, h⟩ := h
  split at h
  · rename_i c
    replace h := (IF_ok h).resolve_right fun h => (by cases h.2)
    obtain ⟨hc, h⟩ := h
    have hc : c < 256 := Nat.le_of_ble_eq_true hc
    unfold VR at hxv hzv
    obtain ⟨hx1, hx2⟩ := hxv
    have hrun := Lib.run_indexByteString (P := P) (str l) (c : Int) w
    rw [str_data] at hrun
    have hto : ((c : Int).toNat.toUInt8) = UInt8.ofNat c := rfl
    rcases indexL_eq hc 0 (fun n => match n with
        | some n => K (.i .i64 (.ofNat n)) m
        | none => K (.i .i64 (.negSucc 0)) m) hx2 with ⟨g1, g2⟩ | ⟨i, g1, g2⟩
    · replace h := g2.symm.trans h
      refine go_extern hfn hb (by rw [hnm]; decide) f1 f2 hρ (v := .int .i64 (-1)) ?_ (.here hok (by unfold VR; rfl) h)
      simp only [List.map_cons, List.map_nil, hx1, hzv]
      rw [hto, g1] at hrun
      exact hrun
    · replace h := g2.symm.trans h
      refine go_extern hfn hb (by rw [hnm]; decide) f1 f2 hρ (v := .int .i64 ((0 + i : Nat) : Int)) ?_ (.here hok (by unfold VR; rfl) h)
      simp only [List.map_cons, List.map_nil, hx1, hzv, Nat.zero_add]
      rw [hto, g1] at hrun
      exact hrun
  · cases h

end
end Go.Ye

/- Ye, part U: every operation. -/
namespace Go.Ye
open Go.Sx (Callable)
set_option linter.unusedVariables false
set_option linter.constructorNameAsVariable false
set_option linter.unusedSimpArgs false

section
variable {P : Program} {w0 : World} {O : Nat → Prop} {B : Nat → Option YB} {φ : Lm} {m : YM} {w : World} {r : YV} {ev : Ev} {xOf : Operand → Option X} {ρ : Operand → Value} {K : YV → YM → R}
  {call : FuncId → List YV → YM → (YV → YM → R) → R} {dst : Option Tmp} {ty : TypeId} {pos : String} {after : Array Edge} {guard : Option (Nat × Bool)} {y : Ye.O}

theorem go_callOp (hcall : CallOk P call) (hρ : ∀ f, ρ (.func f) = .func (.func f) #[] #[]) {c : Call} (hc : compO P xOf (.call c) = some y) (he : EvOk φ ev xOf ρ) (hok : Ok w0 O B φ m w) (h : opK call y ev m K = .ok r) :
    Goes P (execOp ρ ⟨dst, .call c, ty, pos, after, guard⟩) w (Post w0 O B φ K r) := by
  have hc' := hc
  unfold compO at hc'
  split at hc' <;> rename_i heq <;> first
    | (cases heq; done)
    | (simp only [Op.call.injEq] at heq; subst heq; first
        | exact go_len hc he hok h
        | exact go_copy hc he hok h
        | exact go_clear hc he hok h
        | exact go_min hc he hok h
        | exact go_max hc he hok h
        | (by_cases haz : ∃ a b c d e, y = .az a b c d e
           · obtain ⟨a, b, c, d, e, rfl⟩ := haz
             exact go_az hc he hok h
           · exact go_append hc he hok h (fun a b c d e hy => haz ⟨a, b, c, d, e, hy⟩))
        | (simp only [Option.bind_eq_bind, Option.bind_eq_some_iff] at hc'
           obtain ⟨fn, hfn, hc'⟩ := hc'
           split at hc'
           · simp only [Option.map_eq_some_iff] at hc'
             obtain ⟨vs, hvs, rfl⟩ := hc'
             exact go_ca hcall (hρ _) hvs he hok h
           · rename_i hbody
             split at hc'
             · split at hc'
               · cases hc'
               · rename_i hor
                 have hor := Decidable.not_not.1 hor
                 split at hc'
                 · rename_i hnm
                   simp only [Option.bind_eq_some_iff, Option.some.injEq] at hc'
                   obtain ⟨a, ha, b, hb, rfl⟩ := hc'
                   exact go_xn hfn hbody hnm hor (hρ _) ha hb he hok h
                 · split at hc'
                   · rename_i hnm
                     simp only [Option.bind_eq_some_iff, Option.some.injEq] at hc'
                     obtain ⟨a, ha, b, hb, rfl⟩ := hc'
                     exact go_xi hfn hbody hnm hor (hρ _) ha hb he hok h
                   · cases hc'
             · cases hc')
        | (simp only [Option.bind_eq_bind, Option.bind_eq_some_iff, Option.some.injEq] at hc'
           obtain ⟨a, ha, vs, hvs, rfl⟩ := hc'
           exact go_cc hcall ha hvs he hok h))
    | (cases hc'; done)

theorem go_op (hcall : CallOk P call) (hρ : ∀ f, ρ (.func f) = .func (.func f) #[] #[]) {o : Oper} (hc : compO P xOf o.op = some y) (he : EvOk φ ev xOf ρ) (hok : Ok w0 O B φ m w) (h : opK call y ev m K = .ok r) :
    Goes P (execOp ρ o) w (Post w0 O B φ K r) := by
  obtain ⟨dst, op, ty, pos, after, guard⟩ := o
  cases op with
  | move x => exact go_move hc he hok h
  | assign x => exact go_assign hc he hok h
  | pick c a b => exact go_pick hc he hok h
  | alloc t => exact go_alloc hc he hok h
  | box t x => exact go_box hc he hok h
  | build t ps => exact go_build hc he hok h
  | buildSlice t n ps => exact go_buildSlice hc he hok h
  | load t x => exact go_load hc he hok h
  | store t a x => exact go_store hc he hok h
  | nilCheck x => exact go_nilCheck hc he hok h
  | binOp op t x z t' => exact go_binOp hc he hok h
  | unOp op t x => exact go_unOp hc he hok h
  | convert s d x =>
    by_cases hbb : ∃ a, y = .bb a
    · obtain ⟨a, rfl⟩ := hbb
      exact go_bb hc he hok h
    · exact go_convert hc he hok h (fun a ha => hbb ⟨a, ha⟩)
  | makeFunc fn first cap =>
    have hc' := hc
    unfold compO at hc'
    split at hc' <;> rename_i heq <;> first
      | (cases heq; done)
      | (cases heq; exact go_makeFunc hc he hok h)
      | (cases hc'; done)
  | makeMap t res =>
    cases res with
    | none => exact go_makeMap hc he hok h
    | some x => cases hc
  | makeSlice t l c => exact go_makeSlice hc he hok h
  | slice t x lo hi mx => exact go_slice hc he hok h
  | fieldAddr t x f => exact go_fieldAddr hc he hok h
  | field t x f => exact go_field hc he hok h
  | indexAddr t x i => exact go_indexAddr hc he hok h
  | index t x i => exact go_index hc he hok h
  | lookup t x k ok => exact go_lookup hc he hok h
  | mapUpdate t x k v => exact go_mapUpdate hc he hok h
  | range t x => exact go_range hc he hok h
  | next it s => exact go_next hc he hok h
  | entry it => exact go_entry hc he hok h
  | extract x i => exact go_extract hc he hok h
  | call c => exact go_callOp hcall hρ hc he hok h
  | _ => cases hc

end
end Go.Ye

/- Ye, part V: regions in order. -/
namespace Go.Ye
open Go.Sx (Callable run_bind_ok)
set_option linter.unusedVariables false
set_option linter.constructorNameAsVariable false
set_option linter.unusedSimpArgs false

/-! ### places -/

theorem digOf_inj {a b : Nat} (ha : a < 8) (hb : b < 8) (h : digOf a = digOf b) : a = b := by
  rcases a with _ | _ | _ | _ | _ | _ | _ | _ | a <;> rcases b with _ | _ | _ | _ | _ | _ | _ | _ | b <;> first | rfl | omega | cases h

theorem qAt_inj {a b : Nat} {q : Q} (ha : qAt a = some q) (hb : qAt b = some q) : a = b := by
  unfold qAt at ha hb
  split at ha
  · rename_i h1
    cases ha
    split at hb
    · rename_i h2
      simp only [Option.some.injEq, Q.x.injEq] at hb
      exact (digOf_inj h2 h1 hb).symm
    · split at hb
      · cases hb
      · split at hb <;> cases hb
  · split at ha
    · rename_i h0 h1
      cases ha
      split at hb
      · cases hb
      · split at hb
        · rename_i h2 h3
          simp only [Option.some.injEq, Q.y.injEq] at hb
          have e1 := digOf_inj (by omega) (by omega) hb.1
          have e2 := digOf_inj (by omega) (by omega) hb.2
          omega
        · split at hb <;> cases hb
    · split at ha
      · rename_i h0 h1 h2
        cases ha
        split at hb
        · cases hb
        · split at hb
          · cases hb
          · split at hb
            · rename_i h3 h4 h5
              simp only [Option.some.injEq, Q.z.injEq] at hb
              have e1 := digOf_inj (by omega) (by omega) hb.1
              have e2 := digOf_inj (by omega) (by omega) hb.2.1
              have e3 := digOf_inj (by omega) (by omega) hb.2.2
              omega
            · cases hb
      · cases ha

theorem idxIn_ok {t : Nat} : ∀ {S : List Nat} {i k : Nat}, idxIn t S i = some k → i ≤ k ∧ S[k - i]? = some t
  | [], i, k, h => by cases h
  | x :: S, i, k, h => by
    simp only [idxIn] at h
    split at h
    · rename_i hb
      cases h
      rw [nbeq hb]
      simp
    · obtain ⟨h1, h2⟩ := idxIn_ok h
      refine ⟨by omega, ?_⟩
      rw [show k - i = (k - (i + 1)) + 1 from by omega]
      simpa using h2

theorem qOf_inj {S : List Nat} {t u : Nat} {q : Q} (ht : qOf S t = some q) (hu : qOf S u = some q) : t = u := by
  unfold qOf at ht hu
  simp only [Option.bind_eq_some_iff] at ht hu
  obtain ⟨i, h1, h2⟩ := ht
  obtain ⟨j, h3, h4⟩ := hu
  have := qAt_inj h2 h4
  subst this
  have e1 := (idxIn_ok h1).2
  have e2 := (idxIn_ok h3).2
  rw [e1] at e2
  cases e2
  rfl

/-! ### frames -/

/-- The slots that have a place in the frame. -/
def FrOk (φ : Lm) (S : List Nat) (f : Fr) (a : Array Value) : Prop := ∀ t q, qOf S t = some q → VR φ (f.get q) (a.getD t undef)

def srcVal (s : List YV) (f : Fr) : Src → Option YV
  | .s n => if n < s.length then s[s.length - 1 - n]? else none
  | .q q => some (f.get q)
  | .c v => some v

def EnvOk (φ : Lm) (env : Env) (s : List YV) (f : Fr) (a : Array Value) : Prop := ∀ t x, (t, x) ∈ env → ∃ v, srcVal s f x = some v ∧ VR φ v (a.getD t undef)

def xVal (s : List YV) (f : Fr) : X → Option YV
  | .t q => some (f.get q)
  | .c v => some v
  | .k0 => s[0]?
  | .k1 => s[1]?
  | .k n => s[n]?

theorem evK_ok {s : List YV} {f : Fr} {x : X} {K : YV → R} {r : YV} (h : evK s f x K = .ok r) : ∃ v, xVal s f x = some v ∧ K v = .ok r := by
  cases x with
  | t q =>
    have h : f.getK q K = .ok r := h
    rw [Fr.getK_eq] at h
    exact ⟨_, rfl, h⟩
  | c v => exact ⟨v, rfl, h⟩
  | k0 =>
    cases s with
    | nil => cases h
    | cons v s => exact ⟨v, rfl, h⟩
  | k1 =>
    cases s with
    | nil => cases h
    | cons u s =>
      cases s with
      | nil => cases h
      | cons v s => exact ⟨v, rfl, h⟩
  | k n => exact nthK_ok h

theorem xSrc_val {s : List YV} {f : Fr} {x : Src} {X : X} (h : xSrc s.length x = some X) : xVal s f X = srcVal s f x := by
  cases x with
  | q q => simp only [xSrc, Option.some.injEq] at h; subst h; rfl
  | c v => simp only [xSrc, Option.some.injEq] at h; subst h; rfl
  | s n =>
    simp only [xSrc] at h
    split at h
    · rename_i hn
      cases h
      simp only [srcVal, if_pos hn]
      unfold xAt
      split <;> rename_i he
      · rw [he]; rfl
      · rw [he]; rfl
      · rfl
    · cases h

theorem look_mem : ∀ {env : Env} {t : Nat} {x : Src}, look t env = some x → (t, x) ∈ env
  | [], t, x, h => by cases h
  | (u, z) :: env, t, x, h => by
    simp only [look] at h
    split at h
    · rename_i hb
      cases h
      rw [nbeq hb]
      exact List.mem_cons_self ..
    · exact List.mem_cons_of_mem _ (look_mem h)

theorem eval_tmp (a : Array Value) (t : Tmp) : Act.eval ⟨a, []⟩ (.tmp t) = a.getD t undef := by
  simp [Act.eval]

theorem srcOf_ok {φ : Lm} {S : List Nat} {env : Env} {s : List YV} {f : Fr} {a : Array Value} (hf : FrOk φ S f a) (he : EnvOk φ env s f a) {xo : Operand} {x : Src} (h : srcOf S env xo = some x) :
    ∃ v, srcVal s f x = some v ∧ VR φ v (Act.eval ⟨a, []⟩ xo) := by
  cases xo with
  | tmp t =>
    simp only [srcOf] at h
    rw [eval_tmp]
    split at h
    · rename_i x' hl
      cases h
      exact he t x (look_mem hl)
    · simp only [Option.map_eq_some_iff] at h
      obtain ⟨q, hq, rfl⟩ := h
      exact ⟨_, rfl, hf t q hq⟩
  | const v =>
    simp only [srcOf, Option.map_eq_some_iff] at h
    obtain ⟨y, hy, rfl⟩ := h
    exact ⟨y, rfl, vOf_ok hy⟩
  | func g =>
    simp only [srcOf, Option.some.injEq] at h
    subst h
    refine ⟨_, rfl, ?_⟩
    unfold VR
    exact ⟨[], rfl, by unfold VRs; rfl⟩
  | global g => cases h

theorem EvOk.of {φ : Lm} {S : List Nat} {env : Env} {s : List YV} {f : Fr} {a : Array Value} (hf : FrOk φ S f a) (he : EnvOk φ env s f a) : EvOk φ (evK s f) (xIn S env s.length) (Act.eval ⟨a, []⟩) := by
  intro x K r h
  obtain ⟨v, h1, h2⟩ := evK_ok h
  refine ⟨v, h2, fun xo hx => ?_⟩
  simp only [xIn, Option.bind_eq_some_iff] at hx
  obtain ⟨src, k1, k2⟩ := hx
  obtain ⟨v', k3, k4⟩ := srcOf_ok hf he k1
  rw [xSrc_val k2, k3] at h1
  cases h1
  exact k4

theorem dEq_iff {a b : D} : forget.dEq a b = true ↔ a = b := by
  cases a <;> cases b <;> simp [forget.dEq]

theorem qEq_iff {a b : Q} : forget.qEq a b = true ↔ a = b := by
  cases a <;> cases b <;> simp [forget.qEq, dEq_iff]

theorem mem_forget {d : Nat} {q : Option Q} {t : Nat} {x : Src} : ∀ {env : Env}, (t, x) ∈ forget d q env → (t, x) ∈ env ∧ t ≠ d ∧ ∀ p, q = some p → x ≠ .q p
  | [], h => by simp [forget] at h
  | (u, z) :: env, h => by
    have key : (t, x) ∈ forget d q env → (t, x) ∈ (u, z) :: env ∧ t ≠ d ∧ ∀ p, q = some p → x ≠ .q p := fun h => by
      obtain ⟨h1, h2, h3⟩ := mem_forget h
      exact ⟨List.mem_cons_of_mem _ h1, h2, h3⟩
    unfold forget at h
    cases hb : Nat.beq u d with
    | true => rw [hb] at h; exact key h
    | false =>
      rw [hb] at h
      have hud : u ≠ d := fun e => by subst e; rw [Nat.beq_refl] at hb; cases hb
      simp only at h
      cases z with
      | q p =>
        cases q with
        | none =>
          simp only at h
          rcases List.mem_cons.1 h with he | h
          · cases he
            exact ⟨List.mem_cons_self .., hud, fun p hp => by cases hp⟩
          · exact key h
        | some q =>
          simp only at h
          split at h
          · exact key h
          · rename_i hne
            rcases List.mem_cons.1 h with he | h
            · cases he
              refine ⟨List.mem_cons_self .., hud, fun p' hp' he => ?_⟩
              cases hp'
              cases he
              exact hne (qEq_iff.2 rfl)
            · exact key h
      | s n =>
        simp only at h
        rcases List.mem_cons.1 h with he | h
        · cases he
          exact ⟨List.mem_cons_self .., hud, fun p hp he => by cases he⟩
        · exact key h
      | c v =>
        simp only at h
        rcases List.mem_cons.1 h with he | h
        · cases he
          exact ⟨List.mem_cons_self .., hud, fun p hp he => by cases he⟩
        · exact key h

end Go.Ye

/- Ye, part W: regions in order, on. -/
namespace Go.Ye
open Go.Sx (Callable run_bind_ok wpOps_step wpOps_pass wp_of_value wanted_of yielded_of)
set_option linter.unusedVariables false
set_option linter.constructorNameAsVariable false
set_option linter.unusedSimpArgs false

section
variable {P : Program} {w0 : World} {O : Nat → Prop} {B : Nat → Option YB} {φ : Lm} {m : YM} {w : World} {r : YV} {call : FuncId → List YV → YM → (YV → YM → R) → R}

/-! ### what is written into a frame -/

theorem finK_ok {f : Fr} {d : Option Q} {v : YV} {K : Fr → R} (h : finK f d v K = .ok r) : ∃ f', K f' = .ok r ∧ (∀ q, d = some q → f'.get q = v) ∧ ∀ p, d ≠ some p → f'.get p = f.get p := by
  cases d with
  | none => exact ⟨f, h, fun q hq => (by cases hq), fun p _ => rfl⟩
  | some q =>
    have h : f.setK q v K = .ok r := h
    obtain ⟨f', h1, h2, h3⟩ := Fr.setK_ok h
    exact ⟨f', h1, fun q' hq => by cases hq; exact h2, fun p hp => h3 p fun e => hp (by rw [e])⟩

theorem pushK_eq {s : List YV} {p : Bool} {v : YV} {K : List YV → R} : pushK s p v K = K (if p then v :: s else s) := by cases p <;> rfl

theorem getD_set_self {a : Array Value} {d : Nat} {v : Value} (h : d < a.size) : (a.setIfInBounds d v).getD d undef = v := by
  simp [Array.getD, h]

theorem getD_set_other {a : Array Value} {d t : Nat} {v : Value} (h : d ≠ t) : (a.setIfInBounds d v).getD t undef = a.getD t undef := by
  rw [Array.getD_eq_getD_getElem?, Array.getElem?_setIfInBounds_ne h, ← Array.getD_eq_getD_getElem?]

theorem FrOk.ext {S : List Nat} {f : Fr} {a : Array Value} {φ' : Lm} (h : FrOk φ S f a) (hx : Ext φ φ') : FrOk φ' S f a := fun t q hq => (h t q hq).ext hx

theorem EnvOk.ext {env : Env} {s : List YV} {f : Fr} {a : Array Value} {φ' : Lm} (h : EnvOk φ env s f a) (hx : Ext φ φ') : EnvOk φ' env s f a := fun t x hm => by
  obtain ⟨v, h1, h2⟩ := h t x hm
  exact ⟨v, h1, h2.ext hx⟩

theorem EnvOk.nil {s : List YV} {f : Fr} {a : Array Value} : EnvOk φ [] s f a := fun t x h => by cases h

theorem FrOk.put {S : List Nat} {f f' : Fr} {a : Array Value} {d : Nat} {y : YV} {v : Value} (h : FrOk φ S f a) (hd : d < a.size) (hv : VR φ y v) (h1 : ∀ q, qOf S d = some q → f'.get q = y)
    (h2 : ∀ p, qOf S d ≠ some p → f'.get p = f.get p) : FrOk φ S f' (a.setIfInBounds d v) := fun t q hq => by
  by_cases htd : d = t
  · subst htd
    rw [h1 q hq, getD_set_self hd]
    exact hv
  · rw [h2 q (fun e => htd (qOf_inj e hq)), getD_set_other htd]
    exact h t q hq

theorem EnvOk.forget {S : List Nat} {env : Env} {s : List YV} {f f' : Fr} {a : Array Value} {d : Nat} {v : Value} (h : EnvOk φ env s f a)
    (h2 : ∀ p, qOf S d ≠ some p → f'.get p = f.get p) : EnvOk φ (Go.Ye.forget d (qOf S d) env) s f' (a.setIfInBounds d v) := fun t x hm => by
  obtain ⟨h3, h4, h5⟩ := mem_forget hm
  obtain ⟨z, h6, h7⟩ := h t x h3
  rw [getD_set_other (Ne.symm h4)]
  refine ⟨z, ?_, h7⟩
  cases x with
  | s n => exact h6
  | q p =>
    simp only [srcVal] at h6 ⊢
    rw [h2 p (fun e => h5 p e rfl)]
    exact h6
  | c v => exact h6

theorem EnvOk.more {env : Env} {s : List YV} {f : Fr} {a : Array Value} {y : YV} (h : EnvOk φ env s f a) : EnvOk φ env (y :: s) f a := fun t x hm => by
  obtain ⟨z, h6, h7⟩ := h t x hm
  refine ⟨z, ?_, h7⟩
  cases x with
  | s n =>
    simp only [srcVal] at h6 ⊢
    split at h6
    · rename_i hn
      rw [List.length_cons, if_pos (by omega), show s.length + 1 - 1 - n = (s.length - 1 - n) + 1 from by omega]
      simpa using h6
    · cases h6
  | q p => exact h6
  | c v => exact h6

theorem EnvOk.push {env : Env} {s : List YV} {f : Fr} {a : Array Value} {d : Nat} {v : Value} {y : YV} (h : EnvOk φ env (y :: s) f (a.setIfInBounds d v)) (hd : d < a.size) (hv : VR φ y v) :
    EnvOk φ ((d, .s s.length) :: env) (y :: s) f (a.setIfInBounds d v) := fun t x hm => by
  rcases List.mem_cons.1 hm with he | hm
  · cases he
    refine ⟨y, by simp [srcVal], ?_⟩
    rw [getD_set_self hd]
    exact hv
  · exact h t x hm

/-! ### how an operation goes on -/

theorem Goes.wp {o : Oper} {a : Act} {Q' : Value → World → Prop} {next : Act → World → Prop} {Q : Exit → Act → World → Prop} (h : Goes P (execOp a.eval o) w Q') (hn : ∀ v w', Q' v w' → next (a.put o.dst v) w') :
    o.wp P a w next Q := by
  unfold Oper.wp
  rcases h with ⟨v, w', h1, h2⟩ | ⟨w', h1, h2⟩ | ⟨g, args, h1, h2⟩
  · rw [h1]; exact hn _ _ h2
  · rw [h1]; exact hn _ _ h2
  · rw [h1]
    refine Calls.mono h2 ?_
    rintro e w' ⟨v, rfl, hq⟩
    exact hn _ _ hq

theorem getD_ne {a : Array Value} {t : Nat} {v : Value} (h : a.getD t undef = v) (hv : v ≠ undef) : a[t]? = some v := by
  rw [Array.getD_eq_getD_getElem?] at h
  cases ha : a[t]? with
  | none => rw [ha] at h; exact absurd h.symm hv
  | some x => rw [ha] at h; exact congrArg some h

theorem want_ok {ops : Array Oper} {o : Oper} {a : Array Value} {ev : Ev} {xOf : Operand → Option X} {g : Option (X × Bool)} {Y N : Unit → R} (he : EvOk φ ev xOf (Act.eval ⟨a, []⟩)) (hg : gOf xOf ops.toList o = some g)
    (h : wantK ev g Y N = .ok r) : (Region.wanted o (yielded ops a) = true ∧ Y () = .ok r) ∨ (Region.wanted o (yielded ops a) = false ∧ N () = .ok r) := by
  unfold gOf at hg
  split at hg
  · rename_i hgd
    cases hg
    exact .inl ⟨by unfold Region.wanted; rw [hgd], h⟩
  · rename_i j pol hgd
    simp only [Option.bind_eq_bind, Option.bind_eq_some_iff, Option.some.injEq] at hg
    obtain ⟨oj, hj, t, ht, x, hx, rfl⟩ := hg
    have h : ev x (fun v => match v with
      | .b b => IF (b == pol) (Y ()) (N ())
      | .tu [] => N ()
      | _ => .no "guard") = .ok r := h
    replace h := he.get hx h; obtain ⟨y, hy, h⟩ := h
    rw [eval_tmp] at hy
    have hyd := yielded_of (ops := ops) (j := j) (oj := oj) (t := t) (by rw [← Array.getElem?_toList]; exact hj) ht a
    cases y with
    | b c =>
      unfold VR at hy
      have hat := getD_ne hy (by simp [undef])
      rw [hat] at hyd
      rw [wanted_of hgd, hyd]
      rcases IF_ok h with ⟨hb, h⟩ | ⟨hb, h⟩
      · exact .inl ⟨by simpa using hb, h⟩
      · exact .inr ⟨by simpa using hb, h⟩
    | tu l =>
      cases l with
      | cons _ _ => cases h
      | nil =>
        unfold VR at hy
        obtain ⟨vs, hy1, hy2⟩ := hy
        unfold VRs at hy2
        subst hy2
        refine .inr ⟨?_, h⟩
        have : yielded ops a j = none := by
          rw [hyd]
          cases ha : a[t]? with
          | none => rfl
          | some v =>
            rw [Array.getD_eq_getD_getElem?, ha] at hy1
            simp only [Option.getD_some] at hy1
            rw [hy1]
        rw [wanted_of hgd, this]
        rfl
    | _ => cases h

theorem movesOf_ok {op : Op} {x : Operand} (h : movesOf op = some x) {ρ : Operand → Value} {dst ty pos after guard} : execOp ρ ⟨dst, op, ty, pos, after, guard⟩ = pure (.value (ρ x)) := by
  cases op <;> simp only [movesOf] at h <;> first | (cases h; rfl) | cases h

theorem VR.undef {φ : Lm} : VR φ (.tu []) undef := by
  unfold VR
  exact ⟨[], rfl, by unfold VRs; rfl⟩

/-- An operation that is in the program's form. -/
theorem eval_func {a : Array Value} (f : FuncId) : Act.eval ⟨a, []⟩ (.func f) = .func (.func f) #[] #[] := rfl

theorem opsK_sound (hcall : CallOk P call) {S : List Nat} {n : Nat} {ops : Array Oper} {Q : Exit → Act → World → Prop} {K : Fr → YM → R} : ∀ (rs : List Oper) (k : Nat), ops.toList.drop k = rs →
    ∀ (env : Env) (s : List YV) (os : List Op1) (φ : Lm) (f : Fr) (m : YM) (a : Array Value) (w : World), compR P S ops.toList rs env s.length = some os → (∀ o ∈ rs, ∀ d, o.dst = some d → d < n) →
    opsK call os s f m K = .ok r → FrOk φ S f a → EnvOk φ env s f a → Ok w0 O B φ m w → a.size = n →
    (∀ φ' f' m' a' w', Ext φ φ' → FrOk φ' S f' a' → Ok w0 O B φ' m' w' → a'.size = n → K f' m' = .ok r → Q .normal ⟨a', []⟩ w') →
    wpOps P ops Q (List.range' k rs.length) ⟨a, []⟩ w
  | [], k, hdr, env, s, os, φ, f, m, a, w, hc, hds, h, hf, he, hok, hn, hQ => by
    simp only [compR, Option.some.injEq] at hc
    subst hc
    simp only [List.length_nil, List.range'_zero, wpOps]
    exact hQ φ f m a w (Ext.refl _) hf hok hn h
  | o :: rs, k, hdr, env, s, os, φ, f, m, a, w, hc, hds, h, hf, he, hok, hn, hQ => by
    have ho : ops[k]? = some o := by
      rw [← Array.getElem?_toList]
      have := List.getElem?_drop (xs := ops.toList) (i := k) (j := 0)
      rw [hdr] at this
      simpa using this.symm
    have hdr' : ops.toList.drop (k + 1) = rs := by
      rw [← List.drop_drop, hdr]; rfl
    have hrec := opsK_sound hcall (S := S) (n := n) (ops := ops) (Q := Q) (K := K) rs (k + 1) hdr'
    have hds' : ∀ o ∈ rs, ∀ d, o.dst = some d → d < n := fun o ho => hds o (List.mem_cons_of_mem _ ho)
    have hdn : ∀ d, o.dst = some d → d < a.size := fun d hd => by rw [hn]; exact hds o (List.mem_cons_self ..) d hd
    simp only [List.length_cons, List.range'_succ]
    have hev : EvOk φ (evK s f) (xIn S env s.length) (Act.eval ⟨a, []⟩) := EvOk.of hf he
    simp only [compR] at hc
    split at hc
    · rename_i x d hmv hgd hdst
      have hex : ∀ w, (execOp (Act.eval ⟨a, []⟩) o).run P w = .ok (.value (Act.eval ⟨a, []⟩ x)) w := fun w => by
        obtain ⟨dst, op, ty, pos, after, guard⟩ := o
        rw [movesOf_ok hmv]
        rfl
      have hwant : Region.wanted o (yielded ops a) = true := by unfold Region.wanted; rw [hgd]
      split at hc
      · rename_i src hsrc hq
        refine wpOps_step ho hwant (wp_of_value (hex w) ?_)
        rw [hdst]
        obtain ⟨y, hy1, hy2⟩ := srcOf_ok hf he hsrc
        refine hrec _ s os φ f m _ w hc hds' h ?_ ?_ hok (by simp [hn]) hQ
        · exact hf.put (hdn d hdst) hy2 (fun q hq' => by rw [hq] at hq'; cases hq') (fun p _ => rfl)
        · have h1 := EnvOk.forget (S := S) (f' := f) (d := d) (v := Act.eval ⟨a, []⟩ x) he (fun p _ => rfl)
          rw [hq] at h1
          intro t z hm
          rcases List.mem_cons.1 hm with he' | hm
          · cases he'
            refine ⟨y, hy1, ?_⟩
            show VR φ y ((a.setIfInBounds _ _).getD _ undef)
            rw [getD_set_self (hdn _ hdst)]
            exact hy2
          · exact h1 t z hm
      · rename_i src q hsrc hq
        simp only [Option.bind_eq_bind, Option.bind_eq_some_iff, Option.some.injEq] at hc
        obtain ⟨x', hx', os', hos, rfl⟩ := hc
        have hxin : xIn S env s.length x = some x' := by simp only [xIn, hsrc, Option.bind_some]; exact hx'
        have h : evK s f x' (fun v => finK f (some q) v fun f => opsK call os' s f m K) = .ok r := h
        replace h := hev.get hxin h; obtain ⟨y, hy, h⟩ := h
        obtain ⟨f', h1, h2, h3⟩ := finK_ok h
        refine wpOps_step ho hwant (wp_of_value (hex w) ?_)
        rw [hdst]
        refine hrec _ s os' φ f' m _ w hos hds' h1 ?_ ?_ hok (by simp [hn]) hQ
        · exact hf.put (hdn d hdst) hy (fun q' hq' => by rw [hq] at hq'; exact h2 q' hq') (fun p hp => h3 p (by rw [← hq]; exact hp))
        · have := EnvOk.forget (S := S) (f' := f') (d := d) (v := Act.eval ⟨a, []⟩ x) he (fun p hp => h3 p (by rw [← hq]; exact hp))
          rw [hq] at this
          exact this
      · cases hc
    · have hbad : ∀ {m : YM} {K : YV → YM → R}, opK call .bad (evK s f) m K ≠ .ok r := fun h => by cases h
      have hgo : ∀ {m : YM} {K : YV → YM → R}, Ok w0 O B φ m w → opK call ((compO P (xIn S env s.length) o.op).getD .bad) (evK s f) m K = .ok r → Goes P (execOp (Act.eval ⟨a, []⟩) o) w (Post w0 O B φ K r) := by
        intro m K hok h
        cases hco : compO P (xIn S env s.length) o.op with
        | none => rw [hco] at h; exact absurd h hbad
        | some y =>
          rw [hco] at h
          exact go_op hcall (fun f => rfl) hco hev hok h
      split at hc
      · rename_i hdst
        simp only [Option.bind_eq_bind, Option.bind_eq_some_iff, Option.some.injEq] at hc
        obtain ⟨g, hg, os', hos, rfl⟩ := hc
        have h : wantK (evK s f) g
          (fun _ => opK call ((compO P (xIn S env s.length) o.op).getD .bad) (evK s f) m fun v m => opsK call os' s f m K)
          (fun _ => opsK call os' s f m K) = .ok r := h
        rcases want_ok hev hg h with ⟨hw, h⟩ | ⟨hw, h⟩
        · refine wpOps_step ho hw ((hgo hok h).wp ?_)
          rintro v w' ⟨φ', y, m', hx, hok', hv, hK⟩
          rw [hdst]
          exact hrec env s os' φ' f m' a w' hos hds' hK (hf.ext hx) (he.ext hx) hok' hn fun φ'' f'' m'' a'' w'' hx' => hQ φ'' f'' m'' a'' w'' (hx.trans hx')
        · refine wpOps_pass ho hw ?_
          rw [hdst]
          exact hrec env s os' φ f m a w hos hds' h hf he hok hn hQ
      · rename_i d hdst
        simp only [Option.bind_eq_bind, Option.bind_eq_some_iff, Option.some.injEq] at hc
        obtain ⟨g, hg, os', hos, rfl⟩ := hc
        have h : wantK (evK s f) g
          (fun _ => opK call ((compO P (xIn S env s.length) o.op).getD .bad) (evK s f) m fun v m => finK f (qOf S d) v fun f => opsK call os' (v :: s) f m K)
          (fun _ => finK f (qOf S d) (.tu []) fun f => opsK call os' (.tu [] :: s) f m K) = .ok r := h
        have hgo' : ∀ (φ' : Lm) (y : YV) (m' : YM) (v : Value) (w' : World), Ext φ φ' → Ok w0 O B φ' m' w' → VR φ' y v → (finK f (qOf S d) y fun f => opsK call os' (y :: s) f m' K) = .ok r →
            wpOps P ops Q (List.range' (k + 1) rs.length) (Act.put ⟨a, []⟩ o.dst v) w' := by
          intro φ' y m' v w' hx hok' hv hK
          obtain ⟨f', h1, h2, h3⟩ := finK_ok hK
          rw [hdst]
          refine hrec _ (y :: s) os' φ' f' m' _ w' hos hds' h1 ((hf.ext hx).put (hdn d hdst) hv h2 h3) ?_ hok' (by simp [hn]) fun φ'' f'' m'' a'' w'' hx' => hQ φ'' f'' m'' a'' w'' (hx.trans hx')
          exact EnvOk.push ((EnvOk.forget (S := S) (he.ext hx) h3).more) (hdn d hdst) hv
        rcases want_ok hev hg h with ⟨hw, h⟩ | ⟨hw, h⟩
        · refine wpOps_step ho hw ((hgo hok h).wp ?_)
          rintro v w' ⟨φ', y, m', hx, hok', hv, hK⟩
          exact hgo' φ' y m' v w' hx hok' hv hK
        · exact wpOps_pass ho hw (hgo' φ (.tu []) m undef w (Ext.refl _) hok VR.undef h)

end
end Go.Ye

/- Ye, part X: what an operation looks at; statements whose order is open, the parts. -/
namespace Go.Ye
open Go.Sx (Callable run_bind_ok wp_of_value wanted_of yielded_of)
set_option linter.unusedVariables false
set_option linter.constructorNameAsVariable false
set_option linter.unusedSimpArgs false

/-! ### an operation looks at its operands -/

theorem evsK_congr {ev ev' : Ev} : ∀ {xs : List X}, (∀ x ∈ xs, ev x = ev' x) → ∀ (K : List YV → R), evsK ev xs K = evsK ev' xs K
  | [], _, K => rfl
  | x :: xs, h, K => by
    show ev x (fun v => evsK ev xs fun vs => K (v :: vs)) = ev' x (fun v => evsK ev' xs fun vs => K (v :: vs))
    rw [h x (List.mem_cons_self ..)]
    congr 1
    funext v
    exact evsK_congr (fun y hy => h y (List.mem_cons_of_mem _ hy)) _

theorem fillK_congr {ev ev' : Ev} : ∀ {ps : List (Nat × Nat × X)}, (∀ x ∈ ps.map (fun p => p.2.2), ev x = ev' x) → ∀ (zs : List YV) (K : List YV → R), fillK ev ps zs K = fillK ev' ps zs K
  | [], _, _, K => rfl
  | (off, size, x) :: ps, h, zs, K => by
    simp only [fillK]
    rw [h x (by simp)]
    congr 1
    funext v
    congr 1
    funext vs
    congr 1
    funext n
    split
    · congr 1
      funext zs
      exact fillK_congr (fun y hy => h y (by rw [List.map_cons]; exact List.mem_cons_of_mem _ hy)) _ _
    · rfl

theorem evoK_congr {ev ev' : Ev} {x : Option X} (h : ∀ y ∈ x.toList, ev y = ev' y) (K : Option YV → R) : evoK ev x K = evoK ev' x K := by
  cases x with
  | none => rfl
  | some x =>
    show ev x _ = ev' x _
    rw [h x (by simp)]

section
variable {call : FuncId → List YV → YM → (YV → YM → R) → R} {ev ev' : Ev} {m m' : YM} {K : YV → YM → R} {o : O}

theorem opK_congr (h : ∀ x ∈ xsO o, ev x = ev' x) : opK call o ev m K = opK call o ev' m K := by
  cases o with
  | bd zs ps => exact fillK_congr h _ _
  | bs z n zs ps => exact fillK_congr h _ _
  | mf g us => exact evsK_congr h _
  | ca g xs => exact evsK_congr h _
  | cc x xs =>
    show ev x (fun v => evsK ev xs fun vs => _) = ev' x (fun v => evsK ev' xs fun vs => _)
    rw [h x (List.mem_cons_self ..)]
    congr 1
    funext v
    exact evsK_congr (fun y hy => h y (List.mem_cons_of_mem _ hy)) _
  | ss x lo hi =>
    show ev x (fun v => evoK ev lo fun lo => evoK ev hi fun hi => _) = ev' x (fun v => evoK ev' lo fun lo => evoK ev' hi fun hi => _)
    rw [h x (List.mem_cons_self ..)]
    congr 1
    funext v
    rw [evoK_congr (fun y hy => h y (by simp [xsO, hy]))]
    congr 1
    funext v
    exact evoK_congr (fun y hy => h y (by simp [xsO, hy])) _
  | sl z x lo hi mx =>
    show ev x (fun v => evoK ev lo fun lo => evoK ev hi fun hi => evoK ev mx fun mx => _) = ev' x (fun v => evoK ev' lo fun lo => evoK ev' hi fun hi => evoK ev' mx fun mx => _)
    rw [h x (List.mem_cons_self ..)]
    congr 1
    funext v
    rw [evoK_congr (fun y hy => h y (by simp [xsO, hy]))]
    congr 1
    funext v
    rw [evoK_congr (fun y hy => h y (by simp [xsO, hy]))]
    congr 1
    funext v
    exact evoK_congr (fun y hy => h y (by simp [xsO, hy])) _
  | sa n z x lo hi mx =>
    show ev x (fun v => evoK ev lo fun lo => evoK ev hi fun hi => evoK ev mx fun mx => _) = ev' x (fun v => evoK ev' lo fun lo => evoK ev' hi fun hi => evoK ev' mx fun mx => _)
    rw [h x (List.mem_cons_self ..)]
    congr 1
    funext v
    rw [evoK_congr (fun y hy => h y (by simp [xsO, hy]))]
    congr 1
    funext v
    rw [evoK_congr (fun y hy => h y (by simp [xsO, hy]))]
    congr 1
    funext v
    exact evoK_congr (fun y hy => h y (by simp [xsO, hy])) _
  | _ =>
    simp only [xsO, List.mem_cons, List.not_mem_nil, or_false, forall_eq_or_imp, forall_eq] at h
    simp only [opK, op_mv, op_pick, op_al, op_bx, op_ld, op_ldn, op_st, op_nc, op_ib, op_eq, op_un, op_cv, op_b2s, op_mm, op_ms, op_fa, op_fd, op_ia, op_iA, op_ix, op_is, op_lu, op_mu, op_rg, op_nx, op_en, op_ex, op_ln, op_ls, op_lk,
      op_ap, op_cp, op_cl, op_mi, op_ma, op_bb, op_az, op_xn, op_xi, op_bad, h]

theorem wantK_congr {g : Option (X × Bool)} (h : ∀ x ∈ xsG g, ev x = ev' x) (Y N : Unit → R) : wantK ev g Y N = wantK ev' g Y N := by
  cases g with
  | none => rfl
  | some g =>
    show ev g.1 _ = ev' g.1 _
    rw [h g.1 (by simp [xsG])]

/-- An operation that changes nothing goes on at the same memory. -/
theorem opK_keep {pu : List Nat} (h : cls pu o ≤ 1) (hc : isCall o = false) : opK call o ev m K = opK call o ev m (fun v _ => K v m) := by
  cases o <;> first
    | (exfalso; simp [cls] at h; done)
    | (exfalso; simp [isCall] at hc; done)
    | rfl

/-- An operation that computes does not look at memory. -/
theorem opK_pure {pu : List Nat} (h : cls pu o = 0) : opK call o ev m K = opK call o ev m' (fun v _ => K v m) := by
  cases o <;> first
    | (exfalso; simp [cls] at h; done)
    | (exfalso; simp only [cls] at h; split at h <;> cases h; done)
    | rfl

end

theorem evK_same {f f' : Fr} {x : X} (h : ∀ q, x = .t q → f'.get q = f.get q) : evK [] f' x = evK [] f x := by
  funext K
  cases x with
  | t q =>
    show f'.getK q K = f.getK q K
    rw [Fr.getK_eq, Fr.getK_eq, h q rfl]
  | _ => rfl

theorem isQ_iff {q : Q} {x : X} : isQ q x = true ↔ x = .t q := by
  cases x with
  | t p => simp only [isQ, X.t.injEq, qEq_iff]; try exact eq_comm
  | _ => simp [isQ]

theorem usesQ_iff {o : Op1} {q : Q} : usesQ o q = true ↔ .t q ∈ xsO o.o ∨ .t q ∈ xsG o.g := by
  simp only [usesQ, Bool.or_eq_true, List.any_eq_true, isQ_iff]
  constructor
  · rintro (⟨x, h1, rfl⟩ | ⟨x, h1, rfl⟩)
    · exact .inl h1
    · exact .inr h1
  · rintro (h | h)
    · exact .inl ⟨_, h, rfl⟩
    · exact .inr ⟨_, h, rfl⟩

theorem writesQ_iff {o : Op1} {q : Q} : writesQ o q = true ↔ o.d = some q := by
  unfold writesQ
  cases o.d with
  | none => simp
  | some p => simp only [qEq_iff, Option.some.injEq]

/-- The value of an operation that changes nothing, where another place of the frame is written. -/
theorem valK_frame {call : FuncId → List YV → YM → (YV → YM → R) → R} {o : Op1} {f f' : Fr} {m : YM} (h : ∀ q, usesQ o q = true → f'.get q = f.get q) : valK call o f' m = valK call o f m := by
  unfold valK
  rw [wantK_congr (ev := evK [] f') (ev' := evK [] f) (fun x hx => evK_same fun q hq => h q (usesQ_iff.2 (.inr (hq ▸ hx))))]
  congr 1
  funext _
  exact opK_congr fun x hx => evK_same fun q hq => h q (usesQ_iff.2 (.inl (hq ▸ hx)))

theorem valK_pure {call : FuncId → List YV → YM → (YV → YM → R) → R} {pu : List Nat} {o : Op1} {f : Fr} {m m' : YM} (h : cls pu o.o = 0) : valK call o f m' = valK call o f m := by
  unfold valK
  congr 1
  funext _
  rw [opK_pure (m := m') (m' := m) h]

theorem chkK_ok {call : FuncId → List YV → YM → (YV → YM → R) → R} {f : Fr} {m : YM} {N : Unit → R} {r : YV} : ∀ {l : List Op1}, chkK call f m N l = .ok r → N () = .ok r ∧ ∀ c ∈ l, ∃ v, valK call c f m = .ok v ∧ ∀ q, c.d = some q → f.get q = v
  | [], h => ⟨h, fun c hc => by cases hc⟩
  | o :: l, h => by
    simp only [chkK] at h
    cases hv : valK call o f m with
    | no w => rw [hv] at h; cases h
    | ok v =>
      rw [hv] at h
      simp only at h
      cases hd : o.d with
      | none =>
        rw [hd] at h
        obtain ⟨h1, h2⟩ := chkK_ok h
        refine ⟨h1, fun c hc => ?_⟩
        rcases List.mem_cons.1 hc with rfl | hc
        · exact ⟨v, hv, fun q hq => by rw [hd] at hq; cases hq⟩
        · exact h2 c hc
      | some q =>
        rw [hd] at h
        simp only [Fr.getK_eq] at h
        rcases IF_ok h with ⟨hb, h⟩ | ⟨_, h⟩
        · obtain ⟨h1, h2⟩ := chkK_ok h
          refine ⟨h1, fun c hc => ?_⟩
          rcases List.mem_cons.1 hc with rfl | hc
          · refine ⟨v, hv, fun q' hq' => ?_⟩
            rw [hd] at hq'
            cases hq'
            exact (beqV_eq hb).symm
          · exact h2 c hc
        · cases h

/-! ### who waits for whom -/

theorem edgeOn_iff {e : Edge} {i : Nat} : edgeOn e = some i ↔ Region.binds .any e = true ∧ e.on = i := by
  unfold edgeOn Region.binds
  cases e.ground <;> simp

theorem waits_bit {ms : List Nat} {j : Nat} : ∀ {es : List Edge}, (waits ms es).testBit j = true → ∃ e ∈ es, ∃ k, edgeOn e = some k ∧ (j = k ∨ ((ms[k]?).getD 0).testBit j = true)
  | [], h => by simp [waits] at h
  | e :: es, h => by
    simp only [waits] at h
    cases he : edgeOn e with
    | none =>
      rw [he] at h
      obtain ⟨e', h1, h2⟩ := waits_bit h
      exact ⟨e', List.mem_cons_of_mem _ h1, h2⟩
    | some k =>
      rw [he] at h
      simp only [Nat.testBit_or, Bool.or_eq_true, Nat.testBit_two_pow, decide_eq_true_eq] at h
      rcases h with (h | h) | h
      · exact ⟨e, List.mem_cons_self .., k, he, .inl h.symm⟩
      · exact ⟨e, List.mem_cons_self .., k, he, .inr h⟩
      · obtain ⟨e', h1, h2⟩ := waits_bit h
        exact ⟨e', List.mem_cons_of_mem _ h1, h2⟩

def MsOk (all : List Oper) (ms : List Nat) : Prop := ∀ i x, ms[i]? = some x → ∀ j, x.testBit j = true → ∃ o, all[i]? = some o ∧ ∃ e ∈ o.after.toList, ∃ k, edgeOn e = some k ∧ (j = k ∨ k < i ∧ ((ms[k]?).getD 0).testBit j = true)

theorem ancs_ok : ∀ {r pre : List Oper} {ms : List Nat}, ms.length = pre.length → MsOk (pre ++ r) ms → MsOk (pre ++ r) (ancs r ms)
  | [], pre, ms, hl, h => h
  | o :: r, pre, ms, hl, h => by
    simp only [ancs]
    have e : pre ++ o :: r = (pre ++ [o]) ++ r := by simp
    rw [e]
    refine ancs_ok (by simp [hl]) ?_
    rw [← e]
    intro i x hi j hj
    by_cases hlt : i < ms.length
    · rw [List.getElem?_append_left hlt] at hi
      obtain ⟨o', h1, e', h2, k, h3, h4⟩ := h i x hi j hj
      refine ⟨o', h1, e', h2, k, h3, h4.imp id fun ⟨h5, h6⟩ => ⟨h5, ?_⟩⟩
      rw [List.getElem?_append_left (by omega)]
      exact h6
    · rw [List.getElem?_append_right (by omega)] at hi
      have hi0 : i = ms.length := by
        have := (List.getElem?_eq_some_iff.1 hi).1
        simp at this
        omega
      subst hi0
      simp only [Nat.sub_self, List.getElem?_cons_zero, Option.some.injEq] at hi
      subst hi
      obtain ⟨e', h2, k, h3, h4⟩ := waits_bit hj
      refine ⟨o, by rw [hl]; simp, e', h2, k, h3, h4.imp id fun h6 => ?_⟩
      have hk : k < ms.length := by
        cases hm : ms[k]? with
        | none => rw [hm] at h6; simp at h6
        | some _ => exact (List.getElem?_eq_some_iff.1 hm).1
      exact ⟨hk, by rw [List.getElem?_append_left hk]; exact h6⟩

theorem anc_done {ops : Array Oper} {L : Array Bool} (hc : ∀ k ok, ops[k]? = some ok → L.getD k false = true → ∀ e ∈ ok.after, Region.binds .any e = true → L.getD e.on false = true) {ms : List Nat} (hm : MsOk ops.toList ms) :
    ∀ (i : Nat) (o : Oper), ops[i]? = some o → (∀ e ∈ o.after, Region.binds .any e = true → L.getD e.on false = true) → ∀ j, ancOf ms i j = true → L.getD j false = true := by
  intro i
  induction i using Nat.strongRecOn with
  | _ i ih =>
    intro o ho ha j hj
    unfold ancOf at hj
    cases hx : ms[i]? with
    | none => rw [hx] at hj; simp at hj
    | some x =>
      rw [hx] at hj
      obtain ⟨o', h1, e, h2, k, h3, h4⟩ := hm i x hx j hj
      rw [Array.getElem?_toList, ho] at h1
      cases h1
      obtain ⟨h5, rfl⟩ := edgeOn_iff.1 h3
      have hk := ha e (Array.mem_toList_iff.1 h2) h5
      rcases h4 with rfl | ⟨hlt, h6⟩
      · exact hk
      · cases hok : ops[e.on]? with
        | none =>
          obtain ⟨x', hx'⟩ : ∃ x', ms[e.on]? = some x' := by
            cases hm' : ms[e.on]? with
            | none => rw [hm'] at h6; simp at h6
            | some x' => exact ⟨x', rfl⟩
          rw [hx'] at h6
          obtain ⟨o2, g1, -⟩ := hm e.on x' hx' j h6
          rw [Array.getElem?_toList, hok] at g1
          cases g1
        | some ok => exact ih e.on hlt ok hok (hc e.on ok hok hk) j h6

/-! ### the row of operations -/

theorem rowOf_ok {P : Program} {pu : List Nat} {S : List Nat} {all : List Oper} {ms : List Nat} {eff : Nat → Bool} : ∀ {ord : List Nat} {pre l : List Op2}, rowOf P pu S all ms eff ord pre = some l →
    (∀ x ∈ l, ∃ o, all[x.ix]? = some o ∧ op1Of P S all o = some x.o) ∧ l.map (·.ix) = ord ∧
    (∀ p1 x p2, l = p1 ++ x :: p2 → x.eff = true → x.chk = ((pre ++ p1).filter fun a => !a.eff && !ancOf ms x.ix a.ix && !Nat.beq (cls pu a.o.o) 0).map (·.o))
  | [], pre, l, h => by
    simp only [rowOf, Option.some.injEq] at h
    subst h
    exact ⟨fun x hx => (by cases hx), rfl, fun p1 x p2 h => by simp at h⟩
  | i :: ord, pre, l, h => by
    simp only [rowOf, Option.bind_eq_bind, Option.bind_eq_some_iff, Option.some.injEq] at h
    obtain ⟨o, ho, o1, ho1, l', hl', rfl⟩ := h
    obtain ⟨h1, h2, h3⟩ := rowOf_ok hl'
    refine ⟨fun x hx => ?_, by simp [h2], fun p1 x p2 he hx => ?_⟩
    · rcases List.mem_cons.1 hx with rfl | hx
      · exact ⟨o, ho, ho1⟩
      · exact h1 x hx
    · cases p1 with
      | nil =>
        simp only [List.nil_append, List.cons.injEq] at he
        obtain ⟨rfl, -⟩ := he
        simp only at hx
        simp [hx]
      | cons y p1 =>
        simp only [List.cons_append, List.cons.injEq] at he
        obtain ⟨rfl, he⟩ := he
        have := h3 p1 x p2 he hx
        rw [this]
        simp

theorem pairsOk_iff {ms : List Nat} : ∀ {l : List Op2}, pairsOk ms l = true → l.Pairwise fun a b => pairOk ms a b = true
  | [], _ => List.Pairwise.nil
  | a :: l, h => by
    simp only [pairsOk, Bool.and_eq_true, List.all_eq_true] at h
    exact List.Pairwise.cons h.1 (pairsOk_iff h.2)

theorem pair_of {α : Type} {R : α → α → Prop} : ∀ {l : List α}, l.Pairwise R → ∀ {a b : α}, a ∈ l → b ∈ l → a = b ∨ R a b ∨ R b a
  | [], _, a, b, ha, _ => by cases ha
  | x :: l, h, a, b, ha, hb => by
    obtain ⟨h1, h2⟩ := List.pairwise_cons.1 h
    rcases List.mem_cons.1 ha with ea | ha
    · rcases List.mem_cons.1 hb with eb | hb
      · exact .inl (ea.trans eb.symm)
      · exact .inr (.inl (ea ▸ h1 b hb))
    · rcases List.mem_cons.1 hb with eb | hb
      · exact .inr (.inr (eb ▸ h1 a ha))
      · exact pair_of h2 ha hb

theorem framed_ok {S : List Nat} : ∀ {all : List Oper}, framed S all = true → ∀ o ∈ all, ∀ d, o.dst = some d → ∃ q, qOf S d = some q
  | [], _, o, ho => by cases ho
  | x :: all, h, o, ho => by
    simp only [framed, Bool.and_eq_true] at h
    rcases List.mem_cons.1 ho with rfl | ho
    · intro d hd
      have := h.1
      rw [hd] at this
      exact Option.isSome_iff_exists.1 this
    · exact framed_ok h.2 o ho

end Go.Ye

/- Ye, part 2A: statements whose order is open. -/
namespace Go.Ye
open Go.Sx (Callable run_bind_ok wp_of_value wanted_of yielded_of allBack all_listed left left_set getD_setB getD_false lt_of_some)
set_option linter.unusedVariables false
set_option linter.constructorNameAsVariable false
set_option linter.unusedSimpArgs false

section
variable {P : Program} {w0 : World} {O : Nat → Prop} {B : Nat → Option YB} {r : YV} {call : FuncId → List YV → YM → (YV → YM → R) → R} {pu : List Nat}

/-- Where the evaluator stands: done, rest; what is done there and not yet in the real run is pending. -/
structure Stand (call : FuncId → List YV → YM → (YV → YM → R) → R) (w0 : World) (O : Nat → Prop) (B : Nat → Option YB) (S : List Nat) (n : Nat) (ops : Array Oper) (φ0 : Lm) (done rest : List Op2) (L : Array Bool) (φ : Lm) (f : Fr) (m : YM) (a : Array Value) (w : World) : Prop where
  size : a.size = n
  lsize : L.size = ops.size
  ext : Ext φ0 φ
  closed : ∀ k ok, ops[k]? = some ok → L.getD k false = true → ∀ e ∈ ok.after, Region.binds .any e = true → L.getD e.on false = true
  rest0 : ∀ o ∈ rest, L.getD o.ix false = false
  effs : ∀ o ∈ done, o.eff = true → L.getD o.ix false = true
  fr : ∀ t q, qOf S t = some q → (∀ o ∈ done, L.getD o.ix false = false → o.o.d ≠ some q) → VR φ (f.get q) (a.getD t undef)
  pend : ∀ o ∈ done, L.getD o.ix false = false → ∃ v, valK call o.o f m = .ok v ∧ ∀ q, o.o.d = some q → f.get q = v
  ok : Ok w0 O B φ m w

open Classical in
/-- What is pending is not looked at. -/
noncomputable def evP (done : List Op2) (L : Array Bool) (f : Fr) : Ev := fun x K => match x with
  | .t q => if ∃ o ∈ done, L.getD o.ix false = false ∧ o.o.d = some q then .no "pending" else f.getK q K
  | x => evK [] f x K

theorem evP_ok {S : List Nat} {n : Nat} {ops : Array Oper} {φ0 : Lm} {done rest : List Op2} {L : Array Bool} {φ : Lm} {f : Fr} {m : YM} {a : Array Value} {w : World} (h : Stand call w0 O B S n ops φ0 done rest L φ f m a w) :
    EvOk φ (evP done L f) (xIn S [] 0) (Act.eval ⟨a, []⟩) := by
  intro x K r hx
  have hin : ∀ xo, xIn S [] 0 xo = some x → (∃ t q, xo = .tmp t ∧ x = .t q ∧ qOf S t = some q) ∨ (∃ y, x = .c y ∧ VR φ y (Act.eval ⟨a, []⟩ xo)) := by
    intro xo hxo
    simp only [xIn, Option.bind_eq_some_iff] at hxo
    obtain ⟨src, k1, k2⟩ := hxo
    cases xo with
    | tmp t =>
      simp only [srcOf, look, Option.map_eq_some_iff] at k1
      obtain ⟨q, hq, rfl⟩ := k1
      simp only [xSrc, Option.some.injEq] at k2
      exact .inl ⟨t, q, rfl, k2.symm, hq⟩
    | const v =>
      simp only [srcOf, Option.map_eq_some_iff] at k1
      obtain ⟨y, hy, rfl⟩ := k1
      simp only [xSrc, Option.some.injEq] at k2
      exact .inr ⟨y, k2.symm, vOf_ok hy⟩
    | func g =>
      simp only [srcOf, Option.some.injEq] at k1
      subst k1
      simp only [xSrc, Option.some.injEq] at k2
      refine .inr ⟨_, k2.symm, ?_⟩
      unfold VR
      exact ⟨[], rfl, by unfold VRs; rfl⟩
    | global g => cases k1
  cases x with
  | t q =>
    simp only [evP] at hx
    split at hx
    · cases hx
    · rename_i hnp
      rw [Fr.getK_eq] at hx
      refine ⟨_, hx, fun xo hxo => ?_⟩
      rcases hin xo hxo with ⟨t, q', rfl, he, hq⟩ | ⟨y, he, -⟩
      · cases he
        rw [eval_tmp]
        exact h.fr t q hq fun o ho hL hd => hnp ⟨o, ho, hL, hd⟩
      · cases he
  | c v =>
    refine ⟨v, hx, fun xo hxo => ?_⟩
    rcases hin xo hxo with ⟨t, q', rfl, he, hq⟩ | ⟨y, he, hv⟩
    · cases he
    · cases he
      exact hv
  | k0 => cases hx
  | k1 => cases hx
  | k i => exact absurd hx (by intro hx; cases i <;> cases hx)

theorem evP_same {done : List Op2} {L : Array Bool} {f : Fr} {x : X} (h : ∀ q, x = .t q → ∀ o ∈ done, L.getD o.ix false = false → o.o.d ≠ some q) : evK [] f x = evP done L f x := by
  funext K
  cases x with
  | t q =>
    simp only [evP]
    rw [if_neg (fun ⟨o, ho, hL, hd⟩ => h q rfl o ho hL hd)]
    rfl
  | _ => rfl

theorem op1Of_ok {S : List Nat} {all : List Oper} {o : Oper} {o1 : Op1} (h : op1Of P S all o = some o1) : gOf (xIn S [] 0) all o = some o1.g ∧ o1.o = (compO P (xIn S [] 0) o.op).getD .bad ∧ o1.d = qoOf S o.dst := by
  simp only [op1Of, Option.bind_eq_bind, Option.bind_eq_some_iff, Option.some.injEq] at h
  obtain ⟨g, hg, rfl⟩ := h
  exact ⟨hg, rfl, rfl⟩

/-- A new state, in which an operation has been done. -/
theorem fr_put {S : List Nat} {n : Nat} {ops : Array Oper} {φ0 : Lm} {done rest : List Op2} {L : Array Bool} {φ φ' : Lm} {f f' : Fr} {m : YM} {a : Array Value} {w : World} (h : Stand call w0 O B S n ops φ0 done rest L φ f m a w)
    {oj : Oper} {x : Op2} {j : Nat} (hj : x.ix = j) (hjs : j < ops.size) (hd : x.o.d = qoOf S oj.dst) (hds : ∀ d, oj.dst = some d → d < n ∧ ∃ q, qOf S d = some q) {done' : List Op2}
    (hdone : ∀ o ∈ done, o ∈ done') (huni : ∀ o ∈ done, o.ix = j → o = x) {y : YV} {v : Value} (hx : Ext φ φ') (hv : VR φ' y v) (h1 : ∀ q, x.o.d = some q → f'.get q = y) (h2 : ∀ p, x.o.d ≠ some p → f'.get p = f.get p)
    (t : Nat) (q : Q) (hq : qOf S t = some q) (hp : ∀ o ∈ done', (L.setIfInBounds j true).getD o.ix false = false → o.o.d ≠ some q) : VR φ' (f'.get q) ((Act.put ⟨a, []⟩ oj.dst v).tmps.getD t undef) := by
  by_cases hxq : x.o.d = some q
  · rw [h1 q hxq]
    rw [hd] at hxq
    cases hdst : oj.dst with
    | none => rw [hdst] at hxq; cases hxq
    | some d =>
      rw [hdst] at hxq
      have : t = d := qOf_inj hq hxq
      subst this
      show VR φ' y ((a.setIfInBounds t v).getD t undef)
      rw [getD_set_self (by rw [h.size]; exact (hds t hdst).1)]
      exact hv
  · rw [h2 q hxq]
    have hold : VR φ (f.get q) (a.getD t undef) := h.fr t q hq fun o ho hL hdq => by
      by_cases hoj : o.ix = j
      · rw [huni o ho hoj] at hdq
        exact hxq hdq
      · refine hp o (hdone o ho) ?_ hdq
        rw [Go.getD_set_ne false (Ne.symm hoj)]
        exact hL
    cases hdst : oj.dst with
    | none => exact hold.ext hx
    | some d =>
      obtain ⟨hdn, q', hq'⟩ := hds d hdst
      have htd : d ≠ t := fun e => by
        subst e
        rw [hq] at hq'
        cases hq'
        exact hxq (by rw [hd, hdst]; exact hq)
      show VR φ' (f.get q) ((a.setIfInBounds d v).getD t undef)
      rw [getD_set_other htd]
      exact hold.ext hx

/-- Calls of these functions give up what they make. -/
def PureOk (call : FuncId → List YV → YM → (YV → YM → R) → R) (pu : List Nat) : Prop :=
  ∀ g, g ∈ pu → ∀ (vs : List YV) (m : YM) (K : YV → YM → R) (r : YV), call g vs m K = .ok r → ∃ v, K v ⟨m.h, m.n + gap, m.lo⟩ = .ok r ∧ ∀ K', call g vs m K' = K' v ⟨m.h, m.n + gap, m.lo⟩

/-- An evaluation of operands that asks for no more than it gets. -/
def MonoEv (ev : Ev) : Prop := ∀ (x : X) (K K' : YV → R) (r : YV), (∀ v, K v = .ok r → K' v = .ok r) → ev x K = .ok r → ev x K' = .ok r

theorem evsK_mono {ev : Ev} (he : MonoEv ev) : ∀ {xs : List X} {K K' : List YV → R} {r : YV}, (∀ vs, K vs = .ok r → K' vs = .ok r) → evsK ev xs K = .ok r → evsK ev xs K' = .ok r
  | [], K, K', r, hK, h => hK _ h
  | x :: xs, K, K', r, hK, h => by
    have h : ev x (fun v => evsK ev xs fun vs => K (v :: vs)) = .ok r := h
    exact he x _ _ r (fun v hv => evsK_mono he (fun vs h => hK _ h) hv) h

theorem evP_mono (done : List Op2) (L : Array Bool) (f : Fr) : MonoEv (evP done L f) := by
  intro x K K' r hK h
  cases x with
  | t q =>
    simp only [evP] at h ⊢
    split at h
    · cases h
    · rename_i hn
      rw [if_neg hn, Fr.getK_eq]
      rw [Fr.getK_eq] at h
      exact hK _ h
  | c v => exact hK _ h
  | k0 => cases h
  | k1 => cases h
  | k i => exact absurd h (by intro h; cases i <;> cases h)

/-- What the compiler has looked at. -/
structure RowOk (P : Program) (pu : List Nat) (S : List Nat) (n : Nat) (ops : Array Oper) (ms : List Nat) (l : List Op2) : Prop where
  mo : MsOk ops.toList ms
  bk : allBack ops.toList 0 = true
  pw : l.Pairwise fun a b => pairOk ms a b = true
  self : ∀ a ∈ l, selfOk pu a = true
  row : ∀ x ∈ l, ∃ o, ops[x.ix]? = some o ∧ op1Of P S ops.toList o = some x.o
  all : ∀ j, j < ops.size → ∃ x ∈ l, x.ix = j
  chk : ∀ p1 x p2, l = p1 ++ x :: p2 → x.eff = true → x.chk = (p1.filter fun a => !a.eff && !ancOf ms x.ix a.ix && !Nat.beq (cls pu a.o.o) 0).map (·.o)
  ds : ∀ o ∈ ops.toList, ∀ d, o.dst = some d → d < n ∧ ∃ q, qOf S d = some q

section
variable {S : List Nat} {n : Nat} {ops : Array Oper} {ms : List Nat} {l done rest : List Op2} {L : Array Bool} {φ0 φ : Lm} {f : Fr} {m : YM} {a : Array Value} {w : World} {QQ : Exit → Act → World → Prop}

theorem RowOk.uni (W : RowOk P pu S n ops ms l) {x y : Op2} (hx : x ∈ l) (hy : y ∈ l) (h : x.ix = y.ix) : x = y := by
  rcases pair_of W.pw hx hy with e | hp | hp
  · exact e
  · simp only [pairOk, h, Nat.beq_refl, Bool.not_true, Bool.false_and] at hp
    cases hp
  · simp only [pairOk, h, Nat.beq_refl, Bool.not_true, Bool.false_and] at hp
    cases hp

theorem RowOk.ix (W : RowOk P pu S n ops ms l) {x y : Op2} (hp : pairOk ms x y = true) : x.ix ≠ y.ix := fun e => by
  simp only [pairOk, e, Nat.beq_refl, Bool.not_true, Bool.false_and] at hp
  cases hp

theorem pair_eff {x y : Op2} (hp : pairOk ms x y = true) (hx : x.eff = true) : ancOf ms y.ix x.ix = true := by
  simp only [pairOk, hx, Bool.and_eq_true] at hp
  exact hp.2

theorem pair_dst {x y : Op2} (hp : pairOk ms x y = true) (hx : x.eff = false) {q : Q} (hq : y.o.d = some q) (hn : ¬ (y.eff = true ∧ ancOf ms y.ix x.ix = true)) : usesQ x.o q = false ∧ x.o.d ≠ some q := by
  simp only [pairOk, hx, hq, Bool.and_eq_true, Bool.or_eq_true, Bool.not_eq_true'] at hp
  rcases hp.2.1 with h | ⟨h1, h2⟩
  · exact absurd h hn
  · refine ⟨h1, fun e => ?_⟩
    rw [writesQ_iff.2 e] at h2
    cases h2

theorem pair_use {x y : Op2} (hp : pairOk ms x y = true) (hx : x.eff = false) {q : Q} (hq : x.o.d = some q) (hu : usesQ y.o q = true) : ancOf ms y.ix x.ix = true := by
  simp only [pairOk, hx, hq, Bool.and_eq_true, Bool.or_eq_true, Bool.not_eq_true'] at hp
  rcases hp.2.2 with h | h
  · rw [hu] at h; cases h
  · exact h

theorem RowOk.anc (W : RowOk P pu S n ops ms l) (h : Stand call w0 O B S n ops φ0 done rest L φ f m a w) {j : Nat} {oj : Oper} (hj : ops[j]? = some oj) (hall : ∀ e ∈ oj.after, Region.binds .any e = true → L.getD e.on false = true) (k : Nat)
    (hk : ancOf ms j k = true) : L.getD k false = true := anc_done h.closed W.mo j oj hj hall k hk

/-- Whoever is ready looks at nothing that is pending. -/
theorem RowOk.unpend (W : RowOk P pu S n ops ms l) (h : Stand call w0 O B S n ops φ0 done rest L φ f m a w) (hl : l = done ++ rest) {x : Op2} {oj : Oper} (hx : (x ∈ done ∧ x.eff = false) ∨ ∃ tl, rest = x :: tl) (hj : ops[x.ix]? = some oj)
    (hall : ∀ e ∈ oj.after, Region.binds .any e = true → L.getD e.on false = true) {q : Q} (hq : usesQ x.o q = true) : ∀ o ∈ done, L.getD o.ix false = false → o.o.d ≠ some q := by
  intro o ho hL hd
  have hoe : o.eff = false := by
    cases he : o.eff with
    | false => rfl
    | true => rw [h.effs o ho he] at hL; cases hL
  have hno : ancOf ms x.ix o.ix ≠ true := fun hk => by rw [W.anc h hj hall _ hk] at hL; cases hL
  have hol : o ∈ l := by rw [hl]; exact List.mem_append_left _ ho
  rcases hx with ⟨hx, hxe⟩ | ⟨tl, hr⟩
  · have hxl : x ∈ l := by rw [hl]; exact List.mem_append_left _ hx
    rcases pair_of W.pw hol hxl with rfl | hp | hp
    · have hs := W.self _ hol
      simp only [selfOk, hoe, hd, Bool.false_or, Bool.and_eq_true, Bool.not_eq_true'] at hs
      rw [hq] at hs
      cases hs.2
    · exact hno (pair_use hp hoe hd hq)
    · have := (pair_dst hp hxe hd (fun hh => by rw [hoe] at hh; cases hh.1)).1
      rw [hq] at this
      cases this
  · have hp : pairOk ms o x = true := by
      have := W.pw
      rw [hl] at this
      exact (List.pairwise_append.1 this).2.2 o ho x (by rw [hr]; exact List.mem_cons_self ..)
    exact hno (pair_use hp hoe hd hq)

theorem valK_evP (W : RowOk P pu S n ops ms l) (h : Stand call w0 O B S n ops φ0 done rest L φ f m a w) (hl : l = done ++ rest) {x : Op2} {oj : Oper} (hx : (x ∈ done ∧ x.eff = false) ∨ ∃ tl, rest = x :: tl) (hj : ops[x.ix]? = some oj)
    (hall : ∀ e ∈ oj.after, Region.binds .any e = true → L.getD e.on false = true) :
    (∀ Y N : Unit → R, wantK (evK [] f) x.o.g Y N = wantK (evP done L f) x.o.g Y N) ∧ ∀ (call : FuncId → List YV → YM → (YV → YM → R) → R) (K : YV → YM → R), opK call x.o.o (evK [] f) m K = opK call x.o.o (evP done L f) m K :=
  ⟨fun Y N => wantK_congr (fun z hz => evP_same fun q hq => W.unpend h hl hx hj hall (usesQ_iff.2 (.inr (hq ▸ hz)))) Y N,
   fun call K => opK_congr fun z hz => evP_same fun q hq => W.unpend h hl hx hj hall (usesQ_iff.2 (.inl (hq ▸ hz)))⟩

/-- An operation of the program's, by its compiled form. -/
theorem goes_op1 (hcall : CallOk P call) (h : Stand call w0 O B S n ops φ0 done rest L φ f m a w) {oj : Oper} {o1 : Op1} (ho : op1Of P S ops.toList oj = some o1) {K : YV → YM → R} {r : YV} (hk : opK call o1.o (evP done L f) m K = .ok r) :
    Goes P (execOp (Act.eval ⟨a, []⟩) oj) w (Post w0 O B φ K r) := by
  obtain ⟨-, h2, -⟩ := op1Of_ok ho
  rw [h2] at hk
  cases hco : compO P (xIn S [] 0) oj.op with
  | none => rw [hco] at hk; cases hk
  | some y =>
    rw [hco] at hk
    exact go_op hcall (fun f => rfl) hco (evP_ok h) h.ok hk

theorem getD_set_true' {j k : Nat} (h : (L.setIfInBounds j true).getD k false = false) (hjk : k ≠ j) : L.getD k false = false := by
  rw [Go.getD_set_ne false (Ne.symm hjk)] at h
  exact h

theorem getD_set_iff {j k : Nat} (hj : j < L.size) : (L.setIfInBounds j true).getD k false = false ↔ k ≠ j ∧ L.getD k false = false := by
  have := getD_setB (L' := L) (i := j) (j := k) hj
  constructor
  · intro h
    refine ⟨fun e => ?_, ?_⟩
    · rw [this.2 (.inl e)] at h; cases h
    · cases hc : L.getD k false with
      | false => rfl
      | true => rw [this.2 (.inr hc)] at h; cases h
  · rintro ⟨h1, h2⟩
    rw [Go.getD_set_ne false (Ne.symm h1)]
    exact h2

/-- What the real run has done, one operation more. -/
theorem closed_step (h : Stand call w0 O B S n ops φ0 done rest L φ f m a w) {j : Nat} {oj : Oper} (hj : ops[j]? = some oj) (hall : ∀ e ∈ oj.after, Region.binds .any e = true → L.getD e.on false = true) :
    ∀ k ok, ops[k]? = some ok → (L.setIfInBounds j true).getD k false = true → ∀ e ∈ ok.after, Region.binds .any e = true → (L.setIfInBounds j true).getD e.on false = true := by
  have hjs : j < L.size := by rw [h.lsize]; exact lt_of_some hj
  intro k ok hk hL e he hb
  refine (getD_setB hjs).2 (.inr ?_)
  rcases (getD_setB hjs).1 hL with rfl | hL
  · rw [hj] at hk
    cases hk
    exact hall e he hb
  · exact h.closed k ok hk hL e he hb

/-- The real run does what is pending. -/
theorem step_pend (hcall : CallOk P call) (hpu : PureOk call pu) (W : RowOk P pu S n ops ms l) (h : Stand call w0 O B S n ops φ0 done rest L φ f m a w) (hl : l = done ++ rest) {x : Op2} (hx : x ∈ done) (hun : L.getD x.ix false = false) {oj : Oper} (hj : ops[x.ix]? = some oj)
    (hall : ∀ e ∈ oj.after, Region.binds .any e = true → L.getD e.on false = true) {next : Act → World → Prop}
    (hn : ∀ φ' a' w', Stand call w0 O B S n ops φ0 done rest (L.setIfInBounds x.ix true) φ' f m a' w' → next ⟨a', []⟩ w') : wpOp P ops QQ x.ix next ⟨a, []⟩ w := by
  have hxl : x ∈ l := by rw [hl]; exact List.mem_append_left _ hx
  have hxe : x.eff = false := by
    cases he : x.eff with
    | false => rfl
    | true => rw [h.effs x hx he] at hun; cases hun
  have hjs : x.ix < ops.size := lt_of_some hj
  have hLs : x.ix < L.size := by rw [h.lsize]; exact hjs
  obtain ⟨o', ho1, ho2⟩ := W.row x hxl
  rw [hj] at ho1
  cases ho1
  obtain ⟨hg, hop, hd⟩ := op1Of_ok ho2
  have hcls : cls pu x.o.o ≤ 1 := by
    have := W.self x hxl
    simp only [selfOk, hxe, Bool.false_or, Bool.and_eq_true] at this
    exact Nat.le_of_ble_eq_true this.1
  obtain ⟨v, hv, hvq⟩ := h.pend x hx hun
  obtain ⟨e1, e2⟩ := valK_evP W h hl (.inl ⟨hx, hxe⟩) hj hall
  unfold valK at hv
  rw [e1] at hv
  have hds := W.ds oj (Array.mem_toList_iff.2 (Array.mem_of_getElem? hj))
  have key : ∀ (φ' : Lm) (u : Value) (w' : World), Ext φ φ' → Ok w0 O B φ' m w' → VR φ' v u → next (Act.put ⟨a, []⟩ oj.dst u) w' := by
    intro φ' u w' hx' hok' hu
    have hput : Act.put ⟨a, []⟩ oj.dst u = ⟨(Act.put ⟨a, []⟩ oj.dst u).tmps, []⟩ := by cases oj.dst <;> rfl
    rw [hput]
    refine hn φ' _ w' ⟨?_, by simp [h.lsize], h.ext.trans hx', closed_step h hj hall, fun o ho => ?_, fun o ho he => (getD_setB hLs).2 (.inr (h.effs o ho he)), ?_, fun o ho hL => h.pend o ho ((getD_set_iff hLs).1 hL).2, hok'⟩
    · cases oj.dst <;> simp [Act.put, h.size]
    · refine (getD_set_iff hLs).2 ⟨fun e => ?_, h.rest0 o ho⟩
      have := W.pw
      rw [hl] at this
      exact W.ix ((List.pairwise_append.1 this).2.2 x hx o ho) e.symm
    · exact fr_put h rfl hjs hd hds (fun o ho => ho) (fun o ho he => W.uni (by rw [hl]; exact List.mem_append_left _ ho) hxl he) hx' hu hvq (fun p _ => rfl)
  unfold wpOp
  simp only [hj]
  rcases want_ok (evP_ok h) hg hv with ⟨hw, hv⟩ | ⟨hw, hv⟩
  · simp only [hw, if_true]
    refine .inl ?_
    rw [e2] at hv
    cases hic : isCall x.o.o with
    | false =>
      rw [hic] at hv
      simp only [IF_false] at hv
      rw [opK_keep hcls hic] at hv
      have hv' : opK call x.o.o (evP done L f) m (fun y m' => @ite _ (m' = m) (Classical.propDecidable _) (R.ok y) (.no "")) = .ok v := by
        rw [opK_keep hcls hic]
        simp only [if_true]
        exact hv
      refine (goes_op1 hcall h ho2 hv').wp ?_
      rintro u w' ⟨φ', y, m', hx', hok', hu, hK⟩
      simp only at hK
      split at hK
      · rename_i hm
        cases hK
        subst hm
        exact key φ' u w' hx' hok' hu
      · cases hK
    | true =>
      cases hxo : x.o.o with
      | ca g xs =>
        rw [hxo] at hv hcls
        have hgp : g ∈ pu := by
          simp only [cls] at hcls
          split at hcls
          · rename_i hc
            simpa using hc
          · omega
        have hv : evsK (evP done L f) xs (fun vs => call g vs m fun v _ => IF true (IF (plainV v) (.ok v) (.no "plain")) (.ok v)) = .ok v := hv
        have hv' : opK call (.ca g xs) (evP done L f) m (fun y m' => @ite _ (m' = ⟨m.h, m.n + gap, m.lo⟩ ∧ plainV y = true) (Classical.propDecidable _) (R.ok y) (.no "")) = .ok v := by
          show evsK (evP done L f) xs (fun vs => call g vs m _) = .ok v
          refine evsK_mono (evP_mono done L f) (fun vs hvs => ?_) hv
          obtain ⟨y, h1, h2⟩ := hpu g hgp vs m _ _ hvs
          rw [h2]
          rcases IF_ok h1 with ⟨-, h1⟩ | ⟨hf, -⟩
          · rcases IF_ok h1 with ⟨hp, h1⟩ | ⟨-, h1⟩
            · rw [if_pos ⟨rfl, hp⟩]
              exact h1
            · cases h1
          · cases hf
        rw [← hxo] at hv'
        refine (goes_op1 hcall h ho2 hv').wp ?_
        rintro u w' ⟨φ', y, m', hx', hok', hu, hK⟩
        simp only at hK
        split at hK
        · rename_i hm
          cases hK
          obtain ⟨rfl, hp⟩ := hm
          exact key φ u w' (Ext.refl _) (h.ok.back hx' hok' (fun l => rfl)) (VR.plain hp hu)
        · cases hK
      | _ => rw [hxo] at hic; cases hic
  · simp only [hw, Bool.false_eq_true, if_false]
    cases hv
    exact key φ undef w (Ext.refl _) h.ok VR.undef

/-- The real run does what comes next. -/
theorem step_head (hcall : CallOk P call) (W : RowOk P pu S n ops ms l) {x : Op2} {tl : List Op2} (h : Stand call w0 O B S n ops φ0 done (x :: tl) L φ f m a w) (hl : l = done ++ x :: tl) (hxe : x.eff = true) {oj : Oper} (hj : ops[x.ix]? = some oj)
    (hall : ∀ e ∈ oj.after, Region.binds .any e = true → L.getD e.on false = true) {K : Fr → YM → R} {r : YV} (hK : drawK call (x :: tl) f m K = .ok r) {next : Act → World → Prop}
    (hn : ∀ φ' f' m' a' w', Stand call w0 O B S n ops φ0 (done ++ [x]) tl (L.setIfInBounds x.ix true) φ' f' m' a' w' → drawK call tl f' m' K = .ok r → next ⟨a', []⟩ w') : wpOp P ops QQ x.ix next ⟨a, []⟩ w := by
  have hxl : x ∈ l := by rw [hl]; simp
  have hjs : x.ix < ops.size := lt_of_some hj
  have hLs : x.ix < L.size := by rw [h.lsize]; exact hjs
  obtain ⟨o', ho1, ho2⟩ := W.row x hxl
  rw [hj] at ho1
  cases ho1
  obtain ⟨hg, hop, hd⟩ := op1Of_ok ho2
  obtain ⟨e1, e2⟩ := valK_evP W h hl (.inr ⟨tl, rfl⟩) hj hall
  simp only [drawK, hxe] at hK
  rw [e1] at hK
  have hds := W.ds oj (Array.mem_toList_iff.2 (Array.mem_of_getElem? hj))
  have hpw := W.pw
  rw [hl] at hpw
  have hpx : ∀ o ∈ done, pairOk ms o x = true := fun o ho => (List.pairwise_append.1 hpw).2.2 o ho x (List.mem_cons_self ..)
  have hpt : ∀ o ∈ tl, pairOk ms x o = true := fun o ho => (List.pairwise_cons.1 (List.pairwise_append.1 hpw).2.1).1 o ho
  have key : ∀ (φ' : Lm) (y : YV) (m' : YM) (f' : Fr) (u : Value) (w' : World), Ext φ φ' → Ok w0 O B φ' m' w' → VR φ' y u → (∀ q, x.o.d = some q → f'.get q = y) → (∀ p, x.o.d ≠ some p → f'.get p = f.get p) →
      (∀ o ∈ done, o.eff = false → ancOf ms x.ix o.ix = false → L.getD o.ix false = false → valK call o.o f' m = valK call o.o f m → ∃ v, valK call o.o f' m' = .ok v ∧ ∀ q, o.o.d = some q → f'.get q = v) → drawK call tl f' m' K = .ok r →
      next (Act.put ⟨a, []⟩ oj.dst u) w' := by
    intro φ' y m' f' u w' hx' hok' hu hf1 hf2 hpend hK
    have hput : Act.put ⟨a, []⟩ oj.dst u = ⟨(Act.put ⟨a, []⟩ oj.dst u).tmps, []⟩ := by cases oj.dst <;> rfl
    rw [hput]
    refine hn φ' f' m' _ w' ⟨?_, by simp [h.lsize], h.ext.trans hx', closed_step h hj hall, fun o ho => ?_, fun o ho he => ?_, ?_, fun o ho hL => ?_, hok'⟩ hK
    · cases oj.dst <;> simp [Act.put, h.size]
    · exact (getD_set_iff hLs).2 ⟨fun e => W.ix (hpt o ho) e.symm, h.rest0 o (List.mem_cons_of_mem _ ho)⟩
    · rcases List.mem_append.1 ho with ho | ho
      · exact (getD_setB hLs).2 (.inr (h.effs o ho he))
      · simp only [List.mem_singleton] at ho
        subst ho
        exact (getD_setB hLs).2 (.inl rfl)
    · exact fr_put h rfl hjs hd hds (fun o ho => List.mem_append_left _ ho) (fun o ho he => absurd he (W.ix (hpx o ho))) hx' hu hf1 hf2
    · obtain ⟨hne, hL⟩ := (getD_set_iff hLs).1 hL
      rcases List.mem_append.1 ho with ho | ho
      · have hoe : o.eff = false := by
          cases he : o.eff with
          | false => rfl
          | true => rw [h.effs o ho he] at hL; cases hL
        have hno : ancOf ms x.ix o.ix = false := by
          cases hk : ancOf ms x.ix o.ix with
          | false => rfl
          | true => rw [W.anc h hj hall _ hk] at hL; cases hL
        refine hpend o ho hoe hno hL (valK_frame fun q hq => hf2 q fun he => ?_)
        have := (pair_dst (hpx o ho) hoe he (fun hh => by rw [hno] at hh; cases hh.2)).1
        rw [hq] at this
        cases this
      · simp only [List.mem_singleton] at ho
        subst ho
        exact absurd rfl hne
  have hsame : ∀ (f' : Fr), (∀ p, x.o.d ≠ some p → f'.get p = f.get p) → ∀ o ∈ done, o.eff = false → ancOf ms x.ix o.ix = false → ∀ q, o.o.d = some q → f'.get q = f.get q := by
    intro f' hf2 o ho hoe hno q hq
    refine hf2 q fun he => ?_
    exact (pair_dst (hpx o ho) hoe he (fun hh => by rw [hno] at hh; cases hh.2)).2 hq
  unfold wpOp
  simp only [hj]
  rcases want_ok (evP_ok h) hg hK with ⟨hw, hK⟩ | ⟨hw, hK⟩
  · simp only [hw, if_true]
    refine .inl ?_
    rw [e2] at hK
    refine (goes_op1 hcall h ho2 hK).wp ?_
    rintro u w' ⟨φ', y, m', hx', hok', hu, hK⟩
    obtain ⟨f', h1, h2, h3⟩ := finK_ok hK
    obtain ⟨h4, h5⟩ := chkK_ok h1
    refine key φ' y m' f' u w' hx' hok' hu h2 h3 (fun o ho hoe hno hL hsv => ?_) h4
    by_cases hc : cls pu o.o.o = 0
    · obtain ⟨v, k1, k2⟩ := h.pend o ho hL
      exact ⟨v, by rw [valK_pure (m := m) hc, hsv, k1], fun q hq => by rw [hsame f' h3 o ho hoe hno q hq]; exact k2 q hq⟩
    · refine h5 o.o ?_
      rw [W.chk done x tl hl hxe]
      refine List.mem_map.2 ⟨o, List.mem_filter.2 ⟨ho, ?_⟩, rfl⟩
      have hc' : Nat.beq (cls pu o.o.o) 0 = false := by
        cases hb : Nat.beq (cls pu o.o.o) 0 with
        | false => rfl
        | true => exact absurd (Nat.eq_of_beq_eq_true hb) hc
      simp [hoe, hno, hc']
  · simp only [hw, Bool.false_eq_true, if_false]
    obtain ⟨f', h1, h2, h3⟩ := finK_ok hK
    refine key φ (.tu []) m f' undef w (Ext.refl _) h.ok VR.undef h2 h3 (fun o ho hoe hno hL hsv => ?_) h1
    obtain ⟨v, k1, k2⟩ := h.pend o ho hL
    exact ⟨v, by rw [hsv, k1], fun q hq => by rw [hsame f' h3 o ho hoe hno q hq]; exact k2 q hq⟩

/-- The evaluator goes ahead. -/
theorem step_ahead (W : RowOk P pu S n ops ms l) {x : Op2} {tl : List Op2} (h : Stand call w0 O B S n ops φ0 done (x :: tl) L φ f m a w) (hl : l = done ++ x :: tl) (hxe : x.eff = false) {K : Fr → YM → R} {r : YV}
    (hK : drawK call (x :: tl) f m K = .ok r) : ∃ f', Stand call w0 O B S n ops φ0 (done ++ [x]) tl L φ f' m a w ∧ drawK call tl f' m K = .ok r := by
  have hxl : x ∈ l := by rw [hl]; simp
  have hpw := W.pw
  rw [hl] at hpw
  have hpx : ∀ o ∈ done, pairOk ms o x = true := fun o ho => (List.pairwise_append.1 hpw).2.2 o ho x (List.mem_cons_self ..)
  have hunx := h.rest0 x (List.mem_cons_self ..)
  simp only [drawK, hxe] at hK
  cases hv : valK call x.o f m with
  | no s => rw [hv] at hK; cases hK
  | ok v =>
    rw [hv] at hK
    simp only at hK
    obtain ⟨f', h1, h2, h3⟩ := finK_ok hK
    refine ⟨f', ⟨h.size, h.lsize, h.ext, h.closed, fun o ho => h.rest0 o (List.mem_cons_of_mem _ ho), fun o ho he => ?_, fun t q hq hp => ?_, fun o ho hL => ?_, h.ok⟩, h1⟩
    · rcases List.mem_append.1 ho with ho | ho
      · exact h.effs o ho he
      · simp only [List.mem_singleton] at ho
        subst ho
        rw [hxe] at he
        cases he
    · have hxq : x.o.d ≠ some q := hp x (by simp) hunx
      rw [h3 q hxq]
      exact h.fr t q hq fun o ho hL => hp o (List.mem_append_left _ ho) hL
    · rcases List.mem_append.1 ho with ho | ho
      · obtain ⟨v', k1, k2⟩ := h.pend o ho hL
        have hoe : o.eff = false := by
          cases he : o.eff with
          | false => rfl
          | true => rw [h.effs o ho he] at hL; cases hL
        refine ⟨v', ?_, fun q hq => ?_⟩
        · rw [valK_frame fun q hq => h3 q fun he => ?_, k1]
          have := (pair_dst (hpx o ho) hoe he (fun hh => by rw [hxe] at hh; cases hh.1)).1
          rw [hq] at this
          cases this
        · rw [h3 q fun he => (pair_dst (hpx o ho) hoe he (fun hh => by rw [hxe] at hh; cases hh.1)).2 hq]
          exact k2 q hq
      · simp only [List.mem_singleton] at ho
        subst ho
        refine ⟨v, ?_, fun q hq => h2 q hq⟩
        rw [valK_frame fun q hq => h3 q fun he => ?_, hv]
        have hs := W.self o hxl
        simp only [selfOk, hxe, he, Bool.false_or, Bool.and_eq_true, Bool.not_eq_true'] at hs
        rw [hq] at hs
        cases hs.2

theorem draw_sim (hcall : CallOk P call) (hpu : PureOk call pu) (W : RowOk P pu S n ops ms l) {K : Fr → YM → R} {r : YV} 
    (hQ : ∀ φ' f' m' a' w', Ext φ0 φ' → FrOk φ' S f' a' → Ok w0 O B φ' m' w' → a'.size = n → K f' m' = .ok r → QQ .normal ⟨a', []⟩ w') :
    ∀ (s fuel : Nat) (done rest : List Op2) (L : Array Bool) (φ : Lm) (f : Fr) (m : YM) (a : Array Value) (w : World), rest.length + fuel ≤ s → left L ≤ fuel → l = done ++ rest → Stand call w0 O B S n ops φ0 done rest L φ f m a w →
      drawK call rest f m K = .ok r → wpAny P .any ops QQ fuel L ⟨a, []⟩ w := by
  have hlisted : ∀ {done rest L φ f m a w}, Stand call w0 O B S n ops φ0 done rest L φ f m a w → l = done ++ rest → drawK call rest f m K = .ok r → Region.ready .any ops L = [] → QQ .normal ⟨a, []⟩ w := by
    intro done rest L φ f m a w hst hl h hr
    have hdone : ∀ j, j < ops.size → L.getD j false = true := by
      intro j hj
      refine all_listed (l := ops.toList) W.bk (p := fun j => L.getD j false) (fun k ok hk hpk hall => ?_) j (by simpa using hj)
      have hks : k < ops.size := lt_of_some (by rw [← Array.getElem?_toList]; exact hk)
      have : k ∈ Region.ready .any ops L := mem_ready.2 ⟨by rw [getD_false (by rw [hst.lsize]; exact hks)]; exact hpk, ok, by rw [← Array.getElem?_toList]; exact hk,
        fun e he hb => hall e (Array.mem_toList_iff.2 he) hb⟩
      rw [hr] at this
      cases this
    have hin : ∀ x ∈ l, x.ix < ops.size := fun x hx => by
      obtain ⟨o, ho, -⟩ := W.row x hx
      exact lt_of_some ho
    cases rest with
    | cons x tl =>
      have := hst.rest0 x (List.mem_cons_self ..)
      rw [hdone x.ix (hin x (by rw [hl]; simp))] at this
      cases this
    | nil =>
      refine hQ φ f m a w hst.ext (fun t q hq => hst.fr t q hq fun o ho hL => ?_) hst.ok hst.size h
      rw [hdone o.ix (hin o (by rw [hl]; simpa using ho))] at hL
      cases hL
  have hleft0 : ∀ {done rest L φ f m a w}, Stand call w0 O B S n ops φ0 done rest L φ f m a w → left L = 0 → Region.ready .any ops L = [] := by
    intro done rest L φ f m a w hst h0
    cases hr : Region.ready .any ops L with
    | nil => rfl
    | cons j rr =>
      have hj : j ∈ Region.ready .any ops L := by rw [hr]; exact List.mem_cons_self ..
      obtain ⟨hj0, o, hoj, hall⟩ := mem_ready.1 hj
      have hjs : j < ops.size := lt_of_some hoj
      have := left_set (L' := L) (i := j) (by rw [hst.lsize]; exact hjs) (by rw [← getD_false (by rw [hst.lsize]; exact hjs)]; exact hj0)
      omega
  intro s
  induction s with
  | zero =>
    intro fuel done rest L φ f m a w hs hleft hl hst h
    obtain rfl : fuel = 0 := by omega
    have hr := hleft0 hst (by omega)
    exact ⟨hr, hlisted hst hl h hr⟩
  | succ s ih =>
    intro fuel done rest L φ f m a w hs hleft hl hst h
    by_cases hahead : ∃ x tl, rest = x :: tl ∧ x.eff = false
    · obtain ⟨x, tl, rfl, hxe⟩ := hahead
      obtain ⟨f', h1, h2⟩ := step_ahead W hst hl hxe h
      simp only [List.length_cons] at hs
      exact ih fuel (done ++ [x]) tl L φ f' m a w (by omega) hleft (by rw [hl]; simp) h1 h2
    · cases fuel with
      | zero =>
        have hr := hleft0 hst (by omega)
        exact ⟨hr, hlisted hst hl h hr⟩
      | succ fuel =>
        refine ⟨hlisted hst hl h, fun j hj => ?_⟩
        obtain ⟨hj0, oj, hoj, hall⟩ := mem_ready.1 hj
        have hjs : j < ops.size := lt_of_some hoj
        have hun : L.getD j false = false := by rw [← getD_false (by rw [hst.lsize]; exact hjs)]; exact hj0
        have hls := left_set (L' := L) (i := j) (by rw [hst.lsize]; exact hjs) hun
        obtain ⟨x, hx, rfl⟩ := W.all j hjs
        rw [hl] at hx
        rcases List.mem_append.1 hx with hx | hx
        · exact step_pend hcall hpu W hst hl hx hun hoj hall fun φ' a' w' hst' => ih fuel done rest _ φ' f m a' w' (by omega) (by omega) hl hst' h
        · cases rest with
          | nil => cases hx
          | cons y tl =>
            have hye : y.eff = true := by
              cases he : y.eff with
              | true => rfl
              | false => exact absurd ⟨y, tl, rfl, he⟩ hahead
            have hxy : x = y := by
              rcases List.mem_cons.1 hx with e | hx
              · exact e
              · have hpw := W.pw
                rw [hl] at hpw
                have := pair_eff ((List.pairwise_cons.1 (List.pairwise_append.1 hpw).2.1).1 x hx) hye
                have := W.anc hst hoj hall _ this
                rw [hst.rest0 y (List.mem_cons_self ..)] at this
                cases this
            subst hxy
            simp only [List.length_cons] at hs
            exact step_head hcall W hst hl hye hoj hall h fun φ' f' m' a' w' hst' h' => ih fuel (done ++ [x]) tl _ φ' f' m' a' w' (by omega) (by omega) (by rw [hl]; simp) hst' h'

theorem drawK_sound (hcall : CallOk P call) (hpu : PureOk call pu) (hm : P.follows .mixedOrders = true) {id : Nat} {lo : List Oper} {os : List Op2} {K : Fr → YM → R} {r : YV} (hd : drawOf P pu S lo = some os) (hds : ∀ o ∈ lo, ∀ d, o.dst = some d → d < n)
    (h : drawK call os f m K = .ok r) (hf : FrOk φ S f a) (hok : Ok w0 O B φ m w) (hn : a.size = n)
    (hQ : ∀ φ' f' m' a' w', Ext φ φ' → FrOk φ' S f' a' → Ok w0 O B φ' m' w' → a'.size = n → K f' m' = .ok r → QQ .normal ⟨a', []⟩ w') : (Code.region id ⟨lo⟩ true).wp P QQ ⟨a, []⟩ w := by
  unfold drawOf at hd
  simp only at hd
  split at hd
  · cases hd
  · rename_i l hrow
    split at hd
    · rename_i hcond
      cases hd
      simp only [Bool.and_eq_true, List.all_eq_true, List.mem_range] at hcond
      obtain ⟨hpairs, hself, hbk, hfr, hall⟩ := hcond
      obtain ⟨h1, h2, h3⟩ := rowOf_ok hrow
      have hms : MsOk lo (ancs lo []) := ancs_ok (pre := []) (ms := []) rfl (fun i x hi => by simp at hi)
      have W : RowOk P pu S n ⟨lo⟩ (ancs lo []) os := by
        refine ⟨hms, hbk, pairsOk_iff hpairs, hself, fun x hx => ?_, fun j hj => ?_, fun p1 x p2 he hx => by simpa using h3 p1 x p2 he hx, fun o ho d hd => ⟨hds o ho d hd, framed_ok hfr o ho d hd⟩⟩
        · obtain ⟨o, g1, g2⟩ := h1 x hx
          exact ⟨o, by rw [← Array.getElem?_toList]; exact g1, g2⟩
        · have := hall j (by simpa using hj)
          simp only [List.contains_eq_mem, decide_eq_true_eq] at this
          rw [← h2, List.mem_map] at this
          exact this
      refine wp_region_any hm ?_
      have hok' : Ok w0 O B φ m { w with drawn := w.drawn + 1 } := ⟨hok.os, hok.tape, hok.output, hok.size, hok.keep, hok.fresh, hok.lon, fun l b hb => by
        obtain ⟨L, g1, g2, g3⟩ := hok.blk l b hb
        exact ⟨L, g1, g2.same (Ext.refl _) rfl, g3⟩, hok.apart, hok.low⟩
      refine draw_sim hcall hpu W (φ0 := φ) (r := r) hQ _ _ [] os _ φ f m a _ (Nat.le_refl _) ?_ rfl ⟨hn, by simp, Ext.refl _, fun k ok hk hL => ?_, fun o ho => ?_, fun o ho => (by cases ho), fun t q hq _ => hf t q hq, fun o ho => (by cases ho), hok'⟩ h
      · unfold left
        simp
      · rw [Array.getD_eq_getD_getElem?, Array.getElem?_replicate] at hL
        split at hL <;> cases hL
      · rw [Array.getD_eq_getD_getElem?, Array.getElem?_replicate]
        split <;> rfl
    · cases hd

end
end
end Go.Ye

/- Ye, part 2B: code, functions, calls. -/
namespace Go.Ye
open Go.Sx (Callable run_bind_ok act_eta mkTI mkTI_parts resSem)
set_option linter.unusedVariables false
set_option linter.constructorNameAsVariable false
set_option linter.unusedSimpArgs false

def ExR : E → Exit → Prop
  | .nrm, .normal => True
  | .ret, .ret => True
  | .ext i, .exit j => i = j
  | _, _ => False

/-- The evaluator goes on at a state that stands for the end of a piece of code. -/
def CPost (w0 : World) (O : Nat → Prop) (B : Nat → Option YB) (S : List Nat) (n : Nat) (φ : Lm) (K : E → Fr → YM → R) (r : YV) (e : Exit) (act : Act) (w : World) : Prop :=
  act.defers = [] ∧ ∃ φ' f m e', Ext φ φ' ∧ FrOk φ' S f act.tmps ∧ Ok w0 O B φ' m w ∧ act.tmps.size = n ∧ ExR e' e ∧ K e' f m = .ok r

section
variable {P : Program} {w0 : World} {O : Nat → Prop} {B : Nat → Option YB} {r : YV} {call : FuncId → List YV → YM → (YV → YM → R) → R} {pu : List Nat}

theorem CPost.trans {S : List Nat} {n : Nat} {φ φ' : Lm} {K : E → Fr → YM → R} (hx : Ext φ φ') {e : Exit} {act : Act} {w : World} (h : CPost w0 O B S n φ' K r e act w) : CPost w0 O B S n φ K r e act w := by
  obtain ⟨h1, φ2, f, m, e', h2, h3⟩ := h
  exact ⟨h1, φ2, f, m, e', hx.trans h2, h3⟩

theorem codeK_sound (hcall : CallOk P call) (hpu : PureOk call pu) (hm : P.follows .mixedOrders = true) {S : List Nat} {n : Nat} : ∀ (c : Code) (c' : C) (K : E → Fr → YM → R) (φ : Lm) (f : Fr) (m : YM) (a : Array Value) (w : World),
    compC P pu S c = some c' → dstsC n c = true → codeK call c' f m K = .ok r → FrOk φ S f a → Ok w0 O B φ m w → a.size = n → c.wp P (CPost w0 O B S n φ K r) ⟨a, []⟩ w := by
  intro c
  induction c with
  | skip =>
    intro c' K φ f m a w hc hd h hf hok hn
    cases hc
    exact wp_skip ⟨rfl, φ, f, m, .nrm, Ext.refl _, hf, hok, hn, trivial, h⟩
  | region id ops draw =>
    intro c' K φ f m a w hc hd h hf hok hn
    obtain ⟨l⟩ := ops
    have hds : ∀ o ∈ l, ∀ d, o.dst = some d → d < n := fun o ho d hod => by
      have := List.all_eq_true.1 hd o ho
      rw [hod] at this
      exact Nat.le_of_ble_eq_true this
    cases draw with
    | false =>
      simp only [compC, Option.map_eq_some_iff] at hc
      obtain ⟨os, hos, rfl⟩ := hc
      have h : opsK call os [] f m (fun f m => K .nrm f m) = .ok r := h
      refine wp_region ?_
      have := opsK_sound hcall (ops := ⟨l⟩) (Q := CPost w0 O B S n φ K r) l 0 rfl [] [] os φ f m a w hos hds h hf EnvOk.nil hok hn
        (fun φ' f' m' a' w' hx hf' hok' hn' hK => ⟨rfl, φ', f', m', .nrm, hx, hf', hok', hn', trivial, hK⟩)
      rw [List.range_eq_range']
      exact this
    | true =>
      simp only [compC, Option.map_eq_some_iff] at hc
      obtain ⟨os, hos, rfl⟩ := hc
      have h : drawK call os f m (fun f m => K .nrm f m) = .ok r := h
      exact drawK_sound hcall hpu hm hos hds h hf hok hn (fun φ' f' m' a' w' hx hf' hok' hn' hK => ⟨rfl, φ', f', m', .nrm, hx, hf', hok', hn', trivial, hK⟩)
  | seq x y ihx ihy =>
    intro c' K φ f m a w hc hd h hf hok hn
    simp only [compC, Option.bind_eq_bind, Option.bind_eq_some_iff, Option.some.injEq] at hc
    obtain ⟨x', hx, y', hy, rfl⟩ := hc
    have hd : (dstsC n x && dstsC n y) = true := hd
    rw [Bool.and_eq_true] at hd
    have h : codeK call x' f m (fun e f m => E.rec (motive := fun _ => R) (codeK call y' f m K) (K .ret f m) (fun i => K (.ext i) f m) e) = .ok r := h
    refine wp_seq (wp_mono (ihx _ _ _ _ _ _ _ hx hd.1 h hf hok hn) ?_)
    rintro e act w' ⟨hdf, φ', f', m', e', hx', hf', hok', hn', hex, hK⟩
    rw [act_eta hdf]
    cases e' with
    | nrm =>
      cases e with
      | normal => exact wp_mono (ihy _ _ _ _ _ _ _ hy hd.2 hK hf' hok' hn') fun e act w h => h.trans hx'
      | _ => exact hex.elim
    | ret =>
      cases e with
      | ret => exact ⟨rfl, φ', f', m', .ret, hx', hf', hok', hn', trivial, hK⟩
      | _ => exact hex.elim
    | ext i =>
      cases e with
      | exit j => exact ⟨rfl, φ', f', m', .ext i, hx', hf', hok', hn', hex, hK⟩
      | _ => exact hex.elim
  | cond x y z ihy ihz =>
    intro c' K φ f m a w hc hd h hf hok hn
    simp only [compC, Option.bind_eq_bind, Option.bind_eq_some_iff, Option.some.injEq] at hc
    obtain ⟨x', hx, y', hy, z', hz, rfl⟩ := hc
    have hd : (dstsC n y && dstsC n z) = true := hd
    rw [Bool.and_eq_true] at hd
    have h : evK [] f x' (fun v => match v with
      | .b b => IF b (codeK call y' f m K) (codeK call z' f m K)
      | _ => .no "cond") = .ok r := h
    have hev : EvOk φ (evK [] f) (xIn S [] 0) (Act.eval ⟨a, []⟩) := EvOk.of (s := []) hf EnvOk.nil
    replace h := hev.get hx h; obtain ⟨v, hv, h⟩ := h
    cases v with
    | b b =>
      unfold VR at hv
      rcases IF_ok h with ⟨rfl, h⟩ | ⟨rfl, h⟩
      · exact wp_cond_true hv (ihy _ _ _ _ _ _ _ hy hd.1 h hf hok hn)
      · exact wp_cond_false hv (ihz _ _ _ _ _ _ _ hz hd.2 h hf hok hn)
    | _ => cases h
  | block id c ih =>
    intro c' K φ f m a w hc hd h hf hok hn
    simp only [compC, Option.map_eq_some_iff] at hc
    obtain ⟨x', hx, rfl⟩ := hc
    have h : codeK call x' f m (fun e f m => E.rec (motive := fun _ => R) (K .nrm f m) (K .ret f m) (fun i => IF (Nat.beq i id) (K .nrm f m) (K (.ext i) f m)) e) = .ok r := h
    refine wp_block (wp_mono (ih _ _ _ _ _ _ _ hx hd h hf hok hn) ?_)
    rintro e act w' ⟨hdf, φ', f', m', e', hx', hf', hok', hn', hex, hK⟩
    cases e' with
    | nrm =>
      cases e with
      | normal => exact ⟨hdf, φ', f', m', .nrm, hx', hf', hok', hn', trivial, hK⟩
      | _ => exact hex.elim
    | ret =>
      cases e with
      | ret => exact ⟨hdf, φ', f', m', .ret, hx', hf', hok', hn', trivial, hK⟩
      | _ => exact hex.elim
    | ext i =>
      cases e with
      | exit j =>
        have hex : i = j := hex
        subst hex
        unfold Exit.inBlock
        simp only
        rcases IF_ok hK with ⟨hb, hK⟩ | ⟨hb, hK⟩
        · rw [if_pos (Nat.eq_of_beq_eq_true hb)]
          exact ⟨hdf, φ', f', m', .nrm, hx', hf', hok', hn', trivial, hK⟩
        · rw [if_neg (fun e => by subst e; rw [Nat.beq_refl] at hb; cases hb)]
          exact ⟨hdf, φ', f', m', .ext i, hx', hf', hok', hn', rfl, hK⟩
      | _ => exact hex.elim
  | loop c ih =>
    intro c' K φ f m a w hc hd h hf hok hn
    simp only [compC, Option.map_eq_some_iff] at hc
    obtain ⟨x', hx, rfl⟩ := hc
    have h : rounds (codeK call x') K 100000 f m = .ok r := h
    generalize 100000 = k at h
    refine wp_loop_rounds k ?_
    suffices key : ∀ (k : Nat) (φ' : Lm) (f : Fr) (m : YM) (a : Array Value) (w : World), Ext φ φ' → rounds (codeK call x') K k f m = .ok r → FrOk φ' S f a → Ok w0 O B φ' m w → a.size = n →
        Code.rounds P c (CPost w0 O B S n φ K r) k ⟨a, []⟩ w from key k φ f m a w (Ext.refl _) h hf hok hn
    intro k
    induction k with
    | zero => intro φ' f m a w _ h; cases h
    | succ k ihk =>
      intro φ' f m a w hxx h hf hok hn
      have h : codeK call x' f m (fun e f m => E.rec (motive := fun _ => R) (rounds (codeK call x') K k f m) (K .ret f m) (fun i => K (.ext i) f m) e) = .ok r := h
      rw [rounds_succ]
      refine wp_mono (ih _ _ _ _ _ _ _ hx hd h hf hok hn) ?_
      rintro e act w' ⟨hdf, φ2, f', m', e', hx', hf', hok', hn', hex, hK⟩
      rw [act_eta hdf]
      cases e' with
      | nrm =>
        cases e with
        | normal => exact ihk φ2 f' m' _ w' (hxx.trans hx') hK hf' hok' hn'
        | _ => exact hex.elim
      | ret =>
        cases e with
        | ret => exact ⟨rfl, φ2, f', m', .ret, hxx.trans hx', hf', hok', hn', trivial, hK⟩
        | _ => exact hex.elim
      | ext i =>
        cases e with
        | exit j => exact ⟨rfl, φ2, f', m', .ext i, hxx.trans hx', hf', hok', hn', hex, hK⟩
        | _ => exact hex.elim
  | ret =>
    intro c' K φ f m a w hc hd h hf hok hn
    cases hc
    exact wp_ret ⟨rfl, φ, f, m, .ret, Ext.refl _, hf, hok, hn, trivial, h⟩
  | exit id =>
    intro c' K φ f m a w hc hd h hf hok hn
    cases hc
    exact wp_exit ⟨rfl, φ, f, m, .ext id, Ext.refl _, hf, hok, hn, rfl, h⟩
  | _ => intro c' K φ f m a w hc; simp [compC] at hc

/-! ### functions -/

theorem argsK_ok {S : List Nat} {φ : Lm} {a : Array Value} : ∀ {qs : List (Option Q)} {vs : List YV} {k : Nat} {f : Fr} {K : Fr → R}, argsK qs vs f K = .ok r → qs = (List.range' k qs.length).map (qOf S) → FrOk φ S f a →
    (∀ i y, vs[i]? = some y → VR φ y (a.getD (k + i) undef)) → vs.length = qs.length ∧ ∃ f', FrOk φ S f' a ∧ K f' = .ok r
  | [], [], k, f, K, h, hq, hf, hv => ⟨rfl, f, hf, h⟩
  | [], _ :: _, k, f, K, h, hq, hf, hv => by cases h
  | _ :: _, [], k, f, K, h, hq, hf, hv => by cases h
  | q :: qs, v :: vs, k, f, K, h, hq, hf, hv => by
    have h : finK f q v (fun f => argsK qs vs f K) = .ok r := h
    obtain ⟨f1, h1, h2, h3⟩ := finK_ok h
    simp only [List.length_cons, List.range'_succ, List.map_cons, List.cons.injEq] at hq
    obtain ⟨rfl, hqs⟩ := hq
    have hf1 : FrOk φ S f1 a := fun t p hp => by
      by_cases htk : t = k
      · subst htk
        rw [h2 p hp]
        exact hv 0 v rfl
      · rw [h3 p fun e => htk (qOf_inj hp e)]
        exact hf t p hp
    obtain ⟨h4, f', h5, h6⟩ := argsK_ok h1 hqs hf1 (fun i y hy => by
      have := hv (i + 1) y (by simpa using hy)
      rw [show k + (i + 1) = k + 1 + i from by omega] at this
      exact this)
    exact ⟨by simp [h4], f', h5, h6⟩

theorem resK_ok {S : List Nat} {φ : Lm} {f : Fr} {m : YM} {a : Array Value} {w : World} (hf : FrOk φ S f a) (hok : Ok w0 O B φ m w) : ∀ {rs : List ResultVar} {qs : List (Q ⊕ (Q × Option Nat))},
    rs.mapM (resOf P S) = some qs → ∀ {K : List YV → R}, resK f m qs K = .ok r → ∃ vs ys, (rs.mapM (resSem a)).run P w = .ok vs w ∧ VRs φ ys vs ∧ K ys = .ok r
  | [], qs, hq, K, h => by
    simp at hq
    subst hq
    exact ⟨[], [], rfl, by unfold VRs; rfl, h⟩
  | rv :: rs, qs, hq, K, h => by
    rw [List.mapM_cons] at hq
    simp only [Option.bind_eq_bind, Option.bind_eq_some_iff, Option.pure_def, Option.some.injEq] at hq
    obtain ⟨q, hq1, qs', hq2, rfl⟩ := hq
    have step : ∀ (v : Value) (y : YV), (resSem a rv).run P w = .ok v w → VR φ y v → resK f m qs' (fun vs => K (y :: vs)) = .ok r →
        ∃ vs ys, ((rv :: rs).mapM (resSem a)).run P w = .ok vs w ∧ VRs φ ys vs ∧ K ys = .ok r := by
      intro v y h1 h2 h3
      obtain ⟨vs, ys, h4, h5, h6⟩ := resK_ok hf hok hq2 h3
      refine ⟨v :: vs, y :: ys, ?_, by unfold VRs; exact ⟨_, _, rfl, h2, h5⟩, h6⟩
      rw [List.mapM_cons, run_bind_ok h1, run_bind_ok h4]
      rfl
    cases rv with
    | tmp t =>
      simp only [resOf, Option.map_eq_some_iff] at hq1
      obtain ⟨q', hq', rfl⟩ := hq1
      have h : f.getK q' (fun v => resK f m qs' fun vs => K (v :: vs)) = .ok r := h
      rw [Fr.getK_eq] at h
      exact step _ _ rfl (hf t q' hq') h
    | cell b t =>
      simp only [resOf, Option.bind_eq_bind, Option.bind_eq_some_iff, Option.some.injEq] at hq1
      obtain ⟨q', hq', ti, hti, rfl⟩ := hq1
      have hvb := hf b q' hq'
      cases hag : ti.k.agg with
      | true =>
        rw [hag] at h
        have h : f.getK q' (fun v => match v with
          | .p l o => m.loadK l o ti.size fun v => resK f m qs' fun vs => K (.ag v :: vs)
          | _ => .no "result") = .ok r := h
        rw [Fr.getK_eq] at h
        replace h := mP h; obtain ⟨l, o, he, h⟩ := h
        rw [he] at hvb
        unfold VR at hvb
        obtain ⟨L, h1, h2⟩ := hvb
        obtain ⟨ys, xs, k1, k2, k3, k4, k5⟩ := loadK_ok hok h h1
        refine step (.agg ⟨xs⟩) (.ag ys) ?_ (by unfold VR; exact ⟨xs, rfl, k3, k4⟩) k5
        simp only [resSem, h2]
        exact Go.Sx.run_loadVar_agg hti hag xs k1 (fun j hj => k2 j (by rw [← k1]; exact hj))
      | false =>
        rw [hag] at h
        have h : f.getK q' (fun v => match v with
          | .p l o => m.load1K l o fun v => resK f m qs' fun vs => K (v :: vs)
          | _ => .no "result") = .ok r := h
        rw [Fr.getK_eq] at h
        replace h := mP h; obtain ⟨l, o, he, h⟩ := h
        rw [he] at hvb
        unfold VR at hvb
        obtain ⟨L, h1, h2⟩ := hvb
        obtain ⟨yv, xv, k1, k2, k3⟩ := load1K_ok hok h h1
        refine step xv yv ?_ k2.1 k3
        simp only [resSem, h2]
        exact Go.Sx.run_loadVar_one hti hag k1

theorem results_ok {S : List Nat} {φ : Lm} {f : Fr} {m : YM} {a : Array Value} {w : World} (hf : FrOk φ S f a) (hok : Ok w0 O B φ m w) {fn : Func} {qs : List (Q ⊕ (Q × Option Nat))} (hq : fn.results.toList.mapM (resOf P S) = some qs)
    {K : List YV → R} (h : resK f m qs K = .ok r) : ∃ v ys, (results fn a).run P w = .ok v w ∧ VR φ (oneV ys) v ∧ K ys = .ok r := by
  obtain ⟨vs, ys, h1, h2, h3⟩ := resK_ok hf hok hq h
  have hm : (fn.results.mapM (resSem a)).run P w = .ok ⟨vs⟩ w := by
    rw [Array.mapM_eq_mapM_toList]
    show (List.toArray <$> _ : Sem (Array Value)).run P w = _
    rw [← bind_pure_comp, run_bind_ok h1]
    rfl
  have hres : results fn a = (do let vs ← fn.results.mapM (resSem a); pure (if h : vs.size = 1 then vs[0] else .tuple vs)) := by
    unfold results
    congr 1
  rw [hres, run_bind_ok hm]
  have hl := h2.len
  cases ys with
  | nil =>
    obtain rfl : vs = [] := List.length_eq_zero_iff.1 hl
    exact ⟨_, [], rfl, VR.undef, h3⟩
  | cons y ys =>
    have h2' := h2
    unfold VRs at h2'
    obtain ⟨x, xs, rfl, h4, h5⟩ := h2'
    cases ys with
    | nil =>
      unfold VRs at h5
      subst h5
      exact ⟨x, [y], rfl, h4, h3⟩
    | cons y2 ys =>
      have h5' := h5
      unfold VRs at h5'
      obtain ⟨x2, xs2, rfl, -, -⟩ := h5'
      refine ⟨.tuple ⟨x :: x2 :: xs2⟩, _, by simp, ?_, h3⟩
      show VR φ (.tu _) _
      unfold VR
      exact ⟨_, rfl, h2⟩

theorem Fr.new_get (q : Q) : Fr.new.get q = .u := by
  cases q <;> rename_i i <;> cases i <;> first | rfl | (rename_i j; cases j <;> rfl) | (rename_i j k; cases j <;> cases k <;> rfl)

theorem bodyK_sound (hcall : CallOk P call) (hpu : PureOk call pu) (hm : P.follows .mixedOrders = true) {S : List Nat} {g : FuncId} {fn : Func} {f : F} (hfn : P.funcs[g]? = some fn) (hcf : compF P pu S fn = some f) {vs : List YV} {xs : List Value} {φ : Lm} {m : YM}
    {w : World} {K : YV → YM → R} (h : bodyK call f vs m K = .ok r) (hok : Ok w0 O B φ m w) (hv : VRs φ vs xs) :
    Callable P g ∧ Calls P g xs.toArray w fun e w' => ∃ v, e = .returned v ∧ Post w0 O B φ K r v w' := by
  unfold compF at hcf
  simp only [Option.bind_eq_bind, Option.bind_eq_some_iff] at hcf
  obtain ⟨c, hb, hcf⟩ := hcf
  split at hcf
  · rename_i hcond
    simp only [Bool.and_eq_true, decide_eq_true_eq, bne_iff_ne, ne_eq] at hcond
    obtain ⟨⟨⟨hn, -⟩, hds⟩, hnm⟩ := hcond
    simp only [Option.bind_eq_some_iff, Option.some.injEq] at hcf
    obtain ⟨c', hc, qs, hqs, rfl⟩ := hcf
    have h : argsK ((List.range (fn.params.size + fn.nfree)).map (qOf S)) vs Fr.new (fun f => codeK call c' f m fun e f m => match e with
      | .ext _ => .no "exit"
      | _ => resK f m qs fun vs => K (oneV vs) m) = .ok r := h
    have hlen := hv.len
    have hget : ∀ i y, vs[i]? = some y → VR φ y ((xs.toArray ++ Array.replicate (fn.ntmps - xs.toArray.size) undef).getD (0 + i) undef) := fun i y hy => by
      obtain ⟨x, h1, h2⟩ := hv.get hy
      have hi : i < xs.length := (List.getElem?_eq_some_iff.1 h1).1
      rw [Array.getD_eq_getD_getElem?, Nat.zero_add, Array.getElem?_append_left (by simpa using hi)]
      simpa [h1] using h2
    obtain ⟨h1, f0, h2, h3⟩ := argsK_ok (S := S) (φ := φ) (a := xs.toArray ++ Array.replicate (fn.ntmps - xs.toArray.size) undef) (k := 0) h (by rw [List.length_map, List.length_range, List.range_eq_range']) (fun t q _ => by rw [Fr.new_get]; unfold VR; trivial) hget
    rw [List.length_map, List.length_range] at h1
    refine ⟨⟨fn, hfn, by rw [hb]; rfl, by simpa using hnm⟩, calls_of_wp hfn hb ?_⟩
    refine wp_mono (codeK_sound hcall hpu hm (n := fn.ntmps) c c' _ φ f0 m _ w hc hds h3 h2 hok (by simp; omega)) ?_
    rintro e act w' ⟨hdf, φ', f', m', e', hx', hf', hok', hn', hex, hK⟩
    have hfin : ∀ {K' : List YV → R}, K' = (fun vs => K (oneV vs) m') → resK f' m' qs K' = .ok r → act.defers = [] ∧ ∃ v, (results fn act.tmps).run P w' = .ok v w' ∧ ∃ v', Ending.returned v = .returned v' ∧ Post w0 O B φ K r v' w' := by
      intro K' hK' hK
      obtain ⟨v, ys, g1, g2, g3⟩ := results_ok hf' hok' hqs hK
      rw [hK'] at g3
      exact ⟨hdf, v, g1, v, rfl, φ', _, m', hx', hok', g2, g3⟩
    cases e' with
    | nrm =>
      cases e with
      | normal => exact hfin rfl hK
      | _ => exact hex.elim
    | ret =>
      cases e with
      | ret => exact hfin rfl hK
      | _ => exact hex.elim
    | ext i => cases hK
  · cases hcf

/-! ### calls -/

/-- The functions of the table are the program's. -/
def TbOk (P : Program) (pu : List Nat) (tb : Tb) : Prop := ∀ g f, T.get 8 tb.t g = some f → ∃ fn S, P.funcs[g]? = some fn ∧ compF P pu S fn = some f

theorem callK_pure {tb : Tb} (hpt : ∀ g, g ∈ pu → tb.pure g = true) : ∀ d, PureOk (callK tb d) pu
  | 0 => fun g hg vs m K r h => by cases h
  | d + 1 => fun g hg vs m K r h => by
    have hR : ∀ K, callK tb (d + 1) g vs m K = T.getK 8 tb.t g (fun f => Option.rec (motive := fun _ => R) (.no "no function") (fun f => IF (tb.pure g)
      (match bodyK (callK tb d) f vs ⟨m.h, m.n, m.n⟩ (fun v m' => IF (Nat.ble m'.n (m.n + gap)) (IF (Nat.ble m.n m'.lo) (.ok v) (.no "low")) (.no "gap")) with
        | .ok v => natK (m.n + gap) fun n => K v ⟨m.h, n, m.lo⟩
        | .no w => .no w)
      (bodyK (callK tb d) f vs m K)) f) := fun K => rfl
    rw [hR, T.getK_eq] at h
    cases hgt : T.get 8 tb.t g with
    | none => rw [hgt] at h; cases h
    | some f =>
      rw [hgt] at h
      simp only [hpt g hg, IF_true] at h
      cases hbk : bodyK (callK tb d) f vs ⟨m.h, m.n, m.n⟩ (fun v m' => IF (Nat.ble m'.n (m.n + gap)) (IF (Nat.ble m.n m'.lo) (.ok v) (.no "low")) (.no "gap")) with
      | no s => rw [hbk] at h; cases h
      | ok y =>
        rw [hbk] at h
        simp only [natK_eq] at h
        refine ⟨y, h, fun K' => ?_⟩
        rw [hR, T.getK_eq, hgt]
        simp only [hpt g hg, IF_true, hbk, natK_eq]

theorem callK_sound (hm : P.follows .mixedOrders = true) {tb : Tb} (hT : TbOk P pu tb) (hpt : ∀ g, g ∈ pu → tb.pure g = true) : ∀ d, CallOk P (callK tb d)
  | 0 => fun w0 O B φ m w g vs xs K r h => by cases h
  | d + 1 => fun w0 O B φ m w g vs xs K r h hok hv => by
    have ih := callK_sound hm hT hpt d
    have h : T.getK 8 tb.t g (fun f => Option.rec (motive := fun _ => R) (.no "no function") (fun f => IF (tb.pure g)
      (match bodyK (callK tb d) f vs ⟨m.h, m.n, m.n⟩ (fun v m' => IF (Nat.ble m'.n (m.n + gap)) (IF (Nat.ble m.n m'.lo) (.ok v) (.no "low")) (.no "gap")) with
        | .ok v => natK (m.n + gap) fun n => K v ⟨m.h, n, m.lo⟩
        | .no w => .no w)
      (bodyK (callK tb d) f vs m K)) f) = .ok r := h
    rw [T.getK_eq] at h
    cases hg : T.get 8 tb.t g with
    | none => rw [hg] at h; cases h
    | some f =>
      rw [hg] at h
      obtain ⟨fn, S, hfn, hcf⟩ := hT g f hg
      rcases IF_ok h with ⟨-, h⟩ | ⟨-, h⟩
      · cases hbk : bodyK (callK tb d) f vs ⟨m.h, m.n, m.n⟩ (fun v m' => IF (Nat.ble m'.n (m.n + gap)) (IF (Nat.ble m.n m'.lo) (.ok v) (.no "low")) (.no "gap")) with
        | no s => rw [hbk] at h; cases h
        | ok y =>
          rw [hbk] at h
          simp only [natK_eq] at h
          have hok1 : Ok w0 O m.get φ ⟨m.h, m.n, m.n⟩ w := ⟨hok.os, hok.tape, hok.output, hok.size, hok.keep, hok.fresh, Nat.le_refl _, hok.blk, hok.apart, fun l _ => rfl⟩
          obtain ⟨c1, c2⟩ := bodyK_sound ih (callK_pure hpt d) hm hfn hcf hbk hok1 hv
          refine ⟨c1, c2.mono ?_⟩
          rintro e w' ⟨v, rfl, φ', y', m', hx, hok', hy, hK⟩
          rcases IF_ok hK with ⟨hb, hK⟩ | ⟨-, hK⟩
          · rcases IF_ok hK with ⟨hb2, hK⟩ | ⟨-, hK⟩
            · have hlo := Nat.le_of_ble_eq_true hb2
              cases hK
              have hle := Nat.le_of_ble_eq_true hb
              have hlow : ∀ l b, m.get l = some b → m'.get l = some b := fun l b hb => by
                obtain ⟨L, h1, -⟩ := hok.blk l b hb
                rw [hok'.low l (Nat.lt_of_lt_of_le (hok.fresh l L h1) hlo), hb]
              refine ⟨v, rfl, φ', y, ⟨m.h, m.n + gap, m.lo⟩, hx, ⟨hok'.os, hok'.tape, hok'.output, hok'.size, hok'.keep, fun l L hl => ?_, ?_, fun l b hb => hok'.blk l b (hlow l b hb), ?_, hok.low⟩, hy, h⟩
              · exact Nat.lt_of_lt_of_le (hok'.fresh l L hl) hle
              · have := hok.lon
                show m.lo ≤ m.n + gap
                omega
              · intro l l' b b' L L' hne h1 h2 h3 h4 h5
                exact hok'.apart l l' b b' L L' hne (hlow _ _ h1) (hlow _ _ h2) h3 h4 h5
            · cases hK
          · cases hK
      · exact bodyK_sound ih (callK_pure hpt d) hm hfn hcf h hok hv

end
end Go.Ye

