/- Parts of the proof: SyW. -/
import Derived.ChangeKeysEq
import Derived.Laws.StructEq
import Derived.LoopN
import Derived.Test.YtakammghcodmgaaGreatDoorQP
import Derived.Test.YtakammghcodmgaaGreatDoorQI
namespace Go.Sx
open Go
set_option linter.unusedVariables false

section
variable {P : Program} {w0 : World} {R : Nat → Nat → Prop} {av : Nat → Prop} {bs : List (Nat × Nat)} {cs : List (List Value)} {F : Fx} {tab : Tab}

theorem run_equalIn_i64 {t : TypeId} (h : P.underlying t = some (.int .i64)) (d : Nat) (a b : Int) (w : World) : (Op.equalIn (d + 1) t (.int .i64 a) (.int .i64 b)).run P w = .ok (a == b) w := by
 unfold Op.equalIn
 rw [run_bind_ok (run_underlying' h w)]
 rfl

/-- Two cells are equal: numbers or truth values. -/
theorem run_eqItems_cells {e : TypeId} (he : P.underlying e = some (.int .i64) ∨ P.underlying e = some .bool) (d : Nat) (xs ys : Array Value) (w : World) : ∀ (is : List Nat),
 (∀ i ∈ is, ∃ x y, xs[i * 1]? = some x ∧ ys[i * 1]? = some y ∧ ((P.underlying e = some (.int .i64) ∧ ∃ a b, x = .int .i64 a ∧ y = .int .i64 b) ∨ (P.underlying e = some .bool ∧ ∃ a b, x = .bool a ∧ y = .bool b))) →
 (Op.eqItems (d + 1) e 1 xs ys is).run P w = .ok (is.all fun i => cellEq ((xs[i * 1]?).getD undef) ((ys[i * 1]?).getD undef)) w
 | [], _ => by simp [Op.eqItems]
 | i :: is, h => by
  obtain ⟨x, y, h1, h2, h3⟩ := h i (List.mem_cons_self ..)
  have ih := run_eqItems_cells he d xs ys w is fun j hj => h j (List.mem_cons_of_mem _ hj)
  unfold Op.eqItems
  rw [List.all_cons]
  have hxy : cellEq ((xs[i * 1]?).getD undef) ((ys[i * 1]?).getD undef) = cellEq x y := by rw [h1, h2]; rfl
  rw [hxy]
  rcases h3 with ⟨hi, a, b, rfl, rfl⟩ | ⟨hb, a, b, rfl, rfl⟩
  · rw [run_bind_ok (run_part1 hi rfl h1 w), run_bind_ok (run_part1 hi rfl h2 w), run_bind_ok (run_equalIn_i64 hi d _ _ w)]
    show _ = Result.ok ((a == b) && _) w
    cases hb : (a == b) with
    | true =>
     simp only [Bool.not_true, Bool.false_eq_true, if_false, Bool.true_and]
     exact ih
    | false => simp
  · rw [run_bind_ok (run_part1 hb rfl h1 w), run_bind_ok (run_part1 hb rfl h2 w), run_bind_ok (Sx.run_equalIn_bool (P := P) hb d _ _ w)]
    show _ = Result.ok ((a == b) && _) w
    cases hb : (a == b) with
    | true =>
     simp only [Bool.not_true, Bool.false_eq_true, if_false, Bool.true_and]
     exact ih
    | false => simp

/-- What two arrays of n numbers or truth values have in common: all of their cells, or not. -/
def arrEq (n : Nat) (xs ys : List Value) : Bool := (List.range n).all fun i => cellEq ((xs[i]?).getD undef) ((ys[i]?).getD undef)
def Cell1 (P : Program) (e : TypeId) (xs ys : List Value) (k : Nat) : Prop := ∃ x y, xs[k]? = some x ∧ ys[k]? = some y ∧ ((P.underlying e = some (.int .i64) ∧ ∃ a b, x = .int .i64 a ∧ y = .int .i64 b) ∨ (P.underlying e = some .bool ∧ ∃ a b, x = .bool a ∧ y = .bool b))

theorem run_equal_arr {t e : TypeId} {n : Nat} {i : TypeInfo} (hu : P.underlying t = some (.array n e)) (he : P.underlying e = some (.int .i64) ∨ P.underlying e = some .bool) (hi : P.info? e = some i) (hc : P.cellsOf e = 1) {xs ys : List Value} (hf : ∀ k, k < n → Cell1 P e xs ys k) (w : World) :
 (Op.equalIn 10000 t (.agg ⟨xs⟩) (.agg ⟨ys⟩)).run P w = .ok (arrEq n xs ys) w := by
 show (Op.equalIn (9999 + 1) t _ _).run P w = _
 rw [run_equalIn_array w 9999 ⟨xs⟩ ⟨ys⟩ hu hi, hc]
 have h := run_eqItems_cells he 9998 ⟨xs⟩ ⟨ys⟩ w (List.range n) fun k hk => by
  have := hf k (List.mem_range.1 hk)
  rw [Nat.mul_one, List.getElem?_toArray, List.getElem?_toArray]
  exact this
 simp only [Nat.mul_one, List.getElem?_toArray] at h
 exact h

theorem XRead.eqArr {t e : TypeId} {n : Nat} {i : TypeInfo} (hu : P.underlying t = some (.array n e)) (he : P.underlying e = some (.int .i64) ∨ P.underlying e = some .bool) (hi : P.info? e = some i) (hc : P.cellsOf e = 1) (hg : P.eqGuardType P.depth t = false) {xs ys : List Value} (hf : ∀ k, k < n → Cell1 P e xs ys k) {x y : Operand} {K : Value → Prop}
 (h : K (.bool (arrEq n xs ys))) : XRead P w0 R av (do eqGuard .eql t x y (.agg ⟨xs⟩) (.agg ⟨ys⟩); binOp .eql t (.agg ⟨xs⟩) (.agg ⟨ys⟩)) bs cs F K := by
 refine (XRead_iff _ _ _ _).2 ⟨_, fun w _ => ?_, h⟩
 rw [run_bind_ok (run_eqGuard_agg w .eql t x y _ _ hg), run_eql_struct, run_equal_arr hu he hi hc hf w]
 rfl

theorem XRead.neArr {t e : TypeId} {n : Nat} {i : TypeInfo} (hu : P.underlying t = some (.array n e)) (he : P.underlying e = some (.int .i64) ∨ P.underlying e = some .bool) (hi : P.info? e = some i) (hc : P.cellsOf e = 1) (hg : P.eqGuardType P.depth t = false) {xs ys : List Value} (hf : ∀ k, k < n → Cell1 P e xs ys k) {x y : Operand} {K : Value → Prop}
 (h : K (.bool (!(arrEq n xs ys)))) : XRead P w0 R av (do eqGuard .neq t x y (.agg ⟨xs⟩) (.agg ⟨ys⟩); binOp .neq t (.agg ⟨xs⟩) (.agg ⟨ys⟩)) bs cs F K := by
 refine (XRead_iff _ _ _ _).2 ⟨_, fun w _ => ?_, h⟩
 rw [run_bind_ok (run_eqGuard_agg w .neq t x y _ _ hg), run_neq_struct, run_equal_arr hu he hi hc hf w]
 rfl

/-- Every cell is a number, or every one a truth value. -/
theorem cell1_ints {e : TypeId} (he : P.underlying e = some (.int .i64)) {as bs' : List Int} {n : Nat} (ha : as.length = n) (hb : bs'.length = n) : ∀ k, k < n → Cell1 P e (as.map (Value.int .i64)) (bs'.map (Value.int .i64)) k := fun k hk =>
 ⟨.int .i64 (as[k]'(by omega)), .int .i64 (bs'[k]'(by omega)), by rw [List.getElem?_map, List.getElem?_eq_getElem (by omega)]; rfl, by rw [List.getElem?_map, List.getElem?_eq_getElem (by omega)]; rfl, .inl ⟨he, _, _, rfl, rfl⟩⟩

theorem havocK_nil {l : List SV} {n : Nat} {K : List SV → Prop} (h : K l) : havocK [] l n K := by
 induction l generalizing n K with
 | nil => exact h
 | cons x xs ih => exact ih h

theorem FLe.refl : ∀ (l : List SV), FLe l l
 | [] => FLe.nil
 | _ :: l => FLe.cons (FLe.refl l)

/-- A loop that is left in its first round. -/
theorem XStop.once (hT : TabOk P tab) {body : Code} {tm : List SV} {bs : List (Nat × Nat)} {cs : List (List Value)} {D : Fx} {K : Exit → KT}
 (h : xc P tab w0 R av body tm bs cs D (loopK (ι := Unit) (fun _ => True) (fun _ => []) (fun _ => cs) (fun _ => D) (fun _ => 0) () tm bs K)) : XStop P w0 R av (.loop body) tm bs cs D K :=
 XStop.loop hT (ι := Unit) [] (fun _ => True) (fun _ => []) (fun _ => cs) (fun _ => D) (fun _ => 0) () trivial (havocK_nil (FLe.refl tm)) rfl (Ent.refl _) fun _ _ => havocK_nil h

/-- A loop that is left within n rounds, walked round by round. -/
def xcRounds (P : Program) (tab : Tab) (w0 : World) (R : Nat → Nat → Prop) (av : Nat → Prop) (c : Code) (K : Exit → KT) : Nat → KT
 | 0 => fun _ _ _ _ => False
 | n + 1 => fun tm bs cs D => xc P tab w0 R av c tm bs cs D fun e => match e with
  | .normal => xcRounds P tab w0 R av c K n
  | e => K e

theorem XStop.rounds (hT : TabOk P tab) {body : Code} {tm : List SV} {bs : List (Nat × Nat)} {cs : List (List Value)} {D : Fx} {K : Exit → KT} (n : Nat) (h : xcRounds P tab w0 R av body K n tm bs cs D) : XStop P w0 R av (.loop body) tm bs cs D K := by
 have key : ∀ (n : Nat) (tm : List SV) (bs : List (Nat × Nat)) (cs : List (List Value)) (D : Fx) (a : Array Value) (w : World), xcRounds P tab w0 R av body K n tm bs cs D → FrameOk bs tm a → St w0 R av w bs cs D → Code.rounds P body (Lift w0 R av K) n ⟨a, []⟩ w := by
  intro n
  induction n with
  | zero => intro tm bs cs D a w h hf hst; exact h.elim
  | succ n ih =>
   intro tm bs cs D a w h hf hst
   refine wp_mono (xc_sound hT body _ _ _ _ _ _ _ h hf hst) ?_
   rintro e act w' ⟨hd, tm', bs', cs', D', h1, h2, h3⟩
   cases e with
   | normal =>
    show Code.rounds P body (Lift w0 R av K) n act w'
    rw [act_eta hd]
    exact ih tm' bs' cs' D' _ _ h3 h1 h2
   | _ => exact ⟨hd, tm', bs', cs', D', h1, h2, h3⟩
 exact XStop_iff.2 fun a w hf hst => wp_loop_rounds n (key n tm bs cs D a w h hf hst)
end
end Go.Sx
