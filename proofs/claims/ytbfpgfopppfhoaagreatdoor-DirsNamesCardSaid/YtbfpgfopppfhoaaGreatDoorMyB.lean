/- The executors, part MyB: many small texts in one. -/
import Derived.Test.YtbfpgfopppfhoaaGreatDoorMyA

/- Ye, part H: operations that look at values, on. -/
namespace Go.Ye
open Go.Sx (TI TK mkTI mkTI_parts run_bind_ok run_pure run_value run_skip run_underlying' run_sizeOf run_zero run_isAgg run_part_agg run_part_one struct_of arr_of mkTK map_toList execOp_call_builtin execOp_call_func Callable run_callFunc fill_step oneCell Addr.add_none lt_of_some some_of_lt slice_of string_of run_bound int_of stepB byteV run_bytes_loop)
set_option linter.unusedVariables false
set_option linter.constructorNameAsVariable false
set_option linter.unusedSimpArgs false

section
variable {P : Program} {w0 : World} {O : Nat → Prop} {B : Nat → Option YB} {φ : Lm} {m : YM} {w : World} {r : YV} {ev : Ev} {xOf : Operand → Option X} {ρ : Operand → Value} {K : YV → YM → R}
  {call : FuncId → List YV → YM → (YV → YM → R) → R} {dst : Option Tmp} {ty : TypeId} {pos : String} {after : Array Edge} {guard : Option (Nat × Bool)} {y : Ye.O}

theorem lenOfK_ok {x : YV} {K : Nat → R} (h : lenOfK x K = .ok r) :
    ∃ n, K n = .ok r ∧ (x = .sn ∧ n = 0 ∨ (∃ l o e z, x = .sl l o n e z) ∨ ∃ s, x = .s s ∧ n = s.length) := by
  unfold lenOfK at h
  split at h
  · exact ⟨0, h, .inl ⟨rfl, rfl⟩⟩
  · exact ⟨_, h, .inr (.inl ⟨_, _, _, _, rfl⟩)⟩
  · rw [lenL_eq] at h
    exact ⟨_, h, .inr (.inr ⟨_, rfl, by omega⟩)⟩
  · cases h

theorem takeK_ok {α : Type} : ∀ {n : Nat} {l : List α} {K : List α → R}, takeK n l K = .ok r → n ≤ l.length ∧ K (l.take n) = .ok r
  | 0, l, K, h => ⟨by simp, by simpa [takeK] using h⟩
  | n + 1, [], K, h => by cases h
  | n + 1, x :: l, K, h => by
    have := takeK_ok (n := n) (l := l) h
    exact ⟨by simp; omega, by simpa using this.2⟩

theorem dropK_ok {α : Type} : ∀ {n : Nat} {l : List α} {K : List α → R}, dropK n l K = .ok r → n ≤ l.length ∧ K (l.drop n) = .ok r
  | 0, l, K, h => ⟨by simp, by simpa [dropK] using h⟩
  | n + 1, [], K, h => by cases h
  | n + 1, x :: l, K, h => by
    have := dropK_ok (n := n) (l := l) h
    exact ⟨by simp; omega, by simpa using this.2⟩

theorem VRs.drop {φ : Lm} : ∀ {n : Nat} {ys : List YV} {xs : List Value}, VRs φ ys xs → VRs φ (ys.drop n) (xs.drop n)
  | 0, _, _, h => by simpa using h
  | n + 1, [], _, h => by unfold VRs at h; subst h; simp; unfold VRs; rfl
  | n + 1, y :: ys, _, h => by
    unfold VRs at h
    obtain ⟨x, xs, rfl, _, h3⟩ := h
    simpa using VRs.drop (n := n) h3

theorem VRs.take {φ : Lm} : ∀ {n : Nat} {ys : List YV} {xs : List Value}, VRs φ ys xs → VRs φ (ys.take n) (xs.take n)
  | 0, _, _, h => by simp; unfold VRs; rfl
  | n + 1, [], _, h => by unfold VRs at h; subst h; simp; unfold VRs; rfl
  | n + 1, y :: ys, _, h => by
    unfold VRs at h
    obtain ⟨x, xs, rfl, h2, h3⟩ := h
    simp only [List.take_succ_cons]
    unfold VRs
    exact ⟨x, _, rfl, h2, VRs.take (n := n) h3⟩

/-- A part of an aggregate. -/
theorem part_ok {t : TypeId} {te : TI} (hte : mkTI P t = some te) {l : List YV} {vs : List Value} (hv : VRs φ l vs) (h1 : ∀ x ∈ l, one1 x = true) {off : Nat} {K : YV → R}
    (h : dropK off l (fun l => match te.k.agg with
      | true => takeK te.size l fun l => K (.ag l)
      | false => nthK l 0 fun v => K v) = .ok r) (w : World) : ∃ y v, (part t ⟨vs⟩ off).run P w = .ok v w ∧ VR φ y v ∧ K y = .ok r := by
  obtain ⟨i, d, z, g1, g2, g3, g4, g5, g6, -, -⟩ := mkTI_parts hte
  obtain ⟨h2, h3⟩ := dropK_ok h
  cases ha : te.k.agg with
  | true =>
    rw [ha] at h3
    simp only at h3
    obtain ⟨h4, h5⟩ := takeK_ok h3
    refine ⟨_, _, run_part_agg g1 g2 (by rw [← g4]; exact ha) vs off w, ?_, h5⟩
    unfold VR
    rw [← g5]
    exact ⟨_, rfl, (hv.drop).take, fun x hx => h1 x (List.mem_of_mem_drop (List.mem_of_mem_take hx))⟩
  | false =>
    rw [ha] at h3
    simp only at h3
    obtain ⟨y, h4, h5⟩ := nthK_ok h3
    rw [List.getElem?_drop, Nat.add_zero] at h4
    obtain ⟨x, h6, h7⟩ := hv.get h4
    exact ⟨y, x, run_part_one g2 (by rw [← g4]; exact ha) vs off h6 w, h7, h5⟩

theorem go_field {s : TypeId} {x : Operand} {f : Nat} (hc : compO P xOf (.field s x f) = some y) (he : EvOk φ ev xOf ρ) (hok : Ok w0 O B φ m w) (h : opK call y ev m K = .ok r) :
    Goes P (execOp ρ ⟨dst, .field s x f, ty, pos, after, guard⟩) w (Post w0 O B φ K r) := by
  simp only [compO, Option.bind_eq_bind, Option.bind_eq_some_iff] at hc
  obtain ⟨ti, hti, hc⟩ := hc
  split at hc
  · rename_i hk
    simp only [Option.bind_eq_some_iff, Option.some.injEq] at hc
    obtain ⟨z, hz, a, ha, rfl⟩ := hc
    have h : op_fd z.1 z.2.1 z.2.2 a ev m K = .ok r := h
    replace h := he.get ha h; obtain ⟨v, hv, h⟩ := h
    split at h
    · rename_i l
      unfold VR at hv
      obtain ⟨vs, h1, h2, h3⟩ := hv
      obtain ⟨i, d, zv, g1, g2, g3, g4, g5, g6, -, g7⟩ := mkTI_parts hti
      rw [g4] at hk
      obtain ⟨fs, rfl⟩ := struct_of hk
      obtain ⟨hall, ho⟩ := g7 fs rfl
      rw [ho, List.getElem?_map, Option.map_eq_some_iff] at hz
      obtain ⟨fd, hf, rfl⟩ := hz
      have hf' : fs[f]? = some fd := by rw [← Array.getElem?_toList]; exact hf
      obtain ⟨fi, hfi⟩ := Option.isSome_iff_exists.1 (hall fd (Array.mem_of_getElem? hf')).1
      obtain ⟨dd, hdd⟩ := Option.isSome_iff_exists.1 (hall fd (Array.mem_of_getElem? hf')).2
      have hcs : P.cellsOf fd.type = fi.size := by simp [Program.cellsOf, hfi]
      simp only [hdd, hcs, Option.map_some, Option.getD_some] at h
      obtain ⟨q1, q2⟩ := dropK_ok h
      have hrun : (Instr.field s (.agg ⟨vs⟩) f).run P w = (part fd.type ⟨vs⟩ fd.offset).run P w := by
        unfold Instr.field
        rw [run_bind_ok (run_underlying' g2 w)]
        simp only [hf']
        rw [run_bind_ok (m := asAgg _) (a := ⟨vs⟩) (w' := w) rfl]
      cases hag : (mkTK dd).agg with
      | true =>
        rw [hag] at q2
        simp only at q2
        obtain ⟨q3, q4⟩ := takeK_ok q2
        refine .val (sem := Instr.field s (ρ x) f) (by rw [h1, hrun]; exact run_part_agg hfi hdd hag vs _ w) (.here hok ?_ q4)
        unfold VR
        exact ⟨_, rfl, (h2.drop).take, fun x hx => h3 x (List.mem_of_mem_drop (List.mem_of_mem_take hx))⟩
      | false =>
        rw [hag] at q2
        simp only at q2
        obtain ⟨y', q3, q4⟩ := nthK_ok q2
        rw [List.getElem?_drop, Nat.add_zero] at q3
        obtain ⟨u, q5, q6⟩ := h2.get q3
        exact .val (sem := Instr.field s (ρ x) f) (by rw [h1, hrun]; exact run_part_one hdd hag vs _ q5 w) (.here hok q6 q4)
    · cases h
  · cases hc

/-! ### elements -/

theorem str_get {l : List Nat} {k c : Nat} (h : l[k]? = some c) : (str l)[k]? = some (UInt8.ofNat c) := by
  have hk : k < l.length := (List.getElem?_eq_some_iff.1 h).1
  have hk' : k < (str l).size := by rw [str_size]; exact hk
  rw [getElem?_pos (str l) k hk']
  congr 1
  have hd : (str l).data = (l.map UInt8.ofNat).toArray := rfl
  show (str l).data[k]'hk' = _
  have : (str l).data[k]? = some (UInt8.ofNat c) := by rw [hd]; simp [h]
  have h3 : (str l).data[k]? = some ((str l).data[k]'hk') := Array.getElem?_eq_getElem hk'
  rw [this] at h3
  exact (Option.some.inj h3).symm

theorem toNat_ofNat {c : Nat} (h : c < 256) : (UInt8.ofNat c).toNat = c := by simp [UInt8.toNat_ofNat, Nat.mod_eq_of_lt h]

theorem go_index {t : TypeId} {x i : Operand} (hc : compO P xOf (.index t x i) = some y) (he : EvOk φ ev xOf ρ) (hok : Ok w0 O B φ m w) (h : opK call y ev m K = .ok r) :
    Goes P (execOp ρ ⟨dst, .index t x i, ty, pos, after, guard⟩) w (Post w0 O B φ K r) := by
  simp only [compO, Option.bind_eq_bind, Option.bind_eq_some_iff] at hc
  obtain ⟨ti, hti, hc⟩ := hc
  obtain ⟨inf, d, zv, g1, g2, g3, g4, g5, g6, -, -⟩ := mkTI_parts hti
  split at hc
  · rename_i n e hk
    simp only [Option.bind_eq_some_iff, Option.some.injEq] at hc
    obtain ⟨te, hte, a, ha, b, hb, rfl⟩ := hc
    rw [g4] at hk
    obtain rfl := arr_of hk
    have h : op_ix n te.size te.k.agg a b ev m K = .ok r := h
    replace h := he.get ha h; obtain ⟨v, hv, h⟩ := h
    replace h := he.get hb h; obtain ⟨u, hu, h⟩ := h
    replace h := mN h; obtain ⟨ik, k, rfl, h⟩ := h
    replace h := mAg h; obtain ⟨l, rfl, h⟩ := h
    obtain ⟨hk, h⟩ := mLt h
    unfold VR at hv hu
    obtain ⟨vs, h1, h2, h3⟩ := hv
    obtain ⟨i2, d2, z2, p1, p2, p3, p4, p5, p6, -, -⟩ := mkTI_parts hte
    obtain ⟨y', v', q1, q2, q3⟩ := part_ok (P := P) hte h2 h3 (off := Nat.mul k te.size) (K := fun v => K v m) h w
    refine .val (sem := Instr.index t (ρ x) (ρ i)) (v := v') (w' := w) ?_ (.here hok q2 q3)
    rw [h1, hu]
    unfold Instr.index
    rw [run_bind_ok (m := asIntOf _) (a := (ik, (k : Int))) (w' := w) rfl, run_bind_ok (run_underlying' g2 w)]
    simp only
    rw [if_pos ⟨by simp, by simp; omega⟩, run_bind_ok (run_sizeOf p1 w), ← p5]
    exact q1
  · rename_i hk
    simp only [Option.bind_eq_some_iff, Option.some.injEq] at hc
    obtain ⟨a, ha, b, hb, rfl⟩ := hc
    rw [g4] at hk
    obtain rfl := string_of hk
    have h : op_is a b ev m K = .ok r := h
    replace h := he.get ha h; obtain ⟨v, hv, h⟩ := h
    replace h := he.get hb h; obtain ⟨u, hu, h⟩ := h
    replace h := mN h; obtain ⟨ik, k, rfl, h⟩ := h
    replace h := mS h; obtain ⟨l, rfl, h⟩ := h
    obtain ⟨c, h1, h2⟩ := nthK_ok h
    unfold VR at hv hu
    obtain ⟨hv1, hv2⟩ := hv
    have hcl := hv2 c (List.mem_of_getElem? h1)
    refine .val (sem := Instr.index t (ρ x) (ρ i)) (v := .int .u8 (c : Int)) (w' := w) ?_ (.here hok (by unfold VR; rfl) h2)
    rw [hv1, hu]
    unfold Instr.index
    rw [run_bind_ok (m := asIntOf _) (a := (ik, (k : Int))) (w' := w) rfl, run_bind_ok (run_underlying' g2 w)]
    have e1 : (if (0 : Int) ≤ (k : Int) then (str l)[((k : Int)).toNat]? else none) = some (UInt8.ofNat c) := by
      rw [if_pos (by omega)]
      exact str_get h1
    show (match (if (0 : Int) ≤ (k : Int) then (str l)[((k : Int)).toNat]? else none) with
      | some b => (pure (.int .u8 b.toNat) : Sem Value)
      | none => boundsPanic ik (k : Int) (str l).size .index).run P w = _
    rw [e1]
    simp only [toNat_ofNat hcl]
    rfl
  · cases hc

theorem go_indexAddr {t : TypeId} {x i : Operand} (hc : compO P xOf (.indexAddr t x i) = some y) (he : EvOk φ ev xOf ρ) (hok : Ok w0 O B φ m w) (h : opK call y ev m K = .ok r) :
    Goes P (execOp ρ ⟨dst, .indexAddr t x i, ty, pos, after, guard⟩) w (Post w0 O B φ K r) := by
  simp only [compO, Option.bind_eq_bind, Option.bind_eq_some_iff] at hc
  obtain ⟨ti, hti, hc⟩ := hc
  obtain ⟨inf, d, zv, g1, g2, g3, g4, g5, g6, -, -⟩ := mkTI_parts hti
  split at hc
  · rename_i e hk
    simp only [Option.bind_eq_some_iff, Option.some.injEq] at hc
    obtain ⟨te, hte, a, ha, b, hb, rfl⟩ := hc
    rw [g4] at hk
    obtain rfl := slice_of hk
    obtain ⟨i2, d2, z2, p1, p2, p3, p4, p5, p6, -, -⟩ := mkTI_parts hte
    have h : op_ia te.size a b ev m K = .ok r := h
    replace h := he.get ha h; obtain ⟨v, hv, h⟩ := h
    replace h := he.get hb h; obtain ⟨u, hu, h⟩ := h
    replace h := mN h; obtain ⟨ik, k, rfl, h⟩ := h
    replace h := mSl h; obtain ⟨l, o, n, e', z', rfl, h⟩ := h
    obtain ⟨hk, h⟩ := mLt h
    rw [natK_eq] at h
    unfold VR at hv hu
    obtain ⟨L, ad, cap, h1, h2, h3, h4, h5, h6, h7⟩ := hv
    have had := h7 (by omega)
    refine .val (sem := Instr.indexAt t (ρ x) (ρ i)) (v := .pointer (some ⟨L.blk, L.base + (o + k * te.size), none⟩)) (w' := w) ?_ (.here hok (by unfold VR; exact ⟨L, h1, rfl⟩) h)
    rw [h2, hu, had]
    unfold Instr.indexAt
    rw [run_bind_ok (m := asIntOf _) (a := (ik, (k : Int))) (w' := w) rfl, run_bind_ok (run_underlying' g2 w)]
    simp only
    rw [run_bind_ok (run_pure P _ w)]
    simp only
    rw [run_bind_ok (run_underlying' g2 w)]
    simp only
    rw [if_pos ⟨by simp, by simp; omega⟩, run_bind_ok (run_sizeOf p1 w), ← p5, Addr.add_none]
    simp only [Int.toNat_natCast, Nat.add_assoc]
    rfl
  · rename_i n e hk
    simp only [Option.bind_eq_some_iff, Option.some.injEq] at hc
    obtain ⟨te, hte, a, ha, b, hb, rfl⟩ := hc
    rw [g4] at hk
    obtain rfl := arr_of hk
    obtain ⟨i2, d2, z2, p1, p2, p3, p4, p5, p6, -, -⟩ := mkTI_parts hte
    have h : op_iA n te.size a b ev m K = .ok r := h
    replace h := he.get ha h; obtain ⟨v, hv, h⟩ := h
    replace h := he.get hb h; obtain ⟨u, hu, h⟩ := h
    replace h := mN h; obtain ⟨ik, k, rfl, h⟩ := h
    replace h := mP h; obtain ⟨l, o, rfl, h⟩ := h
    obtain ⟨hk, h⟩ := mLt h
    rw [natK_eq] at h
    unfold VR at hv hu
    obtain ⟨L, h1, h2⟩ := hv
    refine .val (sem := Instr.indexAt t (ρ x) (ρ i)) (v := .pointer (some ⟨L.blk, L.base + (o + k * te.size), none⟩)) (w' := w) ?_ (.here hok (by unfold VR; exact ⟨L, h1, rfl⟩) h)
    rw [h2, hu]
    unfold Instr.indexAt
    rw [run_bind_ok (m := asIntOf _) (a := (ik, (k : Int))) (w' := w) rfl, run_bind_ok (run_underlying' g2 w)]
    simp only [Instr.sureAddr]
    rw [run_bind_ok (run_pure P _ w)]
    rw [run_bind_ok (run_pure P _ w)]
    simp only
    rw [run_bind_ok (run_underlying' g2 w)]
    simp only
    rw [if_pos ⟨by simp, by simp; omega⟩, run_bind_ok (run_sizeOf p1 w), ← p5, Addr.add_none]
    simp only [Int.toNat_natCast, Nat.add_assoc]
    rfl
  · cases hc

/-! ### numbers out of others -/

theorem go_len {x : Operand} {t : TypeId} (hc : compO P xOf (.call ⟨.builtin .len, ⟨[x]⟩, ⟨[t]⟩⟩) = some y) (he : EvOk φ ev xOf ρ) (hok : Ok w0 O B φ m w) (h : opK call y ev m K = .ok r) :
    Goes P (execOp ρ ⟨dst, .call ⟨.builtin .len, ⟨[x]⟩, ⟨[t]⟩⟩, ty, pos, after, guard⟩) w (Post w0 O B φ K r) := by
  rw [execOp_call_builtin]
  simp only [compO, Option.bind_eq_bind, Option.bind_eq_some_iff] at hc
  obtain ⟨ti, hti, hc⟩ := hc
  obtain ⟨inf, d, zv, g1, g2, g3, g4, g5, g6, -, -⟩ := mkTI_parts hti
  have hrun : ∀ v : Value, ∀ n : Nat, (match d, v with
      | .string, .string s => s.size = n
      | .array k _, _ => k = n
      | .slice _, .slice _ k _ => k = n
      | _, _ => False) → (Builtin.len_ #[t] ty #[v]).run P w = .ok (.int .i64 (n : Int)) w := by
    intro v n hm
    simp only [Builtin.len_]
    simp only [show (#[t] : Array TypeId)[0]? = some t from rfl, show (#[v] : Array Value)[0]? = some v from rfl]
    rw [run_bind_ok (run_underlying' g2 w)]
    split at hm
    · subst hm; rfl
    · subst hm; rfl
    · subst hm; rfl
    · exact hm.elim
  split at hc
  · rename_i e hk
    simp only [Option.map_eq_some_iff] at hc
    obtain ⟨a, ha, rfl⟩ := hc
    rw [g4] at hk
    obtain rfl := slice_of hk
    have h : op_ln a ev m K = .ok r := h
    replace h := he.get ha h; obtain ⟨v, hv, h⟩ := h
    split at h
    · unfold VR at hv
      obtain ⟨L, ad, cap, _, h3, _⟩ := hv
      exact .val (sem := Builtin.len_ #[t] ty #[ρ x]) (hrun (ρ x) _ (by rw [h3])) (.here hok (by unfold VR; rfl) h)
    · unfold VR at hv
      exact .val (sem := Builtin.len_ #[t] ty #[ρ x]) (hrun (ρ x) 0 (by rw [hv])) (.here hok (by unfold VR; rfl) h)
    · cases h
  · rename_i hk
    simp only [Option.map_eq_some_iff] at hc
    obtain ⟨a, ha, rfl⟩ := hc
    rw [g4] at hk
    obtain rfl := string_of hk
    have h : op_ls a ev m K = .ok r := h
    replace h := he.get ha h; obtain ⟨v, hv, h⟩ := h
    replace h := mS h; obtain ⟨l, rfl, h⟩ := h
    rw [lenL_eq] at h
    unfold VR at hv
    exact .val (sem := Builtin.len_ #[t] ty #[ρ x]) (hrun (ρ x) (0 + l.length) (by rw [hv.1]; simp [str_size])) (.here hok (by unfold VR; rfl) h)
  · rename_i n e hk
    cases hc
    rw [g4] at hk
    obtain rfl := arr_of hk
    have h : op_lk n ev m K = .ok r := h
    exact .val (sem := Builtin.len_ #[t] ty #[ρ x]) (hrun (ρ x) n rfl) (.here hok (by unfold VR; rfl) h)
  · cases hc

end
end Go.Ye

/- Ye, part I: conversions, building, slices of slices. -/
namespace Go.Ye
open Go.Sx (TI TK mkTI mkTI_parts run_bind_ok run_pure run_value run_skip run_underlying' run_sizeOf run_zero run_isAgg run_part_agg run_part_one struct_of arr_of mkTK map_toList execOp_call_builtin execOp_call_func Callable run_callFunc fill_step oneCell Addr.add_none lt_of_some some_of_lt slice_of string_of run_bound int_of stepB byteV run_bytes_loop run_mapM_places)
set_option linter.unusedVariables false
set_option linter.constructorNameAsVariable false
set_option linter.unusedSimpArgs false

section
variable {P : Program} {w0 : World} {O : Nat → Prop} {B : Nat → Option YB} {φ : Lm} {m : YM} {w : World} {r : YV} {ev : Ev} {xOf : Operand → Option X} {ρ : Operand → Value} {K : YV → YM → R}
  {call : FuncId → List YV → YM → (YV → YM → R) → R} {dst : Option Tmp} {ty : TypeId} {pos : String} {after : Array Edge} {guard : Option (Nat × Bool)} {y : Ye.O}

/-! ### the elements of a slice -/

theorem firstK_ok (hok : Ok w0 O B φ m w) {z n k : Nat} {x : YV} {v : Value} (hv : VR φ x v) {K : List YV → R} (h : firstK m z n x K = .ok r)
    (hk : x = .sn ∧ k = 0 ∨ (∃ l o e z', x = .sl l o k e z') ∨ ∃ s, x = .s s ∧ k = s.length) (hn : n ≤ k) :
    ∃ ys xs, (∀ d, (Builtin.firstCells z n v).run P { w with drawn := d } = .ok ⟨xs⟩ { w with drawn := d }) ∧ xs.length = n * z ∧ VRs φ ys xs ∧ (∀ y ∈ ys, one1 y = true) ∧ K ys = .ok r := by
  rcases hk with ⟨rfl, rfl⟩ | ⟨l, o, e, z', rfl⟩ | ⟨s, rfl, rfl⟩
  · unfold VR at hv
    subst hv
    have : n = 0 := by omega
    subst this
    exact ⟨[], [], fun _ => rfl, by simp, by unfold VRs; rfl, by simp, h⟩
  · unfold VR at hv
    obtain ⟨L, a, cap, h1, rfl, h3, h4, h5, h6, h7⟩ := hv
    replace h := IF_ok h
    replace h : Nat.beq _ _ = true ∧ _ = R.ok r := h.resolve_right fun h => (by cases h.2)
    obtain ⟨hzz, h⟩ := h
    have hzz := Nat.eq_of_beq_eq_true hzz
    subst hzz
    rw [natK_eq] at h
    obtain ⟨ys, xs, g1, g2, g3, g4, g5⟩ := loadK_ok hok h h1
    refine ⟨ys, xs, fun d => ?_, g1, g3, g4, g5⟩
    unfold Builtin.firstCells
    by_cases hc : cap = 0
    · have : n = 0 := by omega
      subst this
      have : xs = [] := by
        have : xs.length = 0 := by rw [g1]; exact Nat.zero_mul z
        exact List.length_eq_zero_iff.1 this
      subst this
      rw [show (0 : Nat) * z = 0 from Nat.zero_mul z]
      rfl
    · have ha := h7 (by omega)
      subst ha
      have := Go.Sx.run_loadCells (P := P) (w := { w with drawn := d }) (b := L.blk) (o := L.base + o) xs (fun j hj => g2 j (by rw [g1] at hj; exact hj))
      rw [g1] at this
      exact this
  · unfold VR at hv
    obtain ⟨rfl, hb⟩ := hv
    replace h := IF_ok h
    replace h : Nat.beq _ _ = true ∧ _ = R.ok r := h.resolve_right fun h => (by cases h.2)
    obtain ⟨hzz, h⟩ := h
    have hzz := Nat.eq_of_beq_eq_true hzz
    subst hzz
    obtain ⟨g1, g2⟩ := takeK_ok h
    have hbv : ∀ l : List Nat, bytesV l = l.map fun c => .i .u8 (.ofNat c) := fun l => by
      induction l with
      | nil => rfl
      | cons x l ih => simp [bytesV, ih]
    rw [hbv] at g2
    refine ⟨_, List.map (fun c : Nat => Value.int .u8 (c : Int)) (s.take n), fun d => ?_, by simp; omega, VRs.of (by simp) fun i y hy => ?_, fun y hy => ?_, g2⟩
    · unfold Builtin.firstCells
      simp only [run_pure]
      congr 1
      apply Array.toList_inj.1
      have hd : ((str s).extract 0 n).data.toList = ((s.take n).map UInt8.ofNat) := by
        rw [ByteArray.data_extract]
        simp [str, List.extract_eq_take_drop, List.map_take]
      simp only [Array.toList_map, hd, List.map_map]
      refine List.map_congr_left fun c hc => ?_
      have := hb c (List.mem_of_mem_take hc)
      simp [toNat_ofNat this]
    · rw [List.getElem?_map, Option.map_eq_some_iff] at hy
      obtain ⟨c, hc, rfl⟩ := hy
      exact ⟨.int .u8 (c : Int), by rw [List.getElem?_map, hc]; rfl, by unfold VR; rfl⟩
    · rw [List.mem_map] at hy
      obtain ⟨c, _, rfl⟩ := hy
      rfl

theorem bytesK_ok : ∀ {ys : List YV} {xs : List Value} {K : List Nat → R}, VRs φ ys xs → bytesK ys K = .ok r → ∃ l, K l = .ok r ∧ (∀ c ∈ l, c < 256) ∧ xs = l.map fun c : Nat => Value.int .u8 (c : Int)
  | [], xs, K, hv, h => by
    unfold VRs at hv
    subst hv
    exact ⟨[], h, by simp, rfl⟩
  | y :: ys, xs, K, hv, h => by
    unfold VRs at hv
    obtain ⟨x, xs, rfl, h2, h3⟩ := hv
    cases y with
    | i k n =>
      cases k <;> first
        | (cases h; done)
        | (cases n with
          | negSucc n => cases h
          | ofNat n =>
            obtain ⟨h4, h5⟩ := mLt h
            obtain ⟨l, h6, h7, rfl⟩ := bytesK_ok h3 h5
            unfold VR at h2
            subst h2
            refine ⟨n :: l, h6, fun c hc => ?_, rfl⟩
            rcases List.mem_cons.1 hc with rfl | hc
            · exact h4
            · exact h7 c hc)
    | _ => cases h

theorem run_bytesToString' {a : Addr} {n c : Nat} {l : List Nat} (hb : ∀ c ∈ l, c < 256) (h : (loadCells a n).run P w = .ok ⟨l.map fun c : Nat => Value.int .u8 (c : Int)⟩ w) :
    (Conv.bytesToString (.slice (some a) n c)).run P w = .ok (.string (str l)) w := by
  have e : Conv.bytesToString (.slice (some a) n c) = (do let cells ← loadCells a n; let s ← forIn cells ByteArray.empty stepB; pure (.string s)) := rfl
  have hm : (l.map fun c : Nat => Value.int .u8 (c : Int)) = (l.map UInt8.ofNat).map byteV := by
    rw [List.map_map]
    refine List.map_congr_left fun c hc => ?_
    simp [byteV, toNat_ofNat (hb c hc)]
  rw [e, run_bind_ok h, ← Array.forIn_toList, hm]
  have hz := run_bytes_loop (P := P) w (l.map UInt8.ofNat) []
  exact (run_bind_ok (f := fun s => (pure (Value.string s) : Sem Value)) hz).trans rfl

theorem go_convert {s d : TypeId} {x : Operand} (hc : compO P xOf (.convert s d x) = some y) (he : EvOk φ ev xOf ρ) (hok : Ok w0 O B φ m w) (h : opK call y ev m K = .ok r) (hbb : ∀ a, y ≠ .bb a) :
    Goes P (execOp ρ ⟨dst, .convert s d x, ty, pos, after, guard⟩) w (Post w0 O B φ K r) := by
  simp only [compO] at hc
  split at hc
  · rename_i k0 k hs hd
    simp only [Option.map_eq_some_iff] at hc
    obtain ⟨a, ha, rfl⟩ := hc
    have h : op_cv k a ev m K = .ok r := h
    replace h := he.get ha h; obtain ⟨v, hv, h⟩ := h
    split at h
    · rename_i j n
      simp only [retI, intK_eq] at h
      unfold VR at hv
      refine .val (sem := Go.convert s d (ρ x)) (v := .int k (k.wrap n)) (w' := w) ?_ (.here hok (by unfold VR; rfl) h)
      rw [hv]
      unfold Go.convert
      rw [run_bind_ok (run_underlying' hs w), run_bind_ok (run_underlying' hd w)]
      rfl
    · cases h
  · rename_i e hs hd
    split at hc
    · rename_i hu
      simp only [Option.map_eq_some_iff] at hc
      obtain ⟨a, ha, rfl⟩ := hc
      have h : op_b2s a ev m K = .ok r := h
      replace h := he.get ha h; obtain ⟨v, hv, h⟩ := h
      have hrun : ∀ (u : Value) (o : Value), (Conv.bytesToString u).run P w = .ok o w → (Go.convert s d u).run P w = .ok o w ∨ (∃ k n, u = .int k n) ∨ (∃ k n, u = .float k n) ∨ ∃ s, u = .string s := by
        intro u o ho
        unfold Go.convert
        rw [run_bind_ok (run_underlying' hs w), run_bind_ok (run_underlying' hd w)]
        cases u with
        | int k n => exact .inr (.inl ⟨_, _, rfl⟩)
        | float k n => exact .inr (.inr (.inl ⟨_, _, rfl⟩))
        | string s => exact .inr (.inr (.inr ⟨_, rfl⟩))
        | _ =>
          left
          show (do match ← underlying e with
            | .int .u8 => Conv.bytesToString _
            | .int .i32 => Conv.runesToString _
            | _ => stuck "Convert: a slice of what to string?" : Sem Value).run P w = _
          rw [run_bind_ok (run_underlying' hu w)]
          exact ho
      split at h
      · unfold VR at hv
        refine .val (sem := Go.convert s d (ρ x)) (v := .string (str [])) (w' := w) ?_ (.here hok (by unfold VR; exact ⟨rfl, by simp⟩) h)
        rw [hv]
        rcases hrun (.slice none 0 0) (.string (str [])) rfl with h | ⟨_, _, h⟩ | ⟨_, _, h⟩ | ⟨_, h⟩
        · exact h
        all_goals cases h
      · rename_i l o n e' z'
        have hv' := hv
        unfold VR at hv'
        obtain ⟨L, ad, cap, q1, q2, q3, q4, q5, q6, q7⟩ := hv'
        obtain ⟨ys, xs, g1, g2, g3, g4, g5⟩ := loadK_ok hok h q1
        obtain ⟨ls, g6, g7, rfl⟩ := bytesK_ok g3 g5
        refine .val (sem := Go.convert s d (ρ x)) (v := .string (str ls)) (w' := w) ?_ (.here hok (by unfold VR; exact ⟨rfl, g7⟩) g6)
        rw [q2]
        have g1' : ls.length = n := by simpa using g1
        have hl : (loadCells ad n).run P w = .ok ⟨ls.map fun c : Nat => Value.int .u8 (c : Int)⟩ w := by
          by_cases hc : cap = 0
          · have : n = 0 := by omega
            subst this
            have : ls = [] := List.length_eq_zero_iff.1 g1'
            subst this
            rfl
          · have ha := q7 (by omega)
            subst ha
            have := Go.Sx.run_loadCells (P := P) (w := w) (b := L.blk) (o := L.base + o) (ls.map fun c : Nat => Value.int .u8 (c : Int)) (fun j hj => g2 j (by rw [← g1]; exact hj))
            rw [List.length_map, g1'] at this
            exact this
        rcases hrun (.slice (some ad) n cap) (.string (str ls)) (run_bytesToString' g7 hl) with h | ⟨_, _, h⟩ | ⟨_, _, h⟩ | ⟨_, h⟩
        · exact h
        all_goals cases h
      · cases h
    · cases hc
  · split at hc
    · simp only [Option.map_eq_some_iff] at hc
      obtain ⟨a, ha, rfl⟩ := hc
      exact absurd rfl (hbb a)
    · cases hc
  · cases hc

/-! ### the lesser, the greater -/

theorem go_min {x z : Operand} {ts : Array TypeId} (hc : compO P xOf (.call ⟨.builtin .min, ⟨[x, z]⟩, ts⟩) = some y) (he : EvOk φ ev xOf ρ) (hok : Ok w0 O B φ m w) (h : opK call y ev m K = .ok r) :
    Goes P (execOp ρ ⟨dst, .call ⟨.builtin .min, ⟨[x, z]⟩, ts⟩, ty, pos, after, guard⟩) w (Post w0 O B φ K r) := by
  rw [execOp_call_builtin]
  simp only [compO, Option.bind_eq_bind, Option.bind_eq_some_iff, Option.some.injEq] at hc
  obtain ⟨a, ha, b, hb, rfl⟩ := hc
  have h : op_mi a b ev m K = .ok r := h
  replace h := he.get ha h; obtain ⟨u, hu, h⟩ := h
  replace h := he.get hb h; obtain ⟨v, hv, h⟩ := h
  split at h
  · split at h
    · rename_i hk
      have := kindIs_eq hk
      subst this
      simp only [retI, intK_eq] at h
      unfold VR at hu hv
      refine .val (sem := Builtin.min_ ts ty #[ρ x, ρ z]) (w' := w) ?_ (.here hok (by unfold VR; rfl) h)
      rw [hu, hv]
      simp [Builtin.min_]
      rfl
    · cases h
  · cases h

theorem go_max {x z : Operand} {ts : Array TypeId} (hc : compO P xOf (.call ⟨.builtin .max, ⟨[x, z]⟩, ts⟩) = some y) (he : EvOk φ ev xOf ρ) (hok : Ok w0 O B φ m w) (h : opK call y ev m K = .ok r) :
    Goes P (execOp ρ ⟨dst, .call ⟨.builtin .max, ⟨[x, z]⟩, ts⟩, ty, pos, after, guard⟩) w (Post w0 O B φ K r) := by
  rw [execOp_call_builtin]
  simp only [compO, Option.bind_eq_bind, Option.bind_eq_some_iff, Option.some.injEq] at hc
  obtain ⟨a, ha, b, hb, rfl⟩ := hc
  have h : op_ma a b ev m K = .ok r := h
  replace h := he.get ha h; obtain ⟨u, hu, h⟩ := h
  replace h := he.get hb h; obtain ⟨v, hv, h⟩ := h
  split at h
  · split at h
    · rename_i hk
      have := kindIs_eq hk
      subst this
      simp only [retI, intK_eq] at h
      unfold VR at hu hv
      refine .val (sem := Builtin.max_ ts ty #[ρ x, ρ z]) (w' := w) ?_ (.here hok (by unfold VR; rfl) h)
      rw [hu, hv]
      simp [Builtin.max_]
      rfl
    · cases h
  · cases h

end
end Go.Ye

/- Ye, part J: building, slices of slices, reading and writing memory. -/
namespace Go.Ye
open Go.Sx (TI TK mkTI mkTI_parts run_bind_ok run_pure run_value run_skip run_underlying' run_sizeOf run_zero run_isAgg run_part_agg run_part_one struct_of arr_of mkTK map_toList execOp_call_builtin execOp_call_func Callable run_callFunc fill_step oneCell Addr.add_none lt_of_some some_of_lt slice_of string_of run_bound int_of stepB byteV run_bytes_loop run_mapM_places)
set_option linter.unusedVariables false
set_option linter.constructorNameAsVariable false
set_option linter.unusedSimpArgs false

section
variable {P : Program} {w0 : World} {O : Nat → Prop} {B : Nat → Option YB} {φ : Lm} {m : YM} {w : World} {r : YV} {ev : Ev} {xOf : Operand → Option X} {ρ : Operand → Value} {K : YV → YM → R}
  {call : FuncId → List YV → YM → (YV → YM → R) → R} {dst : Option Tmp} {ty : TypeId} {pos : String} {after : Array Edge} {guard : Option (Nat × Bool)} {y : Ye.O}

/-! ### constants -/

theorem vOf1_ok {v : Value} {y : YV} (h : vOf1 v = some y) : VC φ y v := by
  cases v with
  | bool b => simp only [vOf1, Option.some.injEq] at h; subst h; exact ⟨by unfold VR; rfl, rfl⟩
  | int k n => simp only [vOf1, Option.some.injEq] at h; subst h; exact ⟨by unfold VR; rfl, rfl⟩
  | string s =>
    simp only [vOf1, Option.some.injEq] at h
    subst h
    refine ⟨?_, rfl⟩
    unfold VR
    refine ⟨?_, fun c hc => ?_⟩
    · congr 1
      apply ByteArray.ext
      apply Array.toList_inj.1
      rw [str_data, List.map_map]
      have : (UInt8.ofNat ∘ UInt8.toNat) = id := by funext x; simp
      rw [this]
      simp
    · rw [List.mem_map] at hc
      obtain ⟨b, _, rfl⟩ := hc
      exact b.toNat_lt
  | pointer a =>
    cases a with
    | none => simp only [vOf1, Option.some.injEq] at h; subst h; exact ⟨by unfold VR; rfl, rfl⟩
    | some a => cases h
  | slice a n c =>
    cases a with
    | none =>
      cases n with
      | zero =>
        cases c with
        | zero => simp only [vOf1, Option.some.injEq] at h; subst h; exact ⟨by unfold VR; rfl, rfl⟩
        | succ c => cases h
      | succ n => cases h
    | some a => cases h
  | map a =>
    cases a with
    | none => simp only [vOf1, Option.some.injEq] at h; subst h; exact ⟨by unfold VR; rfl, rfl⟩
    | some a => cases h
  | nilFunc => simp only [vOf1, Option.some.injEq] at h; subst h; exact ⟨by unfold VR; rfl, rfl⟩
  | _ => cases h

theorem vOf1s_ok : ∀ {vs : List Value} {ys : List YV}, vs.mapM vOf1 = some ys → VRs φ ys vs ∧ ∀ y ∈ ys, one1 y = true
  | [], ys, h => by simp at h; subst h; exact ⟨by unfold VRs; rfl, by simp⟩
  | v :: vs, ys, h => by
    rw [List.mapM_cons] at h
    simp only [Option.bind_eq_bind, Option.bind_eq_some_iff, Option.pure_def, Option.some.injEq] at h
    obtain ⟨y, h1, ys', h2, rfl⟩ := h
    obtain ⟨g1, g2⟩ := vOf1_ok (φ := φ) h1
    obtain ⟨g3, g4⟩ := vOf1s_ok h2
    refine ⟨by unfold VRs; exact ⟨v, vs, rfl, g1, g3⟩, fun x hx => ?_⟩
    rcases List.mem_cons.1 hx with rfl | hx
    · exact g2
    · exact g4 x hx

theorem vOf_ok {v : Value} {y : YV} (h : vOf v = some y) : VR φ y v := by
  unfold vOf at h
  split at h
  · rename_i c
    simp only [Option.map_eq_some_iff] at h
    obtain ⟨l, h1, rfl⟩ := h
    obtain ⟨g1, g2⟩ := vOf1s_ok (φ := φ) h1
    unfold VR
    exact ⟨c.toList, by simp, g1, g2⟩
  · exact (vOf1_ok h).1

theorem zeroOf_ok {ti : TI} {zs : List YV} (h : zeroOf ti = some zs) : VRs φ zs ti.zero ∧ ∀ y ∈ zs, one1 y = true := vOf1s_ok h

/-! ### building -/

theorem overK_ok : ∀ {o : Nat} {l m : List YV} {K : List YV → R}, overK o l m K = .ok r → o + l.length ≤ m.length ∧ K (m.take o ++ l ++ m.drop (o + l.length)) = .ok r
  | 0, [], m, K, h => ⟨by simp, by simpa [overK] using h⟩
  | 0, y :: l, [], K, h => by cases h
  | 0, y :: l, x :: m, K, h => by
    have := overK_ok (o := 0) (l := l) (m := m) h
    refine ⟨by simp; omega, ?_⟩
    have h2 := this.2
    simp only [Nat.zero_add, List.take_zero, List.nil_append] at h2 ⊢
    rw [List.length_cons, show l.length + 1 = (l.length) + 1 from rfl]
    simpa using h2
  | o + 1, l, [], K, h => by cases h
  | o + 1, l, x :: m, K, h => by
    have := overK_ok (o := o) (l := l) (m := m) h
    refine ⟨by simp; omega, ?_⟩
    rw [show o + 1 + l.length = (o + l.length) + 1 from by omega]
    simpa using this.2

theorem cellsVK_ok {v : YV} {x : Value} (hv : VR φ v x) {K : List YV → R} (h : cellsVK v K = .ok r) : ∃ ys, VRs φ ys x.cells.toList ∧ (∀ y ∈ ys, one1 y = true) ∧ K ys = .ok r := by
  unfold cellsVK at h
  split at h
  · rename_i l
    unfold VR at hv
    obtain ⟨vs, rfl, h1, h2⟩ := hv
    exact ⟨l, h1, h2, h⟩
  · rename_i hna
    rcases IF_ok h with ⟨h1, h2⟩ | ⟨_, h2⟩
    · refine ⟨[v], ?_, by simpa using h1, h2⟩
      have hone := VC.one ⟨hv, h1⟩
      have : x.cells = #[x] := by
        cases x <;> first | rfl | cases hone
      rw [this]
      unfold VRs
      exact ⟨x, [], rfl, hv, by unfold VRs; rfl⟩
    · cases h2

theorem fillK_ok (he : EvOk φ ev xOf ρ) {place place' : Nat → Option (Nat × Nat)} (hp : ∀ i z, place i = some z → place' i = some z) :
    ∀ {ps : List (Nat × Operand)} {qs : List (Nat × Nat × X)} {zs : List YV} {xs : List Value} {K : List YV → R}, partsOf xOf place ps = some qs → VRs φ zs xs → (∀ y ∈ zs, one1 y = true) → fillK ev qs zs K = .ok r →
      ∃ zs' xs', Instr.fill place' ⟨xs⟩ (ps.map fun p => (p.1, ρ p.2)) = some ⟨xs'⟩ ∧ VRs φ zs' xs' ∧ (∀ y ∈ zs', one1 y = true) ∧ zs'.length = zs.length ∧ K zs' = .ok r
  | [], qs, zs, xs, K, hq, hv, h1, h => by
    simp only [partsOf, Option.some.injEq] at hq
    subst hq
    exact ⟨zs, xs, rfl, hv, h1, rfl, h⟩
  | (i, x) :: ps, qs, zs, xs, K, hq, hv, h1, h => by
    simp only [partsOf, Option.bind_eq_bind, Option.bind_eq_some_iff, Option.some.injEq] at hq
    obtain ⟨⟨off, size⟩, hpl, x', hx', qs', hqs', rfl⟩ := hq
    have h : ev x' (fun v => cellsVK v fun vs => natK vs.length fun n => match Nat.beq n size with
      | true => overK off vs zs fun zs => fillK ev qs' zs K
      | false => .no "fill") = .ok r := h
    replace h := he.get hx' h; obtain ⟨v, hvv, h⟩ := h
    obtain ⟨vs, g1, g2, g3⟩ := cellsVK_ok hvv h
    rw [natK_eq] at g3
    cases hb : Nat.beq vs.length size with
    | false => rw [hb] at g3; cases g3
    | true =>
      rw [hb] at g3
      have hsz := Nat.eq_of_beq_eq_true hb
      obtain ⟨g4, g5⟩ := overK_ok g3
      have hl1 := g1.len
      have hl2 := hv.len
      obtain ⟨zs', xs', k1, k2, k3, k4, k5⟩ := fillK_ok he hp hqs' (zs := zs.take off ++ vs ++ zs.drop (off + vs.length)) (xs := xs.take off ++ (ρ x).cells.toList ++ xs.drop (off + vs.length))
        ((hv.take.append g1).append hv.drop) (fun y hy => by
          rcases List.mem_append.1 hy with hy | hy
          · rcases List.mem_append.1 hy with hy | hy
            · exact h1 y (List.mem_of_mem_take hy)
            · exact g2 y hy
          · exact h1 y (List.mem_of_mem_drop hy)) g5
      refine ⟨zs', xs', ?_, k2, k3, ?_, k5⟩
      · rw [List.map_cons, fill_step place' xs i (ρ x) _ off size (hp _ _ hpl) (by omega) (by omega), hl1]
        exact k1
      · rw [k4]
        simp only [List.length_append, List.length_take, List.length_drop]
        omega

theorem go_build {t : TypeId} {ps : List (Nat × Operand)} (hc : compO P xOf (.build t ⟨ps⟩) = some y) (he : EvOk φ ev xOf ρ) (hok : Ok w0 O B φ m w) (h : opK call y ev m K = .ok r) :
    Goes P (execOp ρ ⟨dst, .build t ⟨ps⟩, ty, pos, after, guard⟩) w (Post w0 O B φ K r) := by
  simp only [compO, Option.bind_eq_bind, Option.bind_eq_some_iff] at hc
  obtain ⟨ti, hti, hc⟩ := hc
  obtain ⟨inf, d, zv, g1, g2, g3, g4, g5, g6, -, g7⟩ := mkTI_parts hti
  have hz : zv.cells = ⟨ti.zero⟩ := by rw [g6]
  split at hc
  · rename_i hk
    simp only [Option.bind_eq_some_iff, Option.some.injEq] at hc
    obtain ⟨zs, hzs, qs, hqs, rfl⟩ := hc
    rw [g4] at hk
    obtain ⟨fs, rfl⟩ := struct_of hk
    obtain ⟨hall, ho⟩ := g7 fs rfl
    have h : fillK ev qs zs (fun zs => K (.ag zs) m) = .ok r := h
    obtain ⟨k1, k2⟩ := zeroOf_ok (φ := φ) hzs
    have hpl : ∀ (i : Nat) (z : Nat × Nat), ((ti.offs[i]?).map fun (z : Nat × Nat × Bool) => (z.1, z.2.1)) = some z → ((⟨fs.toList.map fun f => (f.offset, P.cellsOf f.type)⟩ : Array (Nat × Nat))[i]?) = some z := fun i z hz => by
      rw [ho, List.getElem?_map, Option.map_map] at hz
      rw [← Array.getElem?_toList]
      show (fs.toList.map fun f => (f.offset, P.cellsOf f.type))[i]? = some z
      rw [List.getElem?_map]
      exact hz
    obtain ⟨zs', xs', q1, q2, q3, q4, q5⟩ := fillK_ok he hpl hqs k1 k2 h
    refine .val (sem := Instr.build t _) (v := .agg ⟨xs'⟩) (w' := w) ?_ (.here hok (by unfold VR; exact ⟨xs', rfl, q2, q3⟩) q5)
    simp only [map_toList]
    unfold Instr.build
    rw [run_bind_ok (run_zero g1 g3 w), run_bind_ok (run_underlying' g2 w)]
    simp only
    have hm : (fs.mapM fun f => (do pure (f.offset, ← sizeOf f.type) : Sem (Nat × Nat))).run P w = .ok ⟨fs.toList.map fun f => (f.offset, P.cellsOf f.type)⟩ w := by
      rw [Array.mapM_eq_mapM_toList]
      show (List.toArray <$> _ : Sem (Array (Nat × Nat))).run P w = _
      rw [← bind_pure_comp, run_bind_ok (run_mapM_places w fs.toList (fun f hf => (hall f (Array.mem_toList_iff.1 hf)).1))]
      rfl
    rw [run_bind_ok hm]
    simp only [hz, q1]
    rfl
  · rename_i n e hk
    simp only [Option.bind_eq_some_iff, Option.some.injEq] at hc
    obtain ⟨te, hte, zs, hzs, qs, hqs, rfl⟩ := hc
    rw [g4] at hk
    obtain rfl := arr_of hk
    obtain ⟨i2, d2, z2, p1, p2, p3, p4, p5, p6, -, -⟩ := mkTI_parts hte
    have h : fillK ev qs zs (fun zs => K (.ag zs) m) = .ok r := h
    obtain ⟨k1, k2⟩ := zeroOf_ok (φ := φ) hzs
    have hpl : ∀ i z, (if i < n then some (i * te.size, te.size) else none) = some z → (fun i => some (i * te.size, te.size)) i = some z := fun i z hz => by
      split at hz
      · exact hz
      · cases hz
    obtain ⟨zs', xs', q1, q2, q3, q4, q5⟩ := fillK_ok he hpl hqs k1 k2 h
    refine .val (sem := Instr.build t _) (v := .agg ⟨xs'⟩) (w' := w) ?_ (.here hok (by unfold VR; exact ⟨xs', rfl, q2, q3⟩) q5)
    simp only [map_toList]
    unfold Instr.build
    rw [run_bind_ok (run_zero g1 g3 w), run_bind_ok (run_underlying' g2 w)]
    simp only
    rw [run_bind_ok (run_sizeOf p1 w), ← p5]
    simp only [hz, q1]
    rfl
  · cases hc

/-! ### new memory -/

theorem leaf_cell (zs : List YV) (j : Nat) (hj : j < zs.length) : cellAt zs zs.length (.l : T YV) j = zs[j]? := by
  unfold cellAt
  rw [T.get_leaf]
  simp only [Nat.mod_eq_of_lt hj]

/-- A new row of cells. -/
theorem newK_row (hok : Ok w0 O B φ m w) {zs : List YV} {xs : List Value} (hv : VRs φ zs xs) (h1 : ∀ y ∈ zs, one1 y = true) (rest : List Value) {K : Nat → YM → R} (e : TypeId)
    (h : m.newK (.c none true zs.length zs zs.length .l) K = .ok r) :
    ∃ m', Ext φ (upd φ m.n ⟨w.heap.size, 0, (xs ++ rest).length⟩) ∧ Ok w0 O B (upd φ m.n ⟨w.heap.size, 0, (xs ++ rest).length⟩) m' { w with heap := w.heap.push (.cells ⟨xs ++ rest⟩ e) } ∧ K m.n m' = .ok r := by
  obtain ⟨m', k1, k2, k3, k4⟩ := YM.newK_ok h
  refine ⟨m', hok.ext_upd _, hok.new (L := ⟨w.heap.size, 0, (xs ++ rest).length⟩) k2 k3 k4 rfl ?_, k1⟩
  have hl := hv.len
  refine ⟨⟨xs ++ rest⟩, e, (0, 0), push_new, .inl rfl, by simp, by simp; omega, fun j hj => ?_⟩
  rw [leaf_cell zs j hj]
  have hy : zs[j]? = some zs[j] := List.getElem?_eq_getElem hj
  obtain ⟨x, g1, g2⟩ := hv.get hy
  refine ⟨_, x, hy, ?_, g2.ext (hok.ext_upd _), h1 _ (List.mem_of_getElem? hy)⟩
  simp only [Nat.zero_add, List.getElem?_toArray]
  rw [List.getElem?_append_left (by omega)]
  exact g1

theorem go_alloc {t : TypeId} (hc : compO P xOf (.alloc t) = some y) (he : EvOk φ ev xOf ρ) (hok : Ok w0 O B φ m w) (h : opK call y ev m K = .ok r) :
    Goes P (execOp ρ ⟨dst, .alloc t, ty, pos, after, guard⟩) w (Post w0 O B φ K r) := by
  simp only [compO, Option.bind_eq_bind, Option.bind_eq_some_iff, Option.some.injEq] at hc
  obtain ⟨ti, hti, zs, hzs, rfl⟩ := hc
  obtain ⟨inf, d, zv, g1, g2, g3, g4, g5, g6, -, -⟩ := mkTI_parts hti
  have h : m.newK (.c none true zs.length zs zs.length .l) (fun l m => K (.p l 0) m) = .ok r := h
  obtain ⟨k1, k2⟩ := zeroOf_ok (φ := φ) hzs
  obtain ⟨m', q1, q2, q3⟩ := newK_row hok k1 k2 [] t h
  refine .val (sem := Instr.alloc t true (.tuple #[])) (v := .pointer (some ⟨w.heap.size, 0, none⟩)) (w' := { w with heap := w.heap.push (.cells ⟨ti.zero ++ []⟩ t) }) ?_ ⟨_, _, m', q1, q2, ?_, q3⟩
  · unfold Instr.alloc
    rw [run_bind_ok (run_zero g1 g3 w)]
    have : zv.cells = ⟨ti.zero ++ []⟩ := by rw [List.append_nil, g6]
    simp only [newVar, newRow, this]
    rfl
  · unfold VR
    exact ⟨_, upd_self .., rfl⟩

theorem go_box {t : TypeId} {x : Operand} (hc : compO P xOf (.box t x) = some y) (he : EvOk φ ev xOf ρ) (hok : Ok w0 O B φ m w) (h : opK call y ev m K = .ok r) :
    Goes P (execOp ρ ⟨dst, .box t x, ty, pos, after, guard⟩) w (Post w0 O B φ K r) := by
  simp only [compO, Option.map_eq_some_iff] at hc
  obtain ⟨a, ha, rfl⟩ := hc
  have h : op_bx a ev m K = .ok r := h
  replace h := he.get ha h; obtain ⟨v, hv, h⟩ := h
  obtain ⟨vs, k1, k2, h⟩ := cellsVK_ok hv h
  rw [natK_eq] at h
  obtain ⟨m', q1, q2, q3⟩ := newK_row hok k1 k2 [] t h
  refine .val (sem := Instr.box t (ρ x)) (v := .pointer (some ⟨w.heap.size, 0, none⟩)) (w' := { w with heap := w.heap.push (.cells ⟨(ρ x).cells.toList ++ []⟩ t) }) ?_ ⟨_, _, m', q1, q2, ?_, q3⟩
  · unfold Instr.box
    have : (ρ x).cells = ⟨(ρ x).cells.toList ++ []⟩ := by rw [List.append_nil]
    simp only [newVar, newRow]
    rw [this]
    simp
  · unfold VR
    exact ⟨_, upd_self .., rfl⟩

end
end Go.Ye

/- Ye, part K: memory is made, read, written; slices of slices. -/
namespace Go.Ye
open Go.Sx (TI TK mkTI mkTI_parts run_bind_ok run_pure run_value run_skip run_underlying' run_sizeOf run_typeInfo run_zero run_isAgg run_part_agg run_part_one struct_of arr_of mkTK map_toList execOp_call_builtin execOp_call_func Callable run_callFunc fill_step oneCell Addr.add_none lt_of_some some_of_lt slice_of string_of run_bound int_of)
set_option linter.unusedVariables false
set_option linter.constructorNameAsVariable false
set_option linter.unusedSimpArgs false

section
variable {P : Program} {w0 : World} {O : Nat → Prop} {B : Nat → Option YB} {φ : Lm} {m : YM} {w : World} {r : YV} {ev : Ev} {xOf : Operand → Option X} {ρ : Operand → Value} {K : YV → YM → R}
  {call : FuncId → List YV → YM → (YV → YM → R) → R} {dst : Option Tmp} {ty : TypeId} {pos : String} {after : Array Edge} {guard : Option (Nat × Bool)} {y : Ye.O}

/-! ### zeroes -/

theorem flat_get {α : Type} (l : List α) (hl : 0 < l.length) : ∀ (n i : Nat), i < n * l.length → ((List.replicate n l).flatten)[i]? = l[i % l.length]?
  | 0, i, h => by simp at h
  | n + 1, i, h => by
    rw [List.replicate_succ, List.flatten_cons]
    by_cases hi : i < l.length
    · rw [List.getElem?_append_left hi, Nat.mod_eq_of_lt hi]
    · rw [List.getElem?_append_right (by omega), flat_get l hl n (i - l.length) (by rw [Nat.succ_mul] at h; omega)]
      congr 1
      rw [Nat.mod_eq_sub_mod (by omega : i ≥ l.length)]

theorem flat_len {α : Type} (l : List α) (n : Nat) : ((List.replicate n l).flatten).length = n * l.length := by
  induction n with
  | zero => simp
  | succ n ih => rw [List.replicate_succ, List.flatten_cons, List.length_append, ih, Nat.succ_mul]; omega

theorem range_mod (z : List Value) (hz : 0 < z.length) (n : Nat) : (Array.range (n * z.length)).map ((⟨z⟩ : Array Value)[· % (⟨z⟩ : Array Value).size]!) = ⟨(List.replicate n z).flatten⟩ := by
  apply Array.toList_inj.1
  apply List.ext_getElem?
  intro i
  rw [Array.toList_map]
  show ((Array.range (n * z.length)).toList.map _)[i]? = ((List.replicate n z).flatten)[i]?
  rw [Array.toList_range, List.getElem?_map]
  by_cases hi : i < n * z.length
  · rw [List.getElem?_range hi, flat_get z hz n i hi]
    have hm : i % z.length < z.length := Nat.mod_lt _ hz
    rw [List.getElem?_eq_getElem hm]
    simp [hm]
  · rw [List.getElem?_eq_none (by simpa using hi), List.getElem?_eq_none (by rw [flat_len]; omega)]
    rfl

theorem VRs.flat {ys : List YV} {xs : List Value} (h : VRs φ ys xs) (n : Nat) : VRs φ (List.replicate n ys).flatten (List.replicate n xs).flatten := by
  induction n with
  | zero => simp; unfold VRs; rfl
  | succ n ih => rw [List.replicate_succ, List.replicate_succ, List.flatten_cons, List.flatten_cons]; exact h.append ih

theorem ones_flat {ys : List YV} (h : ∀ y ∈ ys, one1 y = true) (n : Nat) : ∀ y ∈ (List.replicate n ys).flatten, one1 y = true := fun y hy => by
  rw [List.mem_flatten] at hy
  obtain ⟨l, hl, hy⟩ := hy
  rw [List.mem_replicate] at hl
  rw [hl.2] at hy
  exact h y hy

theorem go_buildSlice {t : TypeId} {n : Nat} {ps : List (Nat × Operand)} (hc : compO P xOf (.buildSlice t n ⟨ps⟩) = some y) (he : EvOk φ ev xOf ρ) (hok : Ok w0 O B φ m w) (h : opK call y ev m K = .ok r) :
    Goes P (execOp ρ ⟨dst, .buildSlice t n ⟨ps⟩, ty, pos, after, guard⟩) w (Post w0 O B φ K r) := by
  simp only [compO, Option.bind_eq_bind, Option.bind_eq_some_iff] at hc
  obtain ⟨ti, hti, hc⟩ := hc
  obtain ⟨inf, d, zv, g1, g2, g3, g4, g5, g6, -, -⟩ := mkTI_parts hti
  split at hc
  · rename_i e hk
    simp only [Option.bind_eq_some_iff] at hc
    obtain ⟨te, hte, hc⟩ := hc
    split at hc
    · cases hc
    · rename_i hcond
      simp only [not_or, Nat.not_lt, Decidable.not_not] at hcond
      obtain ⟨hs0, hzl, hsm⟩ := hcond
      simp only [Option.bind_eq_some_iff, Option.some.injEq] at hc
      obtain ⟨zs, hzs, qs, hqs, rfl⟩ := hc
      rw [g4] at hk
      obtain rfl := slice_of hk
      obtain ⟨i2, d2, z2, p1, p2, p3, p4, p5, p6, -, -⟩ := mkTI_parts hte
      have hz2 : z2.cells = ⟨te.zero⟩ := by rw [p6]
      have h : fillK ev qs ((List.replicate n zs).flatten) (fun zs => m.newK (.c none true zs.length zs zs.length .l) fun l m => K (.sl l 0 n (some zs.length) te.size) m) = .ok r := h
      obtain ⟨k1, k2⟩ := zeroOf_ok (φ := φ) hzs
      have hpl : ∀ i z, (if i < n then some (i * te.size, te.size) else none) = some z → (fun i => some (i * te.size, te.size)) i = some z := fun i z hz => by
        split at hz
        · exact hz
        · cases hz
      obtain ⟨zs', xs', q1, q2, q3, q4, q5⟩ := fillK_ok he hpl hqs (k1.flat n) (ones_flat k2 n) h
      obtain ⟨m', u1, u2, u3⟩ := newK_row hok q2 q3 [] e q5
      have hlen : zs'.length = n * te.size := by rw [q4, flat_len, ← k1.len, hzl]
      have hxl : xs'.length = n * te.size := by rw [q2.len, hlen]
      refine .val (sem := Instr.buildSlice t n _) (v := .slice (some ⟨w.heap.size, 0, none⟩) n n) (w' := { w with heap := w.heap.push (.cells ⟨xs' ++ []⟩ e) }) ?_ ⟨_, _, m', u1, u2, ?_, u3⟩
      · simp only [map_toList]
        unfold Instr.buildSlice
        rw [run_bind_ok (run_underlying' g2 w)]
        simp only
        rw [run_bind_ok (run_sizeOf p1 w), ← p5]
        rw [if_neg (by omega)]
        by_cases h0 : n * te.size = 0
        · have hn : n = 0 := by
            rcases Nat.mul_eq_zero.1 h0 with h | h
            · exact h
            · exact absurd h hs0
          subst hn
          simp only [Nat.zero_mul, if_true]
          rw [run_bind_ok (run_pure P _ w)]
          have hx0 : xs' = [] := List.length_eq_zero_iff.1 (by rw [hxl, Nat.zero_mul])
          subst hx0
          simp only [List.replicate_zero, List.flatten_nil] at q1
          have : (Array.range 0).map ((#[] : Array Value)[· % (#[] : Array Value).size]!) = ⟨[]⟩ := by simp
          rw [this, q1]
          rfl
        · rw [if_neg h0]
          rw [run_bind_ok (run_zero p1 p3 w), run_bind_ok (run_pure P _ w)]
          rw [hz2, ← hzl, range_mod te.zero (by omega) n, hzl, q1]
          simp only [List.append_nil]
          rfl
      · unfold VR
        refine ⟨_, _, n, upd_self .., rfl, by omega, ?_, ?_, Nat.le_refl _, fun _ => by simp⟩
        · simp only [Option.getD_some]
          omega
        · simp only [Option.getD_some, List.length_append, List.length_nil]
          omega
  · cases hc

theorem go_makeSlice {t : TypeId} {l c : Operand} (hc : compO P xOf (.makeSlice t l c) = some y) (he : EvOk φ ev xOf ρ) (hok : Ok w0 O B φ m w) (h : opK call y ev m K = .ok r) :
    Goes P (execOp ρ ⟨dst, .makeSlice t l c, ty, pos, after, guard⟩) w (Post w0 O B φ K r) := by
  simp only [compO, Option.bind_eq_bind, Option.bind_eq_some_iff] at hc
  obtain ⟨ti, hti, hc⟩ := hc
  obtain ⟨inf, d, zv, g1, g2, g3, g4, g5, g6, -, -⟩ := mkTI_parts hti
  split at hc
  · rename_i e hk
    simp only [Option.bind_eq_some_iff] at hc
    obtain ⟨te, hte, hc⟩ := hc
    split at hc
    · cases hc
    · rename_i hcond
      simp only [not_or, Decidable.not_not] at hcond
      obtain ⟨hs0, hzl⟩ := hcond
      simp only [Option.bind_eq_some_iff, Option.some.injEq] at hc
      obtain ⟨zs, hzs, a, ha, b, hb, rfl⟩ := hc
      rw [g4] at hk
      obtain rfl := slice_of hk
      obtain ⟨i2, d2, z2, p1, p2, p3, p4, p5, p6, p7, -⟩ := mkTI_parts hte
      have hz2 : z2.cells = ⟨te.zero⟩ := by rw [p6]
      have h : op_ms te.size te.bytes zs a b ev m K = .ok r := h
      replace h := he.get ha h; obtain ⟨u, hu, h⟩ := h
      replace h := he.get hb h; obtain ⟨v, hv, h⟩ := h
      replace h := mN h; obtain ⟨j1, n, rfl, h⟩ := h
      replace h := mN h; obtain ⟨j2, k, rfl, h⟩ := h
      obtain ⟨hnk, h⟩ := mLe h
      obtain ⟨hk1, h⟩ := mLe h
      obtain ⟨hk2, h⟩ := mLe h
      rw [natK_eq] at h
      have hk2 : te.bytes * k ≤ 1000000000 := hk2
      have h : m.newK (.c none true (k * te.size) zs te.size .l) (fun l m => K (.sl l 0 n (some (k * te.size)) te.size) m) = .ok r := h
      obtain ⟨k1, k2⟩ := zeroOf_ok (φ := φ) hzs
      obtain ⟨m', q1, q2, q3, q4⟩ := YM.newK_ok h
      unfold VR at hu hv
      have hlen : ((List.replicate k te.zero).flatten).length = k * te.size := by rw [flat_len, hzl]
      refine .val (sem := Instr.makeSlice t (ρ l) (ρ c)) (v := .slice (some ⟨w.heap.size, 0, none⟩) n k) (w' := { w with heap := w.heap.push (.cells ⟨(List.replicate k te.zero).flatten⟩ e) }) ?_
        ⟨upd φ m.n ⟨w.heap.size, 0, k * te.size⟩, _, m', hok.ext_upd _, hok.new (L := ⟨w.heap.size, 0, k * te.size⟩) q2 q3 q4 rfl ?_, ?_, q1⟩
      · rw [hu, hv]
        unfold Instr.makeSlice
        rw [run_bind_ok (run_underlying' g2 w)]
        simp only
        rw [run_bind_ok (m := asInt _) (a := (n : Int)) (w' := w) rfl, run_bind_ok (m := asInt _) (a := (k : Int)) (w' := w) rfl, run_bind_ok (run_typeInfo p1 w)]
        have w1 : IntKind.i64.wrap (n : Int) = n := Go.Sx.wrap_i64 (by omega)
        have w2 : IntKind.i64.wrap (k : Int) = k := Go.Sx.wrap_i64 (by omega)
        simp only [w1, w2]
        have hb1 : (i2.bytes : Int) * (k : Int) ≤ 1000000000 := by
          have h3 : ((te.bytes * k : Nat) : Int) ≤ ((1000000000 : Nat) : Int) := Int.ofNat_le.2 hk2
          rw [Int.natCast_mul, p7] at h3
          exact h3
        have ht1 : (decide ((k : Int) < 0) || decide ((i2.bytes : Int) * (k : Int) > 2 ^ 48)) = false := by
          have e48 : (2 : Int) ^ 48 = 281474976710656 := by decide
          rw [Bool.or_eq_false_iff, e48]
          exact ⟨decide_eq_false (by omega), decide_eq_false (by omega)⟩
        simp only [ht1, Bool.false_or]
        have ht2 : (decide ((n : Int) < 0) || decide ((n : Int) > (k : Int))) = false := by
          rw [Bool.or_eq_false_iff]
          exact ⟨decide_eq_false (by omega), decide_eq_false (by omega)⟩
        rw [if_neg (by rw [ht2]; simp)]
        rw [run_bind_ok (Go.Sx.run_askRoom _ _), run_bind_ok (run_sizeOf p1 w), ← p5]
        simp only [Int.toNat_natCast]
        by_cases h0 : k * te.size = 0
        · have hk0 : k = 0 := by
            rcases Nat.mul_eq_zero.1 h0 with h | h
            · exact h
            · exact absurd h hs0
          subst hk0
          simp only [Nat.zero_mul, if_true]
          rw [run_bind_ok (run_pure P _ w)]
          have e0 : (Array.range 0).map ((#[] : Array Value)[· % (#[] : Array Value).size]!) = ⟨[]⟩ := by simp
          rw [e0]
          rfl
        · rw [if_neg h0, run_bind_ok (run_zero p1 p3 w), run_bind_ok (run_pure P _ w)]
          rw [hz2, ← hzl, range_mod te.zero (by omega) k]
          rfl
      · refine ⟨_, e, (0, 0), push_new, .inl rfl, by simp [hlen], Nat.le_refl _, fun j hj => ?_⟩
        unfold cellAt
        rw [T.get_leaf]
        simp only
        have hzz : zs.length = te.size := by rw [← k1.len, hzl]
        have hmod : j % te.size < zs.length := by rw [hzz]; exact Nat.mod_lt _ (by omega)
        have hy : zs[j % te.size]? = some zs[j % te.size] := List.getElem?_eq_getElem hmod
        obtain ⟨x, x1, x2⟩ := k1.get hy
        refine ⟨_, x, hy, ?_, x2.ext (hok.ext_upd _), k2 _ (List.mem_of_getElem? hy)⟩
        simp only [Nat.zero_add, List.getElem?_toArray]
        rw [flat_get te.zero (by omega) k j (by rw [hzl]; exact hj), hzl]
        exact x1
      · unfold VR
        exact ⟨_, _, k, upd_self .., rfl, by omega, by simp, by simp, hnk, fun _ => by simp⟩
  · cases hc

theorem go_load {t : TypeId} {x : Operand} (hc : compO P xOf (.load t x) = some y) (he : EvOk φ ev xOf ρ) (hok : Ok w0 O B φ m w) (h : opK call y ev m K = .ok r) :
    Goes P (execOp ρ ⟨dst, .load t x, ty, pos, after, guard⟩) w (Post w0 O B φ K r) := by
  simp only [compO, Option.bind_eq_bind, Option.bind_eq_some_iff] at hc
  obtain ⟨ti, hti, a, ha, hc⟩ := hc
  obtain ⟨inf, d, zv, g1, g2, g3, g4, g5, g6, -, -⟩ := mkTI_parts hti
  split at hc
  · rename_i hag
    cases hc
    have h : op_ldn ti.size a ev m K = .ok r := h
    replace h := he.get ha h; obtain ⟨v, hv, h⟩ := h
    replace h := mP h; obtain ⟨l, o, rfl, h⟩ := h
    unfold VR at hv
    obtain ⟨L, h1, h2⟩ := hv
    obtain ⟨ys, xs, k1, k2, k3, k4, k5⟩ := loadK_ok hok h h1
    refine .val (sem := Instr.loadAt t (ρ x)) (v := .agg ⟨xs⟩) (w' := w) ?_ (.here hok (by unfold VR; exact ⟨xs, rfl, k3, k4⟩) k5)
    rw [h2]
    exact Go.Sx.run_loadVar_agg hti hag xs k1 (fun j hj => k2 j (by rw [← k1]; exact hj))
  · rename_i hag
    cases hc
    have h : op_ld a ev m K = .ok r := h
    replace h := he.get ha h; obtain ⟨v, hv, h⟩ := h
    replace h := mP h; obtain ⟨l, o, rfl, h⟩ := h
    unfold VR at hv
    obtain ⟨L, h1, h2⟩ := hv
    obtain ⟨yv, xv, k1, k2, k3⟩ := load1K_ok hok h h1
    refine .val (sem := Instr.loadAt t (ρ x)) (v := xv) (w' := w) ?_ (.here hok k2.1 k3)
    rw [h2]
    exact Go.Sx.run_loadVar_one hti hag k1

theorem go_store {t : TypeId} {a x : Operand} (hc : compO P xOf (.store t a x) = some y) (he : EvOk φ ev xOf ρ) (hok : Ok w0 O B φ m w) (h : opK call y ev m K = .ok r) :
    Goes P (execOp ρ ⟨dst, .store t a x, ty, pos, after, guard⟩) w (Post w0 O B φ K r) := by
  simp only [compO, Option.bind_eq_bind, Option.bind_eq_some_iff, Option.some.injEq] at hc
  obtain ⟨ti, hti, a', ha, b', hb, rfl⟩ := hc
  obtain ⟨inf, d, zv, g1, g2, g3, g4, g5, g6, -, -⟩ := mkTI_parts hti
  have h : op_st ti.size a' b' ev m K = .ok r := h
  replace h := he.get ha h; obtain ⟨v, hv, h⟩ := h
  replace h := mP h; obtain ⟨l, o, rfl, h⟩ := h
  replace h := he.get hb h; obtain ⟨u, hu, h⟩ := h
  obtain ⟨vs, k1, k2, h⟩ := cellsVK_ok hu h
  cases hbq : Nat.beq vs.length ti.size with
  | false => rw [hbq] at h; cases h
  | true =>
    rw [hbq] at h
    have hsz := Nat.eq_of_beq_eq_true hbq
    unfold VR at hv
    obtain ⟨L, h1, h2⟩ := hv
    obtain ⟨m', w', q1, q2, q3⟩ := storeK_ok (P := P) hok h h1 k1 k2
    refine .unit (sem := Instr.storeAt t (ρ a) (ρ x)) (w' := w') ?_ ⟨φ, .tu [], m', Ext.refl φ, q2, by unfold VR; exact ⟨[], rfl, by unfold VRs; rfl⟩, q3⟩
    rw [h2]
    show (storeVar t ⟨L.blk, L.base + o, none⟩ (ρ x)).run P w = _
    unfold storeVar
    rw [run_bind_ok (run_sizeOf g1 w)]
    have hl := k1.len
    rw [if_neg (by
      have : (ρ x).cells.size = (ρ x).cells.toList.length := by simp
      rw [this, hl, hsz, g5]
      simp)]
    exact q1

end
end Go.Ye

/- Ye, part L: slices of slices; maps are made; bytes that are a string's. -/
namespace Go.Ye
open Go.Sx (TI TK mkTI mkTI_parts run_bind_ok run_pure run_value run_skip run_underlying' run_sizeOf run_typeInfo run_zero run_isAgg struct_of arr_of mkTK map_toList execOp_call_builtin execOp_call_func Callable run_callFunc oneCell Addr.add_none lt_of_some some_of_lt slice_of string_of run_bound int_of)
set_option linter.unusedVariables false
set_option linter.constructorNameAsVariable false
set_option linter.unusedSimpArgs false

section
variable {P : Program} {w0 : World} {O : Nat → Prop} {B : Nat → Option YB} {φ : Lm} {m : YM} {w : World} {r : YV} {ev : Ev} {xOf : Operand → Option X} {ρ : Operand → Value} {K : YV → YM → R}
  {call : FuncId → List YV → YM → (YV → YM → R) → R} {dst : Option Tmp} {ty : TypeId} {pos : String} {after : Array Edge} {guard : Option (Nat × Bool)} {y : Ye.O}

theorem boundK_ok {x : YV} {v : Value} (hv : VR φ x v) {c : Nat} {K : Nat → R} (h : boundK x c K = .ok r) :
    ∃ n, n ≤ c ∧ K n = .ok r ∧ ∀ c' code w, c ≤ c' → (Instr.sliceBound v c' code).run P w = .ok n w := by
  unfold boundK at h
  split at h
  · rename_i j n
    obtain ⟨h1, h2⟩ := mLe h
    unfold VR at hv
    subst hv
    exact ⟨n, h1, h2, fun c' code w hc => run_bound (i := (n : Int)) (by omega) (by omega)⟩
  · cases h

/-- What was found for an operand that may be missing. -/
def OR (φ : Lm) (ρ : Operand → Value) : Option Operand → Option YV → Prop
  | none, none => True
  | some o, some y => VR φ y (ρ o)
  | _, _ => False

theorem EvOk.getr (he : EvOk φ ev xOf ρ) {x : Option X} {xo : Option Operand} (hx : xoOf xOf xo = some x) {K : Option YV → R} (h : evoK ev x K = .ok r) : ∃ v, OR φ ρ xo v ∧ K v = .ok r := by
  rcases he.geto hx h with ⟨rfl, h⟩ | ⟨o, y, rfl, hy, h⟩
  · exact ⟨none, trivial, h⟩
  · exact ⟨some y, hy, h⟩

/-- The bounds of a slice expression without a third index. -/
theorem bnds_ok {lo hi : Option Operand} {lo' hi' : Option YV} (hlo : OR φ ρ lo lo') (hhi : OR φ ρ hi hi') {n c cap : Nat} (hn : n ≤ cap) (hcap : c ≤ cap) {K : Nat → Nat → R}
    (h : bndK hi' n c (fun h => bndK lo' 0 h fun l => K l h) = .ok r) (b : Bool) (w : World) :
    ∃ l h', l ≤ h' ∧ h' ≤ cap ∧ (Instr.sliceBounds b n cap (lo.map ρ) (hi.map ρ) none).run P w = .ok (l, h', cap) w ∧ K l h' = .ok r := by
  cases lo with
  | none =>
    cases lo' with
    | some _ => exact hlo.elim
    | none =>
      cases hi with
      | none =>
        cases hi' with
        | some _ => exact hhi.elim
        | none => exact ⟨0, n, by omega, hn, rfl, h⟩
      | some o' =>
        cases hi' with
        | none => exact hhi.elim
        | some y' =>
          have h : boundK y' c (fun h => K 0 h) = .ok r := h
          obtain ⟨k, h1, h2, h3⟩ := boundK_ok (P := P) hhi h
          refine ⟨0, k, by omega, by omega, ?_, h2⟩
          unfold Instr.sliceBounds
          simp only [Option.map_none, Option.map_some]
          rw [run_bind_ok (run_pure P _ w), run_bind_ok (h3 cap _ w hcap)]
          rfl
  | some o =>
    cases lo' with
    | none => exact hlo.elim
    | some y =>
      cases hi with
      | none =>
        cases hi' with
        | some _ => exact hhi.elim
        | none =>
          have h : boundK y n (fun l => K l n) = .ok r := h
          obtain ⟨k, h1, h2, h3⟩ := boundK_ok (P := P) hlo h
          refine ⟨k, n, h1, hn, ?_, h2⟩
          unfold Instr.sliceBounds
          simp only [Option.map_none, Option.map_some]
          rw [run_bind_ok (run_pure P _ w), run_bind_ok (run_pure P _ w), run_bind_ok (h3 n _ w (Nat.le_refl _))]
          rfl
      | some o' =>
        cases hi' with
        | none => exact hhi.elim
        | some y' =>
          have h : boundK y' c (fun h => boundK y h fun l => K l h) = .ok r := h
          obtain ⟨k, h1, h2, h3⟩ := boundK_ok (P := P) hhi h
          obtain ⟨j, h4, h5, h6⟩ := boundK_ok (P := P) hlo h2
          refine ⟨j, k, h4, by omega, ?_, h5⟩
          unfold Instr.sliceBounds
          simp only [Option.map_none, Option.map_some]
          rw [run_bind_ok (run_pure P _ w), run_bind_ok (h3 cap _ w hcap), run_bind_ok (h6 k _ w (Nat.le_refl _))]
          rfl

/-- The bounds of a slice expression with a third index. -/
theorem bnds3_ok {lo hi : Option Operand} {mx : Operand} {lo' hi' : Option YV} {mx' : YV} (hlo : OR φ ρ lo lo') (hhi : OR φ ρ hi hi') (hmx : VR φ mx' (ρ mx)) {n c cap : Nat} (hcap : c ≤ cap)
    (hsome : hi.isNone = false) {K : Nat → Nat → Nat → R} (h : boundK mx' c (fun k => bndK hi' n k fun h => bndK lo' 0 h fun l => K l h k) = .ok r) (w : World) :
    ∃ l h' k, l ≤ h' ∧ h' ≤ k ∧ k ≤ c ∧ (Instr.sliceBounds true n cap (lo.map ρ) (hi.map ρ) (some (ρ mx))).run P w = .ok (l, h', k) w ∧ K l h' k = .ok r := by
  cases hi with
  | none => cases hsome
  | some o' =>
    cases hi' with
    | none => exact hhi.elim
    | some y' =>
      obtain ⟨k, h1, h2, h3⟩ := boundK_ok (P := P) hmx h
      have h2 : boundK y' k (fun h => bndK lo' 0 h fun l => K l h k) = .ok r := h2
      obtain ⟨j, h4, h5, h6⟩ := boundK_ok (P := P) hhi h2
      cases lo with
      | none =>
        cases lo' with
        | some _ => exact hlo.elim
        | none =>
          refine ⟨0, j, k, by omega, h4, h1, ?_, h5⟩
          unfold Instr.sliceBounds
          simp only [Option.map_none, Option.map_some]
          rw [run_bind_ok (h3 cap _ w hcap), run_bind_ok (h6 k _ w (Nat.le_refl _))]
          rfl
      | some o =>
        cases lo' with
        | none => exact hlo.elim
        | some y =>
          have h5 : boundK y j (fun l => K l j k) = .ok r := h5
          obtain ⟨i, h7, h8, h9⟩ := boundK_ok (P := P) hlo h5
          refine ⟨i, j, k, h7, h4, h1, ?_, h8⟩
          unfold Instr.sliceBounds
          simp only [Option.map_none, Option.map_some]
          rw [run_bind_ok (h3 cap _ w hcap), run_bind_ok (h6 k _ w (Nat.le_refl _)), run_bind_ok (h9 j _ w (Nat.le_refl _))]
          rfl

theorem str_extract (s : List Nat) (l h : Nat) : (str s).extract l h = str ((s.drop l).take (h - l)) := by
  apply ByteArray.ext
  apply Array.toList_inj.1
  rw [ByteArray.data_extract]
  simp [str, List.extract_eq_take_drop, List.map_take, List.map_drop]

theorem go_slice {t : TypeId} {x : Operand} {lo hi mx : Option Operand} (hc : compO P xOf (.slice t x lo hi mx) = some y) (he : EvOk φ ev xOf ρ) (hok : Ok w0 O B φ m w) (h : opK call y ev m K = .ok r) :
    Goes P (execOp ρ ⟨dst, .slice t x lo hi mx, ty, pos, after, guard⟩) w (Post w0 O B φ K r) := by
  simp only [compO, Option.bind_eq_bind, Option.bind_eq_some_iff] at hc
  obtain ⟨ti, hti, hc⟩ := hc
  obtain ⟨inf, d, zv, g1, g2, g3, g4, g5, g6, -, -⟩ := mkTI_parts hti
  split at hc
  · rename_i hk
    split at hc
    · cases hc
    · rename_i hmx
      simp only [Option.bind_eq_some_iff, Option.some.injEq] at hc
      obtain ⟨a, ha, lo', hlo, hi', hhi, rfl⟩ := hc
      rw [g4] at hk
      obtain rfl := string_of hk
      have hm : mx = none := by cases mx <;> simp_all
      subst hm
      have h : op_ss a lo' hi' ev m K = .ok r := h
      replace h := he.get ha h; obtain ⟨v, hv, h⟩ := h
      replace h := he.getr hlo h; obtain ⟨lv, hl, h⟩ := h
      replace h := he.getr hhi h; obtain ⟨hv', hh, h⟩ := h
      replace h := mS h; obtain ⟨s, rfl, h⟩ := h
      rw [lenL_eq, Nat.zero_add] at h
      obtain ⟨l, h', k1, k2, k3, k4⟩ := bnds_ok (P := P) hl hh (Nat.le_refl s.length) (Nat.le_refl s.length) h false w
      obtain ⟨q1, q2⟩ := dropK_ok k4
      obtain ⟨q3, q4⟩ := takeK_ok q2
      unfold VR at hv
      obtain ⟨hv1, hv2⟩ := hv
      refine .val (sem := Instr.sliceAt t (ρ x) (lo.map ρ) (hi.map ρ) (Option.map ρ none)) (v := .string (str ((s.drop l).take (h' - l)))) (w' := w) ?_
        (.here hok (by unfold VR; exact ⟨rfl, fun c hc => hv2 c (List.mem_of_mem_drop (List.mem_of_mem_take hc))⟩) q4)
      rw [hv1]
      unfold Instr.sliceAt
      rw [run_bind_ok (run_underlying' g2 w)]
      simp only
      unfold Instr.slice
      rw [run_bind_ok (run_underlying' g2 w)]
      simp only [Option.map_none, Option.isSome_none, Bool.false_eq_true, if_false]
      rw [str_size, run_bind_ok k3]
      simp only
      rw [str_extract]
      rfl
  · rename_i e hk
    simp only [Option.bind_eq_some_iff] at hc
    obtain ⟨te, hte, hc⟩ := hc
    split at hc
    · cases hc
    · rename_i hcond
      simp only [not_or] at hcond
      obtain ⟨hs0, hmh⟩ := hcond
      simp only [Option.bind_eq_some_iff, Option.some.injEq] at hc
      obtain ⟨a, ha, lo', hlo, hi', hhi, mx', hmx, rfl⟩ := hc
      rw [g4] at hk
      obtain rfl := slice_of hk
      obtain ⟨i2, d2, z2, p1, p2, p3, p4, p5, p6, -, -⟩ := mkTI_parts hte
      have h : op_sl te.size a lo' hi' mx' ev m K = .ok r := h
      replace h := he.get ha h; obtain ⟨v, hv, h⟩ := h
      replace h := he.getr hlo h; obtain ⟨lv, hl, h⟩ := h
      replace h := he.getr hhi h; obtain ⟨hv', hh, h⟩ := h
      replace h := he.getr hmx h; obtain ⟨mv, hm, h⟩ := h
      have hrun : ∀ (ad : Option Addr) (n cap l h' k : Nat), (Instr.sliceBounds true n cap (lo.map ρ) (hi.map ρ) (mx.map ρ)).run P w = .ok (l, h', k) w →
          (Instr.sliceAt t (.slice ad n cap) (lo.map ρ) (hi.map ρ) (mx.map ρ)).run P w = .ok (.slice (if k = l then ad else ad.map (·.add (l * te.size))) (h' - l) (k - l)) w := by
        intro ad n cap l h' k hb
        unfold Instr.sliceAt
        rw [run_bind_ok (run_underlying' g2 w)]
        simp only
        unfold Instr.slice
        rw [run_bind_ok (run_underlying' g2 w)]
        simp only
        rw [run_bind_ok hb]
        simp only
        rw [run_bind_ok (run_sizeOf p1 w), ← p5]
        rfl
      split at h
      · rename_i l o n e' z'
        replace h := (IF_ok h).resolve_right fun h => (by cases h.2)
        obtain ⟨hzz, h⟩ := h
        have hzz := Nat.eq_of_beq_eq_true hzz
        replace h := YM.getK_ok h; obtain ⟨b, hb, h⟩ := h
        unfold VR at hv
        obtain ⟨L, ad, cap, q1, q2, q3, q4, q5, q6, q7⟩ := hv
        split at h
        · rename_i kin wr s zs es tt
          rw [natK_eq] at h
          obtain ⟨L', q8, q9, -⟩ := hok.blk l _ hb
          rw [q1] at q8
          cases q8
          obtain ⟨arr, et, fz, c1, c2, c3, c4, c5⟩ := q9
          rw [← hzz] at q3 q4
          have hE : e'.getD s ≤ e'.getD L.ext := by cases e' <;> simp [c4]
          have hcap : (e'.getD s - o) / te.size ≤ cap := by
            refine Nat.div_le_of_le_mul ?_
            rw [Nat.mul_comm]
            omega
          have hmul : ∀ l, l ≤ cap → l * te.size + (cap - l) * te.size = cap * te.size := fun l hl => by rw [← Nat.add_mul]; congr 1; omega
          split at h
          · have hmn : mx = none := by
              cases mx with
              | none => rfl
              | some _ => exact hm.elim
            subst hmn
            obtain ⟨l0, h', k1, k2, k3, k4⟩ := bnds_ok (P := P) hl hh q6 hcap h true w
            simp only [natK_eq] at k4
            refine .val (sem := Instr.sliceAt t (ρ x) (lo.map ρ) (hi.map ρ) (Option.map ρ none)) (by rw [q2]; exact hrun (some ad) n cap l0 h' cap k3) (.here hok ?_ k4)
            unfold VR
            have := hmul l0 (by omega)
            refine ⟨L, if cap = l0 then ad else ad.add (l0 * te.size), cap - l0, q1, by split <;> rfl, q3, ?_, q5, by show h' - l0 ≤ _; omega, fun hpos => ?_⟩
            · show o + l0 * te.size + (cap - l0) * te.size = _
              omega
            · rw [if_neg (by omega), q7 (by omega), Addr.add_none, Nat.add_assoc]
              rfl
          · rename_i mx2
            cases mx with
            | none => exact hm.elim
            | some mo =>
              have hn : hi.isNone = false := by
                cases hi with
                | none => exact absurd ⟨rfl, rfl⟩ hmh
                | some _ => rfl
              obtain ⟨l0, h', k, k1, k2, k3, k4, k5⟩ := bnds3_ok (P := P) (n := n) hl hh hm hcap hn h w
              simp only [natK_eq] at k5
              refine .val (sem := Instr.sliceAt t (ρ x) (lo.map ρ) (hi.map ρ) (Option.map ρ (some mo))) (by rw [q2]; exact hrun (some ad) n cap l0 h' k k4) (.here hok ?_ k5)
              unfold VR
              have e1 : l0 * te.size + (k - l0) * te.size = k * te.size := by rw [← Nat.add_mul]; congr 1; omega
              have e2 : k * te.size ≤ cap * te.size := Nat.mul_le_mul_right _ (by omega)
              refine ⟨L, if k = l0 then ad else ad.add (l0 * te.size), k - l0, q1, by split <;> rfl, q3, ?_, ?_, by show h' - l0 ≤ _; omega, fun hpos => ?_⟩
              · show o + l0 * te.size + (k - l0) * te.size = o + k * te.size
                omega
              · show o + k * te.size ≤ _
                omega
              · rw [if_neg (by omega), q7 (by omega), Addr.add_none, Nat.add_assoc]
                rfl
        · cases h
      · unfold VR at hv
        split at h
        · have hmn : mx = none := by
            cases mx with
            | none => rfl
            | some _ => exact hm.elim
          subst hmn
          obtain ⟨l, h', k1, k2, k3, k4⟩ := bnds_ok (P := P) hl hh (Nat.le_refl 0) (Nat.le_refl 0) h true w
          refine .val (sem := Instr.sliceAt t (ρ x) (lo.map ρ) (hi.map ρ) (Option.map ρ none)) (by rw [hv]; exact hrun none 0 0 l h' 0 k3) (.here hok ?_ k4)
          have : h' = 0 := by omega
          subst this
          have : l = 0 := by omega
          subst this
          unfold VR
          rfl
        · rename_i mx2
          cases mx with
          | none => exact hm.elim
          | some mo =>
            have hn : hi.isNone = false := by
              cases hi with
              | none => exact absurd ⟨rfl, rfl⟩ hmh
              | some _ => rfl
            obtain ⟨l, h', k, k1, k2, k3, k4, k5⟩ := bnds3_ok (P := P) (n := 0) hl hh hm (Nat.le_refl 0) hn (K := fun _ _ _ => K .sn m) h w
            refine .val (sem := Instr.sliceAt t (ρ x) (lo.map ρ) (hi.map ρ) (Option.map ρ (some mo))) (by rw [hv]; exact hrun none 0 0 l h' k k4) (.here hok ?_ k5)
            have : k = 0 := by omega
            subst this
            have : h' = 0 := by omega
            subst this
            have : l = 0 := by omega
            subst this
            unfold VR
            rfl
      · cases h
  · rename_i n e hk
    simp only [Option.bind_eq_some_iff] at hc
    obtain ⟨te, hte, hc⟩ := hc
    split at hc
    · cases hc
    · rename_i hcond
      simp only [not_or] at hcond
      obtain ⟨hs0, hmn⟩ := hcond
      simp only [Option.bind_eq_some_iff, Option.some.injEq] at hc
      obtain ⟨a, ha, lo', hlo, hi', hhi, mx', hmx, rfl⟩ := hc
      have hmn : mx = none := by cases mx <;> simp_all
      subst hmn
      rw [g4] at hk
      obtain rfl := arr_of hk
      obtain ⟨i2, d2, z2, p1, p2, p3, p4, p5, p6, -, -⟩ := mkTI_parts hte
      have h : op_sa n te.size a lo' hi' mx' ev m K = .ok r := h
      replace h := he.get ha h; obtain ⟨v, hv, h⟩ := h
      replace h := he.getr hlo h; obtain ⟨lv, hl, h⟩ := h
      replace h := he.getr hhi h; obtain ⟨hv', hh, h⟩ := h
      replace h := he.getr hmx h; obtain ⟨mv, hm, h⟩ := h
      replace h := mP h; obtain ⟨l, o, rfl, h⟩ := h
      split at h
      · obtain ⟨l0, h', k1, k2, k3, k4⟩ := bnds_ok (P := P) hl hh (Nat.le_refl n) (Nat.le_refl n) h false w
        simp only [natK_eq] at k4
        replace k4 := YM.getK_ok k4; obtain ⟨b, hb, k4⟩ := k4
        unfold VR at hv
        obtain ⟨L, q1, q2⟩ := hv
        split at k4
        · rename_i kin wr s zs es tt
          replace k4 := (IF_ok k4).resolve_right fun h => (by cases h.2)
          obtain ⟨hle, k4⟩ := k4
          have hle : o + n * te.size ≤ s := Nat.le_of_ble_eq_true hle
          obtain ⟨L', q8, q9, -⟩ := hok.blk l _ hb
          rw [q1] at q8
          cases q8
          obtain ⟨arr, et, fz, c1, c2, c3, c4, c5⟩ := q9
          have e1 : l0 * te.size + (n - l0) * te.size = n * te.size := by rw [← Nat.add_mul]; congr 1; omega
          refine .val (sem := Instr.sliceAt t (ρ x) (lo.map ρ) (hi.map ρ) (Option.map ρ none)) (v := .slice (some (if n = l0 then ⟨L.blk, L.base + o, none⟩ else (⟨L.blk, L.base + o, none⟩ : Addr).add (l0 * te.size))) (h' - l0) (n - l0)) (w' := w) ?_ (.here hok ?_ k4)
          · rw [q2]
            unfold Instr.sliceAt
            rw [run_bind_ok (run_underlying' g2 w)]
            simp only [Instr.sureAddr, Option.map_none]
            rw [run_bind_ok (run_pure P _ w), run_bind_ok k3]
            simp only
            rw [run_bind_ok (run_sizeOf p1 w), ← p5]
            rfl
          · unfold VR
            refine ⟨L, _, n - l0, q1, rfl, by omega, ?_, ?_, by show h' - l0 ≤ _; omega, fun hpos => ?_⟩
            · show o + l0 * te.size + (n - l0) * te.size = o + n * te.size
              omega
            · show o + n * te.size ≤ _
              omega
            · rw [if_neg (by omega), Addr.add_none, Nat.add_assoc]
              rfl
        · cases k4
      · cases h
  · cases hc

end
end Go.Ye

/- Ye, part M: copy, clear, new maps; bytes that are a string's. -/
namespace Go.Ye
open Go.Sx (TI TK mkTI mkTI_parts run_bind_ok run_pure run_value run_skip run_underlying' run_sizeOf run_typeInfo run_zero run_isAgg struct_of arr_of mkTK map_toList execOp_call_builtin execOp_call_func Callable run_callFunc oneCell Addr.add_none lt_of_some some_of_lt slice_of string_of run_bound int_of)
set_option linter.unusedVariables false
set_option linter.constructorNameAsVariable false
set_option linter.unusedSimpArgs false

section
variable {P : Program} {w0 : World} {O : Nat → Prop} {B : Nat → Option YB} {φ : Lm} {m : YM} {w : World} {r : YV} {ev : Ev} {xOf : Operand → Option X} {ρ : Operand → Value} {K : YV → YM → R}
  {call : FuncId → List YV → YM → (YV → YM → R) → R} {dst : Option Tmp} {ty : TypeId} {pos : String} {after : Array Edge} {guard : Option (Nat × Bool)} {y : Ye.O}

theorem VR_undef : VR φ (.tu []) undef := by unfold VR; exact ⟨[], rfl, by unfold VRs; rfl⟩

theorem go_makeMap {t : TypeId} (hc : compO P xOf (.makeMap t none) = some y) (he : EvOk φ ev xOf ρ) (hok : Ok w0 O B φ m w) (h : opK call y ev m K = .ok r) :
    Goes P (execOp ρ ⟨dst, .makeMap t none, ty, pos, after, guard⟩) w (Post w0 O B φ K r) := by
  simp only [compO, Option.some.injEq] at hc
  subst hc
  have h : m.newK (.m [] 0) (fun l m => K (.m l) m) = .ok r := h
  obtain ⟨m', q1, q2, q3, q4⟩ := YM.newK_ok h
  refine .val (sem := Instr.makeMap t none) (v := .map (some w.heap.size)) (w' := { w with heap := w.heap.push (.map #[] 0) }) rfl
    ⟨upd φ m.n ⟨w.heap.size, 0, 0⟩, _, m', hok.ext_upd _, hok.new (L := ⟨w.heap.size, 0, 0⟩) q2 q3 q4 rfl ⟨[], push_new, rfl⟩, ?_, q1⟩
  unfold VR
  exact ⟨_, upd_self .., rfl⟩

theorem lenOf_run {x : YV} {v : Value} (hv : VR φ x v) {n : Nat} (hn : x = .sn ∧ n = 0 ∨ (∃ l o e z, x = .sl l o n e z) ∨ ∃ s, x = .s s ∧ n = s.length) : (Builtin.lenOf v).run P w = .ok n w := by
  rcases hn with ⟨rfl, rfl⟩ | ⟨l, o, e, z, rfl⟩ | ⟨s, rfl, rfl⟩
  · unfold VR at hv; subst hv; rfl
  · unfold VR at hv
    obtain ⟨L, a, cap, _, rfl, _⟩ := hv
    rfl
  · unfold VR at hv
    obtain ⟨rfl, _⟩ := hv
    show (pure (str s).size : Sem Nat).run P w = _
    rw [str_size]
    rfl

/-- Cells are written where a slice begins. -/
theorem storeSl_ok (hok : Ok w0 O B φ m w) {l o n : Nat} {e : Option Nat} {z : Nat} {v : Value} (hv : VR φ (.sl l o n e z) v) {vs : List YV} {xs : List Value} (hx : VRs φ vs xs) (h1 : ∀ y ∈ vs, one1 y = true)
    (hlen : vs.length = 0 ∨ 0 < n) {K : YM → R} (h : m.storeK l o vs K = .ok r) :
    ∃ a cap m' w', v = .slice (some a) n cap ∧ (storeCells a xs).run P w = .ok () w' ∧ Ok w0 O B φ m' w' ∧ K m' = .ok r := by
  unfold VR at hv
  obtain ⟨L, a, cap, q1, rfl, q3, q4, q5, q6, q7⟩ := hv
  obtain ⟨m', w', g1, g2, g3⟩ := storeK_ok (P := P) hok h q1 hx h1
  refine ⟨a, cap, m', w', rfl, ?_, g2, g3⟩
  rcases hlen with h0 | hn
  · have : xs = [] := List.length_eq_zero_iff.1 (by rw [hx.len, h0])
    subst this
    exact g1
  · rw [q7 (by omega)]
    exact g1

theorem go_copy {x z : Operand} {t u : TypeId} (hc : compO P xOf (.call ⟨.builtin .copy, ⟨[x, z]⟩, ⟨[t, u]⟩⟩) = some y) (he : EvOk φ ev xOf ρ) (hok : Ok w0 O B φ m w) (h : opK call y ev m K = .ok r) :
    Goes P (execOp ρ ⟨dst, .call ⟨.builtin .copy, ⟨[x, z]⟩, ⟨[t, u]⟩⟩, ty, pos, after, guard⟩) w (Post w0 O B φ K r) := by
  rw [execOp_call_builtin]
  simp only [compO, Option.bind_eq_bind, Option.bind_eq_some_iff] at hc
  obtain ⟨ti, hti, hc⟩ := hc
  obtain ⟨inf, d, zv, g1, g2, g3, g4, g5, g6, -, -⟩ := mkTI_parts hti
  split at hc
  · rename_i e hk
    simp only [Option.bind_eq_some_iff, Option.some.injEq] at hc
    obtain ⟨te, hte, a, ha, b, hb, rfl⟩ := hc
    rw [g4] at hk
    obtain rfl := slice_of hk
    obtain ⟨i2, d2, z2, p1, p2, p3, p4, p5, p6, -, -⟩ := mkTI_parts hte
    have h : op_cp te.size a b ev m K = .ok r := h
    replace h := he.get ha h; obtain ⟨xv, hx, h⟩ := h
    replace h := he.get hb h; obtain ⟨zv', hz, h⟩ := h
    replace h := lenOfK_ok h; obtain ⟨k, h, hk⟩ := h
    replace h := lenOfK_ok h; obtain ⟨n, h, hn⟩ := h
    rw [natK_eq] at h
    obtain ⟨vs, xs, f1, f2, f3, f4, h⟩ := firstK_ok (P := P) hok hz h hk (Nat.min_le_left k n)
    have hrun : ∀ (bs : Option Addr) (cap : Nat) (w' : World), ρ x = .slice bs n cap → (∀ ad, bs = some ad → (storeCells ad xs).run P w = .ok () w') → (bs = none → w' = w) →
        (Builtin.copy_ #[t, u] ty #[ρ x, ρ z]).run P w = .ok (.int .i64 (Nat.min k n : Nat)) w' := by
      intro bs cap w' hbs hst hnn
      unfold Builtin.copy_
      simp only [show (#[t, u] : Array TypeId)[0]? = some t from rfl, show ∀ u v : Value, (#[u, v] : Array Value)[0]? = some u from fun _ _ => rfl, show ∀ u v : Value, (#[u, v] : Array Value)[1]? = some v from fun _ _ => rfl]
      rw [run_bind_ok (run_underlying' g2 w)]
      simp only [hbs]
      rw [run_bind_ok (lenOf_run hz hk), run_bind_ok (run_sizeOf p1 w), ← p5, run_bind_ok (f1 w.drawn)]
      cases bs with
      | none => rw [hnn rfl]; rfl
      | some ad =>
        simp only
        rw [run_bind_ok (hst ad rfl)]
        rfl
    cases xv with
    | sl l o n' e' z' =>
      have hnn : n' = n := by
        rcases hn with ⟨hh, _⟩ | ⟨_, _, _, _, hh⟩ | ⟨_, hh, _⟩
        · cases hh
        · cases hh; rfl
        · cases hh
      subst hnn
      have hl := f3.len
      obtain ⟨ad, cap, m', w', s1, s2, s3, s4⟩ := storeSl_ok (P := P) hok hx f3 f4 (by
        by_cases h0 : vs.length = 0
        · exact .inl h0
        · right
          rcases Nat.eq_zero_or_pos n' with h1 | h1
          · exfalso
            subst h1
            have : Nat.min k 0 = 0 := Nat.min_zero k
            rw [this, Nat.zero_mul] at f2
            omega
          · exact h1) h
      exact .val (sem := Builtin.copy_ #[t, u] ty #[ρ x, ρ z]) (hrun (some ad) cap w' s1 (fun ad' e => by cases e; exact s2) (fun e => by cases e)) ⟨φ, _, m', Ext.refl φ, s3, by unfold VR; rfl, s4⟩
    | sn =>
      unfold VR at hx
      have hn0 : n = 0 := by
        rcases hn with ⟨_, hh⟩ | ⟨_, _, _, _, hh⟩ | ⟨_, hh, _⟩
        · exact hh
        · cases hh
        · cases hh
      subst hn0
      exact .val (sem := Builtin.copy_ #[t, u] ty #[ρ x, ρ z]) (hrun none 0 w hx (fun ad' e => by cases e) (fun _ => rfl)) (.here hok (by unfold VR; rfl) h)
    | _ => cases h
  · cases hc

theorem zeroCells_eq (z : List Value) (hz : 0 < z.length) (n : Nat) : (Builtin.zeroCells ⟨z⟩ n).toList = (List.replicate n z).flatten := by
  unfold Builtin.zeroCells
  have := range_mod z hz n
  have h2 : (⟨z⟩ : Array Value).size = z.length := by simp
  simp only [h2] at this ⊢
  rw [this]

theorem go_clear {x : Operand} {t : TypeId} (hc : compO P xOf (.call ⟨.builtin .clear, ⟨[x]⟩, ⟨[t]⟩⟩) = some y) (he : EvOk φ ev xOf ρ) (hok : Ok w0 O B φ m w) (h : opK call y ev m K = .ok r) :
    Goes P (execOp ρ ⟨dst, .call ⟨.builtin .clear, ⟨[x]⟩, ⟨[t]⟩⟩, ty, pos, after, guard⟩) w (Post w0 O B φ K r) := by
  rw [execOp_call_builtin]
  simp only [compO, Option.bind_eq_bind, Option.bind_eq_some_iff] at hc
  obtain ⟨ti, hti, hc⟩ := hc
  obtain ⟨inf, d, zv, g1, g2, g3, g4, g5, g6, -, -⟩ := mkTI_parts hti
  split at hc
  · rename_i e hk
    simp only [Option.bind_eq_some_iff] at hc
    obtain ⟨te, hte, hc⟩ := hc
    split at hc
    · cases hc
    · rename_i hzl
      have hzl : te.zero.length = te.size := Decidable.not_not.1 hzl
      simp only [Option.bind_eq_some_iff, Option.some.injEq] at hc
      obtain ⟨zs, hzs, a, ha, rfl⟩ := hc
      rw [g4] at hk
      obtain rfl := slice_of hk
      obtain ⟨i2, d2, z2, p1, p2, p3, p4, p5, p6, -, -⟩ := mkTI_parts hte
      have hz2 : z2.cells = ⟨te.zero⟩ := by rw [p6]
      obtain ⟨k1, k2⟩ := zeroOf_ok (φ := φ) hzs
      have h : op_cl te.size zs a ev m K = .ok r := h
      replace h := he.get ha h; obtain ⟨xv, hx, h⟩ := h
      cases xv with
      | sn =>
        unfold VR at hx
        refine .val (sem := Builtin.clear_ #[t] ty #[ρ x]) (v := undef) (w' := w) ?_ (.here hok VR_undef h)
        rw [hx]
        unfold Builtin.clear_
        simp only [show (#[t] : Array TypeId)[0]? = some t from rfl, show ∀ u : Value, (#[u] : Array Value)[0]? = some u from fun _ => rfl]
        rw [run_bind_ok (run_underlying' g2 w)]
        rfl
      | sl l o n e' z' =>
        by_cases hn : n = 0
        · subst hn
          obtain ⟨ad, cap, m', w', s1, s2, s3, s4⟩ := storeSl_ok (P := P) hok hx (k1.flat 0) (ones_flat k2 0) (.inl rfl) h
          cases s2
          refine .val (sem := Builtin.clear_ #[t] ty #[ρ x]) (v := undef) (w' := w) ?_ ⟨φ, _, m', Ext.refl φ, s3, VR_undef, s4⟩
          rw [s1]
          unfold Builtin.clear_
          simp only [show (#[t] : Array TypeId)[0]? = some t from rfl, show ∀ u : Value, (#[u] : Array Value)[0]? = some u from fun _ => rfl]
          rw [run_bind_ok (run_underlying' g2 w)]
          rfl
        · obtain ⟨ad, cap, m', w', s1, s2, s3, s4⟩ := storeSl_ok (P := P) hok hx (k1.flat n) (ones_flat k2 n) (.inr (by omega)) h
          refine .val (sem := Builtin.clear_ #[t] ty #[ρ x]) (v := undef) (w' := w') ?_ ⟨φ, _, m', Ext.refl φ, s3, VR_undef, s4⟩
          rw [s1]
          unfold Builtin.clear_
          simp only [show (#[t] : Array TypeId)[0]? = some t from rfl, show ∀ u : Value, (#[u] : Array Value)[0]? = some u from fun _ => rfl]
          rw [run_bind_ok (run_underlying' g2 w)]
          cases n with
          | zero => exact absurd rfl hn
          | succ n =>
            simp only
            rw [run_bind_ok (run_zero p1 p3 w), hz2]
            have hflat : (Builtin.zeroCells ⟨te.zero⟩ (n + 1)).toList = (List.replicate (n + 1) te.zero).flatten := by
              by_cases h0 : te.zero.length = 0
              · have : te.zero = [] := List.length_eq_zero_iff.1 h0
                rw [this]
                simp [Builtin.zeroCells]
              · exact zeroCells_eq te.zero (by omega) _
            rw [hflat, run_bind_ok s2]
            rfl
      | _ => cases h
  · cases hc

theorem Ok.frozen (hok : Ok w0 O B φ m w) {b : Nat} {arr : Array Value} {e : TypeId} {fz fz' : Nat × Nat} (hb : w.heap[b]? = some (.cells arr e fz)) (hf : arr.size ≤ fz'.1) (hown : O b ∨ w0.heap.size ≤ b) {w' : World}
    (os : w'.os = w.os) (tape : w'.tape = w.tape) (output : w'.output = w.output) (size : w'.heap.size = w.heap.size) (same : ∀ k, k ≠ b → w'.heap[k]? = w.heap[k]?) (hb' : w'.heap[b]? = some (.cells arr e fz')) :
    Ok w0 O B φ m w' := by
  refine ⟨os.trans hok.os, tape.trans hok.tape, output.trans hok.output, by rw [size]; exact hok.size, fun k hk ho => ?_, hok.fresh, hok.lon, fun l c hc => ?_, hok.apart, hok.low⟩
  · by_cases hkb : k = b
    · subst hkb
      exact (hown.elim ho (by omega)).elim
    · rw [same k hkb, hok.keep k hk ho]
  · obtain ⟨L, h1, h2, h3⟩ := hok.blk l c hc
    refine ⟨L, h1, ?_, h3⟩
    by_cases hkb : L.blk = b
    · cases c with
      | c kin wr z zs es t =>
        obtain ⟨arr2, e2, fz2, k1, k2, k3, k4, k5⟩ := h2
        rw [hkb, hb] at k1
        cases k1
        exact ⟨arr, e, fz', by rw [hkb]; exact hb', .inr hf, k3, k4, k5⟩
      | m es c =>
        obtain ⟨ents, k1, _⟩ := h2
        rw [hkb, hb] at k1
        cases k1
      | im _ _ _ _ =>
        obtain ⟨_, _, _, k1⟩ := h2
        rw [hkb, hb] at k1
        cases k1
      | is _ _ => exact h2.elim
    · exact h2.same (Ext.refl φ) (same _ hkb)

theorem go_bb {s d : TypeId} {x : Operand} {a : X} (hc : compO P xOf (.convert s d x) = some (.bb a)) (he : EvOk φ ev xOf ρ) (hok : Ok w0 O B φ m w) (h : opK call (.bb a) ev m K = .ok r) :
    Goes P (execOp ρ ⟨dst, .convert s d x, ty, pos, after, guard⟩) w (Post w0 O B φ K r) := by
  simp only [compO] at hc
  split at hc
  · simp at hc
  · split at hc <;> simp at hc
  · rename_i e0 e hs hd
    split at hc
    · rename_i hsd hu
      simp only [Option.map_eq_some_iff, Ye.O.bb.injEq] at hc
      obtain ⟨a', ha, rfl⟩ := hc
      have h : op_bb a' ev m K = .ok r := h
      replace h := he.get ha h; obtain ⟨v, hv, h⟩ := h
      replace h := mSl h; obtain ⟨l, o, n, ee, z, rfl, h⟩ := h
      cases n with
      | zero => cases h
      | succ n =>
        replace h := YM.getK_ok h; obtain ⟨b, hb, h⟩ := h
        split at h
        · rename_i kin wr sz zs es tt
          replace h := (IF_ok h).resolve_right fun h => (by cases h.2)
          obtain ⟨hwr, h⟩ := h
          subst hwr
          have hv' := hv
          unfold VR at hv
          obtain ⟨L, ad, cap, q1, q2, q3, q4, q5, q6, q7⟩ := hv
          have had := q7 (by omega)
          obtain ⟨L', k1, k2, k3⟩ := hok.blk l _ hb
          rw [q1] at k1
          cases k1
          obtain ⟨arr, et, fz, c1, c2, c3, c4, c5⟩ := k2
          have hfz : ∃ fz', (w.freeze ⟨L.blk, arr.size, none⟩ 1).heap[L.blk]? = some (.cells arr et fz') ∧ arr.size ≤ fz'.1 := by
            unfold World.freeze
            rw [if_neg (by omega)]
            simp only [Array.getElem?_modify, c1, if_true, Option.map_some]
            refine ⟨_, rfl, ?_⟩
            split
            · exact Nat.le_refl _
            · rename_i hne
              rcases c2 with hc2 | hc2
              · exact absurd (by simpa using hc2) hne
              · exact Nat.le_min.2 ⟨hc2, Nat.le_refl _⟩
          obtain ⟨fz', hfz1, hfz2⟩ := hfz
          refine .val (sem := Go.convert s d (ρ x)) (v := ρ x) (w' := w.freeze ⟨L.blk, arr.size, none⟩ 1) ?_ ⟨φ, _, m, Ext.refl φ, hok.frozen c1 hfz2 (k3 rfl) ?_ ?_ ?_ ?_ ?_ hfz1, hv', h⟩
          · rw [q2, had]
            unfold Go.convert
            rw [run_bind_ok (run_underlying' hs w), run_bind_ok (run_underlying' hd w)]
            show (do match s == d, ← underlying e with
              | true, .int .u8 => do markStringish ⟨L.blk, L.base + o, none⟩; pure _
              | _, _ => unsupported (.noEntry "convert/other") : Sem Value).run P w = _
            rw [run_bind_ok (run_underlying' hu w), hsd]
            simp only
            have hmk : (markStringish ⟨L.blk, L.base + o, none⟩).run P w = .ok () (w.freeze ⟨L.blk, arr.size, none⟩ 1) := by
              unfold markStringish
              rw [run_bind_ok (m := shape _) (a := some (et, arr.size)) (w' := w) (by simp [shape, Sem.run, World.shape?, c1])]
              rfl
            rw [run_bind_ok hmk]
            rfl
          all_goals unfold World.freeze; rw [if_neg (by omega)]
          · simp
          · intro k hk
            simp [Array.getElem?_modify, Ne.symm hk]
        · cases h
    · cases hc
  · cases hc

end
end Go.Ye

/- Ye, part N: append. -/
namespace Go.Ye
open Go.Sx (TI TK mkTI mkTI_parts run_bind_ok run_pure run_value run_skip run_underlying' run_sizeOf run_typeInfo run_zero run_isAgg struct_of arr_of mkTK map_toList execOp_call_builtin execOp_call_func Callable run_callFunc oneCell Addr.add_none lt_of_some some_of_lt slice_of string_of run_bound int_of)
set_option linter.unusedVariables false
set_option linter.constructorNameAsVariable false
set_option linter.unusedSimpArgs false

section
variable {P : Program} {w0 : World} {O : Nat → Prop} {B : Nat → Option YB} {φ : Lm} {m : YM} {w : World} {r : YV} {ev : Ev} {xOf : Operand → Option X} {ρ : Operand → Value} {K : YV → YM → R}
  {call : FuncId → List YV → YM → (YV → YM → R) → R} {dst : Option Tmp} {ty : TypeId} {pos : String} {after : Array Edge} {guard : Option (Nat × Bool)} {y : Ye.O}

theorem Ok.drew (hok : Ok w0 O B φ m w) (n : Nat) : Ok w0 O B φ m { w with drawn := n } := ⟨hok.os, hok.tape, hok.output, hok.size, hok.keep, hok.fresh, hok.lon, fun l b hb => by
  obtain ⟨L, h1, h2, h3⟩ := hok.blk l b hb
  exact ⟨L, h1, h2.same (Ext.refl φ) rfl, h3⟩, hok.apart, hok.low⟩

/-- Room in place: cells are written behind a slice's; the label's own may be given up; a new label stands for the longer slice. -/
theorem growK_in (hok : Ok w0 O B φ m w) {l : Nat} {kin : Option Nat} {s : Nat} {zs : List YV} {es : Nat} {t : T YV} (hb : m.get l = some (.c kin true s zs es t)) {L : Loc} (hL : φ l = some L) {keep : Bool} {sz : Nat} {zs' : List YV}
    {es' : Nat} {t' : T YV} {K : Nat → YM → R} (h : growK m l kin keep s zs es t sz zs' es' t' K = .ok r) {o nz : Nat} (hkeep : keep = true → s ≤ o + nz) {vs : List YV} {xs : List Value} (hv : VRs φ vs xs) (h1 : ∀ y ∈ vs, one1 y = true)
    (hs : ∀ j, j < nz → o + j < s) (hsz : sz = nz + vs.length) (hold : ∀ j, j < nz → cellAt zs' es' t' j = cellAt zs es t (o + j)) (hnew : ∀ j, j < vs.length → cellAt zs' es' t' (nz + j) = vs[j]?) (hroom : o + nz + vs.length ≤ L.ext) :
    ∃ m' w', (storeCells ⟨L.blk, L.base + o + nz, none⟩ xs).run P w = .ok () w' ∧ Ext φ (upd φ m.n ⟨L.blk, L.base + o, L.ext - o⟩) ∧ Ok w0 O B (upd φ m.n ⟨L.blk, L.base + o, L.ext - o⟩) m' w' ∧ K m.n m' = .ok r := by
  obtain ⟨L', h3, h4, h5⟩ := hok.blk l _ hb
  rw [hL] at h3
  cases h3
  obtain ⟨arr, e, fz, g1, g2, g3, g4, g5'⟩ := h4
  have g5 := cells_at g5'
  have hlen := hv.len
  obtain ⟨w', k1, k2, k3, k4, k5, k6, arr', k7, k8, k9⟩ := run_storeCells' (P := P) (b := L.blk) (o := L.base + o + nz) xs 0 w arr e fz g1 g2 (hv.one h1) (by omega)
  obtain ⟨m1, h6, h7, h8, h9, h10⟩ := killK_ok h
  -- the memory behind it
  have hm : ∃ m', K m.n m' = .ok r ∧ m'.n = m.n + 1 ∧ m'.lo = m.lo ∧ m.lo ≤ l ∧ ∀ j, m'.get j = if j = m.n then some (.c (if keep then some l else none) true sz zs' es' t') else if j = l then (if keep then some (.c (some m.n) true s zs es t) else none)
      else if kin = some j then none else m.get j := by
    cases keep with
    | true =>
      replace h6 := (IF_ok h6).resolve_right fun h => (by cases h.1)
      obtain ⟨-, h6⟩ := h6
      rw [natK_eq] at h6
      obtain ⟨m2, a1, a2, a3, a4, a5⟩ := YM.setK_ok h6
      obtain ⟨m3, b1, b2, b3, b4⟩ := YM.newK_ok a1
      refine ⟨m3, by rw [a2, h7] at b1; exact b1, by omega, by rw [b3, a3, h8], by omega, fun j => ?_⟩
      rw [b4, a5, h10, a2, h7]
      simp
    | false =>
      replace h6 := (IF_ok h6).resolve_left fun h => (by cases h.1)
      obtain ⟨-, h6⟩ := h6
      obtain ⟨m2, a1, a2, a3, a4, a5⟩ := YM.delK_ok h6
      obtain ⟨m3, b1, b2, b3, b4⟩ := YM.newK_ok a1
      refine ⟨m3, by rw [a2, h7] at b1; exact b1, by omega, by rw [b3, a3, h8], by omega, fun j => ?_⟩
      rw [b4, a5, h10, a2, h7]
      simp
  obtain ⟨m', u1, u2, u3, u4, u5⟩ := hm
  have hln : l < m.n := hok.fresh l L hL
  have hx := hok.ext_upd ⟨L.blk, L.base + o, L.ext - o⟩
  refine ⟨m', w', k1, hx, ?_, u1⟩
  refine hok.change (Ch := fun b => b = L.blk) (New := fun j => j = l ∨ j = m.n) k2 k3 k4 (by omega) (fun b hb hn => k6 b hn) (fun b hb => by subst hb; exact h5 rfl) hx
    (fun j M hM => ?_) u3 (by omega) (fun j c hc hn => ?_) (fun j c hc hj => ?_) (fun j j' c c' M M' hj hne hc hc' hM hM' hbl => ?_) (fun j hj => ?_)
  · unfold upd at hM
    split at hM
    · omega
    · have := hok.fresh j M hM
      omega
  · rw [u5, if_neg (fun e => hn (.inr e)), if_neg (fun e => hn (.inl e))] at hc
    split at hc
    · cases hc
    · rename_i hk
      exact ⟨hc, fun M hM hbl => hk (hok.apart l j _ c L M (fun e => hn (.inl e.symm)) hb hc hL hM hbl.symm)⟩
  · rcases hj with rfl | rfl
    · rw [u5, if_neg (by omega), if_pos rfl] at hc
      cases keep with
      | false => cases hc
      | true =>
        simp only [if_true] at hc
        cases hc
        refine ⟨L, hx _ _ hL, ⟨arr', e, fz, k7, by rw [k8]; exact g2, by rw [k8]; exact g3, g4, fun i hi => ?_⟩, fun _ => h5 rfl⟩
        obtain ⟨y, x, hy, hx1, hx2⟩ := g5' i hi
        have := hkeep rfl
        exact ⟨y, x, hy, by rw [k9, if_neg (by omega)]; exact hx1, hx2.1.ext hx, hx2.2⟩
    · rw [u5, if_pos rfl] at hc
      cases hc
      refine ⟨_, upd_self .., ⟨arr', e, fz, k7, by rw [k8]; exact g2, by rw [k8, g3]; simp only; omega, by simp only; omega, fun i hi => ?_⟩, fun _ => h5 rfl⟩
      simp only
      by_cases hin : i < nz
      · rw [hold i hin]
        obtain ⟨y, x, hy, hx1, hx2⟩ := g5' (o + i) (hs i hin)
        exact ⟨y, x, hy, by rw [k9, if_neg (by omega), Nat.add_assoc]; exact hx1, hx2.1.ext hx, hx2.2⟩
      · have hj := hnew (i - nz) (by omega)
        rw [show nz + (i - nz) = i from by omega] at hj
        have hvi : vs[i - nz]? = some (vs[i - nz]'(by omega)) := List.getElem?_eq_getElem (by omega)
        obtain ⟨x, hx1, hx2⟩ := hv.get hvi
        refine ⟨_, x, by rw [hj, hvi], ?_, hx2.ext hx, h1 _ (List.mem_of_getElem? hvi)⟩
        rw [k9, if_pos ⟨by omega, by omega⟩, show L.base + o + i - (L.base + o + nz + 0) = i - nz from by omega]
        exact hx1
  · -- only the two labels share the block
    have hoth : ∀ j' c' M', j' ≠ l → j' ≠ m.n → m'.get j' = some c' → upd φ m.n ⟨L.blk, L.base + o, L.ext - o⟩ j' = some M' → M'.blk ≠ L.blk := fun j' c' M' hl hn hc' hM' hbl => by
      rw [u5, if_neg hn, if_neg hl] at hc'
      split at hc'
      · cases hc'
      · rename_i hk
        unfold upd at hM'
        rw [if_neg hn] at hM'
        exact hk (hok.apart l j' _ c' L M' (Ne.symm hl) hb hc' hL hM' hbl.symm)
    have hLl : upd φ m.n ⟨L.blk, L.base + o, L.ext - o⟩ l = some L := hx _ _ hL
    rcases hj with rfl | rfl
    · rw [hLl] at hM
      cases hM
      by_cases hj' : j' = m.n
      · subst hj'
        rw [u5, if_neg (by omega), if_pos rfl] at hc
        rw [u5, if_pos rfl] at hc'
        cases keep with
        | false => cases hc
        | true =>
          simp only [if_true] at hc hc'
          cases hc
          cases hc'
          exact ⟨rfl, rfl⟩
      · exact absurd hbl.symm (hoth j' c' M' hne.symm hj' hc' hM')
    · rw [upd_self] at hM
      cases hM
      by_cases hj' : j' = l
      · subst hj'
        rw [u5, if_neg (by omega), if_pos rfl] at hc'
        rw [u5, if_pos rfl] at hc
        cases keep with
        | false => cases hc'
        | true =>
          simp only [if_true] at hc hc'
          cases hc
          cases hc'
          exact ⟨rfl, rfl⟩
      · exact absurd hbl.symm (hoth j' c' M' hj' hne.symm hc' hM')
  · have := hok.lon
    rw [u5, if_neg (by omega), if_neg (by omega)]
    split
    · rename_i hk
      have := h9 j hk
      omega
    · rfl

/-- No room: a new block. -/
theorem growK_new (hok : Ok w0 O B φ m w) {l : Nat} {kin : Option Nat} {s : Nat} {zs : List YV} {es : Nat} {t : T YV} (hb : m.get l = some (.c kin true s zs es t)) {L : Loc} (hL : φ l = some L) {keep : Bool} {sz : Nat} {zs' : List YV}
    {es' : Nat} {t' : T YV} {K : Nat → YM → R} (h : growK m l kin keep s zs es t sz zs' es' t' K = .ok r) {xs rest : List Value} {e : TypeId}
    (hx : ∀ j, j < sz → ∃ y x, cellAt zs' es' t' j = some y ∧ xs[j]? = some x ∧ VC φ y x) (hsz : sz ≤ xs.length) :
    ∃ m', Ext φ (upd φ m.n ⟨w.heap.size, 0, (xs ++ rest).length⟩) ∧ Ok w0 O B (upd φ m.n ⟨w.heap.size, 0, (xs ++ rest).length⟩) m' { w with heap := w.heap.push (.cells ⟨xs ++ rest⟩ e) } ∧ K m.n m' = .ok r := by
  obtain ⟨m1, h6, h7, h8, h9, h10⟩ := killK_ok h
  -- first the labels, at the old world
  have hln : l < m.n := hok.fresh l L hL
  have hm : ∃ m2 m', K m.n m' = .ok r ∧ m2.n = m.n ∧ m'.n = m.n + 1 ∧ m'.lo = m2.lo ∧ Ok w0 O B φ m2 w ∧ ∀ j, m'.get j = if j = m.n then some (.c (if keep then some l else none) true sz zs' es' t') else m2.get j := by
    have hok1 : ∀ m2 : YM, m2.n = m.n → m2.lo = m.lo → m.lo ≤ l → (∀ j, m2.get j = if j = l then (if keep then some (.c (some m.n) true s zs es t) else none) else if kin = some j then none else m.get j) → Ok w0 O B φ m2 w := by
      intro m2 e1 e2 e3 e4
      have hg : ∀ j c, m2.get j = some c → ∃ c', m.get j = some c' ∧ (∀ w' φ' L, BR φ' w' L c' → BR φ' w' L c) ∧ owned c = owned c' ∧ (j ≠ l → c = c') ∧ (kin = some j → j = l) := by
        intro j c hc
        rw [e4] at hc
        by_cases hj : j = l
        · subst hj
          rw [if_pos rfl] at hc
          cases keep with
          | false => cases hc
          | true =>
            simp only [if_true] at hc
            cases hc
            exact ⟨_, hb, fun w' φ' L hB => hB, rfl, fun hne => absurd rfl hne, fun _ => rfl⟩
        · rw [if_neg hj] at hc
          split at hc
          · cases hc
          · rename_i hk
            exact ⟨c, hc, fun _ _ _ hB => hB, rfl, fun _ => rfl, fun hk' => absurd hk' hk⟩
      refine ⟨hok.os, hok.tape, hok.output, hok.size, hok.keep, fun j M hM => by rw [e1]; exact hok.fresh j M hM, by rw [e1, e2]; exact hok.lon, fun j c hc => ?_, fun j j' c c' M M' hne hc hc' hM hM' hbl => ?_, fun j hj => ?_⟩
      · obtain ⟨c', q1, q2, q3, -, -⟩ := hg j c hc
        obtain ⟨M, f1, f2, f3⟩ := hok.blk j c' q1
        exact ⟨M, f1, q2 _ _ _ f2, by rw [q3]; exact f3⟩
      · obtain ⟨d, q1, -, -, q4, q5⟩ := hg j c hc
        obtain ⟨d', q1', -, -, q4', q5'⟩ := hg j' c' hc'
        have hap := hok.apart j j' d d' M M' hne q1 q1' hM hM' hbl
        by_cases hj : j = l
        · subst hj
          rw [hb] at q1
          cases q1
          exact absurd (q5' hap) (Ne.symm hne)
        · rw [q4 hj]
          exact hap
      · rw [e4, if_neg (by omega)]
        split
        · rename_i hk
          have := h9 j hk
          omega
        · exact hok.low j (by omega)
    cases keep with
    | true =>
      replace h6 := (IF_ok h6).resolve_right fun h => (by cases h.1)
      obtain ⟨-, h6⟩ := h6
      rw [natK_eq] at h6
      obtain ⟨m2, a1, a2, a3, a4, a5⟩ := YM.setK_ok h6
      obtain ⟨m3, b1, b2, b3, b4⟩ := YM.newK_ok a1
      refine ⟨m2, m3, by rw [a2, h7] at b1; exact b1, by omega, by omega, b3, hok1 m2 (by omega) (by rw [a3, h8]) (by omega) (fun j => ?_), fun j => ?_⟩
      · rw [a5, h10, h7]
        simp
      · rw [b4, a2, h7]
        simp
    | false =>
      replace h6 := (IF_ok h6).resolve_left fun h => (by cases h.1)
      obtain ⟨-, h6⟩ := h6
      obtain ⟨m2, a1, a2, a3, a4, a5⟩ := YM.delK_ok h6
      obtain ⟨m3, b1, b2, b3, b4⟩ := YM.newK_ok a1
      refine ⟨m2, m3, by rw [a2, h7] at b1; exact b1, by omega, by omega, b3, hok1 m2 (by omega) (by rw [a3, h8]) (by omega) (fun j => ?_), fun j => ?_⟩
      · rw [a5, h10]
        simp
      · rw [b4, a2, h7]
        simp
  obtain ⟨m2, m', u1, u2, u3, u4, u5, u6⟩ := hm
  have hx2 := hok.ext_upd ⟨w.heap.size, 0, (xs ++ rest).length⟩
  refine ⟨m', hx2, ?_, u1⟩
  have := u5.new (L := ⟨w.heap.size, 0, (xs ++ rest).length⟩) (m' := m') (o := .cells ⟨xs ++ rest⟩ e) (by omega) u4 (fun j => by rw [u6, u2]) rfl (by
    rw [u2]
    refine ⟨⟨xs ++ rest⟩, e, (0, 0), push_new, .inl rfl, by simp, by simp; omega, fun j hj => ?_⟩
    obtain ⟨y, x, q0, q1, q2⟩ := hx j hj
    refine ⟨y, x, q0, ?_, q2.1.ext hx2, q2.2⟩
    simp only [Nat.zero_add, List.getElem?_toArray]
    rw [List.getElem?_append_left (by omega)]
    exact q1)
  rw [u2] at this
  exact this

end
end Go.Ye

/- Ye, part O: append, on. -/
namespace Go.Ye
open Go.Sx (TI TK mkTI mkTI_parts run_bind_ok run_pure run_value run_skip run_underlying' run_sizeOf run_typeInfo run_zero run_isAgg struct_of arr_of mkTK map_toList execOp_call_builtin execOp_call_func Callable run_callFunc oneCell Addr.add_none lt_of_some some_of_lt slice_of string_of run_bound int_of)
set_option linter.unusedVariables false
set_option linter.constructorNameAsVariable false
set_option linter.unusedSimpArgs false

section
variable {P : Program} {w0 : World} {O : Nat → Prop} {B : Nat → Option YB} {φ : Lm} {m : YM} {w : World} {r : YV} {ev : Ev} {xOf : Operand → Option X} {ρ : Operand → Value} {K : YV → YM → R}
  {call : FuncId → List YV → YM → (YV → YM → R) → R} {dst : Option Tmp} {ty : TypeId} {pos : String} {after : Array Edge} {guard : Option (Nat × Bool)} {y : Ye.O}

/-- How append goes. -/
def App (P : Program) (w0 : World) (O : Nat → Prop) (B : Nat → Option YB) (φ : Lm) (K : YV → YM → R) (r : YV) (w : World) (z k : Nat) (v : Value) (xs : List Value) : Prop :=
  ∃ a n cap, v = .slice a n cap ∧ ((n + k ≤ cap ∧ ∃ w', (∀ ad, a = some ad → (storeCells (ad.add (n * z)) xs).run P w = .ok () w') ∧ (a = none → w' = w) ∧ Post w0 O B φ K r (.slice a (n + k) cap) w') ∨
    (¬ n + k ≤ cap ∧ n + k ≤ 1000000 ∧ ∃ os, (∀ d, (Builtin.firstCells z n v).run P { w with drawn := d } = .ok ⟨os⟩ { w with drawn := d }) ∧ os.length = n * z ∧ ∀ newCap rest e, n + k ≤ newCap → rest.length = (newCap - (n + k)) * z →
      Post w0 O B φ K r (.slice (some ⟨w.heap.size, 0, none⟩) (n + k) newCap) { w with heap := w.heap.push (.cells ⟨os ++ xs ++ rest⟩ e) }))

theorem run_first_sl {L : Loc} {a : Addr} {n cap o z : Nat} (h7 : 0 < cap → a = ⟨L.blk, L.base + o, none⟩) (h6 : n ≤ cap) {os : List Value} (h1 : os.length = n * z) (h2 : ∀ j, j < n * z → w.cell? ⟨L.blk, L.base + o + j, none⟩ = os[j]?) :
    (Builtin.firstCells z n (.slice (some a) n cap)).run P w = .ok ⟨os⟩ w := by
  show (loadCells a (n * z)).run P w = _
  by_cases hc : cap = 0
  · have : n = 0 := by omega
    subst this
    rw [Nat.zero_mul] at h1 ⊢
    have : os = [] := List.length_eq_zero_iff.1 h1
    subst this
    rfl
  · rw [h7 (by omega), ← h1]
    exact Go.Sx.run_loadCells (P := P) (w := w) (b := L.blk) (o := L.base + o) os (fun j hj => h2 j (by omega))

/-- The values of old cells, out of the evaluator's. -/
theorem old_ok {L : Loc} {kin : Option Nat} {wr : Bool} {s : Nat} {zs : List YV} {es : Nat} {t : T YV} (hB : BR φ w L (.c kin wr s zs es t)) {o c : Nat} {old : List YV} (hl : old.length = c)
    (h : ∀ j, j < c → o + j < s ∧ cellAt zs es t (o + j) = old[j]?) :
    ∃ os, os.length = c ∧ (∀ j, j < c → w.cell? ⟨L.blk, L.base + o + j, none⟩ = os[j]?) ∧ VRs φ old os ∧ ∀ y ∈ old, one1 y = true := by
  obtain ⟨arr, e, fz, g1, g2, g3, g4, g5'⟩ := hB
  have g5 := cells_at g5'
  have hx : ∀ j, j < c → ∃ y x, old[j]? = some y ∧ arr[L.base + o + j]? = some x ∧ VC φ y x := fun j hj => by
    obtain ⟨h1, h2⟩ := h j hj
    have hy : old[j]? = some old[j] := List.getElem?_eq_getElem (by omega)
    rw [hy] at h2
    obtain ⟨x, h7, h8⟩ := g5 (o + j) _ h1 h2
    exact ⟨_, x, hy, by rw [Nat.add_assoc]; exact h7, h8⟩
  refine ⟨(List.range c).map fun j => (arr[L.base + o + j]?).getD undef, by simp, fun j hj => ?_, VRs.of (by simp [hl]) fun i y hy => ?_, fun y hy => ?_⟩
  · obtain ⟨y, x, _, h8, _⟩ := hx j hj
    rw [cell_at g1, h8, List.getElem?_map, List.getElem?_range hj]
    simp [h8]
  · have hi : i < c := by
      have := (List.getElem?_eq_some_iff.1 hy).1
      omega
    obtain ⟨y', x, h7, h8, h9⟩ := hx i hi
    rw [hy] at h7
    cases h7
    exact ⟨x, by rw [List.getElem?_map, List.getElem?_range hi]; simp [h8], h9.1⟩
  · obtain ⟨i, hi, rfl⟩ := List.mem_iff_getElem.1 hy
    obtain ⟨y', x, h7, h8, h9⟩ := hx i (by omega)
    rw [List.getElem?_eq_getElem hi] at h7
    cases h7
    exact h9.2

theorem newSlice_VR {l' need newCap z : Nat} {b : Nat} {ext : Nat} (hz : 0 < z) (he : newCap * z = ext) (hn : need ≤ newCap) : VR (upd φ l' ⟨b, 0, ext⟩) (.sl l' 0 need none z) (.slice (some ⟨b, 0, none⟩) need newCap) := by
  unfold VR
  exact ⟨_, _, newCap, upd_self .., rfl, hz, by simp [he], by simp, hn, fun _ => by simp⟩

theorem appK_ok (hok : Ok w0 O B φ m w) {z : Nat} (hz : 0 < z) {x : YV} {v : Value} (hx : VR φ x v) {k : Nat} {vs : List YV} {xs : List Value} (hv : VRs φ vs xs) (h1 : ∀ y ∈ vs, one1 y = true) (hlen : vs.length = k * z)
    (h : appK m z x k vs K = .ok r) : App P w0 O B φ K r w z k v xs := by
  have hxl := hv.len
  have hnewlen : ∀ (n : Nat) (os rest : List Value) (newCap : Nat), os.length = n * z → n + k ≤ newCap → rest.length = (newCap - (n + k)) * z → newCap * z = (os ++ xs ++ rest).length := fun n os rest newCap e1 e2 e3 => by
    simp only [List.length_append, e1, e3, hxl, hlen, ← Nat.add_mul]
    congr 1
    omega
  cases x with
  | sn =>
    unfold VR at hx
    subst hx
    cases k with
    | zero =>
      have : xs = [] := List.length_eq_zero_iff.1 (by rw [hxl, hlen, Nat.zero_mul])
      subst this
      exact ⟨none, 0, 0, rfl, .inl ⟨Nat.le_refl _, w, fun ad e => (by cases e), fun _ => rfl, .here hok (by unfold VR; rfl) h⟩⟩
    | succ k =>
      replace h := (IF_ok h).resolve_right fun h => (by cases h.2)
      obtain ⟨hk, h⟩ := h
      have hk : k + 1 ≤ 1000000 := Nat.le_of_ble_eq_true hk
      refine ⟨none, 0, 0, rfl, .inr ⟨by omega, by omega, [], fun _ => rfl, by simp, fun newCap rest e e1 e2 => ?_⟩⟩
      obtain ⟨m', q1, q2, q3⟩ := newK_row hok hv h1 rest e h
      refine ⟨_, _, m', q1, by simpa using q2, ?_, q3⟩
      rw [Nat.zero_add]
      exact newSlice_VR hz (by have := hnewlen 0 [] rest newCap (by simp) e1 e2; simpa using this) (by omega)
  | sl l o n e z' =>
    replace h := (IF_ok (c := Nat.beq z z') h).resolve_right fun h => (by cases h.2)
    obtain ⟨hzz, h⟩ := h
    have hzz := Nat.eq_of_beq_eq_true hzz
    subst hzz
    replace h := YM.getK_ok h
    obtain ⟨b, hb, h⟩ := h
    have hx' := hx
    unfold VR at hx
    obtain ⟨L, a, cap, q1, rfl, q3, q4, q5, q6, q7⟩ := hx
    cases b with
    | m _ _ => cases h
    | im _ _ _ _ => cases h
    | is _ _ => cases h
    | c kin wr s zs es t =>
      simp only [natK_eq] at h
      replace h := (IF_ok h).resolve_right fun h => (by cases h.2)
      obtain ⟨hneed, h⟩ := h
      have hneed : n + k ≤ 1000000 := Nat.le_of_ble_eq_true hneed
      obtain ⟨L', k1, k2, k3⟩ := hok.blk l _ hb
      rw [q1] at k1
      cases k1
      have k2' := k2
      obtain ⟨arr, et, fz, c1, c2, c3, c4, c5⟩ := k2
      have hcz : ∀ i j, i ≤ j → i * z ≤ j * z := fun i j h => Nat.mul_le_mul_right _ h
      have hE : e.getD s ≤ e.getD L.ext := by cases e <;> simp [c4]
      replace h := IF_ok h
      rcases h with ⟨hend, h⟩ | ⟨hend, h⟩
      · -- in place
        have hend : o + (n + k) * z ≤ e.getD s := Nat.le_of_ble_eq_true hend
        have hfit : n + k ≤ cap := by
          have : (n + k) * z ≤ cap * z := by omega
          exact Nat.le_of_mul_le_mul_right this hz
        obtain ⟨m', w', s1, s2, s3⟩ := storeK_ok (P := P) hok h q1 hv h1
        refine ⟨some a, n, cap, rfl, .inl ⟨hfit, w', fun ad e' => ?_, fun e' => (by cases e'), φ, _, m', Ext.refl φ, s2, ?_, s3⟩⟩
        · cases e'
          by_cases hc : cap = 0
          · have : xs = [] := List.length_eq_zero_iff.1 (by rw [hxl, hlen, show k = 0 from by omega, Nat.zero_mul])
            subst this
            exact s1
          · rw [q7 (by omega), Addr.add_none]
            have : L.base + Nat.add o (Nat.mul n z) = L.base + o + n * z := by
              show L.base + (o + n * z) = _
              omega
            rw [this] at s1
            exact s1
        · unfold VR
          exact ⟨L, a, cap, q1, rfl, q3, q4, q5, hfit, q7⟩
      · have hend : ¬ o + (n + k) * z ≤ e.getD s := fun hle => by
          rw [show Nat.ble (Nat.add o (Nat.mul (Nat.add n k) z)) (e.getD s) = true from Nat.ble_eq_true_of_le hle] at hend
          cases hend
        cases e with
        | some e' =>
          -- surely a new block
          simp only [Option.getD_some] at hend q4 q5 hE
          have hnf : ¬ n + k ≤ cap := fun hle => by
            have := hcz _ _ hle
            omega
          obtain ⟨old, o1, o2, o3⟩ := cellsK_ok h
          obtain ⟨os, r1, r2, r3, r4⟩ := old_ok k2' o1 o2
          refine ⟨some a, n, cap, rfl, .inr ⟨hnf, hneed, os, fun d => run_first_sl (w := { w with drawn := d }) q7 q6 r1 r2, r1, fun newCap rest ee e1 e2 => ?_⟩⟩
          obtain ⟨m', u1, u2, u3⟩ := newK_row hok (r3.append hv) (fun y hy => (List.mem_append.1 hy).elim (r4 y) (h1 y)) rest ee o3
          exact ⟨_, _, m', u1, u2, newSlice_VR hz (hnewlen n os rest newCap r1 e1 e2) e1, u3⟩
        | none =>
          simp only [Option.getD_none] at hend q4 q5
          replace h := (IF_ok (c := wr) h).resolve_right fun h => (by cases h.2)
          obtain ⟨hwr, h⟩ := h
          subst hwr
          -- what both ways share
          have key : ∀ (keep : Bool) (sz : Nat) (zs' : List YV) (es' : Nat) (t' : T YV), (keep = true → s ≤ o + n * z) → (∀ j, j < n * z → o + j < s) → sz = n * z + vs.length → (∀ j, j < n * z → cellAt zs' es' t' j = cellAt zs es t (o + j)) →
              (∀ j, j < vs.length → cellAt zs' es' t' (n * z + j) = vs[j]?) → growK m l kin keep s zs es t sz zs' es' t' (fun l' m => K (.sl l' 0 (n + k) none z) m) = .ok r →
              (∃ old : List YV, old.length = n * z ∧ ∀ j, j < n * z → o + j < s ∧ cellAt zs es t (o + j) = old[j]?) → App P w0 O B φ K r w z k (.slice (some a) n cap) xs := by
            intro keep sz zs' es' t' hkeep hs hsz hold hnew hg hdec
            by_cases hfit : n + k ≤ cap
            · have hroom : o + n * z + vs.length ≤ L.ext := by
                have := hcz _ _ hfit
                rw [hlen]
                rw [Nat.add_mul] at this
                omega
              obtain ⟨m', w', s1, s2, s3, s4⟩ := growK_in (P := P) hok hb q1 hg hkeep hv h1 hs hsz hold hnew hroom
              refine ⟨some a, n, cap, rfl, .inl ⟨hfit, w', fun ad e' => ?_, fun e' => (by cases e'), _, _, m', s2, s3, ?_, s4⟩⟩
              · cases e'
                by_cases hc : cap = 0
                · have : xs = [] := List.length_eq_zero_iff.1 (by rw [hxl, hlen, show k = 0 from by omega, Nat.zero_mul])
                  subst this
                  exact s1
                · rw [q7 (by omega), Addr.add_none]
                  exact s1
              · unfold VR
                refine ⟨_, a, cap, upd_self .., rfl, hz, ?_, ?_, hfit, fun hc => ?_⟩
                · simp only [Option.getD_none, Nat.zero_add]
                  omega
                · simp
                · rw [q7 hc, Nat.add_zero]
            · obtain ⟨old, o1, o2⟩ := hdec
              obtain ⟨os, r1, r2, r3, r4⟩ := old_ok k2' o1 o2
              refine ⟨some a, n, cap, rfl, .inr ⟨hfit, hneed, os, fun d => run_first_sl (w := { w with drawn := d }) q7 q6 r1 r2, r1, fun newCap rest ee e1 e2 => ?_⟩⟩
              obtain ⟨m', u1, u2, u3⟩ := growK_new (xs := os ++ xs) (rest := rest) (e := ee) hok hb q1 hg (fun j hj => by
                by_cases hin : j < n * z
                · rw [hold j hin, (o2 j hin).2]
                  have hy : old[j]? = some (old[j]'(by omega)) := List.getElem?_eq_getElem (by omega)
                  obtain ⟨x, x1, x2⟩ := r3.get hy
                  exact ⟨_, x, hy, by rw [List.getElem?_append_left (by omega)]; exact x1, x2, r4 _ (List.mem_of_getElem? hy)⟩
                · have hj' := hnew (j - n * z) (by omega)
                  rw [show n * z + (j - n * z) = j from by omega] at hj'
                  have hy : vs[j - n * z]? = some (vs[j - n * z]'(by omega)) := List.getElem?_eq_getElem (by omega)
                  obtain ⟨x, x1, x2⟩ := hv.get hy
                  exact ⟨_, x, by rw [hj', hy], by rw [List.getElem?_append_right (by omega), r1]; exact x1, x2, h1 _ (List.mem_of_getElem? hy)⟩) (by rw [List.length_append]; omega)
              exact ⟨_, _, m', u1, u2, newSlice_VR hz (hnewlen n os rest newCap r1 e1 e2) e1, u3⟩
          -- the content as a list
          have hlist : ∀ (keep : Bool), (keep = true → s ≤ o + n * z) → (cellsK zs es s t o (Nat.mul n z) fun old => growK m l kin keep s zs es t (old ++ vs).length (old ++ vs) (old ++ vs).length .l fun l' m => K (.sl l' 0 (Nat.add n k) none z) m) = .ok r → App P w0 O B φ K r w z k (.slice (some a) n cap) xs := by
            intro keep hkeep h
            obtain ⟨old, o1, o2, o3⟩ := cellsK_ok h
            have o1 : old.length = n * z := o1
            refine key keep _ _ _ _ hkeep (fun j hj => (o2 j hj).1) (by rw [List.length_append, o1]) (fun j hj => ?_) (fun j hj => ?_) o3 ⟨old, o1, o2⟩
            · rw [leaf_cell _ _ (by rw [List.length_append]; omega), List.getElem?_append_left (by omega)]
              exact ((o2 j hj).2).symm
            · rw [leaf_cell _ _ (by rw [List.length_append]; omega), List.getElem?_append_right (by omega)]
              congr 1
              omega
          replace h := IF_ok h
          rcases h with ⟨hat, h⟩ | ⟨hat, h⟩
          · have hat : o + n * z = s := Nat.eq_of_beq_eq_true hat
            cases o with
            | zero =>
              obtain ⟨t', p1, p2⟩ := putsK_ok h
              have hat' : Nat.add 0 (Nat.mul n z) = n * z := Nat.zero_add _
              rw [hat'] at p2
              refine key true _ zs es t' (fun _ => by omega) (fun j hj => by omega) ?_ (fun j hj => ?_) (fun j hj => ?_) p1 ?_
              · show 0 + (n + k) * z = _
                rw [hlen, Nat.add_mul]
                omega
              · unfold cellAt
                rw [p2, if_neg (by omega), Nat.zero_add]
              · unfold cellAt
                rw [p2, if_pos ⟨by omega, by omega⟩, show n * z + j - n * z = j from by omega, List.getElem?_eq_getElem hj]
              · refine ⟨(List.range (n * z)).map fun j => (cellAt zs es t j).getD .u, by simp, fun j hj => ⟨by omega, ?_⟩⟩
                obtain ⟨y, x, hy, _, _⟩ := c5 (0 + j) (by omega)
                rw [hy, List.getElem?_map, List.getElem?_range hj]
                rw [Nat.zero_add] at hy
                simp [hy]
            | succ o => exact hlist true (fun _ => by omega) h
          · exact hlist false (fun h => by cases h) h
  | _ => cases h

/-! ### the run -/

theorem Post.drew {v : Value} (h : Post w0 O B φ K r v w) (n : Nat) : Post w0 O B φ K r v { w with drawn := n } := by
  obtain ⟨φ', y, m', h1, h2, h3, h4⟩ := h
  exact ⟨φ', y, m', h1, h2.drew n, h3, h4⟩

theorem run_newRow' (cells : Array Value) (e : TypeId) (w : World) : (newRow e cells).run P w = .ok ⟨w.heap.size, 0, none⟩ { w with heap := w.heap.push (.cells cells e) } := rfl

/-- append of the elements of a slice or a string. -/
theorem run_app {t u ty e : TypeId} {i2 : TypeInfo} {z0 : Value} (ht : P.underlying t = some (.slice e)) (hu : (∃ xe, P.underlying u = some (.slice xe)) ∨ P.underlying u = some .string) (he : P.info? e = some i2) (hz : i2.zero = some z0)
    (hzl : z0.cells.size = i2.size) (hby : i2.bytes ≤ 100000) {v xv : Value} {k : Nat} {xs : List Value} (hlen : (Builtin.lenOf xv).run P w = .ok k w)
    (hfirst : ∀ d, (Builtin.firstCells i2.size k xv).run P { w with drawn := d } = .ok ⟨xs⟩ { w with drawn := d }) (h : App P w0 O B φ K r w i2.size k v xs) :
    ∃ v' w', (Builtin.append_ #[t, u] ty #[v, xv]).run P w = .ok v' w' ∧ Post w0 O B φ K r v' w' := by
  obtain ⟨a, n, cap, rfl, h⟩ := h
  rcases h with ⟨hfit, w', h1, h2, h3⟩ | ⟨hnf, hbd, os, h1, h2, h3⟩
  · refine ⟨_, w', ?_, h3⟩
    unfold Builtin.append_
    simp only [show (#[t, u] : Array TypeId)[0]? = some t from rfl, show (#[t, u] : Array TypeId)[1]? = some u from rfl, show ∀ u v : Value, (#[u, v] : Array Value)[0]? = some u from fun _ _ => rfl,
      show ∀ u v : Value, (#[u, v] : Array Value)[1]? = some v from fun _ _ => rfl]
    rw [run_bind_ok (run_underlying' ht w)]
    simp only
    rw [run_bind_ok (run_sizeOf he w)]
    rcases hu with ⟨xe, hu⟩ | hu
    all_goals
      rw [run_bind_ok (run_underlying' hu w), run_bind_ok (run_pure P _ w)]
      simp only [Bool.false_eq_true, if_false, Bool.not_false, if_true]
      rw [run_bind_ok hlen, if_pos hfit, run_bind_ok (hfirst w.drawn)]
      cases a with
      | none => rw [h2 rfl]; rfl
      | some ad =>
        simp only
        rw [run_bind_ok (h1 ad rfl)]
        rfl
  · have hcap : ¬ Builtin.nextslicecap (n + k) cap * i2.bytes > 2 ^ 48 := by
      have h1 := Go.Sx.nextslicecap_le (need := n + k) (cap := cap) (by omega)
      have h2 := Nat.mul_le_mul h1 hby
      have h3 : (2 * (n + k) + 1000) * 100000 ≤ (2 * 1000000 + 1000) * 100000 := Nat.mul_le_mul_right _ (by omega)
      have h4 : (2 : Nat) ^ 48 = 281474976710656 := by decide
      rw [h4]
      omega
    have hmax : ¬ ((n + k : Nat) : Int) > IntKind.i64.max := by
      have : IntKind.i64.max = 9223372036854775807 := by decide
      rw [this]
      omega
    have hnc : n + k ≤ Question.cut (.appendCap (n + k) cap e) (w.tape w.drawn (.appendCap (n + k) cap e)) := by simp [Question.cut]
    refine ⟨_, _, ?_, (h3 (Question.cut (.appendCap (n + k) cap e) (w.tape w.drawn (.appendCap (n + k) cap e))) (Builtin.zeroCells z0.cells (Question.cut (.appendCap (n + k) cap e) (w.tape w.drawn (.appendCap (n + k) cap e)) - (n + k))).toList e hnc ?_).drew (w.drawn + 1)⟩
    · unfold Builtin.append_
      simp only [show (#[t, u] : Array TypeId)[0]? = some t from rfl, show (#[t, u] : Array TypeId)[1]? = some u from rfl, show ∀ u v : Value, (#[u, v] : Array Value)[0]? = some u from fun _ _ => rfl,
        show ∀ u v : Value, (#[u, v] : Array Value)[1]? = some v from fun _ _ => rfl]
      rw [run_bind_ok (run_underlying' ht w)]
      simp only
      rw [run_bind_ok (run_sizeOf he w)]
      rcases hu with ⟨xe, hu⟩ | hu
      all_goals
        rw [run_bind_ok (run_underlying' hu w), run_bind_ok (run_pure P _ w)]
        simp only [Bool.false_eq_true, if_false, Bool.not_false, if_true]
        rw [run_bind_ok hlen, if_neg hnf, run_bind_ok (run_typeInfo he w), if_neg (fun h => hmax h.1), run_bind_ok (run_typeInfo he w), if_neg hcap]
        rw [run_bind_ok (m := choose _) (w' := { w with drawn := w.drawn + 1 }) rfl]
        rw [run_bind_ok (run_typeInfo he _), run_bind_ok (Go.Sx.run_askRoom _ _)]
        rw [run_bind_ok (h1 (w.drawn + 1)), run_bind_ok (hfirst (w.drawn + 1)), run_bind_ok (run_zero he hz _)]
        have hc : (⟨os⟩ : Array Value) ++ ⟨xs⟩ ++ Builtin.zeroCells z0.cells (Question.cut (.appendCap (n + k) cap e) (w.tape w.drawn (.appendCap (n + k) cap e)) - (n + k)) =
            ⟨os ++ xs ++ (Builtin.zeroCells z0.cells (Question.cut (.appendCap (n + k) cap e) (w.tape w.drawn (.appendCap (n + k) cap e)) - (n + k))).toList⟩ := by
          apply Array.toList_inj.1
          simp
        rw [hc, run_bind_ok (run_newRow' _ e _)]
        rfl
    · unfold Builtin.zeroCells
      simp [hzl]

end
end Go.Ye

