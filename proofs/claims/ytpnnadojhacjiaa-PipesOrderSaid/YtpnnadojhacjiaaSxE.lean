/- Sx, part E: what the executor asks of an operation that only computes is enough. -/
import Derived.Test.YtpnnadojhacjiaaSxD
namespace Go.Sx
set_option linter.unusedVariables false

theorem run_value {P : Program} {m : Sem Value} {v : Value} {w w' : World} (h : m.run P w = .ok v w') : (do pure (Next.value (← m)) : Sem Next).run P w = .ok (.value v) w' := by
  rw [run_bind_ok h]; rfl

theorem run_skip {P : Program} {m : Sem Unit} {w w' : World} (h : m.run P w = .ok () w') : (do m; pure Next.skip : Sem Next).run P w = .ok .skip w' := by
  rw [run_bind_ok h]; rfl

theorem kindIs_eq : ∀ {k k' : IntKind}, kindIs k k' = true → k = k' := by
  intro k k' h
  cases k <;> cases k' <;> first | rfl | (simp [kindIs] at h)

theorem eqGuard_int {P : Program} (op : BinOp) (t : TypeId) (x y : Operand) (k k' : IntKind) (a b : Int) (w : World) : (eqGuard op t x y (.int k a) (.int k' b)).run P w = .ok () w := by
  cases op <;> rfl

theorem eqGuard_bool {P : Program} (op : BinOp) (t : TypeId) (x y : Operand) (a b : Bool) (w : World) : (eqGuard op t x y (.bool a) (.bool b)).run P w = .ok () w := by
  cases op <;> rfl

theorem binInt_sound {P : Program} {op : BinOp} {t : TypeId} {k : IntKind} {a b : Int} {K : SV → Prop} {E : Prop} (h : binInt op k a b K E) :
    E ∨ ∃ v s, (∀ w, (binOp op t (.int k a) (.int k b)).run P w = .ok v w) ∧ (∀ bs, SVok bs s v) ∧ K s := by
  cases op <;> simp only [binInt] at h
  case quo =>
    refine .inr ⟨_, .v _, fun w => ?_, fun _ => rfl, h.rest⟩
    simp [binOp, Op.intDiv, h.ne]
  case rem =>
    refine .inr ⟨_, .v _, fun w => ?_, fun _ => rfl, h.rest⟩
    simp [binOp, Op.intDiv, h.ne]
  case shl => exact .inl h
  case shr => exact .inl h
  all_goals
    refine .inr ⟨_, .v _, fun w => ?_, fun _ => rfl, h⟩
    simp [binOp, Op.intArith, Op.intBits, Op.intCmp, bits, iEq_eq, iNe_eq, iLt_eq, iLe_eq, iGt_eq, iGe_eq]

theorem boolT_parts {P : Program} {tab : Tab} (hT : TabOk P tab) {t : TypeId} (h : boolT tab t = true) : P.underlying t = some .bool := by
  unfold boolT at h
  split at h
  · rename_i ti hl
    obtain ⟨i, d, z, h1, h2, h3, h4, h5, -, -, -⟩ := mkTI_parts (hT _ _ hl)
    rw [h4] at h
    cases d <;> simp [mkTK] at h
    exact h2
  · cases h

theorem run_equalIn_bool {P : Program} {t : TypeId} (h : P.underlying t = some .bool) (d : Nat) (a b : Bool) (w : World) : (Op.equalIn (d + 1) t (.bool a) (.bool b)).run P w = .ok (a == b) w := by
  unfold Op.equalIn
  rw [run_bind_ok (run_underlying' h w)]
  rfl

theorem run_equal_bool {P : Program} {t : TypeId} (h : P.underlying t = some .bool) (a b : Bool) (w : World) : (Op.equal t (.bool a) (.bool b)).run P w = .ok (a == b) w :=
  run_equalIn_bool h 9999 a b w

theorem binK_sound {P : Program} {tab : Tab} (hT : TabOk P tab) {bs : List (Nat × Nat)} {op : BinOp} {t : TypeId} {x y : SV} {u v : Value} (hx : SVok bs x u) (hy : SVok bs y v) {X Y : Operand}
    {K : SV → Prop} {E : Prop} (h : binK tab op t x y K E) :
    E ∨ ∃ r s, (∀ w, (do eqGuard op t X Y u v; binOp op t u v : Sem Value).run P w = .ok r w) ∧ SVok bs s r ∧ K s := by
  unfold binK at h
  split at h
  · rename_i k a k' b
    cases hx; cases hy
    split at h
    · rename_i hk
      obtain rfl := kindIs_eq hk
      rcases binInt_sound (P := P) (t := t) h with h | ⟨r, s, h1, h2, h3⟩
      · exact .inl h
      · exact .inr ⟨r, s, fun w => by rw [run_bind_ok (eqGuard_int op t X Y _ _ _ _ w)]; exact h1 w, h2 bs, h3⟩
    · exact .inl h
  · rename_i a b
    cases hx; cases hy
    split at h
    · rename_i hb
      refine .inr ⟨_, .v _, fun w => ?_, rfl, h⟩
      rw [run_bind_ok (eqGuard_bool _ t X Y _ _ w)]
      show (do pure (Value.bool (← Op.equal t (.bool a) (.bool b))) : Sem Value).run P w = _
      rw [run_bind_ok (run_equal_bool (boolT_parts hT hb) a b w)]
      rfl
    · rename_i hb
      refine .inr ⟨_, .v _, fun w => ?_, rfl, h⟩
      rw [run_bind_ok (eqGuard_bool _ t X Y _ _ w)]
      show (do pure (Value.bool (!(← Op.equal t (.bool a) (.bool b)))) : Sem Value).run P w = _
      rw [run_bind_ok (run_equal_bool (boolT_parts hT hb) a b w)]
      rfl
    · exact .inl h
  · exact .inl h

theorem unK_sound {P : Program} {bs : List (Nat × Nat)} {op : UnOp} {x : SV} {u : Value} (hx : SVok bs x u) {K : SV → Prop} {E : Prop} (h : unK op x K E) :
    E ∨ ∃ r s, (∀ w, (Op.unary op u).run P w = .ok r w) ∧ SVok bs s r ∧ K s := by
  unfold unK at h
  split at h
  · cases hx; exact .inr ⟨_, .v _, fun w => rfl, rfl, h⟩
  · cases hx; exact .inr ⟨_, .v _, fun w => rfl, rfl, h⟩
  · exact .inl h

theorem pickK_sound {bs : List (Nat × Nat)} {c : Bool} {x y : SV} {u v : Value} (hx : SVok bs x u) (hy : SVok bs y v) {K : SV → Prop} (h : pickK c x y K) :
    ∃ s, SVok bs s (if c then u else v) ∧ K s := by
  unfold pickK at h
  split at h
  · cases hx; cases hy
    exact ⟨.v _, by cases c <;> rfl, h⟩
  · rename_i c1 x
    cases hy
    obtain ⟨rfl, h⟩ := h
    refine ⟨.v _, ?_, h⟩
    cases c
    · rfl
    · have := hx rfl
      cases this
      rfl
  · rename_i c1 y
    cases hx
    obtain ⟨rfl, h⟩ := h
    refine ⟨.v _, ?_, h⟩
    cases c
    · have := hy rfl
      cases this
      rfl
    · rfl
  · cases c
    · exact ⟨_, hy, h⟩
    · exact ⟨_, hx, h⟩

theorem struct_of {d : TypeDesc} (h : mkTK d = .struct) : ∃ fs, d = .struct fs := by
  cases d <;> simp [mkTK] at h
  exact ⟨_, rfl⟩

theorem nth_map {α β : Type} (f : α → β) (d : α) (e : β) : ∀ (l : List α) (n : Nat), n < l.length → nth e (l.map f) n = f (nth d l n)
  | [], n, h => by simp at h
  | x :: l, 0, _ => rfl
  | x :: l, n + 1, h => nth_map f d e l n (by simpa using h)

theorem field_of {P : Program} {x : TI} {fs : Array Field} (ho : x.offs = fs.toList.map fun f => (f.offset, P.cellsOf f.type, ((P.underlying f.type).map fun d => (mkTK d).agg).getD false))
    {n : Nat} (hn : n < x.offs.length) : ∃ f, fs[n]? = some f ∧ f ∈ fs ∧ nth (0, 0, false) x.offs n = (f.offset, P.cellsOf f.type, ((P.underlying f.type).map fun d => (mkTK d).agg).getD false) := by
  have hl : n < fs.toList.length := by rw [ho] at hn; simpa using hn
  have hl' : n < fs.size := by simpa using hl
  refine ⟨fs[n], Array.getElem?_eq_getElem hl', Array.getElem_mem hl', ?_⟩
  rw [ho, nth_map _ default _ _ _ hl, nth_eq, List.getElem?_eq_getElem hl]
  rfl

theorem fieldAddrK_sound {P : Program} {bs : List (Nat × Nat)} {s : TypeId} {ti : TI} (hti : mkTI P s = some ti) {x : SV} {u : Value} (hx : SVok bs x u) {f : Nat} {K : SV → Prop} {E : Prop}
    (h : fieldAddrK ti x f K E) : E ∨ ∃ r sv, (∀ w, (Instr.fieldAt s u f).run P w = .ok r w) ∧ SVok bs sv r ∧ K sv := by
  unfold fieldAddrK at h
  split at h
  · rename_i hk
    obtain ⟨i, d, z, h1, h2, h3, h4, h5, h6, -, h7⟩ := mkTI_parts hti
    rw [h4] at hk
    obtain ⟨fs, rfl⟩ := struct_of hk
    obtain ⟨hall, ho⟩ := h7 fs rfl
    obtain ⟨hn, h⟩ := nthK_iff (0, 0, false) h
    obtain ⟨fd, hf, hm, hnth⟩ := field_of ho hn
    rw [hnth] at h
    obtain ⟨fi, hfi⟩ := Option.isSome_iff_exists.1 (hall fd hm).1
    have hc : P.cellsOf fd.type = fi.size := by simp [Program.cellsOf, hfi]
    rw [hc] at h
    cases hsz : fi.size with
    | zero => rw [hsz] at h; exact .inl h
    | succ n =>
      rw [hsz] at h
      have hplace : ∀ (a : Addr) (w : World), (fieldPlace a fd).run P w = .ok (a.add fd.offset) w := fun a w => by
        unfold fieldPlace
        rw [run_bind_ok (run_sizeOf hfi w), if_neg (by omega)]
        rfl
      simp only at h
      split at h
      · obtain ⟨rfl, hi⟩ := hx
        refine .inr ⟨_, .p _ _, fun w => ?_, ⟨rfl, hi⟩, h⟩
        unfold Instr.fieldAt
        rw [run_bind_ok (run_underlying' h2 w)]
        simp only [hf]
        rw [run_bind_ok (m := Instr.sureAddr _) (a := ⟨_, _, none⟩) (w' := w) rfl, run_bind_ok (hplace _ w), Addr.add_none]
        simp only [ptr, Nat.add_assoc]
        rfl
      · cases hx
        refine .inr ⟨_, .v _, fun w => ?_, rfl, h⟩
        unfold Instr.fieldAt
        rw [run_bind_ok (run_underlying' h2 w)]
        simp only [hf]
        rw [run_bind_ok (m := Instr.sureAddr _) (w' := w) rfl, run_bind_ok (hplace _ w)]
        rfl
      · exact .inl h
  · exact .inl h

theorem arr_of {d : TypeDesc} {n : Nat} {e : TypeId} (h : mkTK d = .arr n e) : d = .array n e := by
  cases d <;> simp [mkTK] at h
  rw [h.1, h.2]

theorem indexAddrK_sound {P : Program} {tab : Tab} (hT : TabOk P tab) {bs : List (Nat × Nat)} {t : TypeId} {ti : TI} (hti : mkTI P t = some ti) {x i : SV} {u v : Value} (hx : SVok bs x u) (hi : SVok bs i v) {K : SV → Prop} {E : Prop}
    (h : indexAddrK tab ti x i K E) : E ∨ ∃ r sv, (∀ w, (Instr.indexAt t u v).run P w = .ok r w) ∧ SVok bs sv r ∧ K sv := by
  unfold indexAddrK at h
  split at h
  · rename_i b o
    split at h
    · rename_i k j
      split at h
      · rename_i n e hk
        split at h
        · rename_i te hl
          split at h
          · rename_i hlt
            obtain ⟨rfl, hb⟩ := hx
            cases hi
            obtain ⟨i1, d1, z1, p1, p2, p3, p4, p5, p6, p7, p8⟩ := mkTI_parts hti
            obtain ⟨i2, d2, z2, q1, q2, q3, q4, q5, q6, q7, q8⟩ := mkTI_parts (hT _ _ hl)
            rw [p4] at hk
            obtain rfl := arr_of hk
            have hj : j < n := Nat.le_of_ble_eq_true hlt
            refine .inr ⟨_, .p b (o + j * te.size), fun w => ?_, ⟨rfl, hb⟩, h⟩
            unfold Instr.indexAt
            rw [run_bind_ok (m := asIntOf (.int k (.ofNat j))) (a := (k, .ofNat j)) (w' := w) rfl]
            simp only
            rw [run_bind_ok (run_underlying' p2 w)]
            simp only
            rw [run_bind_ok (m := Instr.sureAddr _) (a := ⟨_, _, none⟩) (w' := w) rfl, run_bind_ok (run_pure P _ w), run_bind_ok (run_underlying' p2 w)]
            simp only
            rw [if_pos ⟨by simp, by simpa using hj⟩, run_bind_ok (run_sizeOf q1 w), ← q5, Addr.add_none]
            simp only [ptr, Nat.add_assoc]
            rfl
          · exact .inl h
        · exact .inl h
      · exact .inl h
    · exact .inl h
  · exact .inl h

theorem run_part_agg {P : Program} {t : TypeId} {i : TypeInfo} {d : TypeDesc} (h1 : P.info? t = some i) (h2 : P.underlying t = some d) (ha : (mkTK d).agg = true) (l : List Value) (off : Nat) (w : World) :
    (part t ⟨l⟩ off).run P w = .ok (.agg ⟨(l.drop off).take i.size⟩) w := by
  unfold part
  rw [run_bind_ok (run_isAgg h2 w), ha]
  simp only [if_true]
  rw [run_bind_ok (run_sizeOf h1 w)]
  simp only [run_pure]
  congr 2
  apply Array.toList_inj.1
  simp [List.extract_eq_take_drop]

theorem run_part_one {P : Program} {t : TypeId} {d : TypeDesc} (h2 : P.underlying t = some d) (ha : (mkTK d).agg = false) (l : List Value) (off : Nat) {v : Value} (hv : l[off]? = some v) (w : World) :
    (part t ⟨l⟩ off).run P w = .ok v w := by
  unfold part
  rw [run_bind_ok (run_isAgg h2 w), ha]
  simp [hv]

theorem fieldK_sound {P : Program} {bs : List (Nat × Nat)} {s : TypeId} {ti : TI} (hti : mkTI P s = some ti) {x : SV} {u : Value} (hx : SVok bs x u) {f : Nat} {K : SV → Prop} {E : Prop}
    (h : fieldK ti x f K E) : E ∨ ∃ r sv, (∀ w, (Instr.field s u f).run P w = .ok r w) ∧ SVok bs sv r ∧ K sv := by
  unfold fieldK at h
  split at h
  · rename_i l hk
    cases hx
    obtain ⟨i, d, z, h1, h2, h3, h4, h5, h6, -, h7⟩ := mkTI_parts hti
    rw [h4] at hk
    obtain ⟨fs, rfl⟩ := struct_of hk
    obtain ⟨hall, ho⟩ := h7 fs rfl
    obtain ⟨hn, h⟩ := nthK_iff (0, 0, false) h
    obtain ⟨fd, hf, hm, hnth⟩ := field_of ho hn
    rw [hnth] at h
    obtain ⟨fi, hfi⟩ := Option.isSome_iff_exists.1 (hall fd hm).1
    obtain ⟨dd, hdd⟩ := Option.isSome_iff_exists.1 (hall fd hm).2
    have hc : P.cellsOf fd.type = fi.size := by simp [Program.cellsOf, hfi]
    rw [hdd, hc] at h
    have hrun : ∀ w, (Instr.field s (.agg ⟨l⟩) f).run P w = (part fd.type ⟨l⟩ fd.offset).run P w := fun w => by
      unfold Instr.field
      rw [run_bind_ok (run_underlying' h2 w)]
      simp only [hf]
      rw [run_bind_ok (m := asAgg _) (a := ⟨l⟩) (w' := w) rfl]
    split at h
    · rename_i heq
      simp only [Option.map_some, Option.getD_some, Prod.mk.injEq] at heq
      obtain ⟨rfl, rfl, ha⟩ := heq
      obtain ⟨h8, h9⟩ := subK_iff h
      exact .inr ⟨_, .v _, fun w => by rw [hrun]; exact run_part_agg hfi hdd ha l _ w, rfl, h9⟩
    · rename_i heq
      simp only [Option.map_some, Option.getD_some, Prod.mk.injEq] at heq
      obtain ⟨rfl, -, ha⟩ := heq
      obtain ⟨h8, h9⟩ := nthK_iff (.tuple #[]) h
      exact .inr ⟨_, .v _, fun w => by rw [hrun]; exact run_part_one hdd ha l _ (by rw [nth_eq, List.getElem?_eq_getElem h8]; rfl) w, rfl, h9⟩
  · exact .inl h

end Go.Sx
