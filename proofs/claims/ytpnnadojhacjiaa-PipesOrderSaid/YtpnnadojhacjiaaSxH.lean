/- Sx, part H: operations that touch memory; rows of operations; code. -/
import Derived.Test.YtpnnadojhacjiaaSxG
namespace Go.Sx
set_option linter.unusedVariables false

/-! ### writing a box -/

theorem run_store_cell {P : Program} {w : World} {a : Addr} {u v : Value} (h : w.cell? a = some u) (hf : w.frozen? a = false) (ho : oneCell v = true) : (store a v).run P w = .ok () (w.setCell a v) := by
  cases v <;> simp_all [store, Sem.run, oneCell]

theorem run_storeCells {P : Program} {b o : Nat} : ∀ (l : List Value) (i : Nat) (w : World) (arr : Array Value) (e : TypeId), w.heap[b]? = some (.cells arr e (0, 0)) → (∀ v ∈ l, oneCell v = true) →
    o + i + l.length ≤ arr.size → ∃ w', (storeCells ⟨b, o, none⟩ l i).run P w = .ok () w' ∧ w'.os = w.os ∧ w'.tape = w.tape ∧ w'.output = w.output ∧ w'.heap.size = w.heap.size ∧
      (∀ k, k ≠ b → w'.heap[k]? = w.heap[k]?) ∧ ∃ arr', w'.heap[b]? = some (.cells arr' e (0, 0)) ∧ arr'.size = arr.size ∧
      ∀ j, arr'[j]? = if o + i ≤ j ∧ j < o + i + l.length then l[j - (o + i)]? else arr[j]?
  | [], i, w, arr, e, h, _, _ => ⟨w, rfl, rfl, rfl, rfl, rfl, fun _ _ => rfl, arr, h, rfl, fun j => by rw [if_neg (by simp only [List.length_nil]; omega)]⟩
  | v :: l, i, w, arr, e, h, ho, hs => by
    simp only [List.length_cons] at hs
    obtain ⟨u, hu⟩ := some_of_lt (a := arr) (i := o + i) (by omega)
    have hc : w.cell? ⟨b, o + i, none⟩ = some u := by simp [World.cell?, h, hu]
    have hfz : w.frozen? ⟨b, o + i, none⟩ = false := by simp [World.frozen?, h]
    have h1 : (w.setCell ⟨b, o + i, none⟩ v).heap[b]? = some (.cells (arr.setIfInBounds (o + i) v) e (0, 0)) := by
      simp [World.setCell, Array.getElem?_modify, h]
    obtain ⟨w', g1, g2, g3, g4, g5, g6, arr', g7, g8, g9⟩ := run_storeCells (P := P) (b := b) (o := o) l (i + 1) (w.setCell ⟨b, o + i, none⟩ v) (arr.setIfInBounds (o + i) v) e h1 (fun x hx => ho x (List.mem_cons_of_mem _ hx)) (by simp; omega)
    refine ⟨w', ?_, g2, g3, g4, ?_, ?_, arr', g7, ?_, ?_⟩
    · unfold storeCells
      rw [Addr.add_none, run_bind_ok (run_store_cell hc hfz (ho v (List.mem_cons_self ..)))]
      exact g1
    · rw [g5]; simp [World.setCell]
    · intro k hk
      rw [g6 k hk]
      simp [World.setCell, Array.getElem?_modify, Ne.symm hk]
    · rw [g8]; simp
    · intro j
      rw [g9 j]
      by_cases hj : o + i = j
      · subst hj
        rw [if_neg (by omega), if_pos ⟨by omega, by simp⟩, Array.getElem?_setIfInBounds_self_of_lt (by omega)]
        simp
      · rw [Array.getElem?_setIfInBounds_ne hj]
        by_cases hin : o + (i + 1) ≤ j ∧ j < o + (i + 1) + l.length
        · rw [if_pos hin, if_pos ⟨by omega, by simp; omega⟩]
          rw [show j - (o + i) = (j - (o + (i + 1))) + 1 from by omega]
          simp
        · rw [if_neg hin, if_neg (by simp; omega)]

theorem run_storeVar {P : Program} {w : World} {t : TypeId} {ti : TI} (hti : mkTI P t = some ti) {b o : Nat} {c : List Value} (hr : Range w b o c) {v : Value} (hlen : v.cells.toList.length = ti.size)
    (hone : ∀ u ∈ v.cells.toList, oneCell u = true) {s : Nat} (hs : s + v.cells.toList.length ≤ c.length) :
    ∃ w', (Instr.storeAt t (.pointer (some ⟨b, o + s, none⟩)) v).run P w = .ok () w' ∧ KeepX (fun k i => k = b ∧ o ≤ i ∧ i < o + c.length) w w' ∧
      Range w' b o (c.take s ++ v.cells.toList ++ c.drop (s + v.cells.toList.length)) := by
  obtain ⟨i, d, z, h1, h2, h3, h4, h5, -, -, -⟩ := mkTI_parts hti
  obtain ⟨arr, e, ha, hc⟩ := hr
  have hsz : v.cells.toList.length ≠ 0 → o + s + v.cells.toList.length ≤ arr.size := fun hne => by
    have := hc (s + v.cells.toList.length - 1) (by omega)
    rw [List.getElem?_eq_getElem (by omega)] at this
    have := lt_of_some this
    omega
  have hgo : ∃ w', (storeCells ⟨b, o + s, none⟩ v.cells.toList 0).run P w = .ok () w' ∧ w'.os = w.os ∧ w'.tape = w.tape ∧ w'.output = w.output ∧ w'.heap.size = w.heap.size ∧
      (∀ k, k ≠ b → w'.heap[k]? = w.heap[k]?) ∧ ∃ arr', w'.heap[b]? = some (.cells arr' e (0, 0)) ∧ arr'.size = arr.size ∧
      ∀ j, arr'[j]? = if o + s ≤ j ∧ j < o + s + v.cells.toList.length then v.cells.toList[j - (o + s)]? else arr[j]? := by
    by_cases hne : v.cells.toList.length = 0
    · have : v.cells.toList = [] := List.eq_nil_of_length_eq_zero hne
      rw [this]
      exact ⟨w, rfl, rfl, rfl, rfl, rfl, fun _ _ => rfl, arr, ha, rfl, fun j => by rw [if_neg (by simp only [List.length_nil]; omega)]⟩
    · exact run_storeCells _ 0 w arr e ha hone (hsz hne)
  obtain ⟨w', g1, g2, g3, g4, g5, g6, arr', g7, g8, g9⟩ := hgo
  refine ⟨w', ?_, ⟨g2, g3, g4, by omega, fun k ob hob => ?_⟩, arr', e, g7, fun j hj => ?_⟩
  · show (storeVar t ⟨b, o + s, none⟩ v).run P w = _
    unfold storeVar
    rw [run_bind_ok (run_sizeOf h1 w)]
    have : ¬ v.cells.size ≠ i.size := by
      have : v.cells.toList.length = v.cells.size := by simp
      omega
    rw [if_neg this]
    exact g1
  · by_cases hk : k = b
    · subst hk
      rw [ha] at hob
      cases hob
      refine ⟨_, g7, .inr ⟨arr, arr', e, (0, 0), rfl, rfl, g8, fun j hj => ?_⟩⟩
      rw [g9 j, if_neg]
      intro hin
      exact hj ⟨rfl, by omega, by omega⟩
    · exact ⟨ob, by rw [g6 k hk, hob], .refl _ _⟩
  · rw [g9]
    simp only [List.length_append, List.length_take, List.length_drop] at hj
    have hmin : min s c.length = s := by omega
    by_cases hin : s ≤ j ∧ j < s + v.cells.toList.length
    · rw [if_pos (by omega)]
      rw [List.append_assoc, List.getElem?_append_right (by simp only [List.length_take]; omega), List.getElem?_append_left (by simp only [List.length_take]; omega)]
      simp only [List.length_take, hmin]
      congr 1
      omega
    · rw [if_neg (by omega), hc j (by omega)]
      by_cases hlt : j < s
      · rw [List.append_assoc, List.getElem?_append_left (by simp only [List.length_take]; omega), List.getElem?_take, if_pos hlt]
      · rw [List.getElem?_append_right (by simp only [List.length_take, List.length_append]; omega), List.getElem?_drop]
        congr 1
        simp only [List.length_take, List.length_append]
        omega

theorem natLen_iff {α : Type} : ∀ {l : List α} {n : Nat} {K : Nat → Prop}, natLen l n K → K (n + l.length)
  | [], n, K, h => h
  | _ :: xs, n, K, h => by
    have := natLen_iff (l := xs) h
    rw [List.length_cons, show n + (xs.length + 1) = n + 1 + xs.length from by omega]
    exact this

/-! ### one operation -/

section
variable {P : Program} {tab : Tab} {w0 : World} {R : Nat → Nat → Prop} {av : Nat → Prop} {bs : List (Nat × Nat)} {tm : List SV} {a : Array Value} {cs : List (List Value)} {D : Fx} {w : World} {K : KT}

theorem wp_of_value {o : Oper} {act : Act} {w' : World} {v : Value} {next : Act → World → Prop} {Q : Exit → Act → World → Prop}
    (h : (execOp act.eval o).run P w = .ok (.value v) w') (hn : next (act.put o.dst v) w') : o.wp P act w next Q := by
  unfold Oper.wp
  rw [h]
  exact hn

theorem wp_of_skip {o : Oper} {act : Act} {w' : World} {next : Act → World → Prop} {Q : Exit → Act → World → Prop}
    (h : (execOp act.eval o).run P w = .ok .skip w') (hn : next (act.put o.dst undef) w') : o.wp P act w next Q := by
  unfold Oper.wp
  rw [h]
  exact hn

theorem put_defers (act : Act) (d : Option Tmp) (v : Value) : (act.put d v).defers = act.defers := by cases d <;> rfl

theorem lift_put (hf : FrameOk bs tm a) {dst : Option Tmp} {s : SV} {y : Value} (hs : SVok bs s y) {w' : World} (hst : St w0 R av w' bs cs D)
    (hk : fin dst tm s fun tm' => K tm' bs cs D) : LiftN w0 R av K (Act.put ⟨a, []⟩ dst y) w' := by
  obtain ⟨tm', h1, h2⟩ := hf.put dst hs hk
  exact ⟨put_defers _ _ _, tm', bs, cs, D, h1, hst, h2⟩

theorem XVal.sound {m : Sem Value} {o : Oper} (hm : execOp (Act.eval ⟨a, []⟩) o = (do pure (.value (← m)))) (hf : FrameOk bs tm a) (hst : St w0 R av w bs cs D)
    (h : XVal P w0 R av m bs cs D fun v bs cs D => fin o.dst tm (.v v) fun tm' => K tm' bs cs D) (Q : Exit → Act → World → Prop) : o.wp P ⟨a, []⟩ w (LiftN w0 R av K) Q := by
  obtain ⟨v, w', ext, cs', D', h1, h2, h3⟩ := XVal_iff.1 h w hst
  exact wp_of_value (by rw [hm]; exact run_value h1) (lift_put (s := .v _) hf.mono rfl h2 h3)

theorem XUnit.sound {m : Sem Unit} {o : Oper} (hm : execOp (Act.eval ⟨a, []⟩) o = (do m; pure .skip)) (hf : FrameOk bs tm a) (hst : St w0 R av w bs cs D)
    (h : XUnit P w0 R av m bs cs D fun bs cs D => fin o.dst tm (.v undef) fun tm' => K tm' bs cs D) (Q : Exit → Act → World → Prop) : o.wp P ⟨a, []⟩ w (LiftN w0 R av K) Q := by
  obtain ⟨w', ext, cs', D', h1, h2, h3⟩ := XUnit_iff.1 h w hst
  exact wp_of_skip (by rw [hm]; exact run_skip h1) (lift_put (s := .v _) hf.mono rfl h2 h3)

theorem run_callFunc {f : FuncId} (h : Callable P f) (args : Array Value) (w : World) : (callFunc f args).run P w = .ok (.enter f args) w := by
  obtain ⟨fn, h1, h2, h3⟩ := h
  unfold callFunc
  rw [run_bind_ok (m := program) (a := P) (w' := w) rfl]
  simp only [h1, h3]
  have : fn.body.isNone = false := by simpa using h2
  simp only [this]
  rfl

theorem XCall.sound {f : FuncId} {vs : List Value} {o : Oper} (hm : execOp (Act.eval ⟨a, []⟩) o = callFunc f vs.toArray) (hf : FrameOk bs tm a) (hst : St w0 R av w bs cs D)
    (h : XCall P w0 R av f vs bs cs D fun v bs cs D => fin o.dst tm (.v v) fun tm' => K tm' bs cs D) (Q : Exit → Act → World → Prop) : o.wp P ⟨a, []⟩ w (LiftN w0 R av K) Q := by
  obtain ⟨hc, h⟩ := XCall_iff.1 h
  unfold Oper.wp
  rw [hm, run_callFunc hc, Oper.upon_enter]
  refine (h w hst).mono ?_
  rintro e w' ⟨v, ext, cs', D', rfl, h2, h3⟩
  exact lift_put (s := .v _) hf.mono rfl h2 h3

theorem boxK_sound {o : Oper} {c : List Value} {e : TypeId} {v : Value} (hv : v.cells = ⟨c⟩) (hm : (execOp (Act.eval ⟨a, []⟩) o).run P w = ((do pure (Next.value (.pointer (some (← newVar e v))))) : Sem Next).run P w)
    (hf : FrameOk bs tm a) (hst : St w0 R av w bs cs D) (h : boxK o.dst c tm bs cs D K) (Q : Exit → Act → World → Prop) : o.wp P ⟨a, []⟩ w (LiftN w0 R av K) Q := by
  have h := natLen_iff h w.heap.size
  have h := snocK_iff h
  have h := snocK_iff h
  refine wp_of_value (w' := { w with heap := w.heap.push (.cells c.toArray e) }) (v := .pointer (some ⟨w.heap.size, 0, none⟩)) ?_ ?_
  · rw [hm]
    unfold newVar newRow
    rw [hv]
    rfl
  · refine lift_put hf.mono (s := .p (0 + bs.length) 0) ⟨?_, by simp⟩ (hst.new c e) h
    unfold ptr
    rw [nth_eq]
    simp

theorem execOp_call_builtin (ρ : Operand → Value) (dst : Option Tmp) (b : Builtin) (xs : List Operand) (ts : Array TypeId) (ty : TypeId) (pos : String) (after : Array Edge) (guard : Option (Nat × Bool)) :
    execOp ρ ⟨dst, .call ⟨.builtin b, ⟨xs⟩, ts⟩, ty, pos, after, guard⟩ = builtin b ts ty ((⟨xs⟩ : Array Operand).map fun | .const _ => true | _ => false) ⟨xs.map ρ⟩ := by
  simp only [execOp, resolve, invoke, map_toList]
  rfl

theorem execOp_call_func (ρ : Operand → Value) (dst : Option Tmp) (x : Operand) (f : FuncId) (first cap : List Value) (xs : List Operand) (ts : Array TypeId) (ty : TypeId) (pos : String) (after : Array Edge)
    (guard : Option (Nat × Bool)) (hx : ρ x = .func (.func f) ⟨first⟩ ⟨cap⟩) :
    execOp ρ ⟨dst, .call ⟨.value x, ⟨xs⟩, ts⟩, ty, pos, after, guard⟩ = callFunc f ⟨first ++ xs.map ρ ++ cap⟩ := by
  simp only [execOp, resolve, map_toList, hx, Deferred.ofValue]
  show callFunc f _ = _
  simp

theorem xext_sound (hT : TabOk P tab) (hf : FrameOk bs tm a) (hst : St w0 R av w bs cs D) {o : Oper} (h : xext P tab w0 R av o tm bs cs D K) (Q : Exit → Act → World → Prop) :
    o.wp P ⟨a, []⟩ w (LiftN w0 R av K) Q := by
  obtain ⟨dst, op, ty, pos, after, guard⟩ := o
  have hg := GOk.nil tm
  unfold xext at h
  simp only at h
  split at h
  · rename_i e
    split at h
    · rename_i ti hl
      obtain ⟨i, d, z, h1, h2, h3, h4, h5, h6, -, -⟩ := mkTI_parts (hT _ _ hl)
      refine boxK_sound (o := ⟨dst, .alloc e, ty, pos, after, guard⟩) (v := z) (e := e) (by rw [h6]) ?_ hf hst h Q
      simp only [execOp, Instr.alloc]
      rw [run_bind, run_bind_ok (run_zero h1 h3 w)]
      rfl
    · exact XRaw_iff.1 h a w Q hf hst
  · rename_i e x
    have h := evV_sound hf hg h
    have h := cellsK_iff h
    exact boxK_sound (o := ⟨dst, .box e x, ty, pos, after, guard⟩) (v := Act.eval ⟨a, []⟩ x) (e := e) rfl rfl hf hst h Q
  · rename_i t ad x
    obtain ⟨sa, hsa, h⟩ := evG_sound hf hg h
    split at h
    · rename_i i s
      split at h
      · rename_i ti hl
        have h := evV_sound hf hg h
        have h := cellsK_iff h
        obtain ⟨hone, h⟩ := onesK_iff h
        obtain ⟨hlen, h⟩ := lenK_iff h
        obtain ⟨hi, h⟩ := nthK_iff [] h
        obtain ⟨hov, h⟩ := overK_iff h
        obtain ⟨_, h⟩ := setK_iff h
        obtain ⟨hr, hib⟩ := hst.box.get i hi
        obtain ⟨hsa, _⟩ := hsa
        obtain ⟨w', g1, g2, g3⟩ := run_storeVar (hT _ _ hl) hr hlen hone hov
        refine wp_of_skip (w' := w') ?_ (lift_put (s := .v _) hf rfl (hst.put i hib _ ?_ g2 g3) h)
        · simp only [execOp]
          rw [hsa]
          exact run_skip g1
        · simp only [List.length_append, List.length_take, List.length_drop]
          omega
      · exact XRaw_iff.1 h a w Q hf hst
    · rename_i av'
      have h := evV_sound hf hg h
      have hsa' : Act.eval ⟨a, []⟩ ad = av' := hsa
      refine XUnit.sound (o := ⟨dst, .store t ad x, ty, pos, after, guard⟩) ?_ hf hst h Q
      simp only [execOp, hsa']
    · exact h.elim
  · rename_i t x
    exact XVal.sound (o := ⟨dst, .load t x, ty, pos, after, guard⟩) rfl hf hst (evV_sound hf hg h) Q
  · rename_i t n ps
    refine XVal.sound (o := ⟨dst, .buildSlice t n ⟨ps⟩, ty, pos, after, guard⟩) ?_ hf hst (evPs_sound hf hg h) Q
    simp only [execOp, map_toList]
  · rename_i t ps
    refine XVal.sound (o := ⟨dst, .build t ⟨ps⟩, ty, pos, after, guard⟩) ?_ hf hst (evPs_sound hf hg h) Q
    simp only [execOp, map_toList]
  · rename_i t x i
    exact XVal.sound (o := ⟨dst, .indexAddr t x i, ty, pos, after, guard⟩) rfl hf hst (evV_sound hf hg (evV_sound hf hg h)) Q
  · rename_i t x i
    exact XVal.sound (o := ⟨dst, .index t x i, ty, pos, after, guard⟩) rfl hf hst (evV_sound hf hg (evV_sound hf hg h)) Q
  · rename_i t x lo hi mx
    exact XVal.sound (o := ⟨dst, .slice t x lo hi mx, ty, pos, after, guard⟩) rfl hf hst (evO_sound hf hg (evO_sound hf hg (evO_sound hf hg (evV_sound hf hg h)))) Q
  · rename_i s d x
    exact XVal.sound (o := ⟨dst, .convert s d x, ty, pos, after, guard⟩) rfl hf hst (evV_sound hf hg h) Q
  · rename_i t l c
    exact XVal.sound (o := ⟨dst, .makeSlice t l c, ty, pos, after, guard⟩) rfl hf hst (evV_sound hf hg (evV_sound hf hg h)) Q
  · rename_i op t x y t'
    exact XVal.sound (o := ⟨dst, .binOp op t x y t', ty, pos, after, guard⟩) rfl hf hst (evV_sound hf hg (evV_sound hf hg h)) Q
  · rename_i op t x
    exact XVal.sound (o := ⟨dst, .unOp op t x, ty, pos, after, guard⟩) rfl hf hst (evV_sound hf hg h) Q
  · rename_i t
    exact XVal.sound (o := ⟨dst, .makeMap t none, ty, pos, after, guard⟩) rfl hf hst h Q
  · rename_i t x i ok
    exact XVal.sound (o := ⟨dst, .lookup t x i ok, ty, pos, after, guard⟩) rfl hf hst (evV_sound hf hg (evV_sound hf hg h)) Q
  · rename_i t m k x
    exact XUnit.sound (o := ⟨dst, .mapUpdate t m k x, ty, pos, after, guard⟩) rfl hf hst (evV_sound hf hg (evV_sound hf hg (evV_sound hf hg h))) Q
  · rename_i t x
    exact XVal.sound (o := ⟨dst, .range t x, ty, pos, after, guard⟩) rfl hf hst (evV_sound hf hg h) Q
  · rename_i it s
    exact XVal.sound (o := ⟨dst, .next it s, ty, pos, after, guard⟩) rfl hf hst (evV_sound hf hg h) Q
  · rename_i t x
    exact XVal.sound (o := ⟨dst, .makeInterface t x, ty, pos, after, guard⟩) rfl hf hst (evV_sound hf hg h) Q
  · rename_i b xs ts
    have h := evVs_sound hf hg h
    split at h
    · rename_i m hm
      refine XVal.sound (o := ⟨dst, .call ⟨.builtin b, ⟨xs⟩, ts⟩, ty, pos, after, guard⟩) (m := m) ?_ hf hst h Q
      rw [execOp_call_builtin]
      cases b <;> simp only [semB] at hm <;> first | (cases hm; rfl) | (cases hm)
    · exact XRaw_iff.1 h a w Q hf hst
  · rename_i x xs ts
    obtain ⟨sf, hsf, h⟩ := evG_sound hf hg h
    split at h
    · rename_i f first cap
      have hsf' : Act.eval ⟨a, []⟩ x = .func (.func f) ⟨first⟩ ⟨cap⟩ := hsf
      split at h
      · have h := evVs_sound hf hg h
        refine XCall.sound (o := ⟨dst, .call ⟨.value x, ⟨xs⟩, ts⟩, ty, pos, after, guard⟩) ?_ hf hst h Q
        rw [execOp_call_func _ _ _ _ _ _ _ _ _ _ _ _ hsf']
        simp
      · have h := evVs_sound hf hg h
        refine XCall.sound (o := ⟨dst, .call ⟨.value x, ⟨xs⟩, ts⟩, ty, pos, after, guard⟩) ?_ hf hst h Q
        rw [execOp_call_func _ _ _ _ _ _ _ _ _ _ _ _ hsf']
    · exact XRaw_iff.1 h a w Q hf hst
  · exact XRaw_iff.1 h a w Q hf hst

theorem xop_sound (hT : TabOk P tab) (hf : FrameOk bs tm a) (hst : St w0 R av w bs cs D) {o : Oper} (h : xop P tab w0 R av o tm bs cs D K) (Q : Exit → Act → World → Prop) :
    o.wp P ⟨a, []⟩ w (LiftN w0 R av K) Q := by
  rcases xpure_sound hT hf (GOk.nil tm) h with h | ⟨v, s, h1, h2, h3⟩
  · exact xext_sound hT hf hst h Q
  · exact wp_of_value (h1 w fun _ => hst.box) (lift_put hf h2 hst h3)

end
end Go.Sx
