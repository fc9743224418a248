/- Sx, part S: literals and append. -/
import Derived.Test.YtpnnadojhacjiaaSxR
namespace Go.Sx
set_option linter.unusedVariables false

section
variable {P : Program} {tab : Tab} {w0 : World} {R : Nat → Nat → Prop} {av : Nat → Prop} {bs : List (Nat × Nat)} {cs : List (List Value)} {F : Fx}

theorem run_newRow (w : World) (e : TypeId) (c : List Value) : (newRow e ⟨c⟩).run P w = .ok ⟨w.heap.size, 0, none⟩ { w with heap := w.heap.push (.cells c.toArray e) } := rfl

/-- []T{..}, or the row of one that append takes: a row of the function's own. -/
theorem XVal.build (hT : TabOk P tab) {t : TypeId} {ti te : TI} {e : TypeId} (ht : look tab t = some ti) (hk : ti.k = .slice e) (he : look tab e = some te) {ps : List (Nat × Value)} {n : Nat} {K : KV} (vs : List Value)
    (hps : ps = vs.zipIdx.map fun x => (x.2, x.1)) (hn : n = vs.length) (hsz : ∀ v ∈ vs, v.cells.toList.length = te.size) (hroom : n * te.size ≤ 2 ^ 24)
    (h : ∀ b, K (.slice (some ⟨b, 0, none⟩) n n) bs cs ⟨F.D, F.rs ++ [(b, Row.c (vs.flatMap (·.cells.toList)))]⟩) : XVal P w0 R av (Instr.buildSlice t n ⟨ps⟩) bs cs F K := by
  subst hps hn
  refine XVal_iff.2 fun w hst => ?_
  obtain ⟨i1, d1, z1, p1, p2, p3, p4, p5, p6, p7, p8⟩ := mkTI_parts (hT _ _ ht)
  obtain ⟨i2, d2, z2, q1, q2, q3, q4, q5, q6, q7, q8⟩ := mkTI_parts (hT _ _ he)
  rw [p4] at hk
  obtain rfl := slice_of hk
  refine ⟨_, _, [], cs, _, ?_, by rw [List.append_nil]; exact hst.newRow (vs.flatMap (·.cells.toList)) e, by rw [List.append_nil]; exact h _⟩
  unfold Instr.buildSlice
  rw [run_bind_ok (run_underlying' p2 w)]
  simp only
  rw [run_bind_ok (run_sizeOf q1 w), ← q5, if_neg (by omega)]
  have key : ∀ z : Array Value, (match Instr.fill (fun i => some (i * te.size, te.size)) (Array.map (fun x => z[x % z.size]!) (Array.range (vs.length * te.size))) (List.map (fun x => (x.snd, x.fst)) vs.zipIdx) with
      | some cells => do
        let r ← newRow e cells
        pure (Value.slice (some r) vs.length vs.length)
      | _ => stuck "buildSlice: a part of the wrong size" : Sem Value).run P w =
      .ok (.slice (some ⟨w.heap.size, 0, none⟩) vs.length vs.length) { w with heap := w.heap.push (.cells (vs.flatMap (·.cells.toList)).toArray e) } := by
    intro z
    have hf := fill_all te.size vs 0 [] ((List.range (vs.length * te.size)).map (z[· % z.size]!)) (by simp) (by simp) hsz
    simp only [List.nil_append] at hf
    have hr : (Array.range (vs.length * te.size)).map (z[· % z.size]!) = ⟨(List.range (vs.length * te.size)).map (z[· % z.size]!)⟩ := by
      apply Array.toList_inj.1
      simp
    rw [hr]
    simp only [hf]
    rw [run_bind_ok (run_newRow w e _)]
    rfl
  split
  · rw [run_bind_ok (run_pure P _ w)]
    exact key _
  · rw [run_bind_ok (run_zero q1 q3 w), run_bind_ok (run_pure P _ w)]
    exact key _

/-! ### append -/

theorem growBy_le (newLen : Nat) : ∀ (k c : Nat), c ≤ newLen + (newLen + 768) / 4 → Builtin.growBy newLen k c ≤ newLen + (newLen + 768) / 4
  | 0, c, h => h
  | k + 1, c, h => by
    unfold Builtin.growBy
    split
    · exact h
    · exact growBy_le newLen k _ (by omega)

theorem nextslicecap_le {need cap : Nat} (h : cap < need) : Builtin.nextslicecap need cap ≤ 2 * need + 1000 := by
  unfold Builtin.nextslicecap
  split
  · omega
  · split
    · omega
    · have := growBy_le need 4 cap (by omega)
      omega

theorem run_firstCells {w : World} {a : Option Addr} {n c m sz : Nat} {L : List Value} (h : RowAt w a L) (hL : L.length = m * sz) : (Builtin.firstCells sz m (.slice a n c)).run P w = .ok ⟨L⟩ w := by
  cases a with
  | none => rw [RowAt.nil_of h]; rfl
  | some ad =>
    show (loadCells ad (m * sz)).run P w = _
    rw [← hL]
    rcases h with rfl | h
    · rfl
    have hsp : ad.spot = none := h.1
    have h : RowAt w (some ad) L := .inr h
    obtain ⟨b, o, s⟩ := ad
    simp at hsp
    subst hsp
    refine run_loadCells L fun j hj => ?_
    have := h.cell hj
    rwa [Addr.add_none] at this

theorem zeroCells_len (z : List Value) (n : Nat) : (Builtin.zeroCells ⟨z⟩ n).toList.length = n * z.length := by
  unfold Builtin.zeroCells
  simp

theorem run_append_fits {w : World} {t xt ty e xe : TypeId} {i2 : TypeInfo} (ht : P.underlying t = some (.slice e)) (hx : P.underlying xt = some (.slice xe)) (he : P.info? e = some i2) {a p : Option Addr} {n cap m cx : Nat}
    (hfit : n + m ≤ cap) {M : List Value} (hM : RowAt w p M) (hl : M.length = m * i2.size) {w' : World} (hs : ∀ ad, a = some ad → (storeCells (ad.add (n * i2.size)) M).run P w = .ok () w') (hn : a = none → w' = w) :
    (Builtin.append_ #[t, xt] ty #[.slice a n cap, .slice p m cx]).run P w = .ok (.slice a (n + m) cap) w' := by
  unfold Builtin.append_
  simp only [show (#[t, xt] : Array TypeId)[0]? = some t from rfl, show (#[t, xt] : Array TypeId)[1]? = some xt from rfl, show ∀ u v : Value, (#[u, v] : Array Value)[0]? = some u from fun _ _ => rfl,
    show ∀ u v : Value, (#[u, v] : Array Value)[1]? = some v from fun _ _ => rfl]
  rw [run_bind_ok (run_underlying' ht w)]
  simp only
  rw [run_bind_ok (run_sizeOf he w), run_bind_ok (run_underlying' hx w), run_bind_ok (run_pure P _ w)]
  simp only [Bool.false_eq_true, if_false, Bool.not_false, if_true]
  rw [run_bind_ok (m := Builtin.lenOf (.slice p m cx)) (a := m) (w' := w) rfl]
  rw [if_pos hfit]
  rw [run_bind_ok (run_firstCells hM hl)]
  cases a with
  | none => rw [hn rfl]; rfl
  | some ad =>
    simp only
    rw [run_bind_ok (hs ad rfl)]
    rfl

theorem run_askRoom (w : World) (n : Nat) : (askRoom n).run P w = .ok () w := by
  unfold askRoom
  split <;> rfl

theorem run_append_growsG {w : World} {t xt ty e xe : TypeId} {i2 : TypeInfo} {z : Value} (ht : P.underlying t = some (.slice e)) (hx : P.underlying xt = some (.slice xe)) (he : P.info? e = some i2) (hz : i2.zero = some z)
    {a p : Option Addr} {n cap m cx : Nat} (hfit : ¬ n + m ≤ cap) {L M : List Value} (hL : RowAt w a L) (hl : L.length = n * i2.size) (hM : RowAt w p M) (hm : M.length = m * i2.size) (hlen : n + m ≤ 4611686018427387904)
    (hroom : Builtin.nextslicecap (n + m) cap * i2.bytes ≤ 2 ^ 48) :
    ∃ newCap, n + m ≤ newCap ∧ (Builtin.append_ #[t, xt] ty #[.slice a n cap, .slice p m cx]).run P w =
      .ok (.slice (some ⟨w.heap.size, 0, none⟩) (n + m) newCap)
        { w with heap := w.heap.push (.cells (L ++ M ++ (Builtin.zeroCells z.cells (newCap - (n + m))).toList).toArray e), drawn := w.drawn + 1 } := by
  refine ⟨Question.cut (.appendCap (n + m) cap e) (w.tape w.drawn (.appendCap (n + m) cap e)), by simp [Question.cut], ?_⟩
  have hcap : ¬ Builtin.nextslicecap (n + m) cap * i2.bytes > 2 ^ 48 := by omega
  have hmax : ¬ ((n + m : Nat) : Int) > IntKind.i64.max := by
    have : IntKind.i64.max = 9223372036854775807 := by decide
    rw [this]
    omega
  unfold Builtin.append_
  simp only [show (#[t, xt] : Array TypeId)[0]? = some t from rfl, show (#[t, xt] : Array TypeId)[1]? = some xt from rfl, show ∀ u v : Value, (#[u, v] : Array Value)[0]? = some u from fun _ _ => rfl,
    show ∀ u v : Value, (#[u, v] : Array Value)[1]? = some v from fun _ _ => rfl]
  rw [run_bind_ok (run_underlying' ht w)]
  simp only
  rw [run_bind_ok (run_sizeOf he w), run_bind_ok (run_underlying' hx w), run_bind_ok (run_pure P _ w)]
  simp only [Bool.false_eq_true, if_false, Bool.not_false, if_true]
  rw [run_bind_ok (m := Builtin.lenOf (.slice p m cx)) (a := m) (w' := w) rfl]
  rw [if_neg hfit]
  rw [run_bind_ok (run_typeInfo he w), if_neg (fun h => hmax h.1)]
  rw [run_bind_ok (run_typeInfo he w), if_neg hcap]
  rw [run_bind_ok (m := choose _) (w' := { w with drawn := w.drawn + 1 }) rfl]
  rw [run_bind_ok (run_typeInfo he _), run_bind_ok (run_askRoom _ _)]
  rw [run_bind_ok (run_firstCells (L := L) (by exact hL) hl), run_bind_ok (run_firstCells (L := M) (by exact hM) hm)]
  rw [run_bind_ok (run_zero he hz _)]
  have hc : (⟨L⟩ : Array Value) ++ ⟨M⟩ ++ Builtin.zeroCells z.cells (Question.cut (.appendCap (n + m) cap e) (w.tape w.drawn (.appendCap (n + m) cap e)) - (n + m)) =
      ⟨L ++ M ++ (Builtin.zeroCells z.cells (Question.cut (.appendCap (n + m) cap e) (w.tape w.drawn (.appendCap (n + m) cap e)) - (n + m))).toList⟩ := by
    apply Array.toList_inj.1
    simp
  rw [hc, run_bind_ok (run_newRow _ e _)]
  rfl

theorem run_append_grows {w : World} {t xt ty e xe : TypeId} {i2 : TypeInfo} {z : Value} (ht : P.underlying t = some (.slice e)) (hx : P.underlying xt = some (.slice xe)) (he : P.info? e = some i2) (hz : i2.zero = some z)
    {a p : Option Addr} {n cap m cx : Nat} (hfit : ¬ n + m ≤ cap) {L M : List Value} (hL : RowAt w a L) (hl : L.length = n * i2.size) (hM : RowAt w p M) (hm : M.length = m * i2.size) (hlen : n + m ≤ 4611686018427387904)
    (hroom : (2 * (n + m) + 1000) * i2.bytes ≤ 2 ^ 48) :
    ∃ newCap, n + m ≤ newCap ∧ (Builtin.append_ #[t, xt] ty #[.slice a n cap, .slice p m cx]).run P w =
      .ok (.slice (some ⟨w.heap.size, 0, none⟩) (n + m) newCap)
        { w with heap := w.heap.push (.cells (L ++ M ++ (Builtin.zeroCells z.cells (newCap - (n + m))).toList).toArray e), drawn := w.drawn + 1 } :=
  run_append_growsG ht hx he hz hfit hL hl hM hm hlen (by
    have := Nat.mul_le_mul_right i2.bytes (nextslicecap_le (need := n + m) (cap := cap) (by omega))
    omega)

end
end Go.Sx
