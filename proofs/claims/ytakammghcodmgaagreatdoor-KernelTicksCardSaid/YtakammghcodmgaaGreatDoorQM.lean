/- Parts of the proof: SxZ. -/
import Derived.Test.YtakammghcodmgaaGreatDoorQB
import Derived.ProofKit
import Derived.OpenShut
import Derived.ChangeReads
import Derived.ReadAgain
import Derived.ChangeBears
namespace Go.Sx
open Go Go.ChangeShapes Go.WideShapes Go.ChangeAt Go.RowKit
set_option linter.unusedVariables false

section
variable {H : Type} {enc : TypeId × Value → H} {P : Program} {w : World} {base : Nat} {spare : Nat → Bool} {held : Bool}

theorem cellsOf_tab {tab : Tab} (hT : TabOk P tab) {t : TypeId} {ti : TI} (ht : look tab t = some ti) : P.cellsOf t = ti.size := by
 obtain ⟨i1, d1, z1, p1, p2, p3, p4, p5, p6, p7, p8⟩ := mkTI_parts (hT _ _ ht)
 unfold Program.cellsOf
 rw [p1, p5]
 rfl

theorem byte_of {n : Int} (h : (Lit.int .u8 n).wf = true) : ∃ x : UInt8, Value.int .u8 n = byteV x := by
 have h2 := bounds_u8 h
 refine ⟨UInt8.ofNat n.toNat, ?_⟩
 unfold byteV
 congr 1
 have : (UInt8.ofNat n.toNat).toNat = n.toNat % 256 := rfl
 rw [this]
 omega

theorem list_of {α : Type} {p : Nat → α → Prop} : ∀ (n : Nat), (∀ i, i < n → ∃ x, p i x) → ∃ l : List α, l.length = n ∧ ∀ i (h : i < l.length), p i l[i]
 | 0, _ => ⟨[], rfl, fun i h => by simp at h⟩
 | n + 1, h => by
  obtain ⟨l, hl, hp⟩ := list_of n (fun i hi => h i (by omega))
  obtain ⟨x, hx⟩ := h n (by omega)
  refine ⟨l ++ [x], by simp [hl], fun i hi => ?_⟩
  rw [List.getElem_append]
  split
  · exact hp i _
  · have : i = n := by simp at hi; omega
    subst this
    simpa using hx

theorem flatten_len {α : Type} {n : Nat} : ∀ {L : List (List α)}, (∀ c ∈ L, c.length = n) → L.flatten.length = L.length * n
 | [], _ => by simp
 | x :: L, h => by
  have h1 := h x (by simp)
  have h2 := flatten_len (L := L) fun c hc => h c (by simp [hc])
  simp only [List.flatten_cons, List.length_append, List.length_cons, Nat.succ_mul, h1, h2]
  omega

theorem flatten_at {α : Type} {n : Nat} : ∀ {L : List (List α)}, (∀ c ∈ L, c.length = n) → ∀ {i : Nat} (hi : i < L.length) {j : Nat}, j < n → L.flatten[i * n + j]? = L[i][j]?
 | [], _, i, hi, _, _ => by simp at hi
 | x :: L, h, 0, hi, j, hj => by
  have h1 := h x (by simp)
  simp only [List.flatten_cons, Nat.zero_mul, Nat.zero_add]
  rw [List.getElem?_append_left (by omega)]
  rfl
 | x :: L, h, i + 1, hi, j, hj => by
  have h1 := h x (by simp)
  have h2 := flatten_at (L := L) (fun c hc => h c (by simp [hc])) (i := i) (by simpa using hi) hj
  simp only [List.flatten_cons, List.getElem_cons_succ]
  rw [← h2, Nat.succ_mul, List.getElem?_append_right (by omega)]
  congr 1
  omega

/-- Elements that are each of a kind. -/
theorem each_of {α β : Type} {f : β → α} {good : β → Prop} : ∀ {L : List α}, (∀ c ∈ L, ∃ p, c = f p ∧ good p) → ∃ l : List β, L = l.map f ∧ ∀ p ∈ l, good p
 | [], _ => ⟨[], rfl, by simp⟩
 | x :: L, h => by
  obtain ⟨p, hp, hg⟩ := h x (by simp)
  obtain ⟨l, hl, hq⟩ := each_of (L := L) fun c hc => h c (by simp [hc])
  refine ⟨p :: l, by simp [hp, hl], fun q hq' => ?_⟩
  rcases List.mem_cons.1 hq' with rfl | h1
  · exact hg
  · exact hq q h1

theorem agree {P : World → Prop} {W : World} (h : P W) (hl : ∀ w', (∀ b, b < W.heap.size → w'.heap[b]? = W.heap[b]?) → P w') : Holds (fun _ => False) W P :=
 ⟨fun b => b < W.heap.size, fun b hb => ⟨hb, id⟩, hl⟩

theorem RowAt.agree {W w' : World} {a : Option Addr} {L : List Value} (h : RowAt W a L) (hw : ∀ b, b < W.heap.size → w'.heap[b]? = W.heap[b]?) : RowAt w' a L := by
 cases a with
 | none => exact h
 | some ad =>
  rcases h with rfl | ⟨h1, arr, e, fz, h2, h3⟩
  · exact .inl rfl
  exact .inr ⟨h1, arr, e, fz, by rw [hw _ (Array.getElem?_eq_some_iff.1 h2).1]; exact h2, h3⟩

theorem By.agree {W w' : World} {k : Hd} {l : List UInt8} (h : By W k l) (hw : ∀ b, b < W.heap.size → w'.heap[b]? = W.heap[b]?) : By w' k l := RowAt.agree h hw

end

section
variable {H : Type} {enc : TypeId × Value → H} {P : Program}

theorem PureSpec.run {f : FuncId} {vs : List Value} {Pre : World → Prop} {Rel : Value → Fx → Prop} (h : PureSpec P f vs Pre Rel) {w : World} (hp : Holds (fun _ => False) w Pre) :
 Calls P f vs.toArray w fun e w' => ∃ v F, e = .returned v ∧ Keep w w' ∧ Rel v F := by
 unfold PureSpec at h
 refine (h.2 _ w (fun _ h => h.elim) hp).mono ?_
 rintro e w' ⟨v, F, h1, h2, _, h3⟩
 exact ⟨v, F, h1, h2, h3⟩

theorem Keep.kept {W W' : World} (h : Keep W W') (may : MemPlace → Prop) : W.keptBut W' may := by
 refine ⟨h.os, h.output, fun i hi => ?_⟩
 rw [h.same hi]
 cases W.heap[i]? with
 | none => rfl
 | some o => cases o with
  | cells c t fr => exact ⟨rfl, rfl, rfl, fun _ _ => rfl⟩
  | map es clock => exact .inr ⟨rfl, rfl⟩
  | _ => rfl

theorem Keep.place {W W' : World} (h : Keep W W') {p : MemPlace} (hp : p.block < W.heap.size) : W.sameAt W' p := by
 cases p with
 | cell b o =>
  show W'.cell? _ = W.cell? _
  unfold World.cell?
  have e : W'.heap[b]? = W.heap[b]? := h.same hp
  simp only [e]
 | map b => exact h.same hp

theorem trodAll_carry {W W' : World} {sp : Nat → Bool} {hd : Bool} (hs : ∀ p : MemPlace, p.block < W.heap.size → W.sameAt W' p) :
 ∀ {ts : List TypeId} {vs : List Value} {ds : List (DataW H)} {ps : List MemPlace}, DataW.TrodAll enc P W 0 sp hd ts vs ds ps → DataW.TrodAll enc P W' 0 sp hd ts vs ds ps
 | [], [], [], _, h => h
 | _ :: _, _ :: _, _ :: _, _, ⟨p, q, ⟨n, h1⟩, h2, e⟩ => ⟨p, q, ⟨n, DataW.trod_carry n _ _ _ h1 fun x hx => hs x (DataW.trod_lt n _ _ _ h1 x hx)⟩, trodAll_carry hs h2, e⟩

/-- A law: it returned true, and all that was there is as it was. -/
theorem post_law {f : Func} {s : ChangeSpec} {apart fresh handsOn again : Bool} {W W' : World} {args : Array Value} {ds gs : List (DataW H)} {before : List MemPlace} {tb : TypeId}
 (hag : again = false) (hvar : s.vars = []) (hfn : s.fn H ds = { results := [.lit (.bool true)], args := ds }) (hrt : f.resultTypes = #[tb]) (htb : P.underlying tb = some .bool)
 (hl : laidOutB P = true) (hm : mapsRowed P = true) (hz : ((List.range P.types.size).all fun t => match P.underlying t with | some (.slice e) => decide (0 < P.cellsOf e) | _ => true) = true)
 (hts : ∀ t ∈ f.params.toList, t < P.types.size)
 (hW : DataW.Whole enc P f.params.toList s.vars apart W args.toList ds gs before) (hk : Keep W W') : s.post enc P f apart fresh handsOn again W args (.bool true) W' := by
 have hW' := hW
 obtain ⟨p, q, hA, hV, rfl, hfz, hnd⟩ := hW
 rw [hvar] at hV
 obtain ⟨rfl, rfl⟩ := trodVars_none hV
 have hlt := hA.lt
 have hargs : ∀ sp : Nat → Bool, (∀ x ∈ p, sp x.block = true) → DataW.TrodAll enc P W' 0 sp true f.params.toList args.toList ds p := fun sp hsp =>
  trodAll_carry (fun x hx => hk.place hx) (DataW.TrodAll.respare (kids_rows hl hm) (slices_full_of P hz) hts hA hsp)
 have hres : ∀ (b : Nat) (sp : Nat → Bool) (hd : Bool), DataW.TrodAll enc P W' b sp hd f.resultTypes.toList ((Value.bool true).resultList f.resultTypes.size) [.lit (.bool true)] [] := by
  intro b sp hd
  rw [hrt]
  exact trodAll_cons_mk (shut_bool htb _) trodAll_mk0
 rw [List.append_nil] at hfz hnd
 refine ⟨ds, [], p ++ [], [], p, [], hW', ?_, ?_, ?_, hk.kept _, fun h => by rw [hag] at h; cases h⟩
 · rw [List.append_nil, hfn]; exact hres _ _ _
 · rw [List.append_nil, hfn]; exact hargs _ fun x hx => by simpa using hlt x hx
 · rw [List.append_nil, hfn, hvar]; rfl

end
end Go.Sx
