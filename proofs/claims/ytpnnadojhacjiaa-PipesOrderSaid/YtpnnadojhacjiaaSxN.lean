/- Sx, part N: what the executor asks at a statement whose order is open is enough. -/
import Derived.Test.YtpnnadojhacjiaaSxM
namespace Go.Sx
set_option linter.unusedVariables false

/-! ### what the definitions say -/

theorem edgeOn_iff {e : Edge} {i : Nat} : edgeOn e = some i ↔ Region.binds .any e = true ∧ e.on = i := by
  unfold edgeOn Region.binds
  cases e.ground <;> simp

theorem edgeOn_none {e : Edge} (h : edgeOn e = none) : Region.binds .any e = false := by
  unfold edgeOn at h
  unfold Region.binds
  cases hg : e.ground <;> rw [hg] at h <;> first | rfl | (cases h)

theorem waitsOk_iff {L : List Bool} : ∀ {es : List Edge}, waitsOk L es = true ↔ ∀ e ∈ es, Region.binds .any e = true → nthB L e.on = true
  | [] => by simp [waitsOk]
  | e :: r => by
    simp only [waitsOk, List.mem_cons, forall_eq_or_imp]
    cases he : edgeOn e with
    | none =>
      simp only
      rw [waitsOk_iff]
      have := edgeOn_none he
      simp [this]
    | some i =>
      obtain ⟨h1, rfl⟩ := edgeOn_iff.1 he
      simp only
      cases hn : nthB L e.on with
      | true => simp only; rw [waitsOk_iff]; simp
      | false => simp [h1]

theorem after1_iff {i : Nat} : ∀ {es : List Edge}, after1 i es = true ↔ ∃ e ∈ es, Region.binds .any e = true ∧ e.on = i
  | [] => by simp [after1]
  | e :: r => by
    simp only [after1, List.mem_cons, exists_eq_or_imp]
    cases he : edgeOn e with
    | none =>
      simp only
      rw [after1_iff]
      have := edgeOn_none he
      simp [this]
    | some k =>
      obtain ⟨h1, rfl⟩ := edgeOn_iff.1 he
      simp only
      cases hb : Nat.beq i e.on with
      | true =>
        have := Nat.eq_of_beq_eq_true hb
        simp [h1, this]
      | false =>
        simp only
        rw [after1_iff]
        have : e.on ≠ i := fun h => by subst h; rw [Nat.beq_refl] at hb; cases hb
        simp [this]

theorem nthB_eq : ∀ (L : List Bool) (i : Nat), nthB L i = (L[i]?).getD false
  | [], _ => by simp [nthB]
  | _ :: _, 0 => by simp [nthB]
  | _ :: xs, n + 1 => by simp [nthB, nthB_eq xs n]

theorem setB_eq : ∀ (L : List Bool) (i : Nat), setB L i = L.set i true
  | [], _ => by simp [setB]
  | _ :: _, 0 => by simp [setB]
  | _ :: xs, n + 1 => by simp [setB, setB_eq xs n]

theorem nthB_setB {L : List Bool} {i j : Nat} (hi : i < L.length) : nthB (setB L i) j = true ↔ j = i ∨ nthB L j = true := by
  rw [nthB_eq, nthB_eq, setB_eq]
  by_cases h : i = j
  · subst h; rw [List.getElem?_set_self hi]; simp
  · rw [List.getElem?_set_ne h]
    constructor
    · exact .inr
    · rintro (rfl | h')
      · exact absurd rfl h
      · exact h'

theorem readsT_iff {d : Nat} : ∀ {xs : List Operand}, readsT d xs = true ↔ Operand.tmp d ∈ xs
  | [] => by simp [readsT]
  | x :: r => by
    cases x with
    | tmp t =>
      simp only [readsT, List.mem_cons, Operand.tmp.injEq]
      cases hb : Nat.beq t d with
      | true => simp [Nat.eq_of_beq_eq_true hb]
      | false =>
        simp only
        rw [readsT_iff]
        have : d ≠ t := fun h => by subst h; rw [Nat.beq_refl] at hb; cases hb
        simp [this]
    | _ =>
      simp only [readsT, List.mem_cons]
      rw [readsT_iff]
      simp

theorem looks_false {all : List Oper} {d : Nat} {o : Oper} (h : looks all d o = false) : Operand.tmp d ∉ o.op.operands.toList ∧ ∀ j pol, o.guard = some (j, pol) → (all[j]?).bind (·.dst) ≠ some d := by
  unfold looks at h
  split at h
  · cases h
  · rename_i hr
    refine ⟨fun hm => ?_, fun j pol hg he => ?_⟩
    · rw [readsT_iff.2 hm] at hr; cases hr
    · rw [hg] at h
      simp only [he] at h
      rw [Nat.beq_refl] at h
      cases h

theorem dstIs_false {d : Nat} {o : Oper} (h : dstIs d o = false) : o.dst ≠ some d := by
  intro he
  unfold dstIs at h
  rw [he] at h
  simp only [Nat.beq_refl] at h
  cases h

structure Free (all : List Oper) (i d : Nat) (oi : Oper) : Prop where
  own : looks all d oi = false
  looked : ∀ j oj, all[j]? = some oj → j ≠ i → looks all d oj = true → after1 i oj.after.toList = true
  alone : ∀ j oj, all[j]? = some oj → j ≠ i → oj.dst ≠ some d
  looking : ∀ j oj t, all[j]? = some oj → j ≠ i → oj.dst = some t → looks all t oi = true → after1 j oi.after.toList = true

theorem freeFrom_parts {all : List Oper} {i d : Nat} {oi : Oper} : ∀ {r : List Oper} {k : Nat}, freeFrom all i d oi r k = true →
    (∀ n oj, r[n]? = some oj → k + n ≠ i → (looks all d oj = true → after1 i oj.after.toList = true) ∧ oj.dst ≠ some d ∧ ∀ t, oj.dst = some t → looks all t oi = true → after1 (k + n) oi.after.toList = true) ∧
    ((∃ n, n < r.length ∧ k + n = i) → looks all d oi = false)
  | [], k, _ => ⟨fun n oj h => by simp at h, fun ⟨n, h, _⟩ => by simp at h⟩
  | o :: r, k, h => by
    simp only [freeFrom] at h
    cases hb : Nat.beq i k with
    | true =>
      have hik := Nat.eq_of_beq_eq_true hb
      rw [hb] at h
      simp only at h
      cases hl : looks all d oi with
      | true => rw [hl] at h; cases h
      | false =>
        rw [hl] at h
        simp only at h
        obtain ⟨h1, h2⟩ := freeFrom_parts h
        refine ⟨fun n oj hn hne => ?_, fun _ => rfl⟩
        cases n with
        | zero => omega
        | succ n =>
          have := h1 n oj (by simpa using hn) (by omega)
          rwa [show k + 1 + n = k + (n + 1) from by omega] at this
    | false =>
      have hik : i ≠ k := fun e => by subst e; rw [Nat.beq_refl] at hb; cases hb
      rw [hb] at h
      simp only at h
      have key : ∀ (hrec : freeFrom all i d oi r (k + 1) = true), (looks all d o = true → after1 i o.after.toList = true) → o.dst ≠ some d →
          (∀ t, o.dst = some t → looks all t oi = true → after1 k oi.after.toList = true) →
          (∀ n oj, (o :: r)[n]? = some oj → k + n ≠ i → (looks all d oj = true → after1 i oj.after.toList = true) ∧ oj.dst ≠ some d ∧ ∀ t, oj.dst = some t → looks all t oi = true → after1 (k + n) oi.after.toList = true) ∧
            ((∃ n, n < (o :: r).length ∧ k + n = i) → looks all d oi = false) := by
        intro hrec p1 p2 p3
        obtain ⟨h1, h2⟩ := freeFrom_parts hrec
        refine ⟨fun n oj hn hne => ?_, fun ⟨n, hn, he⟩ => ?_⟩
        · cases n with
          | zero => simp at hn; subst hn; exact ⟨p1, p2, fun t ht hlk => by simpa using p3 t ht hlk⟩
          | succ n =>
            have := h1 n oj (by simpa using hn) (by omega)
            rwa [show k + 1 + n = k + (n + 1) from by omega] at this
        · cases n with
          | zero => omega
          | succ n => exact h2 ⟨n, by simpa using hn, by omega⟩
      split at h
      · cases h
      · rename_i hnot
        have p1 : looks all d o = true → after1 i o.after.toList = true := fun hl => by
          cases ha : after1 i o.after.toList with
          | true => rfl
          | false => exact absurd ha (hnot hl)
        split at h
        · cases h
        · rename_i hdst
          split at h
          · rename_i hnone
            exact key h p1 (dstIs_false hdst) (fun t ht => by rw [hnone] at ht; cases ht)
          · rename_i t ht
            split at h
            · cases h
            · rename_i hnot2
              refine key h p1 (dstIs_false hdst) (fun t' ht' hl => ?_)
              rw [ht] at ht'
              cases ht'
              cases ha : after1 k oi.after.toList with
              | true => rfl
              | false => exact absurd ha (hnot2 hl)

theorem free_of {all : List Oper} {i d : Nat} {oi : Oper} (hi : i < all.length) (h : freeFrom all i d oi all 0 = true) : Free all i d oi := by
  obtain ⟨h1, h2⟩ := freeFrom_parts h
  refine ⟨h2 ⟨i, hi, by omega⟩, fun j oj hj hne => (h1 j oj hj (by omega)).1, fun j oj hj hne => (h1 j oj hj (by omega)).2.1, fun j oj t hj hne ht hl => ?_⟩
  have := (h1 j oj hj (by omega)).2.2 t ht hl
  rwa [Nat.zero_add] at this

theorem findQ_parts {tab : Tab} {all : List Oper} {tm : List SV} {L : List Bool} : ∀ {r : List Oper} {k : Nat} {i : Nat} {m : Bool}, findQ tab all tm L r k = some (i, m) →
    ∃ n o d, r[n]? = some o ∧ i = k + n ∧ nthB L i = false ∧ waitsOk L o.after.toList = true ∧ readOp tab tm o.op = some m ∧ o.dst = some d ∧ freeFrom all i d o all 0 = true
  | [], _, _, _, h => by simp [findQ] at h
  | o :: r, k, i, m, h => by
    simp only [findQ] at h
    have hrec : findQ tab all tm L r (k + 1) = some (i, m) → ∃ n o' d, (o :: r)[n]? = some o' ∧ i = k + n ∧ nthB L i = false ∧ waitsOk L o'.after.toList = true ∧ readOp tab tm o'.op = some m ∧ o'.dst = some d ∧ freeFrom all i d o' all 0 = true := by
      intro h
      obtain ⟨n, o', d, h1, h2, h3⟩ := findQ_parts h
      exact ⟨n + 1, o', d, by simpa using h1, by omega, h3⟩
    split at h
    · rename_i m' d hL hw hr hd
      split at h
      · rename_i hf
        cases h
        exact ⟨0, o, d, by simp, by omega, hL, hw, hr, hd, hf⟩
      · exact hrec h
    · exact hrec h

theorem readyL_mem {L : List Bool} : ∀ {r : List Oper} {k j : Nat}, j ∈ readyL L r k ↔ ∃ n o, r[n]? = some o ∧ j = k + n ∧ nthB L j = false ∧ waitsOk L o.after.toList = true
  | [], k, j => by simp [readyL]
  | o :: r, k, j => by
    simp only [readyL]
    have hrec := readyL_mem (L := L) (r := r) (k := k + 1) (j := j)
    have hsplit : (∃ n o', (o :: r)[n]? = some o' ∧ j = k + n ∧ nthB L j = false ∧ waitsOk L o'.after.toList = true) ↔
        (j = k ∧ nthB L k = false ∧ waitsOk L o.after.toList = true) ∨ j ∈ readyL L r (k + 1) := by
      rw [hrec]
      constructor
      · rintro ⟨n, o', h1, h2, h3, h4⟩
        cases n with
        | zero => simp at h1; subst h1; left; have : j = k := by omega
                  subst this; exact ⟨rfl, h3, h4⟩
        | succ n => right; exact ⟨n, o', by simpa using h1, by omega, h3, h4⟩
      · rintro (⟨rfl, h2, h3⟩ | ⟨n, o', h1, h2, h3⟩)
        · exact ⟨0, o, by simp, by omega, h2, h3⟩
        · exact ⟨n + 1, o', by simpa using h1, by omega, h3⟩
    rw [hsplit]
    cases h1 : nthB L k <;> cases h2 : waitsOk L o.after.toList <;> simp

theorem allK_mem {S : Nat → Prop} : ∀ {l : List Nat}, allK S l → ∀ j ∈ l, S j
  | [], h, _, _ => h.elim
  | [j], h, k, hk => by simp at hk; subst hk; exact h
  | j :: i :: r, h, k, hk => by
    rcases List.mem_cons.1 hk with rfl | hk
    · exact h.1
    · exact allK_mem h.2 k hk

theorem edgesOf_eq : ∀ {all : List Oper} {k : Nat} {e : Edge}, e ∈ edgesOf all k → ∃ o, all[k]? = some o ∧ e ∈ o.after.toList
  | [], _, _, h => by simp [edgesOf] at h
  | o :: _, 0, _, h => ⟨o, rfl, h⟩
  | _ :: r, n + 1, _, h => by
    obtain ⟨o, h1, h2⟩ := edgesOf_eq (all := r) (k := n) h
    exact ⟨o, by simpa using h1, h2⟩

theorem dataBack_done {ops : Array Oper} {L' : Array Bool} (hc : ∀ k ok, ops[k]? = some ok → L'.getD k false = true → ∀ e ∈ ok.after, Region.binds .any e = true → L'.getD e.on false = true) :
    ∀ {es : List Edge}, (∀ e ∈ es, Region.binds .any e = true → L'.getD e.on false = true) → ∀ e ∈ dataBack ops.toList es, Region.binds .any e = true → L'.getD e.on false = true
  | [], _, e, he => by simp [dataBack] at he
  | x :: r, h, e, he => by
    have ih := dataBack_done hc (es := r) fun e he => h e (List.mem_cons_of_mem _ he)
    simp only [dataBack] at he
    split at he
    · split at he
      · rename_i k hk
        rcases List.mem_append.1 he with he | he
        · obtain ⟨o, h1, h2⟩ := edgesOf_eq he
          have hx : Region.binds .any x = true ∧ x.on = k := edgeOn_iff.1 hk
          have hd := h x (List.mem_cons_self ..) hx.1
          rw [hx.2] at hd
          exact hc k o (by rw [← Array.getElem?_toList]; exact h1) hd e (Array.mem_toList_iff.1 h2)
        · exact ih e he
      · exact ih e he
    · exact ih e he

theorem afterT_done {ops : Array Oper} {L' : Array Bool} (hc : ∀ k ok, ops[k]? = some ok → L'.getD k false = true → ∀ e ∈ ok.after, Region.binds .any e = true → L'.getD e.on false = true) {i : Nat} :
    ∀ (n : Nat) {es : List Edge}, (∀ e ∈ es, Region.binds .any e = true → L'.getD e.on false = true) → afterT ops.toList n i es = true → L'.getD i false = true
  | 0, es, h, ha => by
    obtain ⟨e, he, hb, rfl⟩ := after1_iff.1 ha
    exact h e he hb
  | n + 1, es, h, ha => by
    simp only [afterT] at ha
    split at ha
    · rename_i h1
      obtain ⟨e, he, hb, rfl⟩ := after1_iff.1 h1
      exact h e he hb
    · exact afterT_done hc n (dataBack_done hc h) ha

theorem dropE_mem {all : List Oper} {es : List Edge} {i : Nat} {m : Dep} : ∀ {E : List (Nat × Dep)}, (i, m) ∈ E → afterT all 3 i es = false → (i, m) ∈ dropE all es E
  | [], h, _ => by simp at h
  | (k, b) :: r, h, ha => by
    simp only [dropE]
    rcases List.mem_cons.1 h with h | h
    · cases h
      rw [ha]
      exact List.mem_cons_self ..
    · have := dropE_mem h ha
      split
      · exact this
      · exact List.mem_cons_of_mem _ this

theorem anyAll_mem {i : Nat} : ∀ {E : List (Nat × Dep)}, (i, Dep.all) ∈ E → anyAll E = true
  | [], h => by simp at h
  | (k, .all) :: r, _ => rfl
  | (k, .none) :: r, h => by
    rcases List.mem_cons.1 h with h | h
    · cases h
    · show anyAll r = true
      exact anyAll_mem h
  | (k, .box _) :: r, h => by
    rcases List.mem_cons.1 h with h | h
    · cases h
    · show anyAll r = true
      exact anyAll_mem h

theorem boxesK_iff {bs : List (Nat × Nat)} {cs : List (List Value)} {bs' : List (Nat × Nat)} {cs' : List (List Value)} {K : Prop} : ∀ {E : List (Nat × Dep)}, boxesK bs cs bs' cs' K E →
    K ∧ ∀ i j, (i, Dep.box j) ∈ E → nth (0, 0) bs' j = nth (0, 0) bs j ∧ nth [] cs' j = nth [] cs j ∧ j < cs'.length
  | [], h => ⟨h, fun i j hi => by simp at hi⟩
  | (k, .none) :: r, h => by
    obtain ⟨h1, h2⟩ := boxesK_iff (E := r) h
    refine ⟨h1, fun i j hi => ?_⟩
    rcases List.mem_cons.1 hi with hi | hi
    · cases hi
    · exact h2 i j hi
  | (k, .all) :: r, h => by
    obtain ⟨h1, h2⟩ := boxesK_iff (E := r) h
    refine ⟨h1, fun i j hi => ?_⟩
    rcases List.mem_cons.1 hi with hi | hi
    · cases hi
    · exact h2 i j hi
  | (k, .box j') :: r, h => by
    obtain ⟨_, h⟩ := nthK_iff (0, 0) h
    obtain ⟨_, h⟩ := nthK_iff (0, 0) h
    obtain ⟨_, h⟩ := nthK_iff [] h
    obtain ⟨hl, h⟩ := nthK_iff [] h
    obtain ⟨e1, e2, h⟩ := h
    obtain ⟨h1, h2⟩ := boxesK_iff (E := r) h
    refine ⟨h1, fun i j hi => ?_⟩
    rcases List.mem_cons.1 hi with hi | hi
    · cases hi
      exact ⟨e1, e2, hl⟩
    · exact h2 i j hi

theorem noSel_at : ∀ {l : List Oper}, noSel l = true → ∀ (j : Nat) (o : Oper), l[j]? = some o → ∀ cs b, o.op ≠ .select cs b
  | [], _, j, o, h => by simp at h
  | x :: r, h, j, o, hj => by
    simp only [noSel] at h
    cases j with
    | zero =>
      simp at hj
      subst hj
      intro cs b he
      rw [he] at h
      cases h
    | succ j =>
      refine noSel_at (l := r) ?_ j o (by simpa using hj)
      split at h
      · cases h
      · exact h

theorem backOk_iff : ∀ {es : List Edge} {i : Nat}, backOk es i = true → ∀ e ∈ es, Region.binds .any e = true → e.on < i
  | [], _, _, _, h, _ => by simp at h
  | x :: r, i, h, e, he, hb => by
    simp only [backOk] at h
    cases hx : edgeOn x with
    | none =>
      rw [hx] at h
      rcases List.mem_cons.1 he with rfl | he
      · rw [edgeOn_none hx] at hb; cases hb
      · exact backOk_iff h e he hb
    | some k =>
      rw [hx] at h
      simp only at h
      split at h
      · rename_i hk
        rcases List.mem_cons.1 he with rfl | he
        · obtain ⟨_, rfl⟩ := edgeOn_iff.1 hx
          simpa [Nat.blt_eq] using hk
        · exact backOk_iff h e he hb
      · cases h

theorem allBack_at : ∀ {l : List Oper} {k : Nat}, allBack l k = true → ∀ (j : Nat) (o : Oper), l[j]? = some o → ∀ e ∈ o.after.toList, Region.binds .any e = true → e.on < k + j
  | [], _, _, j, o, h => by simp at h
  | x :: r, k, h, j, o, hj => by
    simp only [allBack] at h
    split at h
    · rename_i hx
      cases j with
      | zero => simp at hj; subst hj; exact fun e he hb => by simpa using backOk_iff hx e he hb
      | succ j =>
        intro e he hb
        have := allBack_at h j o (by simpa using hj) e he hb
        omega
    · cases h

/-- Where nothing is ready, all is listed. -/
theorem all_listed {l : List Oper} (hb : allBack l 0 = true) {p : Nat → Bool} (h : ∀ j o, l[j]? = some o → p j = false → ¬ ∀ e ∈ o.after.toList, Region.binds .any e = true → p e.on = true) :
    ∀ j, j < l.length → p j = true := by
  intro j
  induction j using Nat.strongRecOn with
  | _ j ih =>
    intro hj
    cases hp : p j with
    | true => rfl
    | false =>
      exact absurd (fun e he hbd => by
        have := allBack_at hb j l[j] (List.getElem?_eq_getElem hj) e he hbd
        exact ih e.on (by omega) (by omega)) (h j l[j] (List.getElem?_eq_getElem hj) hp)

end Go.Sx
