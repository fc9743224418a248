/- Parts of the proof: NwA, NvT, NvU, NvV, NvW, NwB, NwC, NvX, NwD, NyA, NyB, NyH, FaA, FaB, FdC. -/
import Derived.Test.YtfeoedkmndkbjaaGreatDoorQM
import Derived.Test.YtfeoedkmndkbjaaGreatDoorQK
namespace Go.Proofs.YtfeoedkmndkbjaaGreatDoor
set_option linter.unusedVariables false
set_option linter.unusedSimpArgs false

/-- The nodes below a node, in preorder. -/
def preo (ch : Nat → List Nat) : Nat → Nat → List Nat
  | 0, _ => []
  | f + 1, n => n :: (ch n).flatMap (preo ch f)

/-- A node's tree is lower than a number. -/
def Low (ch : Nat → List Nat) : Nat → Nat → Prop
  | 0, _ => False
  | f + 1, n => ∀ c ∈ ch n, Low ch f c

structure Uniq (ch : Nat → List Nat) : Prop where
  nd : ∀ n, (ch n).Nodup
  par : ∀ n m x, x ∈ ch n → x ∈ ch m → n = m
  root : ∀ n, 0 ∉ ch n
  lt : ∀ n x, x ∈ ch n → x < 32

theorem nodup_small : ∀ (n : Nat) (l : List Nat), l.Nodup → (∀ x ∈ l, x < n) → l.length ≤ n
  | 0, l, _, h => by
    cases l with
    | nil => exact Nat.le_refl _
    | cons x l => exact absurd (h x (List.mem_cons_self ..)) (by omega)
  | n + 1, l, hn, h => by
    have h1 := nodup_small n (l.filter (· ≠ n)) (hn.sublist List.filter_sublist) fun x hx => by
      obtain ⟨h2, h3⟩ := List.mem_filter.1 hx
      have := h x h2
      have h3 : x ≠ n := by simpa using h3
      omega
    have h2 : ∀ (l : List Nat), l.Nodup → l.length ≤ (l.filter (· ≠ n)).length + 1 := by
      intro l
      induction l with
      | nil => intro _; simp
      | cons a l ih =>
        intro hl
        obtain ⟨ha, hl⟩ := List.nodup_cons.1 hl
        by_cases hq : a = n
        · subst hq
          have : l.filter (· ≠ a) = l := List.filter_eq_self.2 fun x hx => by
            have : x ≠ a := fun e => ha (e ▸ hx)
            simpa using this
          rw [List.filter_cons_of_neg (by simp), this]
          simp
        · rw [List.filter_cons_of_pos (by simpa using hq)]
          have := ih hl
          simp only [List.length_cons]
          omega
    have := h2 l hn
    omega

inductive Chain (ch : Nat → List Nat) : List Nat → Prop
  | root : Chain ch [0]
  | step {n c : Nat} {p : List Nat} : Chain ch (n :: p) → c ∈ ch n → Chain ch (c :: n :: p)

section
variable {ch : Nat → List Nat}

theorem Chain.props (hu : Uniq ch) {l : List Nat} (h : Chain ch l) : ∃ n p, l = n :: p ∧ l.Nodup ∧ (∀ y ∈ l, y < 32) ∧ ∀ y ∈ l, y = 0 ∨ ∃ z ∈ p, y ∈ ch z := by
  induction h with
  | root => exact ⟨0, [], rfl, by simp, by simp, by simp⟩
  | @step n c p h hc ih =>
    obtain ⟨n', p', he, h1, h2, h3⟩ := ih
    cases he
    have hcn : c ∉ n :: p := fun hm => by
      rcases h3 c hm with h5 | ⟨z, hz, h5⟩
      · subst h5
        exact hu.root _ hc
      · have := hu.par _ _ _ hc h5
        subst this
        exact (List.nodup_cons.1 h1).1 hz
    refine ⟨c, n :: p, rfl, List.nodup_cons.2 ⟨hcn, h1⟩, ?_, ?_⟩
    · intro y hy
      rcases List.mem_cons.1 hy with rfl | hy
      · exact hu.lt _ _ hc
      · exact h2 y hy
    · intro y hy
      rcases List.mem_cons.1 hy with rfl | hy
      · exact .inr ⟨n, List.mem_cons_self .., hc⟩
      · rcases h3 y hy with h5 | ⟨z, hz, h5⟩
        · exact .inl h5
        · exact .inr ⟨z, List.mem_cons_of_mem _ hz, h5⟩

theorem Chain.nodup (hu : Uniq ch) {l : List Nat} (h : Chain ch l) : l.Nodup := by
  obtain ⟨n, p, -, h1, -⟩ := h.props hu
  exact h1

theorem Chain.low (hu : Uniq ch) : ∀ (f : Nat) {n : Nat} {p : List Nat}, Chain ch (n :: p) → 33 ≤ (n :: p).length + f → Low ch f n
  | 0, n, p, h, hl => by
    obtain ⟨n', p', he, h1, h2, h3⟩ := h.props hu
    have := nodup_small 32 _ h1 h2
    omega
  | f + 1, n, p, h, hl => fun c hc => Chain.low hu f (h.step hc) (by simp only [List.length_cons] at hl ⊢; omega)

theorem low_root (hu : Uniq ch) : Low ch 33 0 := Chain.low hu 33 .root (by simp)

theorem Chain.under (hu : Uniq ch) : ∀ (f : Nat) {n x : Nat} {p : List Nat}, Chain ch (n :: p) → x ∈ preo ch f n → x = n ∨ x ∉ n :: p
  | 0, n, x, p, h, hx => by cases hx
  | f + 1, n, x, p, h, hx => by
    unfold preo at hx
    rcases List.mem_cons.1 hx with hx | hx
    · exact .inl hx
    · obtain ⟨c, hc, hx⟩ := List.mem_flatMap.1 hx
      have h2 := h.step hc
      rcases h2.under hu f hx with h5 | h5
      · subst h5
        exact .inr (List.nodup_cons.1 (h2.nodup hu)).1
      · exact .inr fun h6 => h5 (List.mem_cons_of_mem _ h6)

theorem pre_up : ∀ (f : Nat) {n x : Nat}, x ∈ preo ch f n → x = n ∨ ∃ y ∈ preo ch f n, x ∈ ch y
  | 0, n, x, hx => by cases hx
  | f + 1, n, x, hx => by
    unfold preo at hx
    rcases List.mem_cons.1 hx with hx | hx
    · exact .inl hx
    · obtain ⟨c, hc, hx⟩ := List.mem_flatMap.1 hx
      rcases pre_up f hx with h5 | ⟨y, h5, h6⟩
      · subst h5
        exact .inr ⟨n, by unfold preo; exact List.mem_cons_self .., hc⟩
      · exact .inr ⟨y, by unfold preo; exact List.mem_cons_of_mem _ (List.mem_flatMap.2 ⟨c, hc, h5⟩), h6⟩

/-- The nodes that lie k steps below. -/
def lev (ch : Nat → List Nat) : Nat → Nat → List Nat
  | 0, n => [n]
  | k + 1, n => (ch n).flatMap (lev ch k)

theorem lev_last : ∀ (k : Nat) {n x : Nat}, x ∈ lev ch (k + 1) n → ∃ y ∈ lev ch k n, x ∈ ch y
  | 0, n, x, hx => by
    obtain ⟨c, hc, hx⟩ := List.mem_flatMap.1 hx
    obtain rfl : x = c := by simpa [lev] using hx
    exact ⟨n, by simp [lev], hc⟩
  | k + 1, n, x, hx => by
    obtain ⟨c, hc, hx⟩ := List.mem_flatMap.1 hx
    obtain ⟨y, hy, h⟩ := lev_last k hx
    exact ⟨y, List.mem_flatMap.2 ⟨c, hc, hy⟩, h⟩

theorem pre_lev : ∀ (f : Nat) {n x : Nat}, x ∈ preo ch f n → ∃ k, x ∈ lev ch k n
  | 0, n, x, hx => by cases hx
  | f + 1, n, x, hx => by
    unfold preo at hx
    rcases List.mem_cons.1 hx with hx | hx
    · exact ⟨0, by simp [lev, hx]⟩
    · obtain ⟨c, hc, hx⟩ := List.mem_flatMap.1 hx
      obtain ⟨k, hk⟩ := pre_lev f hx
      exact ⟨k + 1, List.mem_flatMap.2 ⟨c, hc, hk⟩⟩

theorem lev_pre : ∀ (k : Nat) {n x : Nat}, x ∈ lev ch k n → x ∈ preo ch (k + 1) n
  | 0, n, x, hx => by
    obtain rfl : x = n := by simpa [lev] using hx
    unfold preo
    exact List.mem_cons_self ..
  | k + 1, n, x, hx => by
    obtain ⟨c, hc, hx⟩ := List.mem_flatMap.1 hx
    unfold preo
    exact List.mem_cons_of_mem _ (List.mem_flatMap.2 ⟨c, hc, lev_pre k hx⟩)

theorem lev_disj (hu : Uniq ch) {n c1 c2 : Nat} {p : List Nat} (hn : Chain ch (n :: p)) (h1 : c1 ∈ ch n) (h2 : c2 ∈ ch n) (hne : c1 ≠ c2) :
    ∀ (k l : Nat) (x : Nat), x ∈ lev ch k c1 → x ∈ lev ch l c2 → False := by
  have hno : ∀ c, c ∈ ch n → ∀ k, n ∉ lev ch k c := fun c hc k hk => by
    have hs := hn.step hc
    rcases hs.under hu (k + 1) (lev_pre k hk) with h5 | h5
    · subst h5
      exact (List.nodup_cons.1 (hs.nodup hu)).1 (List.mem_cons_self ..)
    · exact h5 (List.mem_cons_of_mem _ (List.mem_cons_self ..))
  intro k
  induction k with
  | zero =>
    intro l x hx hy
    obtain rfl : x = c1 := by simpa [lev] using hx
    cases l with
    | zero =>
      have : x = c2 := by simpa [lev] using hy
      exact hne this
    | succ l =>
      obtain ⟨y, hy1, hy2⟩ := lev_last l hy
      have := hu.par _ _ _ h1 hy2
      subst this
      exact hno c2 h2 l hy1
  | succ k ih =>
    intro l x hx hy
    obtain ⟨z, hz1, hz2⟩ := lev_last k hx
    cases l with
    | zero =>
      obtain rfl : x = c2 := by simpa [lev] using hy
      have := hu.par _ _ _ h2 hz2
      subst this
      exact hno c1 h1 k hz1
    | succ l =>
      obtain ⟨y, hy1, hy2⟩ := lev_last l hy
      have := hu.par _ _ _ hy2 hz2
      subst this
      exact ih l y hz1 hy1

theorem pre_nodup (hu : Uniq ch) : ∀ (f : Nat) {n : Nat} {p : List Nat}, Chain ch (n :: p) → (preo ch f n).Nodup
  | 0, n, p, h => List.nodup_nil
  | f + 1, n, p, h => by
    unfold preo
    rw [List.nodup_cons]
    constructor
    · intro hm
      obtain ⟨c, hc, hx⟩ := List.mem_flatMap.1 hm
      have hs := h.step hc
      rcases hs.under hu f hx with h5 | h5
      · subst h5
        exact (List.nodup_cons.1 (hs.nodup hu)).1 (List.mem_cons_self ..)
      · exact h5 (List.mem_cons_of_mem _ (List.mem_cons_self ..))
    · show List.Pairwise _ _
      rw [List.pairwise_flatMap]
      refine ⟨fun c hc => pre_nodup hu f (h.step hc), ?_⟩
      refine (hu.nd n).imp_of_mem fun {c1 c2} h1 h2 hne x hx y hy hxy => ?_
      subst hxy
      obtain ⟨k, hk⟩ := pre_lev f hx
      obtain ⟨l, hl⟩ := pre_lev f hy
      exact lev_disj hu h h1 h2 hne k l x hk hl

/-- All but the root of a tree are the children of its nodes. -/
theorem pre_perm : ∀ (f : Nat) {n : Nat}, Low ch f n → (preo ch f n).Perm (n :: (preo ch f n).flatMap ch)
  | 0, n, h => h.elim
  | f + 1, n, h => by
    have hl : ∀ l : List Nat, (∀ c ∈ l, Low ch f c) → (l.flatMap (preo ch f)).Perm (l ++ (l.flatMap (preo ch f)).flatMap ch) := by
      intro l
      induction l with
      | nil => intro _; exact List.Perm.refl _
      | cons a l ih =>
        intro hl
        have h1 := pre_perm f (hl a (List.mem_cons_self ..))
        have h2 := ih fun c hc => hl c (List.mem_cons_of_mem _ hc)
        rw [List.flatMap_cons, List.flatMap_append, List.cons_append]
        refine (h1.append h2).trans ?_
        rw [List.cons_append]
        refine List.Perm.cons _ ?_
        rw [← List.append_assoc, ← List.append_assoc]
        exact List.Perm.append_right _ List.perm_append_comm
    unfold preo
    refine List.Perm.cons _ ?_
    rw [List.flatMap_cons]
    exact hl _ h

end
end Go.Proofs.YtfeoedkmndkbjaaGreatDoor
namespace Go.Proofs.YtfeoedkmndkbjaaGreatDoor
open Go Go.Sx
set_option maxRecDepth 100000
set_option maxHeartbeats 4000000
set_option linter.unusedVariables false
set_option linter.unusedSimpArgs false

/-- The nodes of a directory's entries. -/
def nodes (l : List En) : List Nat := (l.filter (fun e => e.1 ≠ [])).map (·.2)
noncomputable def Tree.ch (T : Tree) (n : Nat) : List Nat := nodes (T.es n)

/-- What check asks of the entries. -/
structure Tree.Fine (T : Tree) : Prop where
  ok : ∀ n ∈ T.dl, ∀ x ∈ T.ch n, x ≠ 0 ∧ x < 32 ∧ T.K x ≠ 0
  nd : ∀ n ∈ T.dl, (T.ch n).Nodup
  one : ∀ n ∈ T.dl, ∀ m ∈ T.dl, ∀ x, x ∈ T.ch n → x ∈ T.ch m → n = m

structure Tree.Good (T : Tree) : Prop where
  fine : T.Fine
  all : ∀ n, n < 32 → T.K n ≠ 0 → ∃ p, (p, n) ∈ T.V 33 0 []

theorem nodes_snoc (l : List En) (e : En) : nodes (l ++ [e]) = nodes l ++ if e.1 = [] then [] else [e.2] := by
  unfold nodes
  rw [List.filter_append, List.map_append]
  congr 1
  by_cases h : e.1 = []
  · rw [if_pos h, List.filter_cons_of_neg (by simp [h])]
    rfl
  · rw [if_neg h, List.filter_cons_of_pos (by simp [h])]
    rfl

theorem Tree.ch_es (T : Tree) {n : Nat} (h : n ∈ T.dl) : T.ch n = nodes (T.E n) := by
  unfold Tree.ch Tree.es
  rw [if_pos h]

theorem Tree.ch_no (T : Tree) {n : Nat} (h : n ∉ T.dl) : T.ch n = [] := by
  unfold Tree.ch Tree.es
  rw [if_neg h]
  rfl

theorem Tree.Fine.uniq {T : Tree} (h : T.Fine) : Uniq T.ch := by
  have hin : ∀ n x, x ∈ T.ch n → n ∈ T.dl := fun n x hx => by
    refine Classical.byContradiction fun hn => ?_
    rw [T.ch_no hn] at hx
    cases hx
  refine ⟨fun n => ?_, fun n m x h1 h2 => h.one n (hin n x h1) m (hin m x h2) x h1 h2, fun n h0 => (h.ok n (hin n 0 h0) 0 h0).1 rfl, fun n x hx => (h.ok n (hin n x hx) x hx).2.1⟩
  by_cases hn : n ∈ T.dl
  · exact h.nd n hn
  · rw [T.ch_no hn]
    exact List.nodup_nil

theorem Tree.low_of {T : Tree} : ∀ {f n : Nat}, Low T.ch f n → T.low f n
  | 0, _, h => h.elim
  | f + 1, n, h => fun e he hne => Tree.low_of (h e.2 (List.mem_map.2 ⟨e, List.mem_filter.2 ⟨he, by simpa using hne⟩, rfl⟩))

/-- The set of the nodes that have been reached. -/
def addN (S : List Nat) (n : Nat) : List Nat := if n ∈ S then S else S ++ [n]

theorem mem_addN {S : List Nat} {n m : Nat} : m ∈ addN S n ↔ m ∈ S ∨ m = n := by
  unfold addN
  split
  · rename_i h
    exact ⟨.inl, fun h2 => h2.elim id fun e => e ▸ h⟩
  · simp

theorem reach_cb (b8 br : Nat) (T : Tree) (X : Value) (bt bm : Nat) (s : List Nat) (p : List UInt8) (n : Nat) :
    RowsSpec Tryz.prog 133 [strV p, .int .i64 (n : Int), .pointer (some ⟨b8, 0, none⟩)] [(br, Row.m (mapG (usedKV s)) (usedKV s).length)] (fun w => TreeAt T X bt bm w ∧ RowAt w (some ⟨b8, 0, none⟩) [.map (some br)])
      (fun v F => ∃ s', True ∧ s' = addN s n ∧ F = ⟨fun _ => True, [(br, Row.m (mapG (usedKV s')) (usedKV s').length)]⟩) := by
  refine RowsSpec.of_xc tabOk Tryz.func133 rfl (by decide) (n := Tryz.f133.ntmps - 3) rfl rfl (by simp) fun w0 av => ?_
  conv => whnf
  repeat (refine XSame.of ?_; conv => whnf)
  refine XVal.of_read (XRead.loadF tabOk (t := 182) rfl rfl (ad := ⟨b8, 0, none⟩) (k := 0) (L := [.map (some br)]) (v := .map (some br)) (.fact fun w hw => hw.2) (fun _ => rfl) rfl ?_)
  conv => whnf
  repeat (refine XSame.of ?_; conv => whnf)
  by_cases hm : n ∈ s
  · have ha : addN s n = s := if_pos hm
    refine XUnit.mapOld tabOk (t := 182) rfl rfl rfl rfl (r1 := []) (r2 := []) (l := usedKV s) rfl (usedKV_key s) ⟨(intV n, .bool true), List.mem_map.2 ⟨n, hm, rfl⟩, rfl⟩ fun i u hi => ?_
    have hu := usedKV_val _ _ hi
    subst hu
    have hse : (usedKV s).set i (intV n, .bool true) = usedKV s := by
      obtain ⟨hl, he⟩ := List.getElem?_eq_some_iff.1 hi
      rw [show (intV n, Value.bool true) = (usedKV s)[i] from he.symm]
      exact List.set_getElem_self hl
    rw [show (Value.int .i64 (n : Int), Value.bool true) = (intV n, .bool true) from rfl, hse]
    conv => whnf
    repeat (refine XSame.of ?_; conv => whnf)
    exact ⟨⟨fun _ => True, [(br, Row.m (mapG (usedKV s)) (usedKV s).length)]⟩, Ent.of_le ⟨by simp, fun w _ => trivial⟩, s, trivial, ha.symm, rfl⟩
  · have ha : addN s n = s ++ [n] := if_neg hm
    refine XUnit.mapNew tabOk (t := 182) rfl rfl rfl rfl (r1 := []) (r2 := []) (l := usedKV s) rfl (usedKV_key s) (usedKV_no hm) ?_
    rw [show (Value.int .i64 (n : Int), Value.bool true) = (intV n, .bool true) from rfl, ← usedKV_snoc]
    conv => whnf
    repeat (refine XSame.of ?_; conv => whnf)
    exact ⟨⟨fun _ => True, [(br, Row.m (mapG (usedKV (s ++ [n]))) (usedKV (s ++ [n])).length)]⟩, Ent.of_le ⟨by simp, fun w _ => trivial⟩, s ++ [n], trivial, ha.symm, rfl⟩

theorem steps_mem : ∀ {l : List (List UInt8 × Nat)} {s s' : List Nat}, Steps (fun s _ n s' => s' = addN s n) l s s' → ∀ m, m ∈ s' ↔ m ∈ s ∨ ∃ p, (p, m) ∈ l
  | [], s, s', h, m => by
    cases h
    simp
  | (p, n) :: l, s, s', ⟨s1, h1, h2⟩, m => by
    subst h1
    rw [steps_mem h2 m, mem_addN]
    simp only [List.mem_cons, Prod.mk.injEq]
    constructor
    · rintro ((h | h) | ⟨q, h⟩)
      · exact .inl h
      · exact .inr ⟨p, .inl ⟨rfl, h⟩⟩
      · exact .inr ⟨q, .inr h⟩
    · rintro (h | ⟨q, ⟨_, h⟩ | h⟩)
      · exact .inl (.inl h)
      · exact .inl (.inr h)
      · exact .inr ⟨q, h⟩

def cntKV (ns : List Nat) : KVs := ns.map fun n => (intV n, intV 1)

theorem cntKV_key (ns : List Nat) : ∀ p ∈ cntKV ns, MapKept.IsKey (.int .i64) p.1 := by
  intro p hp
  obtain ⟨n, _, rfl⟩ := List.mem_map.1 hp
  rfl

theorem cntKV_no {ns : List Nat} {n : Nat} (h : n ∉ ns) : ∀ p ∈ cntKV ns, p.1 ≠ intV n := by
  intro p hp he
  obtain ⟨m, hm, rfl⟩ := List.mem_map.1 hp
  exact h (intV_inj he ▸ hm)

theorem cntKV_get {ns : List Nat} {n i : Nat} {u : Value} (h : (cntKV ns)[i]? = some (intV n, u)) : u = intV 1 ∧ ns[i]? = some n := by
  unfold cntKV at h
  rw [List.getElem?_map] at h
  cases hq : ns[i]? with
  | none => rw [hq] at h; cases h
  | some m =>
    rw [hq] at h
    simp only [Option.map_some, Option.some.injEq, Prod.mk.injEq] at h
    exact ⟨h.2.symm, by rw [intV_inj h.1]⟩

theorem cntKV_snoc (ns : List Nat) (n : Nat) : cntKV (ns ++ [n]) = cntKV ns ++ [(intV n, intV 1)] := by simp [cntKV]

end Go.Proofs.YtfeoedkmndkbjaaGreatDoor
namespace Go.Proofs.YtfeoedkmndkbjaaGreatDoor
open Go Go.Sx
set_option maxRecDepth 100000
set_option maxHeartbeats 4000000
set_option linter.unusedVariables false
set_option linter.unusedSimpArgs false

section
variable {P : Program} {tab : Sx.Tab} {w0 : World} {R : Nat → Nat → Prop} {av : Nat → Prop} {bs : List (Nat × Nat)} {cs : List (List Value)}
theorem XVal.nextMap2 {ty : TypeId} {b r : Nat} {l : KVs} {D : World → Prop} {r1 r2 : List (Nat × Row)} {seen : List Nat} {K : KV} (hm : SeesM w0 R av bs cs ⟨D, r1 ++ [(r, Row.o (iterO b l.length seen))] ++ r2⟩ b l)
    (h0 : (∀ i, i < l.length → i ∈ seen) → ∀ ok : Bool, ok = false → K (.tuple #[.bool ok]) bs cs ⟨D, r1 ++ [(r, Row.o (iterO b l.length seen))] ++ r2⟩)
    (h1 : ∀ i k v, l[i]? = some (k, v) → i ∉ seen → ∀ ok : Bool, ok = true → K (.tuple #[.bool ok, k, v]) bs cs ⟨D, r1 ++ [(r, Row.o (iterO b l.length (seen ++ [i])))] ++ r2⟩) :
    XVal P w0 R av (Instr.next (.pointer (some ⟨r, 0, none⟩)) false ty) bs cs ⟨D, r1 ++ [(r, Row.o (iterO b l.length seen))] ++ r2⟩ K :=
  XVal.nextMap hm (fun h => h0 h false rfl) fun i k v h2 h3 => h1 i k v h2 h3 true rfl
end

theorem nodup_idx {l : List Nat} (h : l.Nodup) {i j : Nat} (hi : i < l.length) (hj : j < l.length) (e : l[i] = l[j]) : i = j := by
  have h : List.Pairwise _ l := h
  rw [List.pairwise_iff_getElem] at h
  rcases Nat.lt_trichotomy i j with h5 | h5 | h5
  · exact absurd e (h i j hi hj h5)
  · exact h5
  · exact absurd e.symm (h j i hj hi h5)

/-- The nodes of the directories that have been gone through. -/
noncomputable def Tree.got (T : Tree) (seen : List Nat) : List Nat := seen.flatMap fun i => nodes (T.E (T.dl.getD i 0))

theorem Tree.got_snoc (T : Tree) (seen : List Nat) (i : Nat) : T.got (seen ++ [i]) = T.got seen ++ nodes (T.E (T.dl.getD i 0)) := by
  simp [Tree.got]

theorem Tree.dl_at {T : Tree} {i : Nat} (h : i < T.dl.length) : T.dl.getD i 0 = T.dl[i] ∧ T.dl.getD i 0 ∈ T.dl := by
  have : T.dl.getD i 0 = T.dl[i] := by simp [h]
  exact ⟨this, this ▸ List.getElem_mem h⟩

theorem Tree.fine_of {T : Tree} {seen : List Nat} (hlt : ∀ i ∈ seen, i < T.dl.length) (hnd : (T.got seen).Nodup) (hok : ∀ x ∈ T.got seen, x ≠ 0 ∧ x < 32 ∧ T.K x ≠ 0) (hall : ∀ i, i < T.dl.length → i ∈ seen) : T.Fine := by
  have hch : ∀ i, i < T.dl.length → T.ch (T.dl.getD i 0) = nodes (T.E (T.dl.getD i 0)) := fun i hi => T.ch_es (T.dl_at hi).2
  have hat : ∀ n ∈ T.dl, ∃ i, i < T.dl.length ∧ T.dl.getD i 0 = n := fun n hn => by
    obtain ⟨i, hi, h⟩ := List.getElem_of_mem hn
    exact ⟨i, hi, by rw [(T.dl_at hi).1, h]⟩
  have hp : List.Pairwise _ (T.got seen) := hnd
  unfold Tree.got at hp
  rw [List.pairwise_flatMap] at hp
  obtain ⟨hp1, hp2⟩ := hp
  refine ⟨fun n hn x hx => ?_, fun n hn => ?_, fun n hn m hm x h1 h2 => ?_⟩
  · obtain ⟨i, hi, rfl⟩ := hat n hn
    refine hok x (List.mem_flatMap.2 ⟨i, hall i hi, ?_⟩)
    rwa [hch i hi] at hx
  · obtain ⟨i, hi, rfl⟩ := hat n hn
    rw [hch i hi]
    exact hp1 i (hall i hi)
  · obtain ⟨i, hi, rfl⟩ := hat n hn
    obtain ⟨j, hj, rfl⟩ := hat m hm
    rw [hch i hi] at h1
    rw [hch j hj] at h2
    by_cases hij : i = j
    · rw [hij]
    exfalso
    rw [List.pairwise_iff_getElem] at hp2
    obtain ⟨a, ha, ha2⟩ := List.getElem_of_mem (hall i hi)
    obtain ⟨b, hb, hb2⟩ := List.getElem_of_mem (hall j hj)
    rcases Nat.lt_trichotomy a b with h | h | h
    · exact hp2 a b ha hb h x (by rw [ha2]; exact h1) x (by rw [hb2]; exact h2) rfl
    · subst h
      exact hij (ha2.symm.trans hb2)
    · exact hp2 b a hb ha h x (by rw [hb2]; exact h2) x (by rw [ha2]; exact h1) rfl

noncomputable instance (T : Tree) : Decidable T.Good := Classical.propDecidable _
noncomputable def Tree.res (T : Tree) : Nat := if T.Good then 0 else 4

theorem Tree.res_bad {T : Tree} {D : World → Prop} {rs : List (Nat × Row)} (h : ¬ T.Good) : ∃ F', Ent ⟨D, rs⟩ F' ∧ (fun (v : Value) (F : Fx) => v = Value.int .i64 (T.res : Int)) (Value.int .i64 4) F' := by
  refine ⟨_, Ent.refl _, ?_⟩
  unfold Tree.res
  rw [if_neg h]
  rfl

theorem nodes_take {l : List En} {j : Nat} (hj : j < l.length) : nodes (l.take (j + 1)) = nodes (l.take j) ++ if l[j].1 = [] then [] else [l[j].2] := by
  rw [List.take_succ_eq_append_getElem hj, nodes_snoc]

theorem nodes_split {l : List En} {j : Nat} (hj : j < l.length) (hne : l[j].1 ≠ []) : ∃ r, nodes l = nodes (l.take j) ++ l[j].2 :: r := by
  refine ⟨nodes (l.drop (j + 1)), ?_⟩
  have h := nodes_take hj
  rw [if_neg hne] at h
  have e : nodes l = nodes (l.take (j + 1)) ++ nodes (l.drop (j + 1)) := by
    conv => lhs; rw [← List.take_append_drop (j + 1) l]
    unfold nodes
    rw [List.filter_append, List.map_append]
  rw [e, h]
  simp

theorem tcheck_spec (T : Tree) (hT : T.Ok) (hname : ∀ n, ∀ e ∈ T.E n, e.1.length ≤ 14) (X : Value) (bt bm : Nat) :
    PureSpec Tryz.prog 89 [.pointer (some ⟨bt, 0, none⟩)] (TreeAt T X bt bm) (fun v F => v = .int .i64 (T.res : Int)) := by
  have hm1 : (treeC X bm T.K 32)[1]? = some (.map (some bm)) := rfl
  have hkc : ∀ m, m < 32 → (treeC X bm T.K 32)[2 + m]? = some (intV (T.K m)) := fun m hm => treeC_kind X bm T.K hm
  have hTA : ∀ w, TreeAt T X bt bm w → RowAt w (some ⟨bt, 0, none⟩) (treeC X bm T.K 32) := fun w hw => hw.1
  have hTM : ∀ w, TreeAt T X bt bm w → MapAt w bm (T.kv T.dl) := fun w hw => hw.2.1
  have hTE : ∀ w, TreeAt T X bt bm w → ∀ n ∈ T.dl, RowAt w (T.H n).a (enCs (T.E n)) := fun w hw => hw.2.2
  have hbad := @Tree.res_bad T
  generalize hres : T.res = res at *
  have hkl : (T.kv T.dl).length = T.dl.length := by simp [Tree.kv]
  generalize hCC : treeC X bm T.K 32 = C at *
  refine PureSpec.of_xc tabOk Tryz.func89 rfl (by decide) (n := Tryz.f89.ntmps - 1) rfl rfl fun w0 av => ?_
  conv => whnf
  repeat (refine XSame.of ?_; conv => whnf)
  refine XVal.makeMapG fun bc => ?_
  conv => whnf
  repeat (refine XSame.of ?_; conv => whnf)
  refine XVal.of_read (XRead.loadF tabOk (t := 114) rfl rfl (ad := ⟨bt, 0, none⟩) (k := 1) (L := C) (v := .map (some bm)) (.fact fun w hw => hTA w hw) (fun _ => rfl) hm1 ?_)
  conv => whnf
  repeat (refine XSame.of ?_; conv => whnf)
  refine XVal.rangeMap tabOk (t := 114) rfl rfl (l := T.kv T.dl) (SeesM.fact fun w hw => hTM w hw) fun r => ?_
  conv => whnf
  repeat (refine XSame.of ?_; conv => whnf)
  refine XStop.loop tabOk (ι := List Nat) ([5, 7] ++ List.range' 16 42) (fun seen => seen.Nodup ∧ (∀ i ∈ seen, i < T.dl.length) ∧ (T.got seen).Nodup ∧ ∀ x ∈ T.got seen, x ≠ 0 ∧ x < 32 ∧ T.K x ≠ 0)
    (fun seen => []) (fun _ => []) (fun seen => ⟨TreeAt T X bt bm, [(bc, Row.m (mapG (cntKV (T.got seen))) (cntKV (T.got seen)).length)] ++ [(r, Row.o (iterO bm (T.kv T.dl).length seen))] ++ []⟩)
    (fun seen => T.dl.length - seen.length) [] ⟨List.nodup_nil, fun i hi => by simp at hi, List.nodup_nil, fun x hx => by simp [Tree.got] at hx⟩ ?_ rfl (Ent.of_le ⟨by simp [Tree.got, cntKV], fun w hw => hw⟩) fun seen hs => ?_
  · conv => whnf
    repeat (first | exact FLe.nil | refine FLe.any ?_ | refine FLe.cons ?_)
  obtain ⟨hs1, hs2, hs3, hs4⟩ := hs
  conv => whnf
  repeat (refine XSame.of ?_; conv => whnf)
  refine XVal.nextMap2 (l := T.kv T.dl) (SeesM.fact fun w hw => hTM w hw) (fun hdone ok hok => ?_) (fun i k v hik hni ok hok => ?_)
  rotate_left
  · have hil : i < T.dl.length := by
      have := List.getElem?_eq_some_iff.1 hik
      rw [← hkl]
      exact this.1
    obtain ⟨hn1, hn2⟩ := T.dl_at hil
    have hkv : k = intV (T.dl.getD i 0) ∧ v = .slice (T.H (T.dl.getD i 0)).a 8 (T.H (T.dl.getD i 0)).c := by
      unfold Tree.kv at hik
      rw [List.getElem?_map, List.getElem?_eq_getElem hil] at hik
      simp only [Option.map_some, Option.some.injEq, Prod.mk.injEq] at hik
      rw [hn1]
      exact ⟨hik.1.symm, hik.2.symm⟩
    obtain ⟨rfl, rfl⟩ := hkv
    have hgs := T.got_snoc seen i
    have hchn := T.ch_es hn2
    have hEl := hT.len (T.dl.getD i 0)
    have hHd := hT.hd (T.dl.getD i 0)
    have hTEn : ∀ w, TreeAt T X bt bm w → RowAt w (T.H (T.dl.getD i 0)).a (enCs (T.E (T.dl.getD i 0))) := fun w hw => hTE w hw _ hn2
    have hnode := hT.node (T.dl.getD i 0)
    have hslen : seen.length < T.dl.length := by
      have h1 : (seen ++ [i]).length ≤ T.dl.length := nodup_small T.dl.length (seen ++ [i]) (by
        rw [List.nodup_append]
        refine ⟨hs1, by simp, fun a ha b hb e => ?_⟩
        have hb : b = i := by simpa using hb
        subst hb e
        exact hni ha) (fun x hx => by
        rcases List.mem_append.1 hx with h | h
        · exact hs2 x h
        · have : x = i := by simpa using h
          omega)
      simp at h1
      omega
    have hdupE : ∀ j (hj : j < (T.E (T.dl.getD i 0)).length), (T.E (T.dl.getD i 0))[j].1 ≠ [] → (T.E (T.dl.getD i 0))[j].2 ∈ T.got seen ++ nodes ((T.E (T.dl.getD i 0)).take j) → ¬ T.Good := fun j hj hne hm hg => by
      obtain ⟨rr, hrr⟩ := nodes_split hj hne
      have hx : (T.E (T.dl.getD i 0))[j].2 ∈ T.ch (T.dl.getD i 0) := by
        rw [hchn, hrr]
        simp
      rcases List.mem_append.1 hm with h5 | h5
      · obtain ⟨i', hi', h6⟩ := List.mem_flatMap.1 h5
        have hi'l := hs2 i' hi'
        have h7 := (T.dl_at hi'l)
        have h8 := hg.fine.one _ hn2 _ h7.2 _ hx (by rw [T.ch_es h7.2]; exact h6)
        rw [hn1, h7.1] at h8
        have := nodup_idx hT.nd hil hi'l h8
        subst this
        exact hni hi'
      · have := hg.fine.nd _ hn2
        rw [hchn, hrr, List.nodup_append] at this
        exact this.2.2 _ h5 _ (List.mem_cons_self ..) rfl
    have hvalE : ∀ j (hj : j < (T.E (T.dl.getD i 0)).length), (T.E (T.dl.getD i 0))[j].1 ≠ [] → T.Good → (T.E (T.dl.getD i 0))[j].2 ≠ 0 ∧ (T.E (T.dl.getD i 0))[j].2 < 32 ∧ T.K (T.E (T.dl.getD i 0))[j].2 ≠ 0 := fun j hj hne hg => by
      obtain ⟨rr, hrr⟩ := nodes_split hj hne
      exact hg.fine.ok _ hn2 _ (by rw [hchn, hrr]; simp)
    have hlist : (T.E (T.dl.getD i 0)).take 8 = T.E (T.dl.getD i 0) := List.take_of_length_le (by omega)
    generalize T.E (T.dl.getD i 0) = E at *
    generalize T.H (T.dl.getD i 0) = H at *
    generalize T.got seen = gs at *
    conv => whnf
    repeat (refine XSame.of ?_; conv => whnf)
    refine XIf.yes hok ?_
    conv => whnf
    repeat (refine XSame.of ?_; conv => whnf)
    refine XVal.of_read (XRead.entryMap (i := i) (seen := seen) hik (SeesM.fact fun w hw => hTM w hw) (by simp) ?_)
    conv => whnf
    repeat (refine XSame.of ?_; conv => whnf)
    refine XStop.loop tabOk (ι := Nat) ([7] ++ List.range' 22 36) (fun j => j ≤ 8 ∧ (gs ++ nodes (E.take j)).Nodup ∧ ∀ x ∈ gs ++ nodes (E.take j), x ≠ 0 ∧ x < 32 ∧ T.K x ≠ 0)
      (fun j => [(22, .v (.int .i64 (j : Int)))]) (fun _ => []) (fun j => ⟨TreeAt T X bt bm, [(bc, Row.m (mapG (cntKV (gs ++ nodes (E.take j)))) (cntKV (gs ++ nodes (E.take j))).length)] ++ [(r, Row.o (iterO bm (T.kv T.dl).length (seen ++ [i])))] ++ []⟩)
      (fun j => 8 - j) 0 ⟨Nat.zero_le _, by simpa [nodes] using hs3, by simpa [nodes] using hs4⟩ ?_ rfl (Ent.of_le ⟨by simp [nodes], fun w hw => hw⟩) fun j hj => ?_
    · conv => whnf
      repeat (first | exact FLe.nil | refine FLe.any ?_ | refine FLe.cons ?_)
    obtain ⟨hj1, hj2, hj3⟩ := hj
    conv => whnf
    repeat (refine XSame.of ?_; conv => whnf)
    refine XIf.split (fun hlt => ?_) (fun hlt => ?_)
    · have hj8 : j < 8 := by
        simp only [iLt_eq, decide_eq_true_eq] at hlt
        omega
      have hjE : j < E.length := by omega
      have htk := nodes_take hjE
      have hdup := hdupE j hjE
      have hval := hvalE j hjE
      have hnj := hnode _ (List.getElem_mem hjE)
      generalize hns : nodes (E.take j) = nj at *
      conv => whnf
      repeat (refine XSame.of ?_; conv => whnf)
      refine XVal.of_read (XRead.index tabOk (t := 111) rfl rfl rfl (by omega) (by omega) hHd.nil fun ad had => ?_)
      conv => whnf
      repeat (refine XSame.of ?_; conv => whnf)
      refine XVal.of_read (XRead.loads tabOk (t := 113) rfl rfl (ad := ad) (k := 2 * j) (L := enCs E) (m := enC E[j]) (.fact fun w hw => had ▸ hTEn w hw) (by congr 1; show Int.toNat (j : Int) * 2 = _; rw [Int.toNat_natCast]; omega) (enCs_struct hjE) rfl ?_)
      generalize hej : E[j] = e at *
      obtain ⟨nm, x⟩ := e
      dsimp only at htk hdup hval hnj
      rw [show enC (nm, x) = [strV nm, intV x] from rfl]
      conv => whnf
      repeat (refine XSame.of ?_; conv => whnf)
      intro b7
      conv => whnf
      repeat (refine XSame.of ?_; conv => whnf)
      refine XVal.of_read (XRead.strEq (l := nm) (m := []) ?_)
      conv => whnf
      repeat (refine XSame.of ?_; conv => whnf)
      refine XIf.split (fun hne => ?_) (fun hne => ?_)
      · have hne' : nm = [] := by simpa using hne
        rw [if_pos hne', List.append_nil] at htk
        conv => whnf
        repeat (refine XSame.of ?_; conv => whnf)
        refine ⟨j + 1, ⟨⟨hj8, by rw [htk]; exact hj2, by rw [htk]; exact hj3⟩, by dsimp only; omega⟩, ?_, ?_, ?_⟩
        · conv => whnf
          refine ⟨?_, rfl⟩
          repeat (first | exact FLe.nil | refine FLe.any ?_ | refine FLe.cons ?_ | refine FLe.eq (by rw [wrap_i64 (by omega)]; rfl) ?_)
        · conv => whnf
          exact trivial
        · dsimp only
          rw [htk]
          exact Ent.refl _
      have hne' : nm ≠ [] := by simpa using hne
      rw [if_neg hne'] at htk
      replace hdup := hdup hne'
      replace hval := hval hne'
      conv => whnf
      repeat (refine XSame.of ?_; conv => whnf)
      cases h1 : iEq (x : Int) 0
      rotate_left
      · have h1' : x = 0 := by
          simp [iEq_eq] at h1
          omega
        refine XStop.draw tabOk mixed rfl rfl ?_
        conv => whnf
        repeat' (first
          | (refine And.intro ?_ ?_ <;> conv => whnf)
          | (refine XHeld.same rfl ?_; conv => whnf)
          | (refine XHeld.row rfl ?_; conv => whnf)
          | (refine XHeld.call rfl ?_; conv => whnf)
          | (refine XKeep.of ?_; conv => whnf)
          | (refine XSame.of ?_; conv => whnf)
          | (refine XIf.yes h1 ?_; conv => whnf)
          | (refine XIf.yes rfl ?_; conv => whnf)
          | (refine XHeld.mk ?_ ?_; (focus (first | exact Ent.refl _ | exact Ent.left _ _ | exact Ent.of_le ⟨List.sublist_append_left _ _, fun w h => h⟩ | exact Ent.of_le ⟨List.Sublist.refl _, fun w h => h.1⟩)); conv => whnf))
        all_goals exact hbad fun hg => (hval hg).1 h1'
      have h1' : x ≠ 0 := by
        simp [iEq_eq] at h1
        omega
      cases h2 : iGe (x : Int) 32
      rotate_left
      · have h2' : 32 ≤ x := by
          simp [iGe_eq] at h2
          omega
        refine XStop.draw tabOk mixed rfl rfl ?_
        conv => whnf
        repeat' (first
          | (refine And.intro ?_ ?_ <;> conv => whnf)
          | (refine XHeld.same rfl ?_; conv => whnf)
          | (refine XHeld.row rfl ?_; conv => whnf)
          | (refine XHeld.call rfl ?_; conv => whnf)
          | (refine XKeep.of ?_; conv => whnf)
          | (refine XSame.of ?_; conv => whnf)
          | (refine XIf.no h1 ?_; conv => whnf)
          | (refine XIf.yes h2 ?_; conv => whnf)
          | (refine XIf.yes rfl ?_; conv => whnf)
          | (refine XHeld.mk ?_ ?_; (focus (first | exact Ent.refl _ | exact Ent.left _ _ | exact Ent.of_le ⟨List.sublist_append_left _ _, fun w h => h⟩ | exact Ent.of_le ⟨List.Sublist.refl _, fun w h => h.1⟩)); conv => whnf))
        all_goals exact hbad fun hg => by have := (hval hg).2.1; omega
      have h2' : x < 32 := by
        simp [iGe_eq] at h2
        omega
      have hkx := hkc x h2'
      have hdone : ∀ {D rs}, T.K x = 0 → ∃ F', Ent ⟨D, rs⟩ F' ∧ _ := fun {D rs} h3 => @hbad D rs fun hg => (hval hg).2.2 h3
      cases h3 : iEq (T.K x : Int) 0
      rotate_left
      · have h3' : T.K x = 0 := by
          simp [iEq_eq] at h3
          omega
        refine XStop.draw tabOk mixed rfl rfl ?_
        conv => whnf
        repeat' (first
          | (refine And.intro ?_ ?_ <;> conv => whnf)
          | (refine XHeld.same rfl ?_; conv => whnf)
          | (refine XHeld.row rfl ?_; conv => whnf)
          | (refine XHeld.call rfl ?_; conv => whnf)
          | (refine XKeep.of ?_; conv => whnf)
          | (refine XSame.of ?_; conv => whnf)
          | (refine XIf.no h1 ?_; conv => whnf)
          | (refine XIf.no h2 ?_; conv => whnf)
          | (refine XRead.indexArr tabOk (t := 115) rfl rfl rfl x rfl h2' rfl ?_; conv => whnf)
          | (refine XRead.loadF tabOk (t := 3) rfl rfl (ad := ⟨bt, 0, none⟩) (k := 2 + x) (L := C) (v := intV (T.K x)) (.fact fun w hw => hTA w hw) (fun _ => by show (Addr.add ⟨bt, 0, none⟩ 2).add (x * 1) = _; simp only [Addr.add_none]; rw [Nat.zero_add, Nat.mul_one, Nat.zero_add]) hkx ?_; conv => whnf)
          | (refine XIf.yes h3 ?_; conv => whnf)
          | (refine XIf.yes rfl ?_; conv => whnf)
          | (refine XHeld.mk ?_ ?_; (focus (first | exact Ent.refl _ | exact Ent.left _ _ | exact Ent.of_le ⟨List.sublist_append_left _ _, fun w h => h⟩ | exact Ent.of_le ⟨List.Sublist.refl _, fun w h => h.1⟩)); conv => whnf))
        all_goals exact hdone h3'
      have h3' : T.K x ≠ 0 := by
        simp [iEq_eq] at h3
        omega
      refine XStop.draw tabOk mixed rfl rfl ?_
      conv => whnf
      repeat' (first
        | (refine And.intro ?_ ?_ <;> conv => whnf)
        | (refine XHeld.same rfl ?_; conv => whnf)
        | (refine XHeld.row rfl ?_; conv => whnf)
        | (refine XHeld.call rfl ?_; conv => whnf)
        | (refine XKeep.of ?_; conv => whnf)
        | (refine XSame.of ?_; conv => whnf)
        | (refine XIf.no h1 ?_; conv => whnf)
        | (refine XIf.no h2 ?_; conv => whnf)
        | (refine XRead.indexArr tabOk (t := 115) rfl rfl rfl x rfl h2' rfl ?_; conv => whnf)
        | (refine XRead.loadF tabOk (t := 3) rfl rfl (ad := ⟨bt, 0, none⟩) (k := 2 + x) (L := C) (v := intV (T.K x)) (.fact fun w hw => hTA w hw) (fun _ => by show (Addr.add ⟨bt, 0, none⟩ 2).add (x * 1) = _; simp only [Addr.add_none]; rw [Nat.zero_add, Nat.mul_one, Nat.zero_add]) hkx ?_; conv => whnf)
        | (refine XIf.no h3 ?_; conv => whnf)
        | (refine XIf.no rfl ?_; conv => whnf)
        | (refine XHeld.mk ?_ ?_; (focus (first | exact Ent.refl _ | exact Ent.left _ _ | exact Ent.of_le ⟨List.sublist_append_left _ _, fun w h => h⟩ | exact Ent.of_le ⟨List.Sublist.refl _, fun w h => h.1⟩)); conv => whnf))
      have hkey := cntKV_key (gs ++ nj)
      by_cases hmem : x ∈ gs ++ nj
      · obtain ⟨o1, ho1⟩ : ∃ o1 : Int, o1 = 1 := ⟨_, rfl⟩
        refine XVal.of_read (XRead.lookupIn tabOk (t := 181) rfl rfl rfl rfl (SeesM.row (by simp)) rfl hkey (v := .int .i64 o1) (fun i u hu => by rw [(cntKV_get hu).1, ho1]; rfl) ⟨(intV x, intV 1), List.mem_map.2 ⟨x, hmem, rfl⟩, rfl⟩ ?_)
        conv => whnf
        repeat (refine XSame.of ?_; conv => whnf)
        refine XUnit.mapOld tabOk (t := 181) rfl rfl rfl rfl (r1 := []) (r2 := [(r, Row.o (iterO bm (T.kv T.dl).length (seen ++ [i])))]) (l := cntKV (gs ++ nj)) rfl hkey ⟨(intV x, intV 1), List.mem_map.2 ⟨x, hmem, rfl⟩, rfl⟩ fun q u hq => ?_
        obtain ⟨hq1, hq2⟩ := cntKV_get hq
        obtain ⟨hql, hq3⟩ := List.getElem?_eq_some_iff.1 hq2
        have hqn : q < (cntKV (gs ++ nj)).length := (List.getElem?_eq_some_iff.1 hq).1
        have hkey2 : ∀ p ∈ (cntKV (gs ++ nj)).set q (intV x, Value.int .i64 (IntKind.i64.wrap (o1 + 1))), MapKept.IsKey (.int .i64) p.1 := fun p hp => by
          rcases List.mem_or_eq_of_mem_set hp with h5 | h5
          · exact hkey p h5
          · rw [h5]; rfl
        have hset : ((cntKV (gs ++ nj)).set q (intV x, Value.int .i64 (IntKind.i64.wrap (o1 + 1))))[q]? = some (intV x, Value.int .i64 (IntKind.i64.wrap (o1 + 1))) := by
          rw [List.getElem?_set_self hqn]
        generalize hl2 : (cntKV (gs ++ nj)).set q (intV x, Value.int .i64 (IntKind.i64.wrap (o1 + 1))) = l2 at *
        conv => whnf
        repeat (refine XSame.of ?_; conv => whnf)
        refine XVal.of_read (XRead.lookupIn tabOk (t := 181) rfl rfl rfl rfl (SeesM.row (by simp)) rfl hkey2 (v := .int .i64 (IntKind.i64.wrap (o1 + 1))) (fun q' u' hu => by
          by_cases hqq : q = q'
          · subst hqq
            rw [hset] at hu
            cases hu
            rfl
          · rw [← hl2, List.getElem?_set_ne hqq] at hu
            obtain ⟨_, hu2⟩ := cntKV_get hu
            obtain ⟨hul, hu3⟩ := List.getElem?_eq_some_iff.1 hu2
            exact absurd (nodup_idx hj2 hql hul (hq3.trans hu3.symm)) hqq) ⟨_, List.mem_of_getElem? hset, rfl⟩ ?_)
        conv => whnf
        repeat (refine XSame.of ?_; conv => whnf)
        refine XIf.yes (by subst ho1; rw [iGt_eq]; decide) ?_
        conv => whnf
        repeat (refine XSame.of ?_; conv => whnf)
        exact hbad (hdup hmem)
      · obtain ⟨z0, hz0⟩ : ∃ z0 : Int, z0 = 0 := ⟨_, rfl⟩
        refine XVal.of_read (XRead.lookupNo tabOk (t := 181) rfl rfl rfl rfl (SeesM.row (by simp)) rfl hkey (cntKV_no hmem) (z := .int .i64 z0) (by rw [hz0]; rfl) ?_)
        conv => whnf
        repeat (refine XSame.of ?_; conv => whnf)
        refine XUnit.mapNew tabOk (t := 181) rfl rfl rfl rfl (r1 := []) (r2 := [(r, Row.o (iterO bm (T.kv T.dl).length (seen ++ [i])))]) (l := cntKV (gs ++ nj)) rfl hkey (cntKV_no hmem) ?_
        have hsn : cntKV (gs ++ nj) ++ [(intV x, Value.int .i64 (IntKind.i64.wrap (z0 + 1)))] = cntKV (gs ++ nj ++ [x]) := by
          rw [cntKV_snoc, hz0]
          rfl
        rw [hsn]
        conv => whnf
        repeat (refine XSame.of ?_; conv => whnf)
        refine XVal.of_read (XRead.lookupIn tabOk (t := 181) rfl rfl rfl rfl (l := cntKV (gs ++ nj ++ [x])) (SeesM.row (by simp)) rfl (cntKV_key _) (v := .int .i64 (IntKind.i64.wrap (z0 + 1))) (fun i u hu => by rw [(cntKV_get hu).1, hz0]; rfl) ⟨(intV x, intV 1), List.mem_map.2 ⟨x, by simp, rfl⟩, rfl⟩ ?_)
        conv => whnf
        repeat (refine XSame.of ?_; conv => whnf)
        refine XIf.no (by subst hz0; rw [iGt_eq]; decide) ?_
        conv => whnf
        repeat (refine XSame.of ?_; conv => whnf)
        have hnew : gs ++ nodes (E.take (j + 1)) = gs ++ nj ++ [x] := by rw [htk, List.append_assoc]
        refine ⟨j + 1, ⟨⟨hj8, ?_, ?_⟩, by dsimp only; omega⟩, ?_, ?_, ?_⟩
        · rw [hnew, List.nodup_append]
          refine ⟨hj2, by simp, fun a ha b hb e => ?_⟩
          have hb : b = x := by simpa using hb
          subst hb e
          exact hmem ha
        · rw [hnew]
          intro y hy
          rcases List.mem_append.1 hy with h5 | h5
          · exact hj3 y h5
          · have : y = x := by simpa using h5
            subst this
            exact ⟨h1', h2', h3'⟩
        · conv => whnf
          refine ⟨?_, rfl⟩
          repeat (first | exact FLe.nil | refine FLe.any ?_ | refine FLe.cons ?_ | refine FLe.eq (by rw [wrap_i64 (by omega)]; rfl) ?_)
        · conv => whnf
          exact trivial
        · dsimp only
          rw [hnew]
          exact Ent.refl _
    · have hj8 : j = 8 := by
        simp only [iLt_eq, decide_eq_false_iff_not] at hlt
        omega
      subst hj8
      rw [hlist] at hj2 hj3 ⊢
      conv => whnf
      repeat (refine XSame.of ?_; conv => whnf)
      refine ⟨seen ++ [i], ⟨⟨?_, ?_, by rw [hgs]; exact hj2, by rw [hgs]; exact hj3⟩, by simp; omega⟩, ?_, ?_, ?_⟩
      · rw [List.nodup_append]
        refine ⟨hs1, by simp, fun a ha b hb e => ?_⟩
        have hb : b = i := by simpa using hb
        subst hb e
        exact hni ha
      · intro y hy
        rcases List.mem_append.1 hy with h5 | h5
        · exact hs2 y h5
        · have : y = i := by simpa using h5
          omega
      · conv => whnf
        refine ⟨?_, rfl⟩
        repeat (first | exact FLe.nil | refine FLe.any ?_ | refine FLe.cons ?_ | refine FLe.eq (by rw [wrap_i64 (by omega)]; rfl) ?_)
      · conv => whnf
        exact trivial
      · dsimp only
        rw [hgs]
        exact Ent.refl _
  · have hF : T.Fine := Tree.fine_of hs2 hs3 hs4 (fun i hi => hdone i (by rw [hkl]; exact hi))
    have hlow : T.low 33 0 := Tree.low_of (low_root hF.uniq)
    have hgood : (∀ n, n < 32 → T.K n ≠ 0 → ∃ p, (p, n) ∈ T.V 33 0 []) ↔ T.Good := ⟨fun h => ⟨hF, h⟩, fun h => h.all⟩
    conv => whnf
    repeat (refine XSame.of ?_; conv => whnf)
    refine XIf.no hok ?_
    conv => whnf
    repeat (refine XSame.of ?_; conv => whnf)
    refine XVal.makeMapG fun br => ?_
    conv => whnf
    repeat (refine XSame.of ?_; conv => whnf)
    refine XVal.allocRow tabOk (e := 182) rfl (z := [.map none]) rfl fun b8 => ?_
    conv => whnf
    repeat (refine XSame.of ?_; conv => whnf)
    refine XUnit.storeIn tabOk (t := 182) rfl (r1 := [(bc, Row.m (mapG (cntKV (T.got seen))) (cntKV (T.got seen)).length), (r, Row.o (iterO bm (T.kv T.dl).length seen)), (br, Row.m (mapG (usedKV [])) (usedKV []).length)]) (r2 := []) (b := b8) (k := 0) (C := [.map none]) (v := .map (some br)) rfl rfl (by simp [Value.cells, oneCell]) (by decide) ?_
    rw [show laid [Value.map none] 0 (Value.map (some br)).cells.toList = [.map (some br)] from rfl]
    conv => whnf
    repeat (refine XSame.of ?_; conv => whnf)
    refine XCall.ent (F' := ⟨fun w => TreeAt T X bt bm w ∧ RowAt w (some ⟨b8, 0, none⟩) [.map (some br)], [] ++ [(br, Row.m (mapG (usedKV [])) (usedKV []).length)] ++ []⟩) (by
      refine Ent.trans (Ent.of_le (F' := ⟨TreeAt T X bt bm, [(br, Row.m (mapG (usedKV [])) (usedKV []).length)] ++ [(b8, Row.c [.map (some br)])]⟩) ⟨?_, fun w h => h⟩) Ent.shareLast
      exact .cons _ (.cons _ (List.Sublist.refl _))) ?_
    have hvs := visit_spec T hT hname X bt bm 133 (.pointer (some ⟨b8, 0, none⟩)) (fun s : List Nat => [(br, Row.m (mapG (usedKV s)) (usedKV s).length)]) (by simp) (fun _ _ => True) (fun w => TreeAt T X bt bm w ∧ RowAt w (some ⟨b8, 0, none⟩) [.map (some br)]) (fun w h => h.1) (fun s _ n s' => s' = addN s n) (fun _ s p n _ _ _ => reach_cb b8 br T X bt bm s p n) 33 0 [] [] 0 hlow trivial (by decide) (by decide)
    refine XCall.rows hvs (fun w hw => hw) (fun v F hv => ?_)
    obtain ⟨s, -, hst, rfl⟩ := hv
    have hmem := steps_mem hst
    conv => whnf
    repeat (refine XSame.of ?_; conv => whnf)
    refine XStop.loop tabOk (ι := Nat) ([9] ++ List.range' 62 17) (fun x => x ≤ 32 ∧ ∀ m, m < x → T.K m ≠ 0 → m ∈ s)
      (fun x => [(62, .v (.int .i64 (x : Int)))]) (fun _ => []) (fun _ => ⟨fun w => TreeAt T X bt bm w ∧ RowAt w (some ⟨b8, 0, none⟩) [.map (some br)], [(br, Row.m (mapG (usedKV s)) (usedKV s).length)]⟩)
      (fun x => 32 - x) 0 ⟨Nat.zero_le _, fun m hm => by omega⟩ ?_ rfl (Ent.of_le ⟨by simp, fun w hw => hw.1⟩) fun n hn => ?_
    · conv => whnf
      repeat (first | exact FLe.nil | refine FLe.any ?_ | refine FLe.cons ?_)
    obtain ⟨hn, hall⟩ := hn
    conv => whnf
    repeat (refine XSame.of ?_; conv => whnf)
    refine XIf.split (fun hlt => ?_) (fun hlt => ?_)
    · have hn32 : n < 32 := by
        simp only [iLt_eq, decide_eq_true_eq] at hlt
        omega
      conv => whnf
      repeat (refine XSame.of ?_; conv => whnf)
      refine XVal.of_read (XRead.indexArr tabOk (t := 115) rfl rfl rfl n rfl hn32 rfl ?_)
      conv => whnf
      repeat (refine XSame.of ?_; conv => whnf)
      refine XVal.of_read (XRead.loadF tabOk (t := 3) rfl rfl (ad := ⟨bt, 0, none⟩) (k := 2 + n) (L := C) (v := intV (T.K n)) (.fact fun w hw => hTA w hw.1) (fun _ => by show (Addr.add ⟨bt, 0, none⟩ 2).add (n * 1) = _; simp only [Addr.add_none]; rw [Nat.zero_add, Nat.mul_one, Nat.zero_add]) (hkc n hn32) ?_)
      conv => whnf
      repeat (refine XSame.of ?_; conv => whnf)
      refine XIf.split (fun hk => ?_) (fun hk => ?_)
      · have hk' : T.K n ≠ 0 := by
          simp [iNe_eq] at hk
          omega
        conv => whnf
        repeat (refine XSame.of ?_; conv => whnf)
        refine XVal.of_read (XRead.loadF tabOk (t := 182) rfl rfl (ad := ⟨b8, 0, none⟩) (k := 0) (L := [.map (some br)]) (v := .map (some br)) (.fact fun w hw => hw.2) (fun _ => rfl) rfl ?_)
        conv => whnf
        repeat (refine XSame.of ?_; conv => whnf)
        by_cases hms : n ∈ s
        · obtain ⟨vv, hvv⟩ : ∃ vv : Bool, vv = true := ⟨_, rfl⟩
          refine XVal.of_read (XRead.lookupIn tabOk (t := 182) rfl rfl rfl rfl (SeesM.row (by simp)) rfl (usedKV_key s) (v := .bool vv) (fun i u h => by rw [hvv]; exact usedKV_val i u h) ⟨(intV n, .bool true), List.mem_map.2 ⟨_, hms, rfl⟩, rfl⟩ ?_)
          conv => whnf
          repeat (refine XSame.of ?_; conv => whnf)
          refine XIf.no (by subst hvv; rfl) ?_
          conv => whnf
          repeat (refine XSame.of ?_; conv => whnf)
          refine ⟨n + 1, ⟨⟨hn32, fun m hm hkm => ?_⟩, by dsimp only; omega⟩, ?_, ?_, Ent.refl _⟩
          · rcases Nat.lt_or_eq_of_le (Nat.lt_succ_iff.1 hm) with h5 | h5
            · exact hall m h5 hkm
            · rw [h5]; exact hms
          · conv => whnf
            refine ⟨?_, rfl⟩
            repeat (first | exact FLe.nil | refine FLe.any ?_ | refine FLe.cons ?_ | refine FLe.eq (by rw [wrap_i64 (by omega)]; rfl) ?_)
          · conv => whnf
            exact trivial
        · obtain ⟨vv, hvv⟩ : ∃ vv : Bool, vv = false := ⟨_, rfl⟩
          refine XVal.of_read (XRead.lookupNo tabOk (t := 182) rfl rfl rfl rfl (SeesM.row (by simp)) rfl (usedKV_key s) (usedKV_no hms) (z := .bool vv) (by rw [hvv]; rfl) ?_)
          conv => whnf
          repeat (refine XSame.of ?_; conv => whnf)
          refine XIf.yes (by subst hvv; rfl) ?_
          conv => whnf
          repeat (refine XSame.of ?_; conv => whnf)
          refine hbad fun hg => hms ((hmem n).2 (.inr (hg.all n hn32 hk')))
      · have hk' : T.K n = 0 := by
          simp [iNe_eq] at hk
          omega
        conv => whnf
        repeat (refine XSame.of ?_; conv => whnf)
        repeat' (first
          | (refine XIf.no rfl ?_; conv => whnf))
        refine ⟨n + 1, ⟨⟨hn32, fun m hm hkm => ?_⟩, by dsimp only; omega⟩, ?_, ?_, Ent.refl _⟩
        · rcases Nat.lt_or_eq_of_le (Nat.lt_succ_iff.1 hm) with h5 | h5
          · exact hall m h5 hkm
          · rw [h5] at hkm
            exact absurd hk' hkm
        · conv => whnf
          refine ⟨?_, rfl⟩
          repeat (first | exact FLe.nil | refine FLe.any ?_ | refine FLe.cons ?_ | refine FLe.eq (by rw [wrap_i64 (by omega)]; rfl) ?_)
        · conv => whnf
          exact trivial
    · have hn32 : n = 32 := by
        simp only [iLt_eq, decide_eq_false_iff_not] at hlt
        omega
      subst hn32
      conv => whnf
      repeat (refine XSame.of ?_; conv => whnf)
      refine ⟨_, Ent.refl _, ?_⟩
      have hg : T.Good := hgood.1 fun m hm hk => by
        rcases (hmem m).1 (hall m hm hk) with h5 | h5
        · cases h5
        · exact h5
      rw [← hres]
      unfold Tree.res
      rw [if_pos hg]
      rfl

end Go.Proofs.YtfeoedkmndkbjaaGreatDoor
namespace Go.Proofs.YtfeoedkmndkbjaaGreatDoor
open Go Go.Sx
set_option maxRecDepth 100000
set_option maxHeartbeats 4000000
set_option linter.unusedVariables false
set_option linter.unusedSimpArgs false

def dirsL (d : List UInt8) (n : Nat) : List Nat := (List.range n).filter fun m => decide (rk d m = 2)

theorem dirsL_next (d : List UInt8) (n : Nat) : dirsL d (n + 1) = dirsL d n ++ if rk d n = 2 then [n] else [] := by
  unfold dirsL
  rw [List.range_succ, List.filter_append]
  congr 1
  by_cases h : rk d n = 2 <;> simp [h]

theorem mem_dirsL {d : List UInt8} {n m : Nat} : m ∈ dirsL d n ↔ m < n ∧ rk d m = 2 := by
  unfold dirsL
  rw [List.mem_filter, List.mem_range]
  simp

noncomputable def theTree (d : List UInt8) (H : Nat → Hd) : Tree := ⟨dirsL d 32, rk d, fun n => ens (contentR d n) 8, H⟩

theorem ens_len (c : List UInt8) : (ens c 8).length = 8 := by simp [ens]

theorem theTree_ok (d : List UInt8) {H : Nat → Hd} (hH : ∀ n, (H n).Ok 8) : (theTree d H).Ok := by
  refine ⟨fun n => ens_len _, hH, ?_, fun n hn => (mem_dirsL.1 hn).1, fun n => ?_, fun n e he => ?_⟩
  · exact List.nodup_range.sublist List.filter_sublist
  · have := rk_lt d n
    show rk d n ≤ _
    omega
  · obtain ⟨i, _, rfl⟩ := List.mem_map.1 he
    have := byt_lt (contentR d n) (16 * i + 14)
    show byt _ _ ≤ _
    omega

theorem theTree_name (d : List UInt8) (H : Nat → Hd) : ∀ n, ∀ e ∈ (theTree d H).E n, e.1.length ≤ 14 := by
  intro n e he
  obtain ⟨i, _, rfl⟩ := List.mem_map.1 he
  have := nlen_le (contentR d n) 14 (16 * i)
  show (cut _ _ _).length ≤ 14
  unfold cut
  rw [List.length_take]
  omega

theorem V_congr (d : List UInt8) (H H' : Nat → Hd) : ∀ (f n : Nat) (p : List UInt8), (theTree d H).V f n p = (theTree d H').V f n p
  | 0, n, p => rfl
  | f + 1, n, p => by
    have h : ∀ n p, (theTree d H).V f n p = (theTree d H').V f n p := V_congr d H H' f
    show (p, n) :: _ = (p, n) :: _
    simp only [h]
    rfl

theorem good_congr {d : List UInt8} {H H' : Nat → Hd} (h : (theTree d H).Good) : (theTree d H').Good :=
  ⟨⟨h.fine.ok, h.fine.nd, h.fine.one⟩, fun n hn hk => by
    obtain ⟨p, hp⟩ := h.all n hn hk
    exact ⟨p, by rw [V_congr d H' H]; exact hp⟩⟩

theorem res_congr (d : List UInt8) (H H' : Nat → Hd) : (theTree d H).res = (theTree d H').res := by
  unfold Tree.res
  by_cases h : (theTree d H).Good
  · rw [if_pos h, if_pos (good_congr h)]
  · rw [if_neg h, if_neg fun h2 => h (good_congr h2)]

def hd0 : Hd := ⟨some ⟨0, 0, none⟩, 8⟩
theorem hd0_ok : hd0.Ok 8 := ⟨fun h => (by cases h), Nat.le_refl _⟩

def PentsAll (d : List UInt8) : Prop := ∀ n ∈ dirsL d 32, pentsOk (contentR d n) = true
noncomputable instance (d : List UInt8) : Decidable (PentsAll d) := Classical.propDecidable _

/-- What the program's open answers. -/
noncomputable def openE (d : List UInt8) : Nat := if chk d ≠ 0 then chk d else if PentsAll d then (theTree d fun _ => hd0).res else 4

def RelTr (X : Value) (d : List UInt8) (e : Nat) (v : Value) (F : Fx) : Prop :=
  if e = 0 then ∃ bt bm H, (∀ n, (H n).Ok 8) ∧ v = .tuple #[.pointer (some ⟨bt, 0, none⟩), .int .i64 (e : Int)] ∧ F = ⟨TreeAt (theTree d H) X bt bm, []⟩
  else ∃ p, v = .tuple #[.pointer p, .int .i64 (e : Int)] ∧ F = ⟨fun _ => True, []⟩

theorem relTr_bad {X : Value} {d : List UInt8} {D : World → Prop} {rs : List (Nat × Row)} {e : Nat} {p : Option Addr} (h : e ≠ 0) : ∃ F', Ent ⟨D, rs⟩ F' ∧ RelTr X d e (.tuple #[.pointer p, .int .i64 (e : Int)]) F' := by
  refine ⟨⟨fun _ => True, []⟩, Ent.bare fun _ _ => trivial, ?_⟩
  unfold RelTr
  rw [if_neg h]
  exact ⟨p, rfl, rfl⟩

theorem contB_first (d : List UInt8) (hd : d.length = 12288) (b : Nat → Nat) (hb : ∀ i, i < 12 → b i < 96) : ∀ i, i < 12 → (contB d b (i + 1)).take 128 = blockOf d (b 0)
  | 0, _ => by
    have := blockOf_len hd (hb 0 (by decide))
    show (([] : List UInt8) ++ blockOf d (b 0)).take 128 = _
    rw [List.nil_append, List.take_of_length_le (by omega)]
  | i + 1, hi => by
    have hl := contB_len hd (b := b) (i := i + 1) fun j hj => hb j (by omega)
    show (contB d b (i + 1) ++ blockOf d (b (i + 1))).take 128 = _
    rw [List.take_append_of_le_length (by omega), contB_first d hd b hb i (by omega)]

theorem contentR_cut {d : List UInt8} (h0 : chk d = 0) {n : Nat} (hn : n < 32) (hk : rk d n = 2) : contentR d n = cut d (128 * rb d n 0) 128 ∧ rb d n 0 < 96 := by
  obtain ⟨hd, hok⟩ := chk_zero h0
  obtain ⟨h1, h2, h3⟩ := dir_form hok hn hk
  have hg : gete d n = 0 := by
    unfold gete
    rw [if_neg (show ¬ chk d ≠ 0 by rw [h0]; simp), if_neg (by omega), if_neg (by show ¬ rk d n = 0; omega)]
  refine ⟨?_, h3⟩
  unfold contentR
  rw [if_neg (by rw [hg]; simp), h1, contB_first d hd (rb d n) (fun i hi => ok_blocks hok hn hi) 11 (by decide)]
  unfold blockOf
  rw [if_neg (by omega)]

theorem pentsR_ens {c : List UInt8} (h : pentsOk c = true) : pentsR c = ens c 8 := by
  unfold pentsR
  rw [h]
  rfl

theorem kinds_next (K : Nat → Nat) (X : Value) (bm : Nat) {n : Nat} (hn : n < 32) : laid (treeC X bm K n) (2 + n) [intV (K n)] = treeC X bm K (n + 1) := by
  unfold treeC
  rw [show 2 + n = 1 + (1 + n) by omega, laid_succ, laid_succ]
  congr 2
  unfold kindsC
  have hs : List.replicate (32 - n) (intV 0) = [intV 0] ++ List.replicate (32 - (n + 1)) (intV 0) := by
    rw [show 32 - n = (32 - (n + 1)) + 1 by omega, List.replicate_succ]
    rfl
  have hl : ((List.range n).map fun m => intV (K m)).length = n := by simp
  rw [hs, ← List.append_assoc, laid_left (by simp), laid_end (l := [intV (K n)]) (B := [intV 0]) hl.symm rfl, List.range_succ, List.map_append]
  rfl

theorem openT_spec (d : List UInt8) (h : Hd) (hh : h.Ok d.length) (hl : d.length ≤ 1000000) : PureSpec Tryz.prog 44 [h.v d.length] (fun w => By w h d) (RelTr (h.v d.length) d (openE d)) := by
  refine PureSpec.of_xc tabOk Tryz.func44 rfl (by decide) (n := Tryz.f44.ntmps - 1) rfl rfl fun w0 av => ?_
  conv => whnf
  refine XCall.val (pcheck_spec d h hh hl) (fun w hw => hw) (fun v D hv => ?_)
  by_cases h0 : chk d = 0
  rotate_left
  · have : openE d = chk d := by
      unfold openE
      rw [if_pos h0]
    rw [this]
    generalize chk d = e at *
    subst hv
    conv => whnf
    repeat (refine XSame.of ?_; conv => whnf)
    refine XIf.yes (by simp [iNe_eq]; omega) ?_
    conv => whnf
    repeat (refine XSame.of ?_; conv => whnf)
    exact relTr_bad h0
  obtain ⟨hd, hok⟩ := chk_zero h0
  obtain ⟨e0, he0⟩ : ∃ e0, e0 = chk d := ⟨_, rfl⟩
  rw [← he0] at hv
  rw [h0] at he0
  subst hv
  have hbad : ∀ (D : World → Prop) (rs : List (Nat × Row)), ¬ PentsAll d → ∃ F', Ent ⟨D, rs⟩ F' ∧ RelTr (h.v d.length) d (openE d) (.tuple #[.pointer none, .int .i64 4]) F' := fun D rs hn => by
    have : openE d = 4 := by
      unfold openE
      rw [if_neg (by rw [h0]; simp), if_neg hn]
    rw [this]
    exact relTr_bad (by decide)
  conv => whnf
  repeat (refine XSame.of ?_; conv => whnf)
  refine XIf.no (by subst he0; simp [iNe_eq]) ?_
  conv => whnf
  repeat (refine XSame.of ?_; conv => whnf)
  refine XVal.makeMapG fun bm => ?_
  conv => whnf
  repeat (refine XSame.of ?_; conv => whnf)
  refine XVal.of_read (XRead.buildBig tabOk (t := 117) rfl rfl ?_)
  conv => whnf
  repeat (refine XSame.of ?_; conv => whnf)
  refine XVal.boxRow fun bt => ?_
  conv => whnf
  repeat (refine XSame.of ?_; conv => whnf)
  have hc0 : treeC (h.v d.length) bm (rk d) 0 = [h.v d.length, .map (some bm)] ++ List.replicate 32 (intV 0) := by simp [treeC, kindsC]
  refine XStop.loop tabOk (ι := Nat × (Nat → Hd)) ([6, 7, 8, 9, 10] ++ List.range' 20 46) (fun x => x.1 ≤ 32 ∧ (∀ m, (x.2 m).Ok 8) ∧ ∀ m ∈ dirsL d x.1, pentsOk (contentR d m) = true)
    (fun x => [(20, .v (.int .i64 (x.1 : Int)))]) (fun _ => [])
    (fun x => ⟨fun w => By w h d ∧ ∀ m ∈ dirsL d x.1, RowAt w (x.2 m).a (enCs (ens (contentR d m) 8)), [(bm, Row.m (mapG ((theTree d x.2).kv (dirsL d x.1))) ((theTree d x.2).kv (dirsL d x.1)).length), (bt, Row.c (treeC (h.v d.length) bm (rk d) x.1))]⟩)
    (fun x => 32 - x.1) (0, fun _ => hd0) ⟨Nat.zero_le _, fun _ => hd0_ok, fun m hm => by cases hm⟩ ?_ rfl (Ent.of_le ⟨by dsimp only; rw [hc0]; exact List.Sublist.refl _, fun w hw => ⟨hw, fun m hm => by cases hm⟩⟩) fun x hx => ?_
  · conv => whnf
    repeat (first | exact FLe.nil | refine FLe.any ?_ | refine FLe.cons ?_)
  obtain ⟨n, H⟩ := x
  obtain ⟨hn, hH, hall⟩ := hx
  dsimp only at hn hH hall ⊢
  conv => whnf
  repeat (refine XSame.of ?_; conv => whnf)
  refine XIf.split (fun hlt => ?_) (fun hlt => ?_)
  · have hn32 : n < 32 := by
      simp only [iLt_eq, decide_eq_true_eq] at hlt
      omega
    have hhc := hh.cap
    have e1 : IntKind.i64.wrap (1792 + IntKind.i64.wrap ((n : Int) * 16)) = ((1792 + 16 * n : Nat) : Int) := by
      rw [wrap_i64 (n := (n : Int) * 16) (by omega), wrap_i64 (by omega)]
      omega
    obtain ⟨m, hm⟩ : ∃ m, m = d.length - (1792 + 16 * n) := ⟨_, rfl⟩
    have hok2 : (Hd.sub h (1792 + 16 * n)).Ok m := Hd.sub_ok hh (by omega)
    have hby2 : ∀ w, By w h d → By w (Hd.sub h (1792 + 16 * n)) (cut d (1792 + 16 * n) m) := fun w hw => By.sub hw (by omega)
    have hcl2 : (cut d (1792 + 16 * n) m).length = m := cut_len (by omega)
    have hb0 : byt (cut d (1792 + 16 * n) m) 0 = rk d n := byt_cut (by omega) (by omega)
    have hb3 : byt (cut d (1792 + 16 * n) m) 3 = rb d n 0 := byt_cut (by omega) (by omega)
    have hkn := kinds_next (rk d) (h.v d.length) bm hn32
    have hkc := treeC_kind (h.v d.length) bm (rk d) (n := n + 1) (m := n) (by omega)
    have hkl := kindsC_len (rk d) hn
    have htl : (treeC (h.v d.length) bm (rk d) n).length = 34 := by simp [treeC, hkl]
    have hwr : (Value.int .i64 (IntKind.i64.wrap (byt (cut d (1792 + 16 * n) m) 0 : Int))) = intV (rk d n) := by rw [wrap_byt, hb0]; rfl
    have hdn := dirsL_next d n
    have hdc := contentR_cut h0 hn32
    generalize cut d (1792 + 16 * n) m = cc at *
    generalize hC1 : treeC (h.v d.length) bm (rk d) (n + 1) = C1 at *
    generalize hC0 : treeC (h.v d.length) bm (rk d) n = C0 at *
    conv => whnf
    repeat (refine XSame.of ?_; conv => whnf)
    refine XVal.of_read (XRead.subFrom tabOk (t := 23) rfl rfl rfl rfl (1792 + 16 * n) e1 (by omega) hhc ?_)
    rw [← hm]
    conv => whnf
    repeat (refine XSame.of ?_; conv => whnf)
    refine XStop.draw tabOk mixed rfl rfl ?_
    conv => whnf
    repeat' (first
      | (refine And.intro ?_ ?_ <;> conv => whnf)
      | (refine XHeld.same rfl ?_; conv => whnf)
      | (refine XHeld.row rfl ?_; conv => whnf)
      | (refine XHeld.call rfl ?_; conv => whnf)
      | (refine XKeep.of ?_; conv => whnf)
      | (refine XSame.of ?_; conv => whnf)
      | (refine XRead.byteAt tabOk (t := 23) rfl rfl rfl rfl 0 rfl (by omega) hok2 fun ad had => ?_; conv => whnf)
      | (refine XRead.byteLd' tabOk (t := 5) rfl rfl had (l := cc) (.fact fun w h => hby2 w h.1) rfl (by omega) ?_; conv => whnf)
      | (refine XRead.indexArr tabOk (t := 115) rfl rfl rfl n rfl hn32 rfl ?_; conv => whnf)
      | (refine XUnit.storeIn tabOk (t := 3) rfl (r1 := [(bm, Row.m (mapG ((theTree d H).kv (dirsL d n))) ((theTree d H).kv (dirsL d n)).length)]) (r2 := []) (b := bt) (k := 2 + n) (C := C0) (v := .int .i64 (IntKind.i64.wrap (byt cc 0 : Int))) (by show (Addr.add ⟨bt, 0, none⟩ 2).add (n * 1) = _; simp only [Addr.add_none]; rw [Nat.zero_add, Nat.mul_one]) rfl (by simp [Value.cells, oneCell]) (by rw [htl]; show 2 + n + 1 ≤ 34; omega) ?_; conv => whnf)
      | (refine XHeld.mk ?_ ?_; (focus (first | exact Ent.refl _ | exact Ent.left _ _ | exact Ent.of_le ⟨List.sublist_append_left _ _, fun w h => h⟩ | exact Ent.of_le ⟨List.Sublist.refl _, fun w h => h.1⟩)); conv => whnf))
    rw [hwr, show (intV (rk d n)).cells.toList = [intV (rk d n)] from rfl, hkn]
    conv => whnf
    repeat (refine XSame.of ?_; conv => whnf)
    refine XVal.of_read (XRead.indexArr tabOk (t := 115) rfl rfl rfl n rfl hn32 rfl ?_)
    conv => whnf
    repeat (refine XSame.of ?_; conv => whnf)
    refine XVal.of_read (XRead.loadF tabOk (t := 3) rfl rfl (ad := ⟨bt, 0, none⟩) (k := 2 + n) (L := C1) (v := intV (rk d n)) (Sees.row (by simp)) (fun _ => by show (Addr.add ⟨bt, 0, none⟩ 2).add (n * 1) = _; simp only [Addr.add_none]; rw [Nat.zero_add, Nat.mul_one, Nat.zero_add]) hkc ?_)
    conv => whnf
    repeat (refine XSame.of ?_; conv => whnf)
    refine XIf.split (fun hk => ?_) (fun hk => ?_)
    · have hk' : rk d n ≠ 2 := by
        simp [iNe_eq] at hk
        omega
      rw [if_neg hk', List.append_nil] at hdn
      conv => whnf
      repeat (refine XSame.of ?_; conv => whnf)
      refine ⟨(n + 1, H), ⟨⟨hn32, hH, by rw [hdn]; exact hall⟩, by dsimp only; omega⟩, ?_, ?_, ?_⟩
      · conv => whnf
        refine ⟨?_, rfl⟩
        repeat (first | exact FLe.nil | refine FLe.any ?_ | refine FLe.cons ?_ | refine FLe.eq (by rw [wrap_i64 (by omega)]; rfl) ?_)
      · conv => whnf
        exact trivial
      · dsimp only
        rw [hdn, ← hC1]
        exact Ent.refl _
    have hk' : rk d n = 2 := by
      simp [iNe_eq] at hk
      omega
    rw [if_pos hk'] at hdn
    obtain ⟨hdc1, hdc2⟩ := hdc hk'
    have e2 : IntKind.i64.wrap (IntKind.i64.wrap (byt cc 3 : Int) * 128) = ((128 * rb d n 0 : Nat) : Int) := by
      rw [wrap_byt, hb3, wrap_i64 (by omega)]
      omega
    have e3 : IntKind.i64.wrap (IntKind.i64.wrap (IntKind.i64.wrap (byt cc 3 : Int) * 128) + 128) = ((128 * rb d n 0 + 128 : Nat) : Int) := by
      rw [e2, wrap_i64 (by omega)]
      omega
    have hcl3 : (cut d (128 * rb d n 0) 128).length = 128 := cut_len (by omega)
    have hps := pentries_spec (cut d (128 * rb d n 0) 128) (Hd.sub h (128 * rb d n 0)) (by rw [hcl3]; exact Hd.sub_ok hh (by omega)) hcl3
    rw [hcl3] at hps
    rw [← hdc1] at hps
    have hpe : ∀ w, By w h d → By w (Hd.sub h (128 * rb d n 0)) (contentR d n) := fun w hw => by rw [hdc1]; exact By.sub hw (by omega)
    have hnin : n ∉ dirsL d n := fun h => by have := (mem_dirsL.1 h).1; omega
    conv => whnf
    repeat (refine XSame.of ?_; conv => whnf)
    refine XVal.of_read (XRead.byteAt tabOk (t := 23) rfl rfl rfl rfl 3 rfl (by omega) hok2 fun ad had => ?_)
    conv => whnf
    repeat (refine XSame.of ?_; conv => whnf)
    refine XVal.of_read (XRead.byteLd' tabOk (t := 5) rfl rfl had (l := cc) (.fact fun w h => hby2 w h.1) rfl (by omega) ?_)
    conv => whnf
    repeat (refine XSame.of ?_; conv => whnf)
    refine XVal.of_read (XRead.sub2 tabOk (t := 23) rfl rfl rfl rfl (128 * rb d n 0) 128 e2 e3 (by omega) ?_)
    conv => whnf
    repeat (refine XSame.of ?_; conv => whnf)
    refine XCall.pure hps (fun w hw => hpe w hw.1) (fun v D hv => ?_)
    obtain ⟨hE, rfl, hEo, rfl⟩ := hv
    cases hpo : pentsOk (contentR d n)
    · obtain ⟨ok, hok'⟩ : ∃ ok : Bool, ok = pentsOk (contentR d n) := ⟨_, rfl⟩
      conv => whnf
      repeat (refine XSame.of ?_; conv => whnf)
      exact hbad _ _ fun hp => by
        have := hp n (mem_dirsL.2 ⟨hn32, hk'⟩)
        rw [hpo] at this
        cases this
    · have hpr := pentsR_ens hpo
      rw [hpr, ens_len] at hEo ⊢
      conv => whnf
      repeat (refine XSame.of ?_; conv => whnf)
      refine XVal.of_read (XRead.loadF tabOk (t := 114) rfl rfl (ad := ⟨bt, 0, none⟩) (k := 1) (L := C1) (v := .map (some bm)) (Sees.row (by simp [Fx.and])) (fun _ => rfl) (by rw [← hC1]; rfl) ?_)
      conv => whnf
      repeat (refine XSame.of ?_; conv => whnf)
      refine XUnit.ent (F' := ⟨fun w => (By w h d ∧ ∀ m ∈ dirsL d n, RowAt w (H m).a (enCs (ens (contentR d m) 8))) ∧ RowAt w hE.a (enCs (ens (contentR d n) 8)), [] ++ [(bm, Row.m (mapG ((theTree d H).kv (dirsL d n))) ((theTree d H).kv (dirsL d n)).length)] ++ [(bt, Row.c C1)]⟩) (Ent.of_le ⟨by simp [Fx.and], fun w hw => hw⟩) ?_
      refine XUnit.mapNew tabOk (t := 114) rfl rfl rfl rfl (r1 := []) (r2 := [(bt, Row.c C1)]) (l := (theTree d H).kv (dirsL d n)) rfl ((theTree d H).kv_key _) ((theTree d H).kv_no hnin) ?_
      have hkv : (theTree d H).kv (dirsL d n) ++ [(intV n, hE.v 8)] = (theTree d fun m => if m = n then hE else H m).kv (dirsL d (n + 1)) := by
        rw [hdn]
        unfold Tree.kv
        rw [List.map_append]
        congr 1
        · refine List.map_congr_left fun m hm => ?_
          have : m ≠ n := fun e => hnin (e ▸ hm)
          show _ = (intV m, Value.slice (if m = n then hE else H m).a 8 (if m = n then hE else H m).c)
          rw [if_neg this]
          rfl
        · show _ = [(intV n, Value.slice (if n = n then hE else H n).a 8 (if n = n then hE else H n).c)]
          rw [if_pos rfl]
      rw [show (Value.int .i64 (n : Int), hE.v 8) = (intV n, hE.v 8) from rfl, hkv]
      conv => whnf
      repeat (refine XSame.of ?_; conv => whnf)
      refine ⟨(n + 1, fun m => if m = n then hE else H m), ⟨⟨hn32, fun m => ?_, fun m hm => ?_⟩, by dsimp only; omega⟩, ?_, ?_, ?_⟩
      · dsimp only
        split
        · exact hEo
        · exact hH m
      · dsimp only at hm
        rw [hdn] at hm
        rcases List.mem_append.1 hm with h5 | h5
        · exact hall m h5
        · have : m = n := by simpa using h5
          rw [this]
          exact hpo
      · conv => whnf
        refine ⟨?_, rfl⟩
        repeat (first | exact FLe.nil | refine FLe.any ?_ | refine FLe.cons ?_ | refine FLe.eq (by rw [wrap_i64 (by omega)]; rfl) ?_)
      · conv => whnf
        exact trivial
      · rw [← hC1]
        refine Ent.of_le ⟨by simp, fun w hw => ⟨hw.1.1, fun m hm => ?_⟩⟩
        dsimp only at hm ⊢
        rw [hdn] at hm
        rcases List.mem_append.1 hm with h5 | h5
        · have : m ≠ n := fun e => hnin (e ▸ h5)
          rw [if_neg this]
          exact hw.1.2 m h5
        · have : m = n := by simpa using h5
          subst this
          rw [if_pos rfl]
          exact hw.2
  · have hn32 : n = 32 := by
      simp only [iLt_eq, decide_eq_false_iff_not] at hlt
      omega
    subst hn32
    have hP : PentsAll d := hall
    have ho : openE d = (theTree d H).res := by
      unfold openE
      rw [if_neg (by rw [h0]; simp), if_pos hP]
      exact res_congr d _ _
    conv => whnf
    repeat (refine XSame.of ?_; conv => whnf)
    refine XCall.ent (F' := ⟨TreeAt (theTree d H) (h.v d.length) bt bm, []⟩) (by
      refine Ent.trans (Ent.shareM (r1 := []) (r2 := [(bt, Row.c (treeC (h.v d.length) bm (rk d) 32))]) (b := bm) (l := (theTree d H).kv (dirsL d 32))) ?_
      refine Ent.trans Ent.share1 (Ent.imp fun w hw => ⟨hw.2, hw.1.2, hw.1.1.2⟩)) ?_
    refine XCall.val (tcheck_spec (theTree d H) (theTree_ok d hH) (theTree_name d H) (h.v d.length) bt bm) (fun w hw => hw) (fun v D hv => ?_)
    rw [ho]
    generalize (theTree d H).res = res at *
    subst hv
    conv => whnf
    repeat (refine XSame.of ?_; conv => whnf)
    by_cases hr : res = 0
    · refine ⟨_, Ent.refl _, ?_⟩
      unfold RelTr
      rw [if_pos hr]
      exact ⟨bt, bm, H, hH, rfl, rfl⟩
    · exact relTr_bad hr

end Go.Proofs.YtfeoedkmndkbjaaGreatDoor
namespace Go.Proofs.YtfeoedkmndkbjaaGreatDoor
open Go Go.Sx
set_option maxRecDepth 100000
set_option maxHeartbeats 4000000
set_option linter.unusedVariables false
set_option linter.unusedSimpArgs false

def sFst : Code → Code
  | .seq a _ => a
  | c => c
def sSnd : Code → Code
  | .seq _ b => b
  | c => c

theorem set_spec (d : List UInt8) (h : Hd) (hh : h.Ok d.length) (h0 : chk d = 0) (n : Nat) (hn : n < 32) (hk2 : rk d n = 2) (i : Nat) (hi : i < 8) (e : En) (he1 : e.1.length ≤ 14) (he2 : e.2 ≤ 1000000) :
    PureSpec Tryz.prog 72 [h.v d.length, .int .i64 (n : Int), .int .i64 (i : Int), .agg ⟨enC e⟩] (fun w => By w h d) (RelB (wr16 d n i (enB e))) := by
  obtain ⟨nm, nd⟩ := e
  dsimp only at he1 he2
  have hel := enB_len (e := (nm, nd)) he1
  have hE : enB (nm, nd) = bput (lay (List.replicate 16 0) 0 nm) 14 (nd % 256) := rfl
  have hll : (lay (List.replicate 16 (0 : UInt8)) 0 nm).length = 16 := by rw [lay_len (by simp; omega)]; simp
  rw [show enC (nm, nd) = [strV nm, intV nd] from rfl]
  have ho : IntKind.i64.wrap ((i : Int) * 16) = ((16 * i : Nat) : Int) := by
    rw [wrap_i64 (by omega)]
    omega
  obtain ⟨data, hE2⟩ : ∃ data, data = enB (nm, nd) := ⟨_, rfl⟩
  rw [← hE2] at hel hE ⊢
  obtain ⟨dd, hdd⟩ : ∃ dd, dd = wr16 d n i data := ⟨_, rfl⟩
  rw [← hdd]
  -- the rest of the code is kept a variable: the kernel runs away else
  obtain ⟨gd, hgd⟩ : ∃ gd, gd = Tryz.f72.body.getD .skip := ⟨_, rfl⟩
  obtain ⟨c4, hc4⟩ : ∃ c, c = sSnd (sSnd (sSnd (Tryz.f72.body.getD .skip))) := ⟨_, rfl⟩
  have hB : Tryz.f72.body = some (.seq (sFst (Tryz.f72.body.getD .skip)) (.seq (sFst (sSnd (Tryz.f72.body.getD .skip))) (.seq (sFst (sSnd (sSnd (Tryz.f72.body.getD .skip)))) c4))) := by rw [hc4]; rfl
  obtain ⟨c5, hc5⟩ : ∃ c, c = sSnd (sSnd (sSnd (sSnd (Tryz.f72.body.getD .skip)))) := ⟨_, rfl⟩
  have hB4 : c4 = .seq (sFst (sSnd (sSnd (sSnd (Tryz.f72.body.getD .skip))))) c5 := by rw [hc4, hc5]; rfl
  obtain ⟨c6, hc6⟩ : ∃ c, c = sSnd (sSnd (sSnd (sSnd (sSnd (Tryz.f72.body.getD .skip))))) := ⟨_, rfl⟩
  have hB5 : c5 = .seq (sFst (sSnd (sSnd (sSnd (sSnd (Tryz.f72.body.getD .skip)))))) c6 := by rw [hc5, hc6]; rfl
  clear hc4 hc5
  refine PureSpec.of_xc tabOk Tryz.func72 hB (by decide) (n := Tryz.f72.ntmps - 4) rfl rfl fun w0 av => ?_
  refine padK_mk ?_
  conv => whnf
  repeat (refine XSame.of ?_; conv => whnf)
  intro b7
  conv => whnf
  repeat (refine XSame.of ?_; conv => whnf)
  refine XVal.makeBytes tabOk (t := 23) rfl rfl rfl rfl rfl rfl 16 rfl rfl (by decide) (by decide) fun bb => ?_
  conv => whnf
  repeat (refine XSame.of ?_; conv => whnf)
  refine XVal.copyStr tabOk (t := 23) rfl rfl rfl rfl (r1 := []) (r2 := []) (b := bb) (k := 0) (l := List.replicate 16 0) (m := nm) (Z := []) rfl (by omega) (by simp; omega) ?_
  generalize lay (List.replicate 16 (0 : UInt8)) 0 nm = l1 at *
  conv => whnf
  repeat (refine XSame.of ?_; conv => whnf)
  rw [hB4]
  conv => whnf
  repeat (refine XSame.of ?_; conv => whnf)
  refine XVal.of_read (XRead.rowIx tabOk (t := 23) rfl rfl rfl rfl 14 rfl (by decide) ?_)
  conv => whnf
  repeat (refine XSame.of ?_; conv => whnf)
  refine XUnit.storeByte tabOk (t := 5) rfl rfl (r1 := []) (r2 := []) (l := l1) (Z := []) (nd % 256) rfl (wrap_u8 nd) (by omega) (by omega) ?_
  rw [← hE]
  conv => whnf
  repeat (refine XSame.of ?_; conv => whnf)
  rw [hB5]
  have hws := pwrite_spec d h hh h0 n hn hk2 i hi data ⟨some ⟨bb, 0, none⟩, 16⟩ (by rw [hel]; exact ⟨fun h => (by cases h), Nat.le_refl _⟩) hel (IntKind.i64.wrap ((i : Int) * 16)) ho
  rw [hel, ← hdd] at hws
  conv => whnf
  repeat (refine XSame.of ?_; conv => whnf)
  refine XCall.ent (F' := ⟨fun w => By w h d ∧ RowAt w (some ⟨bb, 0, none⟩) (data.map byteV), []⟩) Ent.factB ?_
  refine XCall.pure hws (fun w hw => hw) (fun v D hv => ?_)
  obtain ⟨k, rfl, hk, rfl⟩ := hv
  conv => whnf
  repeat (refine XSame.of ?_; conv => whnf)
  rw [hc6]
  conv => whnf
  repeat (refine XSame.of ?_; conv => whnf)
  exact ⟨_, Ent.of_le ⟨by simp [Fx.and], fun w hw => hw.2⟩, k, rfl, hk, rfl⟩

end Go.Proofs.YtfeoedkmndkbjaaGreatDoor
namespace Go.Proofs.YtfeoedkmndkbjaaGreatDoor
open Go Go.Sx
set_option maxRecDepth 100000
set_option linter.unusedVariables false
set_option linter.unusedSimpArgs false

def mark (c l : List Nat) : List Nat := l.foldl (fun c x => c.set x 1) c

theorem mark_len : ∀ (l c : List Nat), (mark c l).length = c.length
  | [], c => rfl
  | x :: l, c => by
    show (mark (c.set x 1) l).length = _
    rw [mark_len l, List.length_set]

theorem mark_append (c l m : List Nat) : mark c (l ++ m) = mark (mark c l) m := by
  unfold mark
  rw [List.foldl_append]

theorem set_getD {c : List Nat} {x : Nat} (hx : x < c.length) (v y : Nat) : (c.set x v).getD y 0 = if y = x then v else c.getD y 0 := by
  rw [List.getD_eq_getElem?_getD, List.getElem?_set]
  by_cases h : x = y
  · subst h
    simp [hx]
  · rw [if_neg h, if_neg (fun e => h e.symm), List.getD_eq_getElem?_getD]

theorem mark_get : ∀ (l c : List Nat), (∀ x ∈ l, x < c.length) → ∀ y, (mark c l).getD y 0 = if y ∈ l then 1 else c.getD y 0
  | [], c, _, y => by simp [mark]
  | x :: l, c, h, y => by
    show (mark (c.set x 1) l).getD y 0 = _
    rw [mark_get l (c.set x 1) (fun z hz => by rw [List.length_set]; exact h z (List.mem_cons_of_mem _ hz)), set_getD (h x (List.mem_cons_self ..))]
    by_cases h1 : y ∈ l
    · rw [if_pos h1, if_pos (List.mem_cons_of_mem _ h1)]
    · rw [if_neg h1]
      by_cases h2 : y = x
      · rw [if_pos h2, if_pos (by rw [h2]; exact List.mem_cons_self ..)]
      · rw [if_neg h2, if_neg]
        rintro h3
        rcases List.mem_cons.1 h3 with h4 | h4
        · exact h2 h4
        · exact h1 h4

theorem preo_tail (ch : Nat → List Nat) (f n : Nat) : (preo ch (f + 1) n).tail = (ch n).flatMap (preo ch f) := rfl

theorem preo_next {ch : Nat → List Nat} : ∀ {f n : Nat}, Low ch f n → preo ch (f + 1) n = preo ch f n
  | 0, _, h => h.elim
  | f + 1, n, h => by
    show n :: (ch n).flatMap (preo ch (f + 1)) = n :: (ch n).flatMap (preo ch f)
    congr 1
    unfold List.flatMap
    congr 1
    exact List.map_congr_left fun c hc => preo_next (h c hc)

theorem preo_leaf {ch : Nat → List Nat} {f n : Nat} (h : ch n = []) : preo ch (f + 1) n = [n] := by
  unfold preo
  rw [h]
  rfl

section
variable {d : List UInt8} (h0 : chk d = 0)

noncomputable def T0 (d : List UInt8) : Tree := theTree d fun _ => hd0

theorem T0_ok (d : List UInt8) : (T0 d).Ok := theTree_ok d fun _ => hd0_ok

theorem mem_dl {n : Nat} : n ∈ (T0 d).dl ↔ n < 32 ∧ rk d n = 2 := mem_dirsL

theorem T0_ch {n : Nat} (h : n ∈ (T0 d).dl) : (T0 d).ch n = nodes (ens (contentR d n) 8) := (T0 d).ch_es h

theorem V_pre (T : Tree) : ∀ (f n : Nat) (p : List UInt8) (m : Nat), (∃ q, (q, m) ∈ T.V f n p) ↔ m ∈ preo T.ch f n
  | 0, n, p, m => by simp [Tree.V, preo]
  | f + 1, n, p, m => by
    have ih := V_pre T f
    constructor
    · rintro ⟨q, hq⟩
      rcases List.mem_cons.1 hq with hq | hq
      · cases hq
        unfold preo
        exact List.mem_cons_self ..
      · obtain ⟨e, he, hq⟩ := List.mem_flatMap.1 hq
        split at hq
        · cases hq
        · rename_i hne
          unfold preo
          refine List.mem_cons_of_mem _ (List.mem_flatMap.2 ⟨e.2, ?_, (ih e.2 _ m).1 ⟨q, hq⟩⟩)
          exact List.mem_map.2 ⟨e, List.mem_filter.2 ⟨he, by simpa using hne⟩, rfl⟩
    · intro hm
      unfold preo at hm
      rcases List.mem_cons.1 hm with hm | hm
      · subst hm
        exact ⟨p, List.mem_cons_self ..⟩
      · obtain ⟨x, hx, hm⟩ := List.mem_flatMap.1 hm
        obtain ⟨e, he, rfl⟩ := List.mem_map.1 hx
        obtain ⟨he1, he2⟩ := List.mem_filter.1 he
        have he2 : e.1 ≠ [] := by simpa using he2
        obtain ⟨q, hq⟩ := (ih e.2 (p ++ [47] ++ e.1) m).2 hm
        exact ⟨q, List.mem_cons_of_mem _ (List.mem_flatMap.2 ⟨e, he1, by rw [if_neg he2]; exact hq⟩)⟩

theorem nodes_cons (e : En) (l : List En) : nodes (e :: l) = if e.1 = [] then nodes l else e.2 :: nodes l := by
  unfold nodes
  by_cases h : e.1 = []
  · rw [if_pos h, List.filter_cons_of_neg (by simp [h])]
  · rw [if_neg h, List.filter_cons_of_pos (by simp [h])]
    rfl

include h0

theorem gete_iff {m : Nat} : gete d (m : Int) = 0 ↔ m < 32 ∧ rk d m ≠ 0 := by
  unfold gete
  rw [if_neg (show ¬ chk d ≠ 0 by rw [h0]; simp)]
  by_cases h1 : (m : Int) < 0 ∨ 32 ≤ (m : Int)
  · rw [if_pos h1]
    constructor
    · intro h; cases h
    · rintro ⟨h2, _⟩; omega
  · rw [if_neg h1]
    by_cases h2 : rk d (m : Int).toNat = 0
    · rw [if_pos h2]
      constructor
      · intro h; cases h
      · rintro ⟨_, h3⟩; exact absurd h2 h3
    · rw [if_neg h2]
      exact ⟨fun _ => ⟨by omega, h2⟩, fun _ => rfl⟩

theorem reach_fwd (hok : ∀ n ∈ (T0 d).dl, entsOk (contentR d n) = true) (hv : ∀ n, ∀ x ∈ (T0 d).ch n, x < 32 ∧ rk d x ≠ 0) : ∀ (f n : Nat) (c : List Nat), n ∈ (T0 d).dl → Low (T0 d).ch f n → c.length = 32 →
    (∀ x ∈ (preo (T0 d).ch f n).tail, c.getD x 0 = 0) → (preo (T0 d).ch f n).Nodup → reachR d f n c = some (mark c (preo (T0 d).ch f n).tail) := by
  intro f
  induction f with
  | zero => exact fun n c _ h _ _ _ => h.elim
  | succ f ih =>
    intro n c hn hlow hc hun hnd
    have hE : entsR (contentR d n) = ens (contentR d n) 8 := by
      unfold entsR
      rw [hok n hn]
      rfl
    have hch := T0_ch hn
    rw [preo_tail] at hun ⊢
    have hnd2 := (List.nodup_cons.1 hnd).2
    unfold reachR
    rw [if_pos (hok n hn), hE]
    rw [hch] at hun hnd2 ⊢
    have hvn : ∀ x ∈ nodes (ens (contentR d n) 8), x < 32 ∧ rk d x ≠ 0 := fun x hx => hv n x (by rw [hch]; exact hx)
    have hln : ∀ x ∈ nodes (ens (contentR d n) 8), Low (T0 d).ch f x := fun x hx => hlow x (by rw [hch]; exact hx)
    clear hE hch hlow hnd
    generalize ens (contentR d n) 8 = l at *
    induction l generalizing c with
    | nil => rfl
    | cons e l ihl =>
      unfold reachE
      rw [nodes_cons] at hun hnd2 hvn hln ⊢
      by_cases he : e.1 = []
      · rw [if_pos he] at hun hnd2 hvn hln ⊢
        rw [if_pos he]
        exact ihl c hc hun hnd2 hvn hln
      · rw [if_neg he] at hun hnd2 hvn hln ⊢
        rw [if_neg he]
        obtain ⟨hx1, hx2⟩ := hvn e.2 (List.mem_cons_self ..)
        have hlx := hln e.2 (List.mem_cons_self ..)
        obtain ⟨g, rfl⟩ : ∃ g, f = g + 1 := by
          cases f with
          | zero => exact hlx.elim
          | succ g => exact ⟨g, rfl⟩
        rw [List.flatMap_cons] at hun hnd2 ⊢
        have hpx : preo (T0 d).ch (g + 1) e.2 = e.2 :: (preo (T0 d).ch (g + 1) e.2).tail := rfl
        have hall : ∀ x ∈ preo (T0 d).ch (g + 1) e.2, x < 32 := fun x hx => by
          rcases pre_up (g + 1) hx with h5 | ⟨y, _, h5⟩
          · rw [h5]; exact hx1
          · exact (hv y x h5).1
        have hxz : c.getD e.2 0 = 0 := hun e.2 (by rw [hpx]; simp)
        obtain ⟨hndx, hndr, hdis⟩ := List.nodup_append.1 hnd2
        have hge : ¬ (gete d e.2 ≠ 0 ∨ 0 < c.getD e.2 0) := by
          rintro (h5 | h5)
          · exact h5 ((gete_iff h0).2 ⟨hx1, hx2⟩)
          · omega
        rw [if_neg hge, hxz]
        have hgo : ∀ c', c' = mark c (preo (T0 d).ch (g + 1) e.2) → reachE d (reachR d (g + 1)) l c' = some (mark c (preo (T0 d).ch (g + 1) e.2 ++ (nodes l).flatMap (preo (T0 d).ch (g + 1)))) := by
          rintro c' rfl
          rw [mark_append]
          refine ihl _ (by rw [mark_len, hc]) (fun x hx => ?_) hndr (fun x hx => hvn x (List.mem_cons_of_mem _ hx)) (fun x hx => hln x (List.mem_cons_of_mem _ hx))
          rw [mark_get _ _ (fun x hx => by rw [hc]; exact hall x hx), if_neg fun h5 => hdis x h5 x hx rfl]
          exact hun x (List.mem_append_right _ hx)
        by_cases hk : rk d e.2 = 2
        · rw [if_pos hk]
          have hrec := ih e.2 (c.set e.2 1) (mem_dl.2 ⟨hx1, hk⟩) hlx (by rw [List.length_set, hc]) (fun x hx => by
            rw [set_getD (by omega)]
            have hne : x ≠ e.2 := fun h5 => by
              rw [hpx] at hndx
              exact (List.nodup_cons.1 hndx).1 (h5 ▸ hx)
            rw [if_neg hne]
            exact hun x (List.mem_append_left _ (List.mem_of_mem_tail hx))) hndx
          rw [hrec]
          refine hgo _ ?_
          conv => rhs; rw [hpx]
          rfl
        · rw [if_neg hk]
          refine hgo _ ?_
          have hno : (T0 d).ch e.2 = [] := (T0 d).ch_no fun h5 => hk (mem_dl.1 h5).2
          rw [preo_leaf hno]
          rfl

/-- What a successful walk shows. -/
structure Shown (d : List UInt8) (F : List Nat) (c c' : List Nat) : Prop where
  nd : F.Nodup
  un : ∀ x ∈ F, c.getD x 0 = 0
  val : ∀ x ∈ F, x < 32 ∧ rk d x ≠ 0
  ok : ∀ x ∈ F, x ∈ (T0 d).dl → entsOk (contentR d x) = true
  res : c' = mark c F

omit h0 in
theorem Shown.append {F G : List Nat} {c c1 c2 : List Nat} (hc : c.length = 32) (h : Shown d F c c1) (k : Shown d G c1 c2) : Shown d (F ++ G) c c2 := by
  have hget : ∀ x, c1.getD x 0 = if x ∈ F then 1 else c.getD x 0 := fun x => by
    rw [h.res, mark_get _ _ fun y hy => by rw [hc]; exact (h.val y hy).1]
  have hdis : ∀ x ∈ G, x ∉ F := fun x hx hf => by
    have := k.un x hx
    rw [hget, if_pos hf] at this
    cases this
  refine ⟨List.nodup_append.2 ⟨h.nd, k.nd, fun a ha b hb e => hdis b hb (e ▸ ha)⟩, fun x hx => ?_, fun x hx => ?_, fun x hx => ?_, by rw [k.res, h.res, mark_append]⟩
  · rcases List.mem_append.1 hx with h5 | h5
    · exact h.un x h5
    · have := k.un x h5
      rwa [hget, if_neg (hdis x h5)] at this
  · exact (List.mem_append.1 hx).elim (h.val x) (k.val x)
  · exact (List.mem_append.1 hx).elim (h.ok x) (k.ok x)

theorem reach_bwd : ∀ (f n : Nat) (c c' : List Nat), n ∈ (T0 d).dl → c.length = 32 → reachR d f n c = some c' →
    entsOk (contentR d n) = true ∧ Low (T0 d).ch (f + 1) n ∧ Shown d (preo (T0 d).ch (f + 1) n).tail c c' := by
  intro f
  induction f with
  | zero =>
    intro n c c' _ _ h
    cases h
  | succ f ih =>
    intro n c c' hn hc h
    unfold reachR at h
    split at h
    rotate_left
    · cases h
    rename_i hok
    refine ⟨hok, ?_⟩
    have hE : entsR (contentR d n) = ens (contentR d n) 8 := by
      unfold entsR
      rw [hok]
      rfl
    rw [hE] at h
    have hch := T0_ch hn
    rw [preo_tail, hch]
    have key : ∀ (l : List En) (c c' : List Nat), c.length = 32 → reachE d (reachR d f) l c = some c' → (∀ x ∈ nodes l, Low (T0 d).ch (f + 1) x) ∧ Shown d ((nodes l).flatMap (preo (T0 d).ch (f + 1))) c c' := by
      intro l
      induction l with
      | nil =>
        intro c c' hc h
        unfold reachE at h
        cases h
        exact ⟨fun x hx => (by cases hx), ⟨List.nodup_nil, fun x hx => (by cases hx), fun x hx => (by cases hx), fun x hx => (by cases hx), rfl⟩⟩
      | cons e l ihl =>
        intro c c' hc h
        unfold reachE at h
        rw [nodes_cons]
        by_cases he : e.1 = []
        · rw [if_pos he] at h ⊢
          exact ihl c c' hc h
        rw [if_neg he] at h ⊢
        by_cases hge : gete d e.2 ≠ 0 ∨ 0 < c.getD e.2 0
        · rw [if_pos hge] at h
          cases h
        rw [if_neg hge] at h
        have hg0 : gete d (e.2 : Int) = 0 := Classical.byContradiction fun h5 => hge (.inl h5)
        have hz : c.getD e.2 0 = 0 := by
          have : ¬ 0 < c.getD e.2 0 := fun h5 => hge (.inr h5)
          omega
        obtain ⟨hx1, hx2⟩ := (gete_iff h0).1 hg0
        rw [hz] at h
        rw [List.flatMap_cons]
        have hone : (entsOk (contentR d e.2) = true ∨ e.2 ∉ (T0 d).dl) → Shown d [e.2] c (c.set e.2 1) := fun ho => ⟨by simp, fun x hx => by
          have : x = e.2 := by simpa using hx
          rw [this]; exact hz, fun x hx => by
          have : x = e.2 := by simpa using hx
          rw [this]; exact ⟨hx1, hx2⟩, fun x hx hd => by
          have : x = e.2 := by simpa using hx
          rw [this] at hd ⊢
          exact ho.resolve_right fun h5 => h5 hd, rfl⟩
        have hpx : preo (T0 d).ch (f + 1) e.2 = [e.2] ++ (preo (T0 d).ch (f + 1) e.2).tail := rfl
        by_cases hk : rk d e.2 = 2
        · rw [if_pos hk] at h
          split at h
          · cases h
          · rename_i c1 hc1
            obtain ⟨g1, g2, g3⟩ := ih e.2 _ c1 (mem_dl.2 ⟨hx1, hk⟩) (by rw [List.length_set, hc]) hc1
            have hl1 : c1.length = 32 := by rw [g3.res, mark_len, List.length_set, hc]
            obtain ⟨k1, k2⟩ := ihl c1 c' hl1 h
            refine ⟨fun x hx => ?_, ?_⟩
            · rcases List.mem_cons.1 hx with h5 | h5
              · rw [h5]; exact g2
              · exact k1 x h5
            · rw [hpx]
              exact ((hone (.inl g1)).append hc g3).append hc k2
        · rw [if_neg hk] at h
          have hnd : e.2 ∉ (T0 d).dl := fun h5 => hk (mem_dl.1 h5).2
          have hno : (T0 d).ch e.2 = [] := (T0 d).ch_no hnd
          obtain ⟨k1, k2⟩ := ihl _ c' (by rw [List.length_set, hc]) h
          refine ⟨fun x hx => ?_, ?_⟩
          · rcases List.mem_cons.1 hx with h5 | h5
            · rw [h5]
              intro y hy
              rw [hno] at hy
              cases hy
            · exact k1 x h5
          · rw [preo_leaf hno]
            exact (hone (.inr hnd)).append hc k2
    obtain ⟨k1, k2⟩ := key _ c c' hc h
    exact ⟨fun x hx => k1 x (by rw [← hch]; exact hx), k2⟩

omit h0 in
theorem pents_of_ents {c : List UInt8} : entsOk c = true ↔ pentsOk c = true ∧ ∀ x ∈ nodes (ens c 8), x ≠ 0 := by
  rw [entsOk_iff]
  unfold pentsOk
  rw [decide_eq_true_iff]
  constructor
  · intro h
    refine ⟨fun i hi => ((enOk_iff c i).1 (h i hi)).1, fun x hx => ?_⟩
    obtain ⟨e, he, rfl⟩ := List.mem_map.1 hx
    obtain ⟨he1, he2⟩ := List.mem_filter.1 he
    obtain ⟨i, hi, rfl⟩ := List.mem_map.1 he1
    have he2 : (enR c i).1 ≠ [] := by simpa using he2
    exact ((enOk_iff c i).1 (h i (List.mem_range.1 hi))).2.resolve_left he2
  · rintro ⟨h1, h2⟩ i hi
    refine (enOk_iff c i).2 ⟨h1 i hi, ?_⟩
    by_cases he : (enR c i).1 = []
    · exact .inl he
    · exact .inr (h2 _ (List.mem_map.2 ⟨enR c i, List.mem_filter.2 ⟨List.mem_map.2 ⟨i, List.mem_range.2 hi, rfl⟩, by simpa using he⟩, rfl⟩))

theorem root_in : 0 ∈ (T0 d).dl := by
  obtain ⟨hd, hok⟩ := chk_zero h0
  exact mem_dl.2 ⟨by decide, (root_dir hd hok).1⟩

omit h0 in
theorem count0_get (x : Nat) : count0.getD x 0 = if x = 0 then 1 else 0 := by
  unfold count0
  rw [set_getD (by simp)]
  by_cases h : x = 0
  · rw [if_pos h, if_pos h]
  · rw [if_neg h, if_neg h, List.getD_eq_getElem?_getD, List.getElem?_replicate]
    split <;> rfl

theorem good_iff : (PentsAll d ∧ (T0 d).Good) ↔ ∃ c, reachR d 33 0 count0 = some c ∧ Reached d c := by
  have hc0 : count0.length = 32 := by simp [count0]
  have hroot := root_in h0
  constructor
  · rintro ⟨hP, hG⟩
    have hu := hG.fine.uniq
    have hlow := low_root hu
    have hnd := pre_nodup hu 33 (Chain.root (ch := (T0 d).ch))
    have hv : ∀ n, ∀ x ∈ (T0 d).ch n, x < 32 ∧ rk d x ≠ 0 := fun n x hx => by
      by_cases hn : n ∈ (T0 d).dl
      · have := hG.fine.ok n hn x hx
        exact ⟨this.2.1, this.2.2⟩
      · rw [(T0 d).ch_no hn] at hx
        cases hx
    have hok : ∀ n ∈ (T0 d).dl, entsOk (contentR d n) = true := fun n hn => pents_of_ents.2 ⟨hP n hn, fun x hx => (hG.fine.ok n hn x (by rw [T0_ch hn]; exact hx)).1⟩
    have hpr : preo (T0 d).ch 33 0 = 0 :: (preo (T0 d).ch 33 0).tail := rfl
    have h0t : ∀ x ∈ (preo (T0 d).ch 33 0).tail, x ≠ 0 := fun x hx e => by
      rw [hpr] at hnd
      exact (List.nodup_cons.1 hnd).1 (e ▸ hx)
    have hx32 : ∀ x ∈ (preo (T0 d).ch 33 0).tail, x < 32 ∧ rk d x ≠ 0 := fun x hx => by
      rcases pre_up 33 (List.mem_of_mem_tail hx) with h5 | ⟨y, _, h5⟩
      · exact absurd h5 (h0t x hx)
      · exact hv y x h5
    have hr := reach_fwd h0 hok hv 33 0 count0 hroot hlow hc0 (fun x hx => by rw [count0_get, if_neg (h0t x hx)]) hnd
    refine ⟨_, hr, fun n hn => ?_⟩
    rw [mark_get _ _ (fun x hx => by rw [hc0]; exact (hx32 x hx).1), count0_get, gete_iff h0]
    constructor
    · rintro ⟨_, hk⟩
      obtain ⟨p, hp⟩ := hG.all n hn hk
      have hm := (V_pre (T0 d) 33 0 [] n).1 ⟨p, hp⟩
      rw [hpr] at hm
      rcases List.mem_cons.1 hm with h5 | h5
      · split
        all_goals first | rfl | rw [if_pos h5]
      · rw [if_pos h5]
    · intro h
      refine ⟨hn, ?_⟩
      split at h
      · rename_i h5
        exact (hx32 n h5).2
      · split at h
        · rename_i h5
          have := (mem_dl.1 hroot).2
          rw [h5]
          omega
        · cases h
  · rintro ⟨c, hr, hR⟩
    obtain ⟨g1, g2, g3⟩ := reach_bwd h0 33 0 count0 c hroot hc0 hr
    have hpr : preo (T0 d).ch 34 0 = 0 :: (preo (T0 d).ch 34 0).tail := rfl
    have hget : ∀ x, c.getD x 0 = if x ∈ (preo (T0 d).ch 34 0).tail then 1 else if x = 0 then 1 else 0 := fun x => by
      rw [g3.res, mark_get _ _ (fun x hx => by rw [hc0]; exact (g3.val x hx).1), count0_get]
    have h0t : 0 ∉ (preo (T0 d).ch 34 0).tail := fun h => by
      have := g3.un 0 h
      rw [count0_get, if_pos rfl] at this
      cases this
    have hnd : (preo (T0 d).ch 34 0).Nodup := by
      rw [hpr]
      exact List.nodup_cons.2 ⟨h0t, g3.nd⟩
    have hall : ∀ n, n < 32 → rk d n ≠ 0 → n ∈ preo (T0 d).ch 34 0 := fun n hn hk => by
      have h5 := (hR n hn).1 ((gete_iff h0).2 ⟨hn, hk⟩)
      rw [hget] at h5
      rw [hpr]
      split at h5
      · rename_i h6
        exact List.mem_cons_of_mem _ h6
      · split at h5
        · rename_i h6
          rw [h6]
          exact List.mem_cons_self ..
        · cases h5
    have hdl : ∀ n ∈ (T0 d).dl, n ∈ preo (T0 d).ch 34 0 ∧ entsOk (contentR d n) = true := fun n hn => by
      obtain ⟨hn1, hn2⟩ := mem_dl.1 hn
      have hm := hall n hn1 (by omega)
      refine ⟨hm, ?_⟩
      rw [hpr] at hm
      rcases List.mem_cons.1 hm with h5 | h5
      · rw [h5]; exact g1
      · exact g3.ok n h5 hn
    have hperm := pre_perm 34 g2
    have hnd2 : (0 :: (preo (T0 d).ch 34 0).flatMap (T0 d).ch).Nodup := hperm.nodup_iff.1 hnd
    have hnd3 : List.Pairwise _ ((preo (T0 d).ch 34 0).flatMap (T0 d).ch) := (List.nodup_cons.1 hnd2).2
    rw [List.pairwise_flatMap] at hnd3
    obtain ⟨hp1, hp2⟩ := hnd3
    have hfine : (T0 d).Fine := by
      refine ⟨fun n hn x hx => ?_, fun n hn => hp1 n (hdl n hn).1, fun n hn m hm x h1 h2 => ?_⟩
      · have hxp : x ∈ preo (T0 d).ch 34 0 := hperm.mem_iff.2 (List.mem_cons_of_mem _ (List.mem_flatMap.2 ⟨n, (hdl n hn).1, hx⟩))
        have hx0 : x ≠ 0 := (pents_of_ents.1 (hdl n hn).2).2 x (by rw [← T0_ch hn]; exact hx)
        rw [hpr] at hxp
        rcases List.mem_cons.1 hxp with h5 | h5
        · exact absurd h5 hx0
        · have := g3.val x h5
          exact ⟨hx0, this.1, this.2⟩
      · by_cases hnm : n = m
        · exact hnm
        exfalso
        obtain ⟨a, ha, ha2⟩ := List.getElem_of_mem (hdl n hn).1
        obtain ⟨b, hb, hb2⟩ := List.getElem_of_mem (hdl m hm).1
        rw [List.pairwise_iff_getElem] at hp2
        rcases Nat.lt_trichotomy a b with h | h | h
        · exact hp2 a b ha hb h x (by rw [ha2]; exact h1) x (by rw [hb2]; exact h2) rfl
        · subst h
          exact hnm (ha2.symm.trans hb2)
        · exact hp2 b a hb ha h x (by rw [hb2]; exact h2) x (by rw [ha2]; exact h1) rfl
    refine ⟨fun n hn => (pents_of_ents.1 (hdl n hn).2).1, hfine, fun n hn hk => ?_⟩
    refine (V_pre (T0 d) 33 0 [] n).2 ?_
    rw [← preo_next (low_root hfine.uniq)]
    exact hall n hn hk
end

theorem openE_eq (d : List UInt8) : openE d = chk38 d := by
  unfold openE chk38
  by_cases h0 : chk d = 0
  · have hne : ¬ chk d ≠ 0 := by rw [h0]; simp
    rw [if_neg hne, if_neg hne]
    have hg := good_iff h0
    by_cases h : ∃ c, reachR d 33 0 count0 = some c ∧ Reached d c
    · obtain ⟨hP, hG⟩ := hg.2 h
      obtain ⟨c, hc, hR⟩ := h
      rw [if_pos hP, hc]
      dsimp only
      rw [if_pos hR]
      unfold Tree.res
      exact if_pos hG
    · refine Eq.trans (b := 4) ?_ ?_
      · split
        · rename_i hP
          unfold Tree.res
          exact if_neg fun hG => h (hg.1 ⟨hP, hG⟩)
        · rfl
      · split
        · rfl
        · rename_i c hc
          exact (if_neg fun hR => h ⟨c, hc, hR⟩).symm
  · rw [if_pos h0, if_pos h0]

end Go.Proofs.YtfeoedkmndkbjaaGreatDoor
namespace Go.Proofs.YtfeoedkmndkbjaaGreatDoor
open Go Go.Sx
set_option maxRecDepth 100000
set_option linter.unusedVariables false
set_option linter.unusedSimpArgs false

theorem mem_part {d : List UInt8} {n x : Nat} : x ∈ part d n 12 ↔ x ≠ 0 ∧ ∃ i, i < 12 ∧ rb d n i = x := by
  unfold part
  rw [List.mem_filter, List.mem_map]
  constructor
  · rintro ⟨⟨i, hi, rfl⟩, h0⟩
    exact ⟨by simpa using h0, i, List.mem_range.1 hi, rfl⟩
  · rintro ⟨h0, i, hi, rfl⟩
    exact ⟨⟨i, List.mem_range.2 hi, rfl⟩, by simpa using h0⟩

theorem used_flat (d : List UInt8) : ∀ N, used d N = (List.range N).flatMap fun n => part d n 12
  | 0 => rfl
  | N + 1 => by
    show used d N ++ part d N 12 = _
    rw [used_flat d N, List.range_succ, List.flatMap_append]
    simp

theorem upTo_flat (d : List UInt8) : upTo d 32 0 = List.range 18 ++ (List.range 32).flatMap fun n => part d n 12 := by
  unfold upTo
  rw [← used_flat]
  simp [part]

theorem pw_ne {l : List Nat} {f : Nat → List Nat} (h : l.Pairwise fun a b => ∀ x ∈ f a, ∀ y ∈ f b, x ≠ y) {n m : Nat} (hn : n ∈ l) (hm : m ∈ l) (hne : n ≠ m) {x : Nat} (h1 : x ∈ f n) (h2 : x ∈ f m) : False := by
  rw [List.pairwise_iff_getElem] at h
  obtain ⟨a, ha, ha2⟩ := List.getElem_of_mem hn
  obtain ⟨b, hb, hb2⟩ := List.getElem_of_mem hm
  rcases Nat.lt_trichotomy a b with h5 | h5 | h5
  · exact h a b ha hb h5 x (by rw [ha2]; exact h1) x (by rw [hb2]; exact h2) rfl
  · subst h5
    exact hne (ha2.symm.trans hb2)
  · exact h b a hb ha h5 x (by rw [hb2]; exact h2) x (by rw [ha2]; exact h1) rfl

section
variable {d : List UInt8}

theorem ok_parts (hok : Ok37 d) : (∀ n, n < 32 → (part d n 12).Nodup) ∧ ∀ n m, n < 32 → m < 32 → n ≠ m → ∀ x, x ∈ part d n 12 → x ∉ part d m 12 := by
  have h := hok.nodup
  rw [upTo_flat, List.nodup_append] at h
  have h2 : List.Pairwise _ ((List.range 32).flatMap fun n => part d n 12) := h.2.1
  rw [List.pairwise_flatMap] at h2
  exact ⟨fun n hn => h2.1 n (List.mem_range.2 hn), fun n m hn hm hne x h3 h4 => pw_ne h2.2 (List.mem_range.2 hn) (List.mem_range.2 hm) hne h3 h4⟩

theorem part_rng (hok : Ok37 d) {n x : Nat} (hn : n < 32) (hx : x ∈ part d n 12) : 18 ≤ x ∧ x < 96 := by
  obtain ⟨h0, i, hi, rfl⟩ := mem_part.1 hx
  have := form_blocks (hok.form n hn) i hi h0
  exact ⟨this.1, this.2.1⟩

theorem mem_upTo {j : Nat} : j ∈ upTo d 32 0 ↔ j < 18 ∨ ∃ n, n < 32 ∧ j ∈ part d n 12 := by
  rw [upTo_flat, List.mem_append, List.mem_range, List.mem_flatMap]
  simp only [List.mem_range]

theorem ok_bit (hok : Ok37 d) (j : Nat) : getB (bmp d) j = true ↔ j < 18 ∨ ∃ n, n < 32 ∧ j ∈ part d n 12 := by
  rw [← hok.bits, getB_want, decide_eq_true_iff, mem_upTo]
  intro i hi
  rcases mem_upTo.1 hi with h5 | ⟨n, hn, h5⟩
  · omega
  · exact (part_rng hok hn h5).2

theorem ok_of (hd : d.length = 12288) (h1 : cut d 0 4 = [82, 70, 83, 49]) (h2 : allZ (cut d 4 124) = true) (h3 : allZ (cut d 1676 116) = true) (h4 : ∀ n, n < 32 → formB d n = true)
    (h5 : ∀ n, n < 32 → (part d n 12).Nodup) (h6 : ∀ n m, n < 32 → m < 32 → n ≠ m → ∀ x, x ∈ part d n 12 → x ∉ part d m 12) (h7 : ∀ j, j < 96 → (getB (bmp d) j = true ↔ j < 18 ∨ ∃ n, n < 32 ∧ j ∈ part d n 12)) : Ok37 d := by
  have hr : ∀ n x, n < 32 → x ∈ part d n 12 → 18 ≤ x ∧ x < 96 := fun n x hn hx => by
    obtain ⟨h0, i, hi, rfl⟩ := mem_part.1 hx
    have := form_blocks (h4 n hn) i hi h0
    exact ⟨this.1, this.2.1⟩
  have hup : ∀ i ∈ upTo d 32 0, i < 96 := fun i hi => by
    rcases mem_upTo.1 hi with h5 | ⟨n, hn, h5⟩
    · omega
    · exact (hr n i hn h5).2
  refine ⟨h1, h2, h3, h4, ?_, ?_⟩
  · rw [upTo_flat, List.nodup_append]
    refine ⟨List.nodup_range, ?_, fun a ha b hb e => ?_⟩
    · show List.Pairwise _ _
      rw [List.pairwise_flatMap]
      refine ⟨fun n hn => h5 n (List.mem_range.1 hn), ?_⟩
      have hnr : List.Pairwise _ (List.range 32) := List.nodup_range
      refine hnr.imp_of_mem fun {a b} ha hb hne x hx y hy e => ?_
      subst e
      exact h6 a b (List.mem_range.1 ha) (List.mem_range.1 hb) hne x hx hy
    · subst e
      obtain ⟨n, hn, hb⟩ := List.mem_flatMap.1 hb
      have := (hr n a (List.mem_range.1 hn) hb).1
      have := List.mem_range.1 ha
      omega
  · refine getB_ext (by rw [wantB_len, bmp_len hd]) fun j => ?_
    rw [getB_want hup, Bool.eq_iff_iff, decide_eq_true_iff, mem_upTo]
    by_cases hj : j < 96
    · exact (h7 j hj).symm
    · constructor
      · rintro (h | ⟨n, hn, h⟩)
        · omega
        · have := (hr n j hn h).2
          omega
      · intro h
        unfold getB at h
        rw [Bool.and_eq_true, decide_eq_true_iff, bmp_len hd] at h
        omega
end

theorem cut_same {d e : List UInt8} {a k : Nat} (hd : a + k ≤ d.length) (he : a + k ≤ e.length) (h : ∀ m, a ≤ m → m < a + k → byt e m = byt d m) : cut e a k = cut d a k := by
  refine byt_ext (by rw [cut_len hd, cut_len he]) fun i hi => ?_
  rw [cut_len he] at hi
  rw [byt_cut he hi, byt_cut hd hi, h (a + i) (by omega) (by omega)]

/-- The bytes of a slot are the same. -/
def SlotSame (d e : List UInt8) (n : Nat) : Prop := ∀ r, r < 16 → byt e (1792 + 16 * n + r) = byt d (1792 + 16 * n + r)

theorem slot_all {d e : List UInt8} {n : Nat} (h : SlotSame d e n) : rk e n = rk d n ∧ rs e n = rs d n ∧ (∀ i, i < 12 → rb e n i = rb d n i) ∧ rp e n = rp d n := by
  refine ⟨h 0 (by decide), ?_, fun i hi => h (3 + i) (by omega), h 15 (by decide)⟩
  unfold rs
  rw [h 1 (by decide), h 2 (by decide)]

theorem slot_part {d e : List UInt8} {n : Nat} (h : SlotSame d e n) : part e n 12 = part d n 12 := by
  unfold part
  congr 1
  exact List.map_congr_left fun i hi => (slot_all h).2.2.1 i (List.mem_range.1 hi)

theorem slot_form {d e : List UInt8} {n : Nat} (h : SlotSame d e n) (hd : d.length = 12288) (he : e.length = 12288) (hf : formB d n = true) (hb : ∀ x ∈ part d n 12, ∀ m, 128 * x ≤ m → m < 128 * x + 128 → byt e m = byt d m) : formB e n = true := by
  obtain ⟨h1, h2, h3, h4⟩ := slot_all h
  unfold formB at hf ⊢
  rw [h4, h1, h2]
  have hz : inoZ (rk d n) (rs d n) (rb e n) = inoZ (rk d n) (rs d n) (rb d n) := by
    rw [Bool.eq_iff_iff, inoZ_iff, inoZ_iff]
    constructor
    · rintro ⟨a, b, c⟩
      exact ⟨a, b, fun i hi => by rw [← h3 i hi]; exact c i hi⟩
    · rintro ⟨a, b, c⟩
      exact ⟨a, b, fun i hi => by rw [h3 i hi]; exact c i hi⟩
  rw [hz]
  rw [Bool.and_eq_true] at hf ⊢
  refine ⟨hf.1, ?_⟩
  have hf2 := hf.2
  split
  · rename_i hq
    rw [if_pos hq] at hf2
    exact hf2
  · rename_i hq
    rw [if_neg hq, decide_eq_true_eq] at hf2
    rw [decide_eq_true_eq]
    obtain ⟨g1, g2, g3, g4, g5, g6⟩ := hf2
    refine ⟨by rw [h1]; exact g1, by rw [h2]; exact g2, fun hn => by rw [h1]; exact g3 hn, fun i hi h0 => by rw [h3 i hi, h2] at *; exact g4 i hi h0, ?_, by rw [h1, h2, h3 0 (by decide)]; exact g6⟩
    rw [h2]
    unfold tailZ at g5 ⊢
    by_cases q1 : rs d n % 128 = 0
    · rw [decide_eq_true q1]; rfl
    rw [decide_eq_false q1, Bool.false_or] at g5 ⊢
    have hlt : rs d n / 128 < 12 := by omega
    rw [h3 _ hlt]
    by_cases q2 : rb d n (rs d n / 128) = 0
    · rw [decide_eq_true q2]; rfl
    rw [decide_eq_false q2, Bool.false_or] at g5 ⊢
    have hmem : rb d n (rs d n / 128) ∈ part d n 12 := mem_part.2 ⟨q2, _, hlt, rfl⟩
    have hx := g4 _ hlt q2
    rw [cut_same (d := d) (by omega) (by omega) fun m a b => hb _ hmem m (by omega) (by omega)]
    exact g5

/-- One inode has changed. -/
theorem ok_change {d e : List UInt8} (hok : Ok37 d) (hd : d.length = 12288) (he : e.length = 12288) {n : Nat} (hn : n < 32) (hsup : ∀ m, m < 128 → byt e m = byt d m) (hrest : ∀ m, 1676 ≤ m → m < 1792 → byt e m = byt d m)
    (hslot : ∀ m, m < 32 → m ≠ n → SlotSame d e m) (hform : formB e n = true) (hblk : ∀ m, m < 32 → m ≠ n → ∀ x ∈ part d m 12, ∀ i, 128 * x ≤ i → i < 128 * x + 128 → byt e i = byt d i)
    (hnd : (part e n 12).Nodup) (hdj : ∀ m, m < 32 → m ≠ n → ∀ x ∈ part e n 12, x ∉ part d m 12)
    (hbit : ∀ j, j < 96 → (getB (bmp e) j = true ↔ j < 18 ∨ j ∈ part e n 12 ∨ ∃ m, m < 32 ∧ m ≠ n ∧ j ∈ part d m 12)) : Ok37 e := by
  obtain ⟨p1, p2⟩ := ok_parts hok
  refine ok_of he ?_ ?_ ?_ (fun m hm => ?_) (fun m hm => ?_) (fun m k hm hk hne x h1 h2 => ?_) (fun j hj => ?_)
  · rw [cut_same (d := d) (by omega) (by omega) fun m _ h => hsup m (by omega)]
    exact hok.magic
  · rw [cut_same (d := d) (by omega) (by omega) fun m _ h => hsup m (by omega)]
    exact hok.super
  · rw [cut_same (d := d) (by omega) (by omega) fun m h h' => hrest m h h']
    exact hok.rest
  · by_cases hmn : m = n
    · rw [hmn]; exact hform
    · exact slot_form (hslot m hm hmn) hd he (hok.form m hm) (hblk m hm hmn)
  · by_cases hmn : m = n
    · rw [hmn]; exact hnd
    · rw [slot_part (hslot m hm hmn)]; exact p1 m hm
  · by_cases hmn : m = n
    · subst hmn
      rw [slot_part (hslot k hk (fun h => hne h.symm))] at h2
      exact hdj k hk (fun h => hne h.symm) x h1 h2
    · rw [slot_part (hslot m hm hmn)] at h1
      by_cases hkn : k = n
      · subst hkn
        exact hdj m hm hmn x h2 h1
      · rw [slot_part (hslot k hk hkn)] at h2
        exact p2 m k hm hk hne x h1 h2
  · rw [hbit j hj]
    constructor
    · rintro (h | h | ⟨m, hm, hmn, h⟩)
      · exact .inl h
      · exact .inr ⟨n, hn, h⟩
      · exact .inr ⟨m, hm, by rw [slot_part (hslot m hm hmn)]; exact h⟩
    · rintro (h | ⟨m, hm, h⟩)
      · exact .inl h
      · by_cases hmn : m = n
        · subst hmn
          exact .inr (.inl h)
        · rw [slot_part (hslot m hm hmn)] at h
          exact .inr (.inr ⟨m, hm, hmn, h⟩)

/-- The fields of an inode that was put. -/
theorem putI_fields {d : List UInt8} (hd : d.length = 12288) {n : Nat} (hn : n < 32) (k s : Nat) (b : Nat → Nat) (hk : k < 256) (hs : s < 65536) (hb : ∀ i, i < 12 → b i < 256) :
    rk (putI d n k s b) n = k ∧ rs (putI d n k s b) n = s ∧ (∀ i, i < 12 → rb (putI d n k s b) n i = b i) ∧ rp (putI d n k s b) n = 0 := by
  have hg : ∀ r, r < 16 → byt (putI d n k s b) (1792 + 16 * n + r) = byt (inoB k s b) r := fun r hr => by
    rw [byt_putI hd hn, if_pos (by omega), show 1792 + 16 * n + r - (1792 + 16 * n) = r by omega]
  obtain ⟨e0, e1, e2, e3⟩ := byt_inoB0 k s b
  refine ⟨?_, ?_, fun i hi => ?_, ?_⟩
  · show byt _ (1792 + 16 * n + 0) = _
    rw [hg 0 (by decide), e0, Nat.mod_eq_of_lt hk]
  · unfold rs
    rw [hg 1 (by decide), hg 2 (by decide), e1, e2]
    omega
  · show byt _ (1792 + 16 * n + (3 + i)) = _
    rw [hg (3 + i) (by omega), byt_inoB k s b hi, Nat.mod_eq_of_lt (hb i hi)]
  · show byt _ (1792 + 16 * n + 15) = _
    rw [hg 15 (by decide), e3]

theorem freeB_clear {b : List UInt8} {x : Nat} (h : freeB b = some x) : getB b x = false := by
  unfold freeB at h
  have := List.find?_some h
  simpa using this

theorem slot_free {d : List UInt8} (hok : Ok37 d) {n : Nat} (hn : n < 32) (hk : rk d n = 0) : part d n 12 = [] ∧ n ≠ 0 := by
  have hf := hok.form n hn
  unfold formB at hf
  rw [Bool.and_eq_true] at hf
  have h2 := hf.2
  split at h2
  · rename_i hz
    refine ⟨?_, by simpa using h2⟩
    rw [List.eq_nil_iff_forall_not_mem]
    intro x hx
    obtain ⟨h0, i, hi, rfl⟩ := mem_part.1 hx
    exact h0 ((inoZ_iff.1 hz).2.2 i hi)
  · rw [decide_eq_true_eq] at h2
    have := h2.1
    omega

theorem bmp_of_same {d e : List UInt8} (hd : d.length = 12288) (he : e.length = 12288) (h : ∀ m, 1664 ≤ m → m < 1676 → byt e m = byt d m) : bmp e = bmp d := cut_same (by omega) (by omega) h

/-- What Alloc leaves. -/
theorem alloc_ok {d : List UInt8} (h0 : chk d = 0) {kind : Nat} (hk : kind = 1 ∨ kind = 2) (he : (allocR d kind).2.2 = 0) :
    chk (allocR d kind).2.1 = 0 ∧ (allocR d kind).2.1.length = 12288 ∧ (∃ n x, (allocR d kind).1 = n ∧ n < 32 ∧ n ≠ 0 ∧ rk d n = 0 ∧ rk (allocR d kind).2.1 n = kind ∧
      (∀ m, m < 32 → m ≠ n → SlotSame d (allocR d kind).2.1 m ∧ ∀ y ∈ part d m 12, y ≠ x ∧ ∀ i, 128 * y ≤ i → i < 128 * y + 128 → byt (allocR d kind).2.1 i = byt d i)) := by
  obtain ⟨hd, hok⟩ := chk_zero h0
  obtain ⟨p1, p2⟩ := ok_parts hok
  unfold allocR at he ⊢
  have hne : ¬ chk d ≠ 0 := by rw [h0]; simp
  rw [if_neg hne] at he ⊢
  cases hf : freeI d with
  | none => rw [hf] at he; cases he
  | some n =>
    rw [hf] at he
    obtain ⟨hn, hkn⟩ := freeI_lt hf
    obtain ⟨hpn, hn0⟩ := slot_free hok hn hkn
    dsimp only at he ⊢
    by_cases h2 : kind = 2
    · subst h2
      rw [if_pos rfl] at he ⊢
      cases hx : freeB (bmp d) with
      | none => rw [hx] at he; cases he
      | some x =>
        dsimp only
        obtain ⟨hx1, hx2⟩ := freeB_lt hx
        have hxc := freeB_clear hx
        have hbl := bmp_len hd
        have hpb : (putB (bmp d) x true).length = 12 := by rw [putB_len, hbl]
        have hsl := setBmp_len hd hpb
        have hz : (List.replicate 128 (0 : UInt8)).length = 128 := List.length_replicate
        have htl := takeD_len hd hx2
        have htb : ∀ m, byt (takeD d x) m = if 128 * x ≤ m ∧ m < 128 * x + 128 then byt (List.replicate 128 0) (m - 128 * x) else if 1664 ≤ m ∧ m < 1676 then byt (putB (bmp d) x true) (m - 1664) else byt d m := fun m => by
          unfold takeD
          rw [byt_lay (by rw [hz]; omega), hz, byt_setBmp hd hpb]
        have hpl := putI_len htl hn 2 128 (fun i => if i = 0 then x else 0)
        obtain ⟨f1, f2, f3, f4⟩ := putI_fields htl hn 2 128 (fun i => if i = 0 then x else 0) (by decide) (by decide) (fun i _ => by split <;> omega)
        have hpb2 := byt_putI htl hn 2 128 (fun i => if i = 0 then x else 0)
        generalize putI (takeD d x) n 2 128 (fun i => if i = 0 then x else 0) = e at *
        have hnox : ∀ m, m < 32 → x ∉ part d m 12 := fun m hm hxm => by
          have := (ok_bit hok x).2 (.inr ⟨m, hm, hxm⟩)
          rw [hxc] at this
          cases this
        have hpe : part e n 12 = [x] := by
          have hfm : (List.range 12).map (rb e n) = (List.range 12).map fun i => if i = 0 then x else 0 := List.map_congr_left fun i hi => f3 i (List.mem_range.1 hi)
          unfold part
          rw [hfm]
          have : (List.range 12).map (fun i => if i = 0 then x else 0) = x :: List.replicate 11 0 := by simp [List.range_succ]
          rw [this, List.filter_cons_of_pos (by simp; omega)]
          simp
        have hslot : ∀ m, m < 32 → m ≠ n → SlotSame d e m := fun m hm hmn r hr => by
          rw [hpb2, if_neg (by omega), htb, if_neg (by omega), if_neg (by omega)]
        have hblk : ∀ m, m < 32 → m ≠ n → ∀ y ∈ part d m 12, ∀ i, 128 * y ≤ i → i < 128 * y + 128 → byt e i = byt d i := fun m hm hmn y hy i h1 h2 => by
          have hyx : y ≠ x := fun h => hnox m hm (h ▸ hy)
          have := (part_rng hok hm hy).1
          rw [hpb2, if_neg (by omega), htb, if_neg (by omega), if_neg (by omega)]
        have hOk : Ok37 e := by
          refine ok_change hok hd hpl hn (fun m hm => ?_) (fun m h1 h2 => ?_) hslot ?_ hblk (by rw [hpe]; simp) (fun m hm hmn y hy => ?_) (fun j hj => ?_)
          · rw [hpb2, if_neg (by omega), htb, if_neg (by omega), if_neg (by omega)]
          · rw [hpb2, if_neg (by omega), htb, if_neg (by omega), if_neg (by omega)]
          · unfold formB
            rw [f4, Bool.and_eq_true]
            refine ⟨by simp, ?_⟩
            have hnz : ¬ inoZ (rk e n) (rs e n) (rb e n) = true := fun h => by
              have := (inoZ_iff.1 h).1
              omega
            rw [if_neg hnz, decide_eq_true_eq]
            refine ⟨.inr f1, by rw [f2]; decide, fun _ => f1, fun i hi h => ?_, ?_, .inr ⟨f2, by rw [f3 0 (by decide), if_pos rfl]; omega⟩⟩
            · rw [f3 i hi] at h ⊢
              by_cases hi0 : i = 0
              · rw [if_pos hi0, f2]
                omega
              · rw [if_neg hi0] at h
                exact absurd rfl h
            · rw [f2]
              rfl
          · have : y = x := by rw [hpe] at hy; simpa using hy
            rw [this]
            exact hnox m hm
          · have hbe : bmp e = putB (bmp d) x true := by
              refine byt_ext (by rw [bmp_len hpl, hpb]) fun i hi => ?_
              rw [bmp_len hpl] at hi
              unfold bmp
              rw [byt_cut (by omega) hi, hpb2, if_neg (by omega), htb, if_neg (by omega), if_pos (by omega)]
              congr 1
              omega
            rw [hbe, getB_put true (by rw [hbl]; omega), hpe]
            by_cases hjx : j = x
            · subst hjx
              simp
            · rw [if_neg hjx, ok_bit hok j]
              constructor
              · rintro (h | ⟨m, hm, h⟩)
                · exact .inl h
                · refine .inr (.inr ⟨m, hm, fun e => ?_, h⟩)
                  rw [e, hpn] at h
                  cases h
              · rintro (h | h | ⟨m, hm, _, h⟩)
                · exact .inl h
                · exact absurd (by simpa using h) hjx
                · exact .inr ⟨m, hm, h⟩
        exact ⟨chk_ok hpl hOk, hpl, n, x, rfl, hn, hn0, hkn, f1, fun m hm hmn => ⟨hslot m hm hmn, fun y hy => ⟨fun h => hnox m hm (h ▸ hy), hblk m hm hmn y hy⟩⟩⟩
    · have hk1 : kind = 1 := hk.resolve_right h2
      subst hk1
      rw [if_neg (by decide)] at he ⊢
      dsimp only
      have hpl := putI_len hd hn 1 0 (fun _ => 0)
      obtain ⟨f1, f2, f3, f4⟩ := putI_fields hd hn 1 0 (fun _ => 0) (by decide) (by decide) (fun i _ => by decide)
      have hpb2 := byt_putI hd hn 1 0 (fun _ => 0)
      generalize putI d n 1 0 (fun _ => 0) = e at *
      have hpe : part e n 12 = [] := by
        rw [List.eq_nil_iff_forall_not_mem]
        intro y hy
        obtain ⟨h0, i, hi, rfl⟩ := mem_part.1 hy
        exact h0 (f3 i hi)
      have hslot : ∀ m, m < 32 → m ≠ n → SlotSame d e m := fun m hm hmn r hr => by
        rw [hpb2, if_neg (by omega)]
      have hblk : ∀ m, m < 32 → m ≠ n → ∀ y ∈ part d m 12, ∀ i, 128 * y ≤ i → i < 128 * y + 128 → byt e i = byt d i := fun m hm hmn y hy i h1 h2 => by
        have := (part_rng hok hm hy).1
        rw [hpb2, if_neg (by omega)]
      have hOk : Ok37 e := by
        refine ok_change hok hd hpl hn (fun m hm => ?_) (fun m h1 h2 => ?_) hslot ?_ hblk (by rw [hpe]; simp) (fun m hm hmn y hy => by rw [hpe] at hy; cases hy) (fun j hj => ?_)
        · rw [hpb2, if_neg (by omega)]
        · rw [hpb2, if_neg (by omega)]
        · unfold formB
          rw [f4, Bool.and_eq_true]
          refine ⟨by simp, ?_⟩
          have hnz : ¬ inoZ (rk e n) (rs e n) (rb e n) = true := fun h => by
            have := (inoZ_iff.1 h).1
            omega
          rw [if_neg hnz, decide_eq_true_eq]
          refine ⟨.inl f1, by rw [f2]; decide, fun h => absurd h hn0, fun i hi h => absurd (f3 i hi) h, ?_, .inl f1⟩
          rw [f2]
          rfl
        · rw [bmp_of_same hd hpl fun m h1 h2 => by rw [hpb2, if_neg (by omega)], ok_bit hok j, hpe]
          constructor
          · rintro (h | ⟨m, hm, h⟩)
            · exact .inl h
            · refine .inr (.inr ⟨m, hm, fun e => ?_, h⟩)
              rw [e, hpn] at h
              cases h
          · rintro (h | h | ⟨m, hm, _, h⟩)
            · exact .inl h
            · cases h
            · exact .inr ⟨m, hm, h⟩
      exact ⟨chk_ok hpl hOk, hpl, n, 0, rfl, hn, hn0, hkn, f1, fun m hm hmn => ⟨hslot m hm hmn, fun y hy => ⟨by have := (part_rng hok hm hy).1; omega, hblk m hm hmn y hy⟩⟩⟩

end Go.Proofs.YtfeoedkmndkbjaaGreatDoor
namespace Go.Proofs.YtfeoedkmndkbjaaGreatDoor
open Go Go.Sx
set_option maxRecDepth 100000
set_option maxHeartbeats 4000000
set_option linter.unusedVariables false
set_option linter.unusedSimpArgs false

theorem emptyName_spec (e : En) : PureSpec Tryz.prog 70 [.agg ⟨enC e⟩] (fun w => True) (fun v F => v = .bool (e.1 == [])) := by
  refine PureSpec.of_xc tabOk Tryz.func70 rfl (by decide) (n := Tryz.f70.ntmps - 1) rfl rfl fun w0 av => ?_
  conv => whnf
  intro b1
  conv => whnf
  repeat (refine XSame.of ?_; conv => whnf)
  refine XVal.of_read (XRead.strEq (l := e.1) (m := []) ?_)
  conv => whnf
  repeat (refine XSame.of ?_; conv => whnf)
  exact ⟨_, Ent.refl _, rfl⟩

theorem indexEn0_spec (f : FuncId) (p : En → Bool) (l : List En) (h : Hd) (hh : h.Ok l.length) (hl : l.length ≤ 1000000) (hf : ∀ e ∈ l, PureSpec Tryz.prog f [.agg ⟨enC e⟩] (fun w => True) (fun v F => v = .bool (p e))) :
    PureSpec Tryz.prog 69 [h.v l.length, .func (.func f) #[] #[]] (fun w => RowAt w h.a (enCs l)) (fun v F => v = .int .i64 (fint (l.findIdx? p))) := by
  refine PureSpec.of_xc tabOk Tryz.func69 rfl (by decide) (n := Tryz.f69.ntmps - 2) rfl rfl fun w0 av => ?_
  conv => whnf
  refine XStop.loop tabOk (ι := Nat) ([5] ++ List.range' 8 11) (fun x => x ≤ l.length ∧ ∀ j (hj : j < l.length), j < x → p l[j] = false)
    (fun x => [(8, .v (.int .i64 (x : Int)))]) (fun _ => []) (fun _ => ⟨fun w => RowAt w h.a (enCs l), []⟩)
    (fun x => l.length - x) 0 ⟨Nat.zero_le _, fun j hj h => by omega⟩ ?_ rfl (Ent.refl _) fun i hi => ?_
  · conv => whnf
    repeat (first | exact FLe.nil | refine FLe.any ?_ | refine FLe.cons ?_)
  obtain ⟨hi, hall⟩ := hi
  conv => whnf
  refine XIf.split (fun hlt => ?_) (fun hlt => ?_)
  · have hlt' : i < l.length := by
      simp only [iLt_eq, decide_eq_true_eq] at hlt
      omega
    conv => whnf
    repeat (refine XSame.of ?_; conv => whnf)
    refine XVal.of_read (XRead.index tabOk (t := 111) rfl rfl rfl (by omega) (by omega) hh.nil fun ad had => ?_)
    conv => whnf
    repeat (refine XSame.of ?_; conv => whnf)
    refine XVal.of_read (XRead.loads tabOk (t := 113) rfl rfl (ad := ad) (k := 2 * i) (L := enCs l) (m := enC l[i]) (.fact fun w hw => had ▸ hw) (by congr 1; show Int.toNat (i : Int) * 2 = _; rw [Int.toNat_natCast]; omega) (enCs_struct hlt') rfl ?_)
    conv => whnf
    repeat (refine XSame.of ?_; conv => whnf)
    refine XCall.val (hf _ (List.getElem_mem hlt')) (fun w hw => trivial) (fun v D hv => ?_)
    generalize hq : p l[i] = q at hv
    subst hv
    cases q
    · conv => whnf
      repeat (refine XSame.of ?_; conv => whnf)
      refine ⟨i + 1, ⟨⟨hlt', fun j hj h => ?_⟩, by dsimp only; omega⟩, ?_, ?_, Ent.refl _⟩
      · rcases Nat.lt_or_eq_of_le (Nat.lt_succ_iff.1 h) with h5 | h5
        · exact hall j hj h5
        · subst h5
          exact hq
      · conv => whnf
        refine ⟨?_, rfl⟩
        repeat (first | exact FLe.nil | refine FLe.any ?_ | refine FLe.cons ?_ | refine FLe.eq (by rw [wrap_i64 (by omega)]; rfl) ?_)
      · conv => whnf
        exact trivial
    · conv => whnf
      repeat (refine XSame.of ?_; conv => whnf)
      refine ⟨_, Ent.refl _, ?_⟩
      have : l.findIdx? p = some i := by
        rw [List.findIdx?_eq_some_iff_getElem]
        exact ⟨hlt', hq, fun j hj => by simpa using hall j (by omega) hj⟩
      rw [this]
      rfl
  · have hie : i = l.length := by
      simp only [iLt_eq, decide_eq_false_iff_not] at hlt
      omega
    subst hie
    conv => whnf
    repeat (refine XSame.of ?_; conv => whnf)
    refine ⟨_, Ent.refl _, ?_⟩
    have : l.findIdx? p = none := by
      rw [List.findIdx?_eq_none_iff]
      intro x hx
      obtain ⟨j, hj, rfl⟩ := List.getElem_of_mem hx
      simpa using hall j hj hj
    rw [this]
    rfl

theorem walk_congr (d : List UInt8) (H H' : Nat → Hd) : ∀ (l : List (List UInt8)) (n : Nat), (theTree d H).walk l n = (theTree d H').walk l n
  | [], n => rfl
  | s :: r, n => by
    have h := walk_congr d H H' r
    unfold Tree.walk
    rw [h]
    rfl

noncomputable def pmakeR (d : List UInt8) (p : List UInt8) (kind : Int) : Nat × List UInt8 × Nat :=
  if chk38 d ≠ 0 then (0, [], chk38 d) else
  if (splitR p).2 ≠ 0 then (0, [], 15) else
  if kind ≠ 1 ∧ kind ≠ 2 then (0, [], 1) else
  if (splitR p).1 = [] then (0, [], 9) else
  if ((T0 d).walk (splitR p).1.dropLast 0).2 ≠ 0 then (0, [], ((T0 d).walk (splitR p).1.dropLast 0).2) else
  if ((T0 d).find ((T0 d).walk (splitR p).1.dropLast 0).1 ((splitR p).1.getLastD [])).2 = 0 then (0, [], 9) else
  if ((T0 d).walk (splitR p).1.dropLast 0).1 ∉ (T0 d).dl then (0, [], 14) else
  match fidx ((T0 d).E ((T0 d).walk (splitR p).1.dropLast 0).1) [] with
  | none => (0, [], 13)
  | some k => if (allocR d kind.toNat).2.2 ≠ 0 then (0, [], (allocR d kind.toNat).2.2) else
    ((allocR d kind.toNat).1, wr16 (allocR d kind.toNat).2.1 ((T0 d).walk (splitR p).1.dropLast 0).1 k (enB ((splitR p).1.getLastD [], (allocR d kind.toNat).1)), 0)

theorem chk_of38 {d : List UInt8} (h : chk38 d = 0) : chk d = 0 := by
  unfold chk38 at h
  by_cases h0 : chk d = 0
  · exact h0
  · rw [if_pos h0] at h
    exact absurd h h0

theorem find_err {T : Tree} {n : Nat} {s : List UInt8} : ((T.find n s).2 = 14 ↔ n ∉ T.dl) := by
  unfold Tree.find
  by_cases h : n ∈ T.dl
  · rw [if_pos h]
    split <;> simp [h]
  · rw [if_neg h]
    simp [h]

theorem pmake_spec (d : List UInt8) (h : Hd) (hh : h.Ok d.length) (hl : d.length ≤ 1000000) (p : List UInt8) (hp : p.length ≤ 200) (kind : Int) :
    PureSpec Tryz.prog 33 [h.v d.length, strV p, .int .i64 kind] (fun w => By w h d) (RelN (pmakeR d p kind).1 (pmakeR d p kind).2.1 (pmakeR d p kind).2.2) := by
  obtain ⟨M, hM⟩ : ∃ x, x = pmakeR d p kind := ⟨_, rfl⟩
  rw [← hM]
  unfold pmakeR at hM
  refine PureSpec.of_xc tabOk Tryz.func33 rfl (by decide) (n := Tryz.f33.ntmps - 3) rfl rfl fun w0 av => ?_
  conv => whnf
  have hos := openT_spec d h hh hl
  rw [openE_eq] at hos
  refine XCall.pure hos (fun w hw => hw) (fun v D hv => ?_)
  unfold RelTr at hv
  split at hv
  rotate_left
  · rename_i he
    rw [if_pos he] at hM
    rw [hM]
    obtain ⟨q, rfl, rfl⟩ := hv
    generalize chk38 d = e at *
    conv => whnf
    repeat (refine XSame.of ?_; conv => whnf)
    refine XIf.yes (by simp [iNe_eq]; omega) ?_
    conv => whnf
    repeat (refine XSame.of ?_; conv => whnf)
    exact relN_nil
  rename_i h38
  rw [if_neg (by rw [h38]; simp)] at hM
  have hc0 := chk_of38 h38
  obtain ⟨bt, bm, H, hH, rfl, rfl⟩ := hv
  have hTok := theTree_ok d hH
  have hTn := theTree_name d H
  have hwc := walk_congr d H fun _ => hd0
  obtain ⟨e0, he0⟩ : ∃ e : Nat, e = chk38 d := ⟨_, rfl⟩
  rw [← he0]
  rw [h38] at he0
  have hm1 : (treeC (h.v d.length) bm (theTree d H).K 32)[1]? = some (.map (some bm)) := rfl
  have hsm := splitR_small p hp
  have hsn := splitR_names p
  have hse := splitR_err p
  have hsp := dirsSplit_spec p hp
  generalize splitR p = sp at *
  obtain ⟨names, se⟩ := sp
  dsimp only at hM hsm hsn hse
  conv => whnf
  repeat (refine XSame.of ?_; conv => whnf)
  refine XIf.no (by subst he0; simp [iNe_eq]) ?_
  conv => whnf
  repeat (refine XSame.of ?_; conv => whnf)
  refine XCall.pure hsp (fun w hw => trivial) (fun v D hv => ?_)
  obtain ⟨kn, rfl, hkn, rfl⟩ := hv
  dsimp only at hkn ⊢
  conv => whnf
  repeat (refine XSame.of ?_; conv => whnf)
  refine XIf.split (fun hs => ?_) (fun hs => ?_)
  · have hs' : se ≠ 0 := by
      simpa [iNe_eq] using hs
    rw [if_pos hs'] at hM
    rw [hM]
    have : se = 15 := (hse.resolve_left hs').1
    subst this
    conv => whnf
    repeat (refine XSame.of ?_; conv => whnf)
    exact relN_nil
  have hs' : se = 0 := by
    simpa [iNe_eq] using hs
  rw [if_neg (by omega)] at hM
  conv => whnf
  repeat (refine XSame.of ?_; conv => whnf)
  refine XIf.split (fun hk => ?_) (fun hk => ?_)
  · have hk' : kind ≠ 1 ∧ kind ≠ 2 := by
      simpa [iNe_eq] using hk
    rw [if_pos hk'] at hM
    rw [hM]
    conv => whnf
    repeat (refine XSame.of ?_; conv => whnf)
    exact relN_nil
  have hk' : kind = 1 ∨ kind = 2 := by
    simp [iNe_eq] at hk
    omega
  rw [if_neg (by omega)] at hM
  conv => whnf
  repeat (refine XSame.of ?_; conv => whnf)
  refine XIf.split (fun hn => ?_) (fun hn => ?_)
  · have hn' : names = [] := by
      simp [iEq_eq] at hn
      exact hn
    rw [if_pos hn'] at hM
    rw [hM]
    conv => whnf
    repeat (refine XSame.of ?_; conv => whnf)
    exact relN_nil
  have hn' : names ≠ [] := by
    simp [iEq_eq] at hn
    exact hn
  rw [if_neg hn'] at hM
  have hlen : 0 < names.length := List.length_pos_iff.2 hn'
  have hw1 : IntKind.i64.wrap ((names.length : Int) - 1) = ((names.length - 1 : Nat) : Int) := by
    rw [wrap_i64 (by omega)]
    omega
  have hlast := getLast_eq hn'
  have hlv : vname (names.getLastD []) = true := hsn _ (List.mem_of_getElem? hlast)
  generalize names.getLastD [] = last at *
  have hdl : names.dropLast = names.take (names.length - 1) := List.dropLast_eq_take
  rw [hdl] at hM
  conv => whnf
  repeat (refine XSame.of ?_; conv => whnf)
  refine XVal.of_read (XRead.index tabOk (t := 51) rfl rfl rfl (by rw [hw1]; omega) (by rw [hw1]; omega) hkn.nil fun ad had => ?_)
  conv => whnf
  repeat (refine XSame.of ?_; conv => whnf)
  refine XVal.of_read (XRead.load tabOk (t := 9) rfl rfl (ad := ad) (k := names.length - 1) (L := names.map strV) (v := strV last) (.fact fun w hw => had ▸ hw.2) (by rw [hw1]; simp) (by rw [List.getElem?_map, hlast]; rfl) ?_)
  conv => whnf
  repeat (refine XSame.of ?_; conv => whnf)
  refine XVal.of_read (XRead.subTo tabOk (t := 51) rfl rfl rfl (names.length - 1) hw1 (Nat.le_trans (by omega) hkn.cap) ?_)
  conv => whnf
  repeat (refine XSame.of ?_; conv => whnf)
  have hfs := twalk_spec (theTree d H) hTok (h.v d.length) bt bm kn (names.take (names.length - 1)) ⟨fun h0 => by have := hkn.nil h0; omega, by have := hkn.cap; rw [List.length_take]; omega⟩ (by rw [List.length_take]; omega)
  rw [hwc, List.length_take, Nat.min_eq_left (by omega)] at hfs
  have hws : ((T0 d).walk (names.take (names.length - 1)) 0).2 = 0 → ((T0 d).walk (names.take (names.length - 1)) 0).1 ≤ 1000000 := fun _ => by
    have : ∀ (l : List (List UInt8)) (n : Nat), n ≤ 1000000 → ((T0 d).walk l n).1 ≤ 1000000 := by
      intro l
      induction l with
      | nil => exact fun n hn => hn
      | cons s r ih =>
        intro n hn
        unfold Tree.walk
        split
        · exact Nat.zero_le _
        · exact ih _ (tfind_small (T0_ok d) n s)
    exact this _ 0 (Nat.zero_le _)
  have hT0 : (theTree d fun _ => hd0) = T0 d := rfl
  rw [hT0] at hfs
  generalize (T0 d).walk (names.take (names.length - 1)) 0 = fr at *
  obtain ⟨at0, fe⟩ := fr
  dsimp only at hM hfs hws
  refine XCall.val hfs (fun w hw => ⟨hw.1.2, ?_⟩) (fun v D hv => ?_)
  · have := RowAt.take hw.2 (names.length - 1)
    unfold StrAt
    rw [List.map_take]
    exact this
  unfold RelII at hv
  subst hv
  conv => whnf
  repeat (refine XSame.of ?_; conv => whnf)
  refine XIf.split (fun hf => ?_) (fun hf => ?_)
  · have hf' : fe ≠ 0 := by
      simp [iNe_eq] at hf
      omega
    rw [if_pos hf'] at hM
    rw [hM]
    conv => whnf
    repeat (refine XSame.of ?_; conv => whnf)
    exact relN_nil
  have hf' : fe = 0 := by
    simp [iNe_eq] at hf
    omega
  rw [if_neg (by omega)] at hM
  have hat := hws hf'
  have hfd := tfind_spec (theTree d H) hTok (h.v d.length) bt bm at0 hat last
  have hfeq : (theTree d H).find at0 last = (T0 d).find at0 last := rfl
  have hferr := @find_err (T0 d) at0 last
  rw [hfeq] at hfd
  have hEq : (theTree d H).E at0 = (T0 d).E at0 := rfl
  have hdleq : (theTree d H).dl = (T0 d).dl := rfl
  have hcl : at0 ∈ (T0 d).dl → at0 < 32 ∧ rk d at0 = 2 := fun h => mem_dl.1 h
  have hEl : ((T0 d).E at0).length = 8 := (T0_ok d).len at0
  generalize (T0 d).find at0 last = fr at *
  obtain ⟨fn, fe2⟩ := fr
  dsimp only at hM hfd hferr
  conv => whnf
  repeat (refine XSame.of ?_; conv => whnf)
  refine XCall.val hfd (fun w hw => hw.1.2) (fun v D hv => ?_)
  unfold RelII at hv
  subst hv
  conv => whnf
  repeat (refine XSame.of ?_; conv => whnf)
  refine XIf.split (fun hq => ?_) (fun hq => ?_)
  · have hq' : fe2 = 0 := by
      simp [iEq_eq] at hq
      omega
    rw [if_pos hq'] at hM
    rw [hM]
    conv => whnf
    repeat (refine XSame.of ?_; conv => whnf)
    exact relN_nil
  have hq' : fe2 ≠ 0 := by
    simp [iEq_eq] at hq
    omega
  rw [if_neg hq'] at hM
  conv => whnf
  repeat (refine XSame.of ?_; conv => whnf)
  refine XIf.split (fun hq2 => ?_) (fun hq2 => ?_)
  · have hq2' : fe2 = 14 := by
      simp [iEq_eq] at hq2
      omega
    rw [if_pos (hferr.1 hq2')] at hM
    rw [hM, hq2']
    conv => whnf
    repeat (refine XSame.of ?_; conv => whnf)
    exact relN_nil
  have hq2' : fe2 ≠ 14 := by
    simp [iEq_eq] at hq2
    omega
  have hdin : at0 ∈ (T0 d).dl := Classical.byContradiction fun h => hq2' (hferr.2 h)
  rw [if_neg (fun h => h hdin)] at hM
  obtain ⟨hat32, hatk⟩ := hcl hdin
  have hTA : ∀ w, TreeAt (theTree d H) (h.v d.length) bt bm w → RowAt w (some ⟨bt, 0, none⟩) (treeC (h.v d.length) bm (theTree d H).K 32) := fun w hw => hw.1
  have hTM : ∀ w, TreeAt (theTree d H) (h.v d.length) bt bm w → MapAt w bm ((theTree d H).kv (theTree d H).dl) := fun w hw => hw.2.1
  have hTE : ∀ w, TreeAt (theTree d H) (h.v d.length) bt bm w → RowAt w (H at0).a (enCs ((T0 d).E at0)) := fun w hw => hw.2.2 at0 (hdleq ▸ hdin)
  have hHa := hH at0
  have hkvk := (theTree d H).kv_key (theTree d H).dl
  have hkvv : ∀ (i : Nat) u, ((theTree d H).kv (theTree d H).dl)[i]? = some (intV at0, u) → u = .slice (H at0).a 8 (H at0).c := (theTree d H).kv_val
  have hkvi := (theTree d H).kv_in (l := (theTree d H).dl) (hdleq ▸ hdin : at0 ∈ (theTree d H).dl)
  generalize TreeAt (theTree d H) (h.v d.length) bt bm = TA at *
  generalize (theTree d H).kv (theTree d H).dl = KV at *
  generalize treeC (h.v d.length) bm (theTree d H).K 32 = TC at *
  generalize (T0 d).E at0 = es at *
  have hix := indexEn0_spec 70 (fun e => e.1 == []) es (H at0) (by rw [hEl]; exact hHa) (by omega) (fun e _ => emptyName_spec e)
  rw [hEl, show es.findIdx? (fun e => e.1 == []) = fidx es [] from rfl] at hix
  conv => whnf
  repeat (refine XSame.of ?_; conv => whnf)
  refine XVal.of_read (XRead.loadF tabOk (t := 114) rfl rfl (ad := ⟨bt, 0, none⟩) (k := 1) (L := TC) (v := .map (some bm)) (.fact fun w hw => hTA w hw.1.2) (fun _ => rfl) hm1 ?_)
  conv => whnf
  repeat (refine XSame.of ?_; conv => whnf)
  refine XVal.of_read (XRead.lookupIn tabOk (t := 114) rfl rfl rfl rfl (SeesM.fact fun w hw => hTM w hw.1.2) rfl hkvk (v := .slice (H at0).a 8 (H at0).c) hkvv hkvi ?_)
  conv => whnf
  repeat (refine XSame.of ?_; conv => whnf)
  refine XCall.val hix (fun w hw => hTE w hw.1.2) (fun v D hv => ?_)
  cases hfi2 : fidx es [] with
  | none =>
    rw [hfi2] at hM hv
    dsimp only at hM
    rw [hM]
    obtain ⟨z2, hz2⟩ : ∃ z : Int, z = fint none := ⟨_, rfl⟩
    rw [← hz2] at hv
    have hz2 : z2 = -1 := hz2
    subst hv
    conv => whnf
    repeat (refine XSame.of ?_; conv => whnf)
    refine XIf.yes (by subst hz2; simp [iLt_eq]) ?_
    conv => whnf
    repeat (refine XSame.of ?_; conv => whnf)
    exact relN_nil
  | some q =>
  rw [hfi2] at hM hv
  dsimp only at hM
  have hq := fidx_lt hfi2
  obtain ⟨z2, hz2⟩ : ∃ z : Int, z = fint (some q) := ⟨_, rfl⟩
  rw [← hz2] at hv
  have hz2 : z2 = (q : Int) := hz2
  subst hv
  conv => whnf
  repeat (refine XSame.of ?_; conv => whnf)
  refine XIf.no (by subst hz2; simp [iLt_eq]) ?_
  conv => whnf
  repeat (refine XSame.of ?_; conv => whnf)
  have hal := palloc_spec d h hh hl kind.toNat (by omega)
  rw [show ((kind.toNat : Nat) : Int) = kind by omega] at hal
  have hao := @alloc_ok d hc0 kind.toNat (by omega)
  have han : (allocR d kind.toNat).1 ≤ 1000000 := by
    by_cases ha : (allocR d kind.toNat).2.2 = 0
    · obtain ⟨_, _, n, _, e1, e2, _⟩ := hao ha
      omega
    · unfold allocR at ha ⊢
      split
      · exact Nat.zero_le _
      · split
        · exact Nat.zero_le _
        · rename_i n hn
          have := (freeI_lt hn).1
          split
          · split
            · exact Nat.zero_le _
            · dsimp only; omega
          · dsimp only; omega
  generalize allocR d kind.toNat = al at *
  obtain ⟨n, d2, ae⟩ := al
  dsimp only at hM hal hao han
  refine XCall.pure hal (fun w hw => hw.1.1) (fun v D hv => ?_)
  obtain ⟨k2, rfl, hk2, rfl⟩ := hv
  conv => whnf
  repeat (refine XSame.of ?_; conv => whnf)
  refine XIf.split (fun ha => ?_) (fun ha => ?_)
  · have ha' : ae ≠ 0 := by
      simp [iNe_eq] at ha
      omega
    rw [if_pos ha'] at hM
    rw [hM]
    conv => whnf
    repeat (refine XSame.of ?_; conv => whnf)
    exact relN_nil
  have ha' : ae = 0 := by
    simp [iNe_eq] at ha
    omega
  rw [if_neg (by omega)] at hM
  obtain ⟨hc2, hd2, n', x', hn1, hn2, hn3, hn4, hn5, hn6⟩ := hao ha'
  have hne : at0 ≠ n' := fun e => by
    rw [e, hn4] at hatk
    cases hatk
  have hk2' : rk d2 at0 = 2 := by
    rw [(slot_all (hn6 at0 hat32 hne).1).1]
    exact hatk
  have hss := set_spec d2 k2 hk2 hc2 at0 hat32 hk2' q (by omega) (last, n) (vname_len hlv).2 han
  rw [hM, hz2]
  generalize wr16 d2 at0 q (enB (last, n)) = dd at *
  conv => whnf
  repeat (refine XSame.of ?_; conv => whnf)
  refine XCall.pure hss (fun w hw => hw.2) (fun v D hv => ?_)
  obtain ⟨k3, rfl, hk3, rfl⟩ := hv
  conv => whnf
  repeat (refine XSame.of ?_; conv => whnf)
  exact ⟨_, Ent.of_le ⟨by simp [Fx.and], fun w hw => hw.2⟩, k3, rfl, hk3, rfl⟩

end Go.Proofs.YtfeoedkmndkbjaaGreatDoor
namespace Go.Proofs.YtfeoedkmndkbjaaGreatDoor
open Go Go.Sx
set_option maxRecDepth 100000
set_option linter.unusedVariables false
set_option linter.unusedSimpArgs false

theorem tree_facts {d : List UInt8} (h : chk38 d = 0) : chk d = 0 ∧ (T0 d).Good ∧ ∀ n ∈ (T0 d).dl, entsOk (contentR d n) = true := by
  have h0 := chk_of38 h
  have ho := openE_eq d
  rw [h] at ho
  unfold openE at ho
  rw [if_neg (show ¬ chk d ≠ 0 by rw [h0]; simp)] at ho
  by_cases hP : PentsAll d
  · rw [if_pos hP] at ho
    unfold Tree.res at ho
    by_cases hG : (theTree d fun _ => hd0).Good
    · have hG' : (T0 d).Good := hG
      exact ⟨h0, hG, fun n hn => pents_of_ents.2 ⟨hP n hn, fun x hx => (hG'.fine.ok n hn x (by rw [T0_ch hn]; exact hx)).1⟩⟩
    · rw [if_neg hG] at ho
      cases ho
  · rw [if_neg hP] at ho
    cases ho

section
variable {d : List UInt8} (h38 : chk38 d = 0)
include h38

theorem dirR_dir {n : Nat} (hn : n ∈ (T0 d).dl) : dirR d n = ((T0 d).E n, 0) := by
  obtain ⟨h0, hG, hE⟩ := tree_facts h38
  obtain ⟨h1, h2⟩ := mem_dl.1 hn
  have hg : gete d n = 0 := (gete_iff h0).2 ⟨h1, by omega⟩
  unfold dirR
  rw [if_neg (by rw [hg]; simp)]
  rw [if_neg (show ¬ rk d (n : Int).toNat ≠ 2 by rw [Int.toNat_natCast, h2]; simp)]
  rw [Int.toNat_natCast]
  unfold entsR
  rw [hE n hn]
  rfl

theorem dirR_file {n : Nat} (hn : n < 32) (hk : rk d n ≠ 0) (hd : n ∉ (T0 d).dl) : dirR d n = ([], 14) := by
  obtain ⟨h0, hG, hE⟩ := tree_facts h38
  have hg : gete d n = 0 := (gete_iff h0).2 ⟨hn, hk⟩
  unfold dirR
  rw [if_neg (by rw [hg]; simp)]
  rw [if_pos (show rk d (n : Int).toNat ≠ 2 by rw [Int.toNat_natCast]; exact fun h => hd (mem_dl.2 ⟨hn, h⟩))]

theorem node_ok {n k : Nat} (hn : n ∈ (T0 d).dl) {s : List UInt8} (hs : s ≠ []) (hf : fidx ((T0 d).E n) s = some k) : ∃ h : k < ((T0 d).E n).length, ((T0 d).E n)[k].1 = s ∧ ((T0 d).E n)[k].2 < 32 ∧ rk d ((T0 d).E n)[k].2 ≠ 0 := by
  obtain ⟨h0, hG, hE⟩ := tree_facts h38
  have hk := fidx_lt hf
  unfold fidx at hf
  rw [List.findIdx?_eq_some_iff_getElem] at hf
  obtain ⟨_, h1, _⟩ := hf
  have h1 : ((T0 d).E n)[k].1 = s := by simpa using h1
  have := hG.fine.ok n hn ((T0 d).E n)[k].2 (by
    rw [(T0 d).ch_es hn]
    exact List.mem_map.2 ⟨_, List.mem_filter.2 ⟨List.getElem_mem hk, by simp [h1, hs]⟩, rfl⟩)
  exact ⟨hk, h1, this.2.1, this.2.2⟩

theorem walk_follow : ∀ (l : List (List UInt8)) (n : Nat), n < 32 → rk d n ≠ 0 → (∀ s ∈ l, s ≠ []) → (T0 d).walk l n = followR d l n ∧ ((followR d l n).2 = 0 → (followR d l n).1 < 32 ∧ rk d (followR d l n).1 ≠ 0)
  | [], n, h1, h2, _ => ⟨rfl, fun _ => ⟨h1, h2⟩⟩
  | s :: r, n, h1, h2, hs => by
    unfold Tree.walk followR
    by_cases hd : n ∈ (T0 d).dl
    · rw [dirR_dir h38 hd]
      unfold Tree.find
      rw [if_pos hd]
      dsimp only
      cases hf : fidx ((T0 d).E n) s with
      | none => simp
      | some k =>
        obtain ⟨hk, _, hv1, hv2⟩ := node_ok h38 hd (hs s (List.mem_cons_self ..)) hf
        have ih := walk_follow r ((T0 d).E n)[k].2 hv1 hv2 fun x hx => hs x (List.mem_cons_of_mem _ hx)
        dsimp only
        rw [List.getElem?_eq_getElem hk]
        simpa using ih
    · rw [dirR_file h38 h1 h2 hd]
      unfold Tree.find
      rw [if_neg hd]
      simp
end

theorem byt_encB : ∀ {l : List En}, (∀ e ∈ l, e.1.length ≤ 14) → ∀ {i r : Nat} (hi : i < l.length), r < 16 → byt (encB l) (16 * i + r) = byt (enB l[i]) r
  | [], _, i, r, hi, _ => by simp at hi
  | e :: l, h, i, r, hi, hr => by
    have e1 : encB (e :: l) = enB e ++ encB l := rfl
    have hl := enB_len (h e (List.mem_cons_self ..))
    rw [e1]
    cases i with
    | zero =>
      unfold byt
      rw [List.getD_eq_getElem?_getD, List.getElem?_append_left (by omega), ← List.getD_eq_getElem?_getD, Nat.mul_zero, Nat.zero_add]
      rfl
    | succ i =>
      have := byt_encB (fun x hx => h x (List.mem_cons_of_mem _ hx)) (l := l) (i := i) (by simpa using hi) hr
      unfold byt at this ⊢
      rw [List.getD_eq_getElem?_getD, List.getElem?_append_right (by omega), ← List.getD_eq_getElem?_getD, hl, show 16 * (i + 1) + r - 16 = 16 * i + r by omega]
      exact this

theorem byt_enB {e : En} (h : e.1.length ≤ 14) {r : Nat} (hr : r < 16) : byt (enB e) r = if r = 14 then e.2 % 256 else if r < e.1.length then byt e.1 r else 0 := by
  have hz : (List.replicate 16 (0 : UInt8)).length = 16 := List.length_replicate
  unfold enB
  rw [byt_bput (by rw [lay_len (by omega), hz]; decide) (by omega), byt_lay (by omega)]
  by_cases h1 : r = 14
  · rw [if_pos h1, if_pos h1]
  rw [if_neg h1, if_neg h1]
  by_cases h2 : r < e.1.length
  · rw [if_pos (by omega), if_pos h2, Nat.sub_zero]
  · rw [if_neg (by omega), if_neg h2]
    unfold byt
    rw [List.getD_eq_getElem?_getD, List.getElem?_replicate, if_pos hr]
    rfl

theorem enB_enR {c : List UInt8} (hc : c.length = 128) {i : Nat} (hi : i < 8) (h : EnOk c i) {r : Nat} (hr : r < 16) : byt (enB (enR c i)) r = byt c (16 * i + r) := by
  have hn := nlen_le c 14 (16 * i)
  have hl : (enR c i).1.length = nlen c (16 * i) 14 := by
    show (cut _ _ _).length = _
    exact cut_len (by omega)
  rw [byt_enB (by omega) hr]
  by_cases h1 : r = 14
  · rw [if_pos h1, h1]
    show byt c (16 * i + 14) % 256 = _
    exact Nat.mod_eq_of_lt (byt_lt _ _)
  rw [if_neg h1, hl]
  by_cases h2 : r < nlen c (16 * i) 14
  · rw [if_pos h2]
    show byt (cut _ _ _) r = _
    exact byt_cut (by omega) h2
  · rw [if_neg h2]
    by_cases h3 : r = 15
    · rw [h3, h.pad]
    · exact (h.tail r (by omega) (by omega)).symm

theorem byt_wd {o data : List UInt8} {b : Nat → Nat} (hd : data.length ≤ 128) (hb : 128 * b 0 + 128 ≤ o.length) : ∀ {k : Nat}, k ≤ data.length → ∀ m, byt (wd o b data k) m = if 128 * b 0 ≤ m ∧ m < 128 * b 0 + k then byt data (m - 128 * b 0) else byt o m
  | 0, _, m => by
    rw [if_neg (by omega)]
    rfl
  | k + 1, hk, m => by
    unfold wd
    rw [show k / 128 = 0 by omega, show k % 128 = k by omega, byt_bput (by rw [wd_len]; omega) (byt_lt _ _), byt_wd hd hb (show k ≤ data.length by omega)]
    by_cases h1 : m = 128 * b 0 + k
    · subst h1
      rw [if_pos rfl, if_pos (by omega), show 128 * b 0 + k - 128 * b 0 = k by omega]
    · rw [if_neg h1]
      by_cases h2 : 128 * b 0 ≤ m ∧ m < 128 * b 0 + k
      · rw [if_pos h2, if_pos (by omega)]
      · rw [if_neg h2, if_neg (by omega)]

/-- All entries of a directory are written again, one of them anew. -/
theorem writeR_entry {e : List UInt8} (h0 : chk e = 0) {n : Nat} (hn : n < 32) (hk : rk e n = 2) {c : List UInt8} (hc : c.length = 128) (hok : ∀ i, i < 8 → EnOk c i) (hcc : ∀ i, i < 128 → byt e (128 * rb e n 0 + i) = byt c i)
    {k : Nat} (hk8 : k < 8) {x : En} (hx : x.1.length ≤ 14) : writeR e n (encB ((ens c 8).set k x)) = (wr16 e n k (enB x), 0) := by
  obtain ⟨hd, hOk⟩ := chk_zero h0
  obtain ⟨hs, hb1, hb2⟩ := dir_form hOk hn hk
  have hg : gete e n = 0 := (gete_iff h0).2 ⟨hn, by omega⟩
  have hnames : ∀ y ∈ (ens c 8).set k x, y.1.length ≤ 14 := fun y hy => by
    rcases List.mem_or_eq_of_mem_set hy with h5 | h5
    · obtain ⟨i, _, rfl⟩ := List.mem_map.1 h5
      have := nlen_le c 14 (16 * i)
      show (cut _ _ _).length ≤ 14
      unfold cut
      rw [List.length_take]
      omega
    · rw [h5]; exact hx
  have hel : ((ens c 8).set k x).length = 8 := by rw [List.length_set, ens_len]
  have hdl : (encB ((ens c 8).set k x)).length = 128 := by rw [encB_len hnames, hel]
  have hget : ∀ i (hi : i < 8), ((ens c 8).set k x)[i]'(by omega) = if i = k then x else enR c i := fun i hi => by
    rw [List.getElem_set]
    by_cases hik : k = i
    · rw [if_pos hik, if_pos hik.symm]
    · rw [if_neg hik, if_neg fun h => hik h.symm]
      simp [ens]
  have hbyt : ∀ i r, i < 8 → r < 16 → byt (encB ((ens c 8).set k x)) (16 * i + r) = if i = k then byt (enB x) r else byt c (16 * i + r) := fun i r hi hr => by
    rw [byt_encB hnames (by omega) hr, hget i hi]
    by_cases hik : i = k
    · rw [if_pos hik, if_pos hik]
    · rw [if_neg hik, if_neg hik, enB_enR hc hi (hok i hi) hr]
  have hexl := enB_len hx
  generalize encB ((ens c 8).set k x) = data at *
  have hwt : wt e (rb e n) ((data.length + 127) / 128) = some (e, rb e n) := by
    rw [hdl, show (128 + 127) / 128 = 0 + 1 from rfl]
    unfold wt
    unfold wt
    dsimp only
    rw [if_neg (by omega)]
  unfold writeR
  rw [if_neg (by rw [hg]; simp), if_neg (by omega), if_pos hk, if_neg (by omega), hwt]
  dsimp only
  have hwl : (wd e (rb e n) data data.length).length = 12288 := by rw [wd_len, hd]
  have hwb := fun m => byt_wd (o := e) (b := rb e n) (data := data) (by omega) (by omega) (k := data.length) (by omega) m
  generalize wd e (rb e n) data data.length = W at *
  rw [hdl] at hwb
  rw [hs, hdl, hk]
  have hwr : (wr16 e n k (enB x)).length = 12288 := wr16_len hd hOk hn hk hk8 hexl
  refine Prod.ext ?_ rfl
  dsimp only
  have hf := hOk.form n hn
  unfold formB at hf
  rw [Bool.and_eq_true, decide_eq_true_eq] at hf
  refine byt_ext (by rw [putI_len hwl hn, hwr]) fun m hm => ?_
  rw [byt_putI hwl hn, hwb]
  unfold wr16
  rw [byt_lay (by omega), hexl]
  by_cases h1 : 1792 + 16 * n ≤ m ∧ m < 1792 + 16 * n + 16
  · rw [if_pos h1, if_neg (by omega)]
    have := byt_dIno hf.1 (r := m - (1792 + 16 * n)) (by omega)
    rw [hk, hs] at this
    rw [show max 128 128 = 128 from rfl, this]
    congr 1
    omega
  · rw [if_neg h1]
    by_cases h2 : 128 * rb e n 0 ≤ m ∧ m < 128 * rb e n 0 + 128
    · rw [if_pos h2]
      obtain ⟨q, hq⟩ : ∃ q, q = m - 128 * rb e n 0 := ⟨_, rfl⟩
      have hq2 : q = 16 * (q / 16) + q % 16 := by omega
      rw [← hq, hq2, hbyt (q / 16) (q % 16) (by omega) (by omega)]
      by_cases h3 : q / 16 = k
      · rw [if_pos h3, if_pos (by omega)]
        congr 1
        omega
      · rw [if_neg h3, if_neg (by omega), ← hq2, ← hcc q (by omega)]
        congr 1
        omega
    · rw [if_neg h2, if_neg (by omega)]

theorem make_eq (d p : List UInt8) (kind : Int) : pmakeR d p kind = makeR d p kind := by
  unfold pmakeR makeR
  by_cases h38 : chk38 d = 0
  rotate_left
  · rw [if_pos h38, if_pos h38]
  have hne : ¬ chk38 d ≠ 0 := by rw [h38]; simp
  rw [if_neg hne, if_neg hne]
  obtain ⟨h0, hG, hE⟩ := tree_facts h38
  obtain ⟨hd, hok⟩ := chk_zero h0
  have hsn := splitR_names p
  generalize splitR p = sp at *
  obtain ⟨names, se⟩ := sp
  dsimp only at hsn ⊢
  by_cases hs : se ≠ 0
  · rw [if_pos hs, if_pos hs]
  rw [if_neg hs, if_neg hs]
  by_cases hk : kind ≠ 1 ∧ kind ≠ 2
  · rw [if_pos hk, if_pos hk]
  rw [if_neg hk, if_neg hk]
  by_cases hn : names = []
  · rw [if_pos hn, if_pos hn]
  rw [if_neg hn, if_neg hn]
  have hvn : ∀ s ∈ names, s ≠ [] := fun s hs h => by
    have := hsn s hs
    rw [h] at this
    cases this
  have hroot := root_in h0
  obtain ⟨hr1, hr2⟩ := mem_dl.1 hroot
  obtain ⟨hw1, hw2⟩ := walk_follow h38 names.dropLast 0 hr1 (by omega) fun s hs => hvn s (List.dropLast_subset _ hs)
  have hlast := getLast_eq hn
  have hlv : vname (names.getLastD []) = true := hsn _ (List.mem_of_getElem? hlast)
  have hln : names.getLastD [] ≠ [] := hvn _ (List.mem_of_getElem? hlast)
  rw [hw1]
  generalize followR d names.dropLast 0 = fr at *
  obtain ⟨at0, fe⟩ := fr
  dsimp only at hw2 ⊢
  by_cases hf : fe ≠ 0
  · rw [if_pos hf, if_pos hf]
  rw [if_neg hf, if_neg hf]
  obtain ⟨ha1, ha2⟩ := hw2 (by omega)
  generalize names.getLastD [] = last at *
  by_cases hdl : at0 ∈ (T0 d).dl
  · have hdr := dirR_dir h38 hdl
    rw [hdr]
    dsimp only
    rw [if_neg (show ¬ ((0 : Nat) ≠ 0) by decide), if_neg (show ¬ at0 ∉ (T0 d).dl from fun h => h hdl)]
    have hfind : ((T0 d).find at0 last).2 = 0 ↔ fidx ((T0 d).E at0) last ≠ none := by
      unfold Tree.find
      rw [if_pos hdl]
      cases fidx ((T0 d).E at0) last <;> simp
    by_cases hq : fidx ((T0 d).E at0) last ≠ none
    · rw [if_pos (hfind.2 hq), if_pos hq]
    rw [if_neg fun h => hq (hfind.1 h), if_neg hq]
    cases hfe : fidx ((T0 d).E at0) [] with
    | none => rfl
    | some k =>
      dsimp only
      have hkl := fidx_lt hfe
      rw [(T0_ok d).len] at hkl
      by_cases ha : (allocR d kind.toNat).2.2 ≠ 0
      · rw [if_pos ha, if_pos ha]
      rw [if_neg ha, if_neg ha]
      obtain ⟨g1, g2, n', x', g3, g4, g5, g6, g7, g8⟩ := alloc_ok h0 (kind := kind.toNat) (by omega) (by omega)
      obtain ⟨hat1, hat2⟩ := mem_dl.1 hdl
      have hne2 : at0 ≠ n' := fun e => by
        rw [e, g6] at hat2
        cases hat2
      obtain ⟨hss, hbb⟩ := g8 at0 hat1 hne2
      obtain ⟨q1, q2, q3, q4⟩ := slot_all hss
      obtain ⟨hcc, hb96⟩ := contentR_cut h0 hat1 hat2
      obtain ⟨_, hb18, _⟩ := dir_form hok hat1 hat2
      have hcl : (contentR d at0).length = 128 := by rw [hcc]; exact cut_len (by omega)
      have hw := writeR_entry g1 hat1 (by rw [q1]; exact hat2) hcl (entsOk_iff.1 (hE at0 hdl)) (fun i hi => by
        rw [q3 0 (by decide), (hbb (rb d at0 0) (mem_part.2 ⟨by omega, 0, by decide, rfl⟩)).2 _ (by omega) (by omega), hcc, byt_cut (by omega) hi]) hkl (x := (last, (allocR d kind.toNat).1)) (vname_len hlv).2
      have hEs : (T0 d).E at0 = ens (contentR d at0) 8 := rfl
      rw [hEs, hw]
  · have hdr := dirR_file h38 ha1 ha2 hdl
    rw [hdr]
    dsimp only
    have hfind : ((T0 d).find at0 last).2 ≠ 0 := by
      rw [find_err.2 hdl]
      decide
    rw [if_neg hfind, if_pos hdl, if_pos (by decide)]

end Go.Proofs.YtfeoedkmndkbjaaGreatDoor
namespace Go.Proofs.YtfeoedkmndkbjaaGreatDoor
open Go Go.Sx
set_option maxRecDepth 100000
set_option linter.unusedVariables false
set_option linter.unusedSimpArgs false

inductive Rch (ch : Nat → List Nat) : Nat → Prop
  | root : Rch ch 0
  | step {n x : Nat} : Rch ch n → x ∈ ch n → Rch ch x

theorem rch_pre {ch : Nat → List Nat} (hu : Uniq ch) {x : Nat} : x ∈ preo ch 33 0 ↔ Rch ch x := by
  constructor
  · intro h
    obtain ⟨k, hk⟩ := pre_lev 33 h
    clear h
    induction k generalizing x with
    | zero =>
      have : x = 0 := by simpa [lev] using hk
      subst this
      exact .root
    | succ k ih =>
      obtain ⟨y, hy, hx⟩ := lev_last k hk
      exact .step (ih hy) hx
  · intro h
    have hp := pre_perm 33 (low_root hu)
    induction h with
    | root => exact hp.mem_iff.2 (List.mem_cons_self ..)
    | step _ hx ih => exact hp.mem_iff.2 (List.mem_cons_of_mem _ (List.mem_flatMap.2 ⟨_, ih, hx⟩))

theorem chk38_of {e : List UInt8} (h0 : chk e = 0) (hE : ∀ n ∈ (T0 e).dl, entsOk (contentR e n) = true) (hf : (T0 e).Fine) (hr : ∀ n, n < 32 → rk e n ≠ 0 → Rch (T0 e).ch n) : chk38 e = 0 := by
  rw [← openE_eq]
  unfold openE
  rw [if_neg (show ¬ chk e ≠ 0 by rw [h0]; simp), if_pos (show PentsAll e from fun n hn => (pents_of_ents.1 (hE n hn)).1)]
  unfold Tree.res
  exact if_pos ⟨hf, fun n hn hk => (V_pre (T0 e) 33 0 [] n).2 ((rch_pre hf.uniq).2 (hr n hn hk))⟩

theorem tree_rch {d : List UInt8} (h : chk38 d = 0) {n : Nat} (hn : n < 32) (hk : rk d n ≠ 0) : Rch (T0 d).ch n := by
  obtain ⟨-, hG, -⟩ := tree_facts h
  exact (rch_pre hG.fine.uniq).1 ((V_pre (T0 d) 33 0 [] n).1 (hG.all n hn hk))

/-- An inode is the same on two disks, with its blocks. -/
structure SameIno (d e : List UInt8) (m : Nat) : Prop where
  slot : SlotSame d e m
  blk : ∀ y ∈ part d m 12, ∀ i, 128 * y ≤ i → i < 128 * y + 128 → byt e i = byt d i

theorem contB_same {d e : List UInt8} {b b' : Nat → Nat} (hd : d.length = 12288) (he : e.length = 12288) (hb : ∀ i, i < 12 → b' i = b i) (h9 : ∀ i, i < 12 → b i < 96)
    (hs : ∀ i, i < 12 → b i ≠ 0 → ∀ m, 128 * b i ≤ m → m < 128 * b i + 128 → byt e m = byt d m) : ∀ k, k ≤ 12 → contB e b' k = contB d b k
  | 0, _ => rfl
  | k + 1, hk => by
    show contB e b' k ++ blockOf e (b' k) = contB d b k ++ blockOf d (b k)
    rw [contB_same hd he hb h9 hs k (by omega), hb k (by omega)]
    congr 1
    unfold blockOf
    have := h9 k (by omega)
    split
    · rfl
    · rename_i h
      exact cut_same (by omega) (by omega) (hs k (by omega) h)

theorem content_same {d e : List UInt8} (h0 : chk d = 0) (g0 : chk e = 0) {m : Nat} (hm : m < 32) (hk : rk d m ≠ 0) (h : SameIno d e m) : contentR e m = contentR d m := by
  obtain ⟨hd, hok⟩ := chk_zero h0
  obtain ⟨he, _⟩ := chk_zero g0
  obtain ⟨q1, q2, q3, _⟩ := slot_all h.slot
  have e1 : gete d m = 0 := (gete_iff h0).2 ⟨hm, hk⟩
  have e2 : gete e m = 0 := (gete_iff g0).2 ⟨hm, by rw [q1]; exact hk⟩
  unfold contentR
  rw [e1, e2, if_neg (by decide), if_neg (by decide), q2, contB_same hd he q3 (fun i hi => ok_blocks hok hm hi) (fun i hi hn m a b => h.blk _ (mem_part.2 ⟨hn, i, hi, rfl⟩) m a b) 12 (Nat.le_refl _)]

theorem nlen_same {c c' : List UInt8} : ∀ (m o : Nat), (∀ j, j < m → byt c' (o + j) = byt c (o + j)) → nlen c' o m = nlen c o m
  | 0, _, _ => rfl
  | m + 1, o, h => by
    have e0 : byt c' o = byt c o := h 0 (by omega)
    have h2 : ∀ j, j < m → byt c' (o + 1 + j) = byt c (o + 1 + j) := fun j hj => by
      rw [show o + 1 + j = o + (j + 1) by omega]
      exact h (j + 1) (by omega)
    unfold nlen
    rw [e0, nlen_same m (o + 1) h2]

section
variable {c c' : List UInt8} (hc : c.length = 128) (hc' : c'.length = 128)

include hc' in
theorem enR_new {i : Nat} (hi : i < 8) {x : En} (hx : x.1.length ≤ 14) (hz : ∀ j, j < x.1.length → byt x.1 j ≠ 0) (h2 : x.2 < 256) (h : ∀ r, r < 16 → byt c' (16 * i + r) = byt (enB x) r) :
    enR c' i = x ∧ nlen c' (16 * i) 14 = x.1.length ∧ (∀ k, k < 14 → x.1.length ≤ k → byt c' (16 * i + k) = 0) ∧ byt c' (16 * i + 15) = 0 := by
  have hb : ∀ r, r < 16 → byt c' (16 * i + r) = if r = 14 then x.2 % 256 else if r < x.1.length then byt x.1 r else 0 := fun r hr => by rw [h r hr, byt_enB hx hr]
  have hn : nlen c' (16 * i) 14 = x.1.length := nlen_eq c' 14 (16 * i) _ hx (fun j hj => by rw [hb j (by omega), if_neg (by omega), if_pos hj]; exact hz j hj) (by
    by_cases h14 : x.1.length = 14
    · exact .inl h14
    · refine .inr ?_
      rw [hb _ (by omega), if_neg h14, if_neg (by omega)])
  refine ⟨?_, hn, fun k hk hk2 => by rw [hb k (by omega), if_neg (by omega), if_neg (by omega)], by rw [hb 15 (by decide), if_neg (by decide), if_neg (by omega)]⟩
  unfold enR
  rw [hn, hb 14 (by decide), if_pos rfl, Nat.mod_eq_of_lt h2]
  refine Prod.ext ?_ rfl
  dsimp only
  refine byt_ext (by rw [cut_len (by omega)]) fun j hj => ?_
  rw [cut_len (by omega)] at hj
  rw [byt_cut (by omega) hj, hb j (by omega), if_neg (by omega), if_pos hj]

include hc hc'
theorem enR_same {i : Nat} (hi : i < 8) (h : ∀ r, r < 16 → byt c' (16 * i + r) = byt c (16 * i + r)) : enR c' i = enR c i := by
  unfold enR
  rw [nlen_same 14 (16 * i) fun j hj => h j (by omega), h 14 (by decide)]
  have := nlen_le c 14 (16 * i)
  rw [cut_same (d := c) (by omega) (by omega) fun m a b => by have := h (m - 16 * i) (by omega); rwa [show 16 * i + (m - 16 * i) = m by omega] at this]

variable {k : Nat} (hk : k < 8) {x : En} (hx : x.1.length ≤ 14) (hz : ∀ j, j < x.1.length → byt x.1 j ≠ 0) (h2 : x.2 < 256) (hnew : ∀ r, r < 16 → byt c' (16 * k + r) = byt (enB x) r)
  (hold : ∀ i, i < 8 → i ≠ k → ∀ r, r < 16 → byt c' (16 * i + r) = byt c (16 * i + r))
include hk hx hz h2 hnew hold

theorem ens_set : ens c' 8 = (ens c 8).set k x := by
  refine List.ext_getElem (by simp [ens]) fun i h3 h4 => ?_
  have hi : i < 8 := by simpa [ens] using h3
  rw [List.getElem_set]
  by_cases hik : k = i
  · subst hik
    rw [if_pos rfl]
    simp only [ens, List.getElem_map, List.getElem_range]
    exact (enR_new hc' hk hx hz h2 hnew).1
  · rw [if_neg hik]
    simp only [ens, List.getElem_map, List.getElem_range]
    exact enR_same hc hc' hi (hold i hi (Ne.symm hik))

theorem ents_set (hok : entsOk c = true) (hname : x = ([], 0) ∨ (vname x.1 = true ∧ x.2 ≠ 0)) (honly : x.1 = [] ∨ ∀ i, i < 8 → i ≠ k → (enR c i).1 ≠ x.1) : entsOk c' = true := by
  rw [entsOk_iff] at hok ⊢
  obtain ⟨e1, e2, e3, e4⟩ := enR_new hc' hk hx hz h2 hnew
  intro i hi
  by_cases hik : i = k
  · subst hik
    refine ⟨fun q hq hq2 => e3 q hq (by omega), e4, by rw [e1]; exact hname, ?_⟩
    rw [e1]
    rcases honly with h | h
    · exact .inl h
    · exact .inr fun q hq => by
        rw [enR_same hc hc' (by omega) (hold q (by omega) (by omega))]
        exact h q (by omega) (by omega)
  · have e := enR_same hc hc' hi (hold i hi hik)
    have o := hok i hi
    have hn := nlen_same (c := c) (c' := c') 14 (16 * i) fun j hj => hold i hi hik j (by omega)
    refine ⟨fun q hq hq2 => ?_, ?_, by rw [e]; exact o.name, ?_⟩
    · rw [hold i hi hik q (by omega)]
      exact o.tail q hq (by omega)
    · rw [hold i hi hik 15 (by decide)]
      exact o.pad
    · rw [e]
      by_cases h6 : (enR c i).1 = []
      · exact .inl h6
      · refine .inr fun q hq => ?_
        have h7 := o.only.resolve_left h6
        by_cases hqk : q = k
        · subst hqk
          rw [e1]
          intro heq
          rcases honly with h | h
          · exact h6 (by rw [← heq, h])
          · exact h i hi hik heq.symm
        · rw [enR_same hc hc' (by omega) (hold q (by omega) hqk)]
          exact h7 q hq
end

theorem nodes_append (a b : List En) : nodes (a ++ b) = nodes a ++ nodes b := by unfold nodes; rw [List.filter_append, List.map_append]

theorem nodes_cons2 (e : En) (l : List En) : nodes (e :: l) = (if e.1 = [] then [] else [e.2]) ++ nodes l := by
  rw [nodes_cons]
  split <;> rfl

theorem nodes_set {l : List En} {k : Nat} (hk : k < l.length) (x : En) : nodes (l.set k x) = nodes (l.take k) ++ ((if x.1 = [] then [] else [x.2]) ++ nodes (l.drop (k + 1))) := by
  rw [List.set_eq_take_append_cons_drop, if_pos hk, nodes_append, nodes_cons2]

theorem nodes_part {l : List En} {k : Nat} (hk : k < l.length) : nodes l = nodes (l.take k) ++ ((if l[k].1 = [] then [] else [l[k].2]) ++ nodes (l.drop (k + 1))) := by
  rw [← nodes_cons2, ← List.drop_eq_getElem_cons hk, ← nodes_append, List.take_append_drop]

theorem nodes_add {l : List En} {k : Nat} (hk : k < l.length) (h0 : l[k].1 = []) {x : En} (hx : x.1 ≠ []) : (nodes (l.set k x)).Perm (x.2 :: nodes l) := by
  rw [nodes_set hk, nodes_part hk, if_pos h0, if_neg hx, List.nil_append]
  exact List.perm_middle

/-- What Alloc leaves, more of it. -/
theorem alloc_more {d : List UInt8} (h0 : chk d = 0) {kind : Nat} (hk : kind = 1 ∨ kind = 2) (he : (allocR d kind).2.2 = 0) :
    freeI d = some (allocR d kind).1 ∧ (∃ x, ∀ i, i / 128 ≠ 13 → i / 128 ≠ 14 + (allocR d kind).1 / 8 → i / 128 ≠ x → byt (allocR d kind).2.1 i = byt d i) ∧
      (kind = 2 → ∀ i, i < 128 → byt (allocR d kind).2.1 (128 * rb (allocR d kind).2.1 (allocR d kind).1 0 + i) = 0) := by
  obtain ⟨hd, hok⟩ := chk_zero h0
  unfold allocR at he ⊢
  have hne : ¬ chk d ≠ 0 := by rw [h0]; simp
  rw [if_neg hne] at he ⊢
  cases hf : freeI d with
  | none => rw [hf] at he; cases he
  | some n =>
    rw [hf] at he
    obtain ⟨hn, hkn⟩ := freeI_lt hf
    dsimp only at he ⊢
    by_cases h2 : kind = 2
    · subst h2
      rw [if_pos rfl] at he ⊢
      cases hx : freeB (bmp d) with
      | none => rw [hx] at he; cases he
      | some x =>
        dsimp only
        obtain ⟨hx1, hx2⟩ := freeB_lt hx
        have hbl := bmp_len hd
        have hpb : (putB (bmp d) x true).length = 12 := by rw [putB_len, hbl]
        have hsl := setBmp_len hd hpb
        have hz : (List.replicate 128 (0 : UInt8)).length = 128 := List.length_replicate
        have htl := takeD_len hd hx2
        have htb : ∀ m, byt (takeD d x) m = if 128 * x ≤ m ∧ m < 128 * x + 128 then byt (List.replicate 128 0) (m - 128 * x) else if 1664 ≤ m ∧ m < 1676 then byt (putB (bmp d) x true) (m - 1664) else byt d m := fun m => by
          unfold takeD
          rw [byt_lay (by rw [hz]; omega), hz, byt_setBmp hd hpb]
        obtain ⟨f1, f2, f3, f4⟩ := putI_fields htl hn 2 128 (fun i => if i = 0 then x else 0) (by decide) (by decide) (fun i _ => by split <;> omega)
        have hpb2 := byt_putI htl hn 2 128 (fun i => if i = 0 then x else 0)
        have f30 := f3 0 (by decide)
        rw [if_pos rfl] at f30
        refine ⟨rfl, ⟨x, fun i a b c => ?_⟩, fun _ i hi => ?_⟩
        · rw [hpb2, if_neg (by omega), htb, if_neg (by omega), if_neg (by omega)]
        · rw [f30, hpb2, if_neg (by omega), htb, if_pos (by omega)]
          unfold byt
          rw [List.getD_eq_getElem?_getD, List.getElem?_replicate]
          split <;> rfl
    · rw [if_neg h2] at he ⊢
      dsimp only
      have hpb2 := byt_putI hd hn 1 0 (fun _ => 0)
      refine ⟨rfl, ⟨0, fun i a b c => ?_⟩, fun h => absurd h h2⟩
      rw [hpb2, if_neg (by omega)]

theorem dir_bytes {d : List UInt8} (h0 : chk d = 0) {n : Nat} (hn : n < 32) (hk : rk d n = 2) : (contentR d n).length = 128 ∧ (∀ i, i < 128 → byt (contentR d n) i = byt d (128 * rb d n 0 + i)) ∧ 18 ≤ rb d n 0 ∧ rb d n 0 < 96 ∧ rb d n 0 ∈ part d n 12 ∧ rs d n = 128 := by
  obtain ⟨hd, hok⟩ := chk_zero h0
  obtain ⟨hcc, hb96⟩ := contentR_cut h0 hn hk
  obtain ⟨h1, h2, h3⟩ := dir_form hok hn hk
  rw [hcc]
  exact ⟨cut_len (by omega), fun i hi => byt_cut (by omega) hi, h2, h3, mem_part.2 ⟨by omega, 0, by decide, rfl⟩, h1⟩

/-- An entry of a directory is written. -/
theorem wr16_ok {e : List UInt8} (h0 : chk e = 0) {n : Nat} (hn : n < 32) (hk : rk e n = 2) {k : Nat} (hk8 : k < 8) {x : En} (hx : x.1.length ≤ 14) (hz : ∀ j, j < x.1.length → byt x.1 j ≠ 0) (h2 : x.2 < 256) :
    chk (wr16 e n k (enB x)) = 0 ∧ (∀ m, m < 32 → SlotSame e (wr16 e n k (enB x)) m) ∧ (∀ m, m < 32 → m ≠ n → SameIno e (wr16 e n k (enB x)) m) ∧ (∀ i, i / 128 ≠ rb e n 0 → byt (wr16 e n k (enB x)) i = byt e i) ∧
      ens (contentR (wr16 e n k (enB x)) n) 8 = (ens (contentR e n) 8).set k x ∧
      (entsOk (contentR e n) = true → (x = ([], 0) ∨ (vname x.1 = true ∧ x.2 ≠ 0)) → (x.1 = [] ∨ ∀ i, i < 8 → i ≠ k → (enR (contentR e n) i).1 ≠ x.1) → entsOk (contentR (wr16 e n k (enB x)) n) = true) := by
  obtain ⟨hd, hok⟩ := chk_zero h0
  obtain ⟨c1, c2, c3, c4, c5, c6⟩ := dir_bytes h0 hn hk
  obtain ⟨p1, p2⟩ := ok_parts hok
  have hxl := enB_len hx
  have hwl := wr16_len hd hok hn hk hk8 hxl
  have hby : ∀ m, byt (wr16 e n k (enB x)) m = if 128 * rb e n 0 + 16 * k ≤ m ∧ m < 128 * rb e n 0 + 16 * k + 16 then byt (enB x) (m - (128 * rb e n 0 + 16 * k)) else byt e m := fun m => by
    unfold wr16
    rw [byt_lay (by omega), hxl]
  generalize wr16 e n k (enB x) = f at *
  have hslot : ∀ m, m < 32 → SlotSame e f m := fun m hm r hr => by rw [hby, if_neg (by omega)]
  have hblk : ∀ m, m < 32 → m ≠ n → ∀ y ∈ part e m 12, ∀ i, 128 * y ≤ i → i < 128 * y + 128 → byt f i = byt e i := fun m hm hmn y hy i a b => by
    have hne : y ≠ rb e n 0 := fun h => p2 m n hm hn hmn y hy (h ▸ c5)
    rw [hby, if_neg (by omega)]
  have hpf : part f n 12 = part e n 12 := slot_part (hslot n hn)
  obtain ⟨q1, q2, q3, q4⟩ := slot_all (hslot n hn)
  have hOk : Ok37 f := by
    refine ok_change hok hd hwl hn (fun m hm => by rw [hby, if_neg (by omega)]) (fun m a b => by rw [hby, if_neg (by omega)]) (fun m hm _ => hslot m hm) ?_ hblk (by rw [hpf]; exact p1 n hn) (fun m hm hmn y hy => ?_) (fun j hj => ?_)
    · have hf := hok.form n hn
      unfold formB at hf ⊢
      rw [q4, q1, q2]
      have hnz : ∀ b : Nat → Nat, ¬ inoZ (rk e n) (rs e n) b = true := fun b h => by
        have := (inoZ_iff.1 h).1
        omega
      rw [if_neg (hnz _)] at hf ⊢
      rw [Bool.and_eq_true, decide_eq_true_eq, decide_eq_true_eq] at hf ⊢
      obtain ⟨g0, g1, g2, g3, g4, g5, g6⟩ := hf
      refine ⟨g0, by rw [q1]; exact g1, by rw [q2]; exact g2, fun h => by rw [q1]; exact g3 h, fun i hi h => by rw [q3 i hi, q2] at *; exact g4 i hi h, ?_, by rw [q1, q2, q3 0 (by decide)]; exact g6⟩
      unfold tailZ
      rw [q2, c6]
      rfl
    · rw [hpf] at hy
      exact fun h => p2 n m hn hm (Ne.symm hmn) y hy h
    · rw [bmp_of_same hd hwl fun m a b => by rw [hby, if_neg (by omega)], ok_bit hok j, hpf]
      constructor
      · rintro (h | ⟨m, hm, h⟩)
        · exact .inl h
        · by_cases hmn : m = n
          · subst hmn
            exact .inr (.inl h)
          · exact .inr (.inr ⟨m, hm, hmn, h⟩)
      · rintro (h | h | ⟨m, hm, _, h⟩)
        · exact .inl h
        · exact .inr ⟨n, hn, h⟩
        · exact .inr ⟨m, hm, h⟩
  have hf0 := chk_ok hwl hOk
  obtain ⟨d1, d2, d3, d4, d5, d6⟩ := dir_bytes hf0 hn (by rw [q1]; exact hk)
  have hcont : ∀ i, i < 128 → byt (contentR f n) i = if 16 * k ≤ i ∧ i < 16 * k + 16 then byt (enB x) (i - 16 * k) else byt (contentR e n) i := fun i hi => by
    rw [d2 i hi, q3 0 (by decide), hby, c2 i hi]
    by_cases h : 16 * k ≤ i ∧ i < 16 * k + 16
    · rw [if_pos h, if_pos (by omega)]
      congr 1
      omega
    · rw [if_neg h, if_neg (by omega)]
  have hnew : ∀ r, r < 16 → byt (contentR f n) (16 * k + r) = byt (enB x) r := fun r hr => by
    rw [hcont _ (by omega), if_pos (by omega)]
    congr 1
    omega
  have hold : ∀ i, i < 8 → i ≠ k → ∀ r, r < 16 → byt (contentR f n) (16 * i + r) = byt (contentR e n) (16 * i + r) := fun i hi hik r hr => by
    rw [hcont _ (by omega), if_neg (by omega)]
  exact ⟨hf0, hslot, fun m hm hmn => ⟨hslot m hm, hblk m hm hmn⟩, fun i hi => by rw [hby, if_neg (by omega)], ens_set c1 d1 hk8 hx hz h2 hnew hold, fun a b c => ents_set c1 d1 hk8 hx hz h2 hnew hold a b c⟩

end Go.Proofs.YtfeoedkmndkbjaaGreatDoor
namespace Go.Proofs.YtfeoedkmndkbjaaGreatDoor
open Go Go.Sx
set_option maxRecDepth 100000
set_option linter.unusedVariables false
set_option linter.unusedSimpArgs false

structure Made (d e : List UInt8) (at0 k n kind : Nat) (last : List UInt8) : Prop where
  ok : chk38 e = 0
  dir : at0 ∈ (T0 d).dl
  k8 : k < 8
  was : ∀ h : k < ((T0 d).E at0).length, ((T0 d).E at0)[k].1 = []
  name : vname last = true
  new : fidx ((T0 d).E at0) last = none
  n32 : n < 32
  n0 : n ≠ 0
  free : rk d n = 0
  kd : rk e n = kind
  kinds : ∀ m, m < 32 → m ≠ n → rk e m = rk d m
  slots : ∀ m, m < 32 → m ≠ n → SlotSame d e m
  es : ∀ m ∈ (T0 d).dl, m ≠ at0 → (T0 e).E m = (T0 d).E m
  esAt : (T0 e).E at0 = ((T0 d).E at0).set k (last, n)
  esN : kind = 2 → (T0 e).E n = List.replicate 8 ([], 0)
  cont : ∀ m, m < 32 → rk d m ≠ 0 → m ≠ at0 → contentR e m = contentR d m
  diff : ∃ x y, ∀ i, i / 128 ≠ 13 → i / 128 ≠ 14 + n / 8 → i / 128 ≠ x → i / 128 ≠ y → byt e i = byt d i

theorem fidx_some {l : List En} {s : List UInt8} {k : Nat} (h : fidx l s = some k) : ∃ hk : k < l.length, l[k].1 = s := by
  have hk := fidx_lt h
  unfold fidx at h
  rw [List.findIdx?_eq_some_iff_getElem] at h
  obtain ⟨h1, h2, _⟩ := h
  exact ⟨h1, by simpa using h2⟩

theorem fidx_none {l : List En} {s : List UInt8} : fidx l s = none ↔ ∀ e ∈ l, e.1 ≠ s := by
  unfold fidx
  rw [List.findIdx?_eq_none_iff]
  simp

theorem enR_zero {c : List UInt8} (hc : c.length = 128) (h : ∀ i, i < 128 → byt c i = 0) {i : Nat} (hi : i < 8) : enR c i = ([], 0) :=
  (enR_new (c' := c) hc hi (x := ([], 0)) (by decide) (fun j hj => absurd hj (by simp)) (by decide) fun r hr => by
    rw [byt_enB (by decide) hr, h _ (by omega)]
    split
    · rfl
    · rw [if_neg (by simp)]).1

theorem ens_zero {c : List UInt8} (hc : c.length = 128) (h : ∀ i, i < 128 → byt c i = 0) : ens c 8 = List.replicate 8 ([], 0) := by
  refine List.ext_getElem (by simp [ens]) fun i h1 h2 => ?_
  have hi : i < 8 := by simpa [ens] using h1
  simp only [ens, List.getElem_map, List.getElem_range, List.getElem_replicate]
  exact enR_zero hc h hi

theorem entsOk_zero {c : List UInt8} (hc : c.length = 128) (h : ∀ i, i < 128 → byt c i = 0) : entsOk c = true := by
  rw [entsOk_iff]
  have he : ∀ i, i < 8 → enR c i = ([], 0) := fun i hi => enR_zero hc h hi
  intro i hi
  exact ⟨fun k hk _ => h _ (by omega), h _ (by omega), .inl (he i hi), .inl (by rw [he i hi])⟩

theorem T0_E (d : List UInt8) (n : Nat) : (T0 d).E n = ens (contentR d n) 8 := rfl

theorem made_of {d : List UInt8} (h38 : chk38 d = 0) {kind : Nat} (hk : kind = 1 ∨ kind = 2) (he : (allocR d kind).2.2 = 0) {at0 k : Nat} {last : List UInt8} (hdl : at0 ∈ (T0 d).dl) (hv : vname last = true)
    (hnew : fidx ((T0 d).E at0) last = none) (hfk : fidx ((T0 d).E at0) [] = some k) :
    Made d (wr16 (allocR d kind).2.1 at0 k (enB (last, (allocR d kind).1))) at0 k (allocR d kind).1 kind last := by
  obtain ⟨h0, hG, hE⟩ := tree_facts h38
  obtain ⟨g1, g2, n', x', g3, g4, g5, g6, g7, g8⟩ := alloc_ok h0 hk he
  obtain ⟨f1, ⟨x, f2⟩, f3⟩ := alloc_more h0 hk he
  obtain ⟨hat1, hat2⟩ := mem_dl.1 hdl
  obtain ⟨hk8, hkn⟩ := fidx_some hfk
  rw [(T0_ok d).len] at hk8
  rw [g3] at f2 f3 ⊢
  generalize (allocR d kind).2.1 = e1 at *
  generalize (allocR d kind).1 = n1 at *
  subst g3
  have hne : at0 ≠ n1 := fun e => by rw [e, g6] at hat2; cases hat2
  have hs1 : ∀ m, m < 32 → m ≠ n1 → SameIno d e1 m := fun m hm hmn => ⟨(g8 m hm hmn).1, fun y hy => ((g8 m hm hmn).2 y hy).2⟩
  obtain ⟨q1, q2, q3, q4⟩ := slot_all (hs1 at0 hat1 hne).slot
  have hc1 := content_same h0 g1 hat1 (by omega) (hs1 at0 hat1 hne)
  have hnm : fidx ((T0 d).E at0) last = none := hnew
  rw [fidx_none] at hnew
  have hnm2 : ∀ i, i < 8 → (enR (contentR d at0) i).1 ≠ last := fun i hi => hnew _ (List.mem_map.2 ⟨i, List.mem_range.2 hi, rfl⟩)
  obtain ⟨w1, w2, w3, w4, w5, w6⟩ := wr16_ok g1 hat1 (by rw [q1]; exact hat2) hk8 (x := (last, n1)) (vname_len hv).2 (vname_nz hv) (by show n1 < 256; omega)
  rw [hc1] at w5 w6
  have hw6 := w6 (hE at0 hdl) (.inr ⟨hv, g5⟩) (.inr fun i hi _ => hnm2 i hi)
  generalize wr16 e1 at0 k (enB (last, n1)) = e at *
  have hkinds : ∀ m, m < 32 → m ≠ n1 → rk e m = rk d m := fun m hm hmn => by
    rw [(slot_all (w2 m hm)).1, (slot_all (hs1 m hm hmn).slot).1]
  have hkn1 : rk e n1 = kind := by rw [(slot_all (w2 n1 g4)).1, g7]
  have hcont : ∀ m, m < 32 → rk d m ≠ 0 → m ≠ at0 → contentR e m = contentR d m := fun m hm hmk hma => by
    have hmn : m ≠ n1 := fun h => by rw [h] at hmk; exact hmk g6
    rw [content_same g1 w1 hm (by rw [(slot_all (hs1 m hm hmn).slot).1]; exact hmk) (w3 m hm hma), content_same h0 g1 hm hmk (hs1 m hm hmn)]
  have hzero : kind = 2 → (contentR e n1).length = 128 ∧ ∀ i, i < 128 → byt (contentR e n1) i = 0 := fun h2 => by
    obtain ⟨d1, d2, _⟩ := dir_bytes g1 g4 (by rw [g7]; exact h2)
    rw [content_same g1 w1 g4 (by omega) (w3 n1 g4 (Ne.symm hne))]
    exact ⟨d1, fun i hi => by rw [d2 i hi]; exact f3 h2 i hi⟩
  have hes : ∀ m ∈ (T0 d).dl, m ≠ at0 → (T0 e).E m = (T0 d).E m := fun m hm hma => by
    obtain ⟨m1, m2⟩ := mem_dl.1 hm
    rw [T0_E, T0_E, hcont m m1 (by omega) hma]
  have hesN : kind = 2 → (T0 e).E n1 = List.replicate 8 ([], 0) := fun h2 => ens_zero (hzero h2).1 (hzero h2).2
  have hdle : ∀ m, m ∈ (T0 e).dl ↔ m ∈ (T0 d).dl ∨ (m = n1 ∧ kind = 2) := fun m => by
    rw [mem_dl, mem_dl]
    by_cases hm : m = n1
    · subst hm
      rw [hkn1]
      constructor
      · rintro ⟨_, h⟩; exact .inr ⟨rfl, h⟩
      · rintro (⟨_, h⟩ | ⟨_, h⟩)
        · omega
        · exact ⟨g4, h⟩
    · constructor
      · rintro ⟨a, b⟩
        exact .inl ⟨a, by rw [← hkinds m a hm]; exact b⟩
      · rintro (⟨a, b⟩ | ⟨a, _⟩)
        · exact ⟨a, by rw [hkinds m a hm]; exact b⟩
        · exact absurd a hm
  have hlast : last ≠ [] := fun h => by rw [h] at hv; cases hv
  have hEl : k < ((T0 d).E at0).length := by rw [(T0_ok d).len]; exact hk8
  have hchAt : ((T0 e).ch at0).Perm (n1 :: (T0 d).ch at0) := by
    rw [T0_ch ((hdle at0).2 (.inl hdl)), T0_ch hdl, w5]
    exact nodes_add (l := ens (contentR d at0) 8) hEl hkn (x := (last, n1)) hlast
  have hch : ∀ m ∈ (T0 d).dl, m ≠ at0 → (T0 e).ch m = (T0 d).ch m := fun m hm hma => by
    rw [(T0 e).ch_es ((hdle m).2 (.inl hm)), (T0 d).ch_es hm, hes m hm hma]
  have hchN : (T0 e).ch n1 = [] := by
    by_cases h2 : kind = 2
    · rw [(T0 e).ch_es ((hdle n1).2 (.inr ⟨rfl, h2⟩)), hesN h2]
      rfl
    · exact (T0 e).ch_no fun h => by
        rcases (hdle n1).1 h with h | h
        · have := (mem_dl.1 h).2; omega
        · exact h2 h.2
  have hmem : ∀ m x, x ∈ (T0 e).ch m ↔ x ∈ (T0 d).ch m ∨ (m = at0 ∧ x = n1) := fun m x => by
    by_cases hma : m = at0
    · subst hma
      rw [hchAt.mem_iff, List.mem_cons]
      constructor
      · rintro (h | h)
        · exact .inr ⟨rfl, h⟩
        · exact .inl h
      · rintro (h | ⟨_, h⟩)
        · exact .inr h
        · exact .inl h
    · by_cases hmd : m ∈ (T0 d).dl
      · rw [hch m hmd hma]
        simp [hma]
      · rw [(T0 d).ch_no hmd]
        have : (T0 e).ch m = [] := by
          by_cases hmn : m = n1
          · rw [hmn]; exact hchN
          · exact (T0 e).ch_no fun h => by
              rcases (hdle m).1 h with h | h
              · exact hmd h
              · exact hmn h.1
        rw [this]
        simp [hma]
  have hin : ∀ m x, x ∈ (T0 d).ch m → x ≠ 0 ∧ x < 32 ∧ rk d x ≠ 0 ∧ x ≠ n1 := fun m x hx => by
    by_cases hmd : m ∈ (T0 d).dl
    · obtain ⟨a, b, c⟩ := hG.fine.ok m hmd x hx
      exact ⟨a, b, c, fun h => by rw [h] at c; exact c g6⟩
    · rw [(T0 d).ch_no hmd] at hx
      cases hx
  have hfine : (T0 e).Fine := by
    refine ⟨fun m hm x hx => ?_, fun m hm => ?_, fun m hm m' hm' x hx hx' => ?_⟩
    · rcases (hmem m x).1 hx with h | ⟨_, h⟩
      · obtain ⟨a, b, c, e'⟩ := hin m x h
        exact ⟨a, b, by show rk e x ≠ 0; rw [hkinds x b e']; exact c⟩
      · subst h
        exact ⟨g5, g4, by show rk e x ≠ 0; rw [hkn1]; omega⟩
    · by_cases hma : m = at0
      · subst hma
        refine hchAt.nodup_iff.2 (List.nodup_cons.2 ⟨fun h => (hin _ _ h).2.2.2 rfl, hG.fine.nd m hdl⟩)
      · by_cases hmd : m ∈ (T0 d).dl
        · rw [hch m hmd hma]
          exact hG.fine.nd m hmd
        · rcases (hdle m).1 hm with h | h
          · exact absurd h hmd
          · rw [h.1, hchN]
            exact List.nodup_nil
    · have hdd : ∀ m y, y ∈ (T0 d).ch m → m ∈ (T0 d).dl := fun m y hy => Classical.byContradiction fun h => by
        rw [(T0 d).ch_no h] at hy
        cases hy
      rcases (hmem m x).1 hx with h | ⟨h, h'⟩
      · rcases (hmem m' x).1 hx' with h2 | ⟨_, h2⟩
        · exact hG.fine.one m (hdd m x h) m' (hdd m' x h2) x h h2
        · exact absurd h2 (hin m x h).2.2.2
      · rcases (hmem m' x).1 hx' with h2 | ⟨h2, _⟩
        · exact absurd h' (hin m' x h2).2.2.2
        · rw [h, h2]
  have hrch : ∀ m, Rch (T0 d).ch m → Rch (T0 e).ch m := fun m h => by
    induction h with
    | root => exact .root
    | step _ hx ih => exact .step ih ((hmem _ _).2 (.inl hx))
  have hok : chk38 e = 0 := by
    refine chk38_of w1 (fun m hm => ?_) hfine fun m hm hmk => ?_
    · rcases (hdle m).1 hm with h | ⟨h, h2⟩
      · by_cases hma : m = at0
        · rw [hma]; exact hw6
        · obtain ⟨m1, m2⟩ := mem_dl.1 h
          rw [hcont m m1 (by omega) hma]
          exact hE m h
      · rw [h]
        exact entsOk_zero (hzero h2).1 (hzero h2).2
    · by_cases hmn : m = n1
      · rw [hmn]
        exact .step (hrch at0 (tree_rch h38 hat1 (by omega))) ((hmem _ _).2 (.inr ⟨rfl, rfl⟩))
      · exact hrch m (tree_rch h38 hm (by rw [← hkinds m hm hmn]; exact hmk))
  exact ⟨hok, hdl, hk8, fun h => hkn, hv, hnm, g4, g5, g6, hkn1, hkinds, fun m hm hmn r hr => by rw [w2 m hm r hr, (hs1 m hm hmn).slot r hr], hes, w5, hesN, hcont, ⟨x, rb e1 at0 0, fun i a b c c' => by rw [w4 i c', f2 i a b c]⟩⟩

/-- Make writes one entry. -/
theorem make_write {d : List UInt8} (h38 : chk38 d = 0) {kind : Nat} (hk : kind = 1 ∨ kind = 2) (he : (allocR d kind).2.2 = 0) {at0 k : Nat} {last : List UInt8} (hdl : at0 ∈ (T0 d).dl) (hv : vname last = true)
    (hfe : fidx ((T0 d).E at0) [] = some k) : (writeR (allocR d kind).2.1 at0 (encB (((T0 d).E at0).set k (last, (allocR d kind).1)))).1 = wr16 (allocR d kind).2.1 at0 k (enB (last, (allocR d kind).1)) := by
  obtain ⟨h0, hG, hE⟩ := tree_facts h38
  have hkl := fidx_lt hfe
  rw [(T0_ok d).len] at hkl
  obtain ⟨g1, g2, n', x', g3, g4, g5, g6, g7, g8⟩ := alloc_ok h0 hk he
  obtain ⟨hat1, hat2⟩ := mem_dl.1 hdl
  have hne2 : at0 ≠ n' := fun e => by
    rw [e, g6] at hat2
    cases hat2
  obtain ⟨hss, hbb⟩ := g8 at0 hat1 hne2
  obtain ⟨q1, q2, q3, q4⟩ := slot_all hss
  obtain ⟨c1, c2, c3, c4, c5, c6⟩ := dir_bytes h0 hat1 hat2
  have hw := writeR_entry g1 hat1 (by rw [q1]; exact hat2) c1 (entsOk_iff.1 (hE at0 hdl)) (fun i hi => by
    rw [q3 0 (by decide), (hbb (rb d at0 0) c5).2 _ (by omega) (by omega), c2 i hi]) hkl (x := (last, (allocR d kind).1)) (vname_len hv).2
  rw [T0_E, hw]

/-- When Make answers OK, and what it leaves then. -/
theorem make_made {d p : List UInt8} {kind : Int} (h : (makeR d p kind).2.2 = 0) : chk38 d = 0 ∧ (kind = 1 ∨ kind = 2) ∧ ∃ names at0 k, splitR p = (names, 0) ∧ names ≠ [] ∧ followR d names.dropLast 0 = (at0, 0) ∧
    fidx ((T0 d).E at0) [] = some k ∧ freeI d = some (makeR d p kind).1 ∧ Made d (makeR d p kind).2.1 at0 k (makeR d p kind).1 kind.toNat (names.getLastD []) := by
  have hsn := splitR_names p
  have hes := splitR_err p
  unfold makeR at h ⊢
  by_cases h38 : chk38 d = 0
  rotate_left
  · rw [if_pos h38] at h
    exact absurd h h38
  have hne : ¬ chk38 d ≠ 0 := by rw [h38]; simp
  rw [if_neg hne] at h ⊢
  obtain ⟨h0, hG, hE⟩ := tree_facts h38
  generalize splitR p = sp at *
  obtain ⟨names, se⟩ := sp
  dsimp only at hsn hes h ⊢
  by_cases hs : se ≠ 0
  · rw [if_pos hs] at h; cases h
  rw [if_neg hs] at h ⊢
  by_cases hk : kind ≠ 1 ∧ kind ≠ 2
  · rw [if_pos hk] at h; cases h
  rw [if_neg hk] at h ⊢
  by_cases hn : names = []
  · rw [if_pos hn] at h; cases h
  rw [if_neg hn] at h ⊢
  have hvn : ∀ s ∈ names, s ≠ [] := fun s hs h => by
    have := hsn s hs
    rw [h] at this
    cases this
  obtain ⟨hr1, hr2⟩ := mem_dl.1 (root_in h0)
  obtain ⟨hw1, hw2⟩ := walk_follow h38 names.dropLast 0 hr1 (by omega) fun s hs => hvn s (List.dropLast_subset _ hs)
  have hlast := getLast_eq hn
  have hlv : vname (names.getLastD []) = true := hsn _ (List.mem_of_getElem? hlast)
  generalize hfo : followR d names.dropLast 0 = fr at *
  obtain ⟨at0, fe⟩ := fr
  dsimp only at hw2 h ⊢
  by_cases hf : fe ≠ 0
  · rw [if_pos hf] at h; exact absurd h hf
  rw [if_neg hf] at h ⊢
  obtain ⟨ha1, ha2⟩ := hw2 (by omega)
  by_cases hdl : at0 ∈ (T0 d).dl
  rotate_left
  · rw [dirR_file h38 ha1 ha2 hdl] at h
    cases h
  rw [dirR_dir h38 hdl] at h ⊢
  dsimp only at h ⊢
  rw [if_neg (show ¬ ((0 : Nat) ≠ 0) by decide)] at h ⊢
  by_cases hq : fidx ((T0 d).E at0) (names.getLastD []) ≠ none
  · rw [if_pos hq] at h; cases h
  rw [if_neg hq] at h ⊢
  cases hfe : fidx ((T0 d).E at0) [] with
  | none => rw [hfe] at h; cases h
  | some k =>
    rw [hfe] at h
    dsimp only at h ⊢
    by_cases ha : (allocR d kind.toNat).2.2 ≠ 0
    · rw [if_pos ha] at h; exact absurd h ha
    rw [if_neg ha]
    have hkk : kind.toNat = 1 ∨ kind.toNat = 2 := by omega
    have hm := made_of h38 hkk (by omega) hdl hlv (by simpa using hq) hfe
    obtain ⟨f1, -, -⟩ := alloc_more h0 hkk (by omega)
    obtain ⟨g1, g2, n', x', g3, g4, g5, g6, g7, g8⟩ := alloc_ok h0 hkk (by omega)
    have hw := make_write h38 hkk (by omega) hdl hlv hfe
    rw [hw]
    exact ⟨h38, by omega, names, at0, k, by rw [show se = 0 by omega], hn, by rw [hfo, show fe = 0 by omega], hfe, f1, hm⟩

end Go.Proofs.YtfeoedkmndkbjaaGreatDoor
set_option maxRecDepth 100000
set_option maxHeartbeats 4000000
set_option linter.unusedVariables false
set_option linter.unusedSimpArgs false
namespace Go.Sx
open Go
variable {P : Program} {tab : Sx.Tab} {w0 : World} {R : Nat → Nat → Prop} {av : Nat → Prop} {bs : List (Nat × Nat)} {cs : List (List Value)} {F : Fx}
/-- make([]T, 0) -/
theorem XVal.makeRow0 (hT : TabOk P tab) {t : TypeId} {ti te : TI} {e : TypeId} (ht : Sx.look tab t = some ti) (hk : ti.k = .slice e) (he : Sx.look tab e = some te) {k k' : IntKind} {m m' : Int} {K : KV} (hm : m = 0) (hm' : m' = 0)
    (h : ∀ b, K (.slice (some ⟨b, 0, none⟩) 0 0) bs cs ⟨F.D, F.rs ++ [(b, Row.c [])]⟩) : XVal P w0 R av (Instr.makeSlice t (.int k m) (.int k' m')) bs cs F K := by
  subst hm hm'
  refine XVal_iff.2 fun w hst => ?_
  obtain ⟨i1, d1, z1, p1, p2, p3, p4, p5, p6, p7, p8⟩ := mkTI_parts (hT _ _ ht)
  obtain ⟨i2, d2, z2, q1, q2, q3, q4, q5, q6, q7, q8⟩ := mkTI_parts (hT _ _ he)
  rw [p4] at hk
  obtain rfl := slice_of hk
  refine ⟨_, _, [], cs, _, ?_, by rw [List.append_nil]; exact hst.newRow [] e, by rw [List.append_nil]; exact h _⟩
  unfold Instr.makeSlice
  rw [run_bind_ok (run_underlying' p2 w)]
  simp only
  rw [run_bind_ok (m := asInt _) (a := (0 : Int)) (w' := w) rfl, run_bind_ok (m := asInt _) (a := (0 : Int)) (w' := w) rfl, run_bind_ok (run_typeInfo q1 w)]
  have w1 : IntKind.i64.wrap (0 : Int) = 0 := wrap_i64 (by omega)
  simp only [w1]
  have ht1 : (decide ((0 : Int) < 0) || decide ((i2.bytes : Int) * (0 : Int) > 2 ^ 48)) = false := by
    rw [Int.mul_zero]
    decide
  simp only [ht1, Bool.false_or]
  rw [if_neg (by decide)]
  rw [run_bind_ok (run_askRoom _ _), run_bind_ok (run_sizeOf q1 w)]
  simp only [Int.toNat_zero, Nat.zero_mul]
  rw [if_pos trivial, run_bind_ok (run_pure P _ w)]
  have e0 : Array.map (fun x => (#[] : Array Value)[x % (#[] : Array Value).size]!) (Array.range 0) = #[] := by simp
  rw [e0]
  rw [run_bind_ok (run_newRow w e _)]
  rfl

end Go.Sx

namespace Go.Proofs.YtfeoedkmndkbjaaGreatDoor
open Go Go.Sx
section
variable {P : Program} {tab : Sx.Tab} {w0 : World} {R : Nat → Nat → Prop} {av : Nat → Prop} {bs : List (Nat × Nat)} {cs : List (List Value)} {F : Fx}
theorem XVal.makeBytesZ (hT : TabOk P tab) {t : TypeId} {ti te : TI} {e : TypeId} (ht : Sx.look tab t = some ti) (hk : ti.k = .slice e) (he : Sx.look tab e = some te) (hz : te.zero = [.int .u8 0]) (hs : te.size = 1) (hby : te.bytes = 1) {k k' : IntKind} {m m' : Int} {K : KV} (n : Nat) (hm : m = (n : Int)) (hm' : m' = (n : Int))
    (hsmall : n ≤ 1000000) (h : ∀ b, K (.slice (some ⟨b, 0, none⟩) n n) bs cs ⟨F.D, F.rs ++ [(b, Row.c ((List.replicate n (0 : UInt8)).map byteV ++ []))]⟩) : XVal P w0 R av (Instr.makeSlice t (.int k m) (.int k' m')) bs cs F K := by
  by_cases hn : n = 0
  · subst hn
    exact XVal.makeRow0 hT ht hk he hm hm' h
  · exact XVal.makeBytes hT ht hk he hz hs hby n hm hm' (by omega) hsmall h
end

def outB (d : List UInt8) (b : Nat → Nat) (p : Nat) : Nat → List UInt8
  | 0 => List.replicate (128 * p) 0
  | i + 1 => if b i = 0 then outB d b p i else lay (outB d b p i) (128 * i) (cut d (128 * b i) 128)

section
variable {d : List UInt8} (hd : d.length = 12288) {b : Nat → Nat} {p : Nat} (hb : ∀ i, i < 12 → b i < 96) (hp : ∀ i, i < 12 → b i ≠ 0 → i < p)
include hd hb hp

theorem outB_len : ∀ i, i ≤ 12 → (outB d b p i).length = 128 * p
  | 0, _ => List.length_replicate
  | i + 1, hi => by
    have ih := outB_len i (by omega)
    have h1 := hb i (by omega)
    unfold outB
    split
    · exact ih
    · rename_i h
      have h2 := hp i (by omega) h
      rw [lay_len (by rw [cut_len (by omega)]; omega), ih]

theorem byt_outB : ∀ i, i ≤ 12 → ∀ m, byt (outB d b p i) m = if m / 128 < i ∧ b (m / 128) ≠ 0 then byt d (128 * b (m / 128) + m % 128) else 0
  | 0, _, m => by
    rw [if_neg (by omega)]
    show byt (List.replicate (128 * p) 0) m = 0
    unfold byt
    rw [List.getD_eq_getElem?_getD, List.getElem?_replicate]
    split <;> rfl
  | i + 1, hi, m => by
    have ih := byt_outB i (by omega) m
    have h1 := hb i (by omega)
    unfold outB
    by_cases h : b i = 0
    · rw [if_pos h, ih]
      by_cases hm : m / 128 = i
      · rw [hm, if_neg (by omega), if_neg (by omega)]
      · by_cases h5 : m / 128 < i ∧ b (m / 128) ≠ 0
        · rw [if_pos h5, if_pos ⟨by omega, h5.2⟩]
        · rw [if_neg h5, if_neg (by omega)]
    · have h2 := hp i (by omega) h
      have hcl : (cut d (128 * b i) 128).length = 128 := cut_len (by omega)
      rw [if_neg h, byt_lay (by rw [hcl, outB_len hd hb hp i (by omega)]; omega), hcl]
      by_cases hm : 128 * i ≤ m ∧ m < 128 * i + 128
      · have hmi : m / 128 = i := by omega
        rw [if_pos hm, hmi, if_pos ⟨by omega, h⟩, byt_cut (by omega) (by omega)]
        congr 1
        omega
      · rw [if_neg hm, ih]
        by_cases h5 : m / 128 < i ∧ b (m / 128) ≠ 0
        · rw [if_pos h5, if_pos ⟨by omega, h5.2⟩]
        · rw [if_neg h5, if_neg (by omega)]

omit hp in
theorem byt_contB : ∀ i, i ≤ 12 → ∀ m, byt (contB d b i) m = if m / 128 < i ∧ b (m / 128) ≠ 0 then byt d (128 * b (m / 128) + m % 128) else 0
  | 0, _, m => by
    rw [if_neg (by omega)]
    show byt [] m = 0
    unfold byt
    simp
  | i + 1, hi, m => by
    have ih := byt_contB i (by omega)
    have hl := contB_len hd (b := b) (i := i) fun j hj => hb j (by omega)
    have h1 := hb i (by omega)
    show byt (contB d b i ++ blockOf d (b i)) m = _
    by_cases hm : m < 128 * i
    · have e : byt (contB d b i ++ blockOf d (b i)) m = byt (contB d b i) m := by
        unfold byt
        rw [List.getD_eq_getElem?_getD, List.getD_eq_getElem?_getD, List.getElem?_append_left (by omega)]
      rw [e, ih]
      by_cases h5 : m / 128 < i ∧ b (m / 128) ≠ 0
      · rw [if_pos h5, if_pos ⟨by omega, h5.2⟩]
      · rw [if_neg h5, if_neg (by omega)]
    · have e : byt (contB d b i ++ blockOf d (b i)) m = byt (blockOf d (b i)) (m - 128 * i) := by
        unfold byt
        rw [List.getD_eq_getElem?_getD, List.getD_eq_getElem?_getD, List.getElem?_append_right (by omega), hl]
      rw [e]
      unfold blockOf
      by_cases hq : m < 128 * i + 128
      · have hmi : m / 128 = i := by omega
        rw [hmi]
        by_cases h : b i = 0
        · rw [if_pos h, if_neg (by omega)]
          unfold byt
          rw [List.getD_eq_getElem?_getD, List.getElem?_replicate]
          split <;> rfl
        · rw [if_neg h, if_pos ⟨by omega, h⟩, byt_cut (by omega) (by omega)]
          congr 1
          omega
      · have hr : ¬ (m / 128 < i + 1 ∧ b (m / 128) ≠ 0) := by omega
        rw [if_neg hr]
        have hlen : (if b i = 0 then List.replicate 128 0 else cut d (128 * b i) 128).length = 128 := by
          split
          · exact List.length_replicate
          · exact cut_len (by omega)
        unfold byt
        rw [List.getD_eq_getElem?_getD, List.getElem?_eq_none (by omega)]
        rfl

theorem outB_cont {s : Nat} (hs : s ≤ 128 * p) (hs2 : s ≤ 1536) : (outB d b p 12).take s = (contB d b 12).take s := by
  have h1 := outB_len hd hb hp 12 (by omega)
  have h2 := contB_len hd (b := b) (i := 12) hb
  refine byt_ext (by simp [h1, h2]; omega) fun m hm => ?_
  have hm' : m < s := by
    rw [List.length_take] at hm
    omega
  have e : ∀ l : List UInt8, byt (l.take s) m = byt l m := fun l => by
    unfold byt
    rw [List.getD_eq_getElem?_getD, List.getD_eq_getElem?_getD, List.getElem?_take, if_pos hm']
  rw [e, e, byt_outB hd hb hp 12 (by omega), byt_contB hd hb 12 (by omega)]
end

theorem vcontent_spec (bv : Nat) (V : List Value) (h : Hd) (d : List UInt8) (hV : V[0]? = some (h.v d.length)) (hh : h.Ok d.length) (hd : d.length = 12288) (k s : Nat) (b : Nat → Nat) (hs : s ≤ 1536) (hb : ∀ i, i < 12 → b i < 96) (hbs : ∀ i, i < 12 → b i ≠ 0 → i * 128 < s) :
    PureSpec Tryz.prog 91 [.pointer (some ⟨bv, 0, none⟩), .agg ⟨inoL k s b⟩] (fun w => RowAt w (some ⟨bv, 0, none⟩) V ∧ By w h d) (RelB ((contB d b 12).take s)) := by
  have hp : ∀ i, i < 12 → b i ≠ 0 → i < (s + 127) / 128 := fun i hi h0 => by have := hbs i hi h0; omega
  have hps : (s + 127) / 128 ≤ 12 := by omega
  have hsp : s ≤ 128 * ((s + 127) / 128) := by omega
  have hps0 := parts_spec s (by omega)
  have hfin := outB_cont hd hb hp hsp hs
  have hlen := outB_len hd hb hp
  refine PureSpec.of_xc tabOk Tryz.func91 rfl (by decide) (n := Tryz.f91.ntmps - 2) rfl rfl fun w0 av => ?_
  generalize (s + 127) / 128 = p at *
  conv => whnf
  intro b3
  conv => whnf
  repeat (refine XSame.of ?_; conv => whnf)
  refine XCall.val hps0 (fun w hw => trivial) (fun v D hv => ?_)
  subst hv
  have hw : IntKind.i64.wrap ((p : Int) * 128) = ((128 * p : Nat) : Int) := by rw [wrap_i64 (by omega)]; omega
  conv => whnf
  repeat (refine XSame.of ?_; conv => whnf)
  refine XVal.makeBytesZ tabOk (t := 23) rfl rfl rfl rfl rfl rfl (128 * p) hw hw (by omega) fun bo => ?_
  conv => whnf
  repeat (refine XSame.of ?_; conv => whnf)
  refine XStop.loop tabOk (ι := Nat) ([6, 7] ++ List.range' 15 15) (fun x => x ≤ 12)
    (fun x => [(15, .v (.int .i64 (x : Int)))]) (fun _ => [inoL k s b]) (fun x => ⟨fun w => RowAt w (some ⟨bv, 0, none⟩) V ∧ By w h d, [(bo, Row.c ((outB d b p x).map byteV ++ []))]⟩)
    (fun x => 12 - x) 0 (Nat.zero_le _) ?_ rfl (Ent.of_le ⟨by simp [outB], fun w hw => hw⟩) fun i hi => ?_
  · conv => whnf
    repeat (first | exact FLe.nil | refine FLe.any ?_ | refine FLe.cons ?_)
  conv => whnf
  refine XIf.split (fun hlt => ?_) (fun hlt => ?_)
  · have hlt' : i < 12 := by
      simp only [iLt_eq, decide_eq_true_eq] at hlt
      omega
    have hol := hlen i (by omega)
    have hbi := hb i hlt'
    conv => whnf
    refine XVal.of_read (XRead.indexAgg tabOk (t := 72) rfl rfl rfl rfl rfl i rfl hlt' (arr_get hlt') ?_)
    conv => whnf
    repeat (refine XSame.of ?_; conv => whnf)
    refine XIf.split (fun hz => ?_) (fun hz => ?_)
    · have hz' : b i ≠ 0 := by
        simp [iNe_eq] at hz
        omega
      have hpi := hp i hlt' hz'
      have hob : outB d b p (i + 1) = lay (outB d b p i) (128 * i) (cut d (128 * b i) 128) := by
        show (if b i = 0 then _ else _) = _
        rw [if_neg hz']
      have hcl : (cut d (128 * b i) 128).length = 128 := cut_len (by omega)
      have hwi : IntKind.i64.wrap ((i : Int) * 128) = ((128 * i : Nat) : Int) := by rw [wrap_i64 (by omega)]; omega
      have hc := hh.cap
      have hvb := vblock_spec bv V h d.length hV hh hd (b i) hbi
      generalize outB d b p i = O at *
      refine XStop.draw tabOk mixed rfl rfl ?_
      conv => whnf
      repeat' (first
        | (refine And.intro ?_ ?_ <;> conv => whnf)
        | (refine XHeld.same rfl ?_; conv => whnf)
        | (refine XHeld.row rfl ?_; conv => whnf)
        | (refine XHeld.call rfl ?_; conv => whnf)
        | (refine XKeep.of ?_; conv => whnf)
        | (refine XSame.of ?_; conv => whnf)
        | (refine XRead.subFrom tabOk (t := 23) rfl rfl rfl (h := ⟨some ⟨bo, 0, none⟩, 128 * p⟩) rfl (128 * i) hwi (by omega) (by dsimp only; omega) ?_; conv => whnf)
        | (refine XCall.val hvb (fun w hw => hw.1) (fun v D hv => ?_); subst hv; conv => whnf)
        | (rw [sub_row (by omega)]; refine XVal.copyB tabOk (t := 23) rfl rfl rfl rfl (r1 := []) (r2 := []) (b := bo) (k := 128 * i) (l := O) (m := cut d (128 * b i) 128) (Z := []) rfl (.fact fun w hw => By.sub hw.2 (by omega)) (by omega) (by omega) (by omega) ?_; conv => whnf)
        | (refine XHeld.mk ?_ ?_; (focus (first | exact Ent.refl _ | exact Ent.left _ _ | exact Ent.of_le ⟨List.sublist_append_left _ _, fun w h => h⟩ | exact Ent.of_le ⟨List.Sublist.refl _, fun w h => h.1⟩)); conv => whnf))
      all_goals
        refine ⟨i + 1, ⟨hlt', by dsimp only; omega⟩, ?_, ?_, by
          show Ent _ ⟨fun w => RowAt w (some ⟨bv, 0, none⟩) V ∧ By w h d, [(bo, Row.c ((outB d b p (i + 1)).map byteV ++ []))]⟩
          rw [hob]
          exact Ent.of_le ⟨by simp, fun w hw => hw⟩⟩
        · conv => whnf
          refine ⟨?_, rfl⟩
          repeat (first | exact FLe.nil | refine FLe.any ?_ | refine FLe.cons ?_ | refine FLe.eq (by rw [wrap_i64 (by omega)]; rfl) ?_)
        · conv => whnf
          exact ⟨⟨rfl, rfl⟩, trivial⟩
    · have hz' : b i = 0 := by
        simp [iNe_eq] at hz
        omega
      have hob : outB d b p (i + 1) = outB d b p i := by
        show (if b i = 0 then _ else _) = _
        rw [if_pos hz']
      conv => whnf
      repeat (refine XSame.of ?_; conv => whnf)
      refine ⟨i + 1, ⟨hlt', by dsimp only; omega⟩, ?_, ?_, by
        show Ent _ ⟨fun w => RowAt w (some ⟨bv, 0, none⟩) V ∧ By w h d, [(bo, Row.c ((outB d b p (i + 1)).map byteV ++ []))]⟩
        rw [hob]
        exact Ent.refl _⟩
      · conv => whnf
        refine ⟨?_, rfl⟩
        repeat (first | exact FLe.nil | refine FLe.any ?_ | refine FLe.cons ?_ | refine FLe.eq (by rw [wrap_i64 (by omega)]; rfl) ?_)
      · conv => whnf
        exact ⟨⟨rfl, rfl⟩, trivial⟩
  · have hie : i = 12 := by
      simp only [iLt_eq, decide_eq_false_iff_not] at hlt
      omega
    subst hie
    have hol := hlen 12 (by omega)
    generalize outB d b p 12 = O at *
    conv => whnf
    repeat (refine XSame.of ?_; conv => whnf)
    refine XVal.of_read (XRead.subTo tabOk (t := 23) rfl rfl rfl (h := ⟨some ⟨bo, 0, none⟩, 128 * p⟩) s rfl (by dsimp only; omega) ?_)
    conv => whnf
    repeat (refine XSame.of ?_; conv => whnf)
    have hsl : (O.take s).length = s := by
      rw [List.length_take]
      omega
    rw [← hfin]
    refine ⟨⟨fun w => By w ⟨some ⟨bo, 0, none⟩, 128 * p⟩ (O.take s), []⟩, (Ent.giveB (r1 := []) (r2 := [])).trans (Ent.imp fun w hw => ?_), ⟨some ⟨bo, 0, none⟩, 128 * p⟩, ?_, ?_, rfl⟩
    · have := RowAt.take hw s
      unfold By
      rw [List.map_take]
      exact this
    · rw [hsl]
    · rw [hsl]
      exact ⟨fun h => (by cases h), by dsimp only; omega⟩

end Go.Proofs.YtfeoedkmndkbjaaGreatDoor
namespace Go.Proofs.YtfeoedkmndkbjaaGreatDoor
open Go Go.Sx
set_option maxRecDepth 100000
set_option linter.unusedVariables false
set_option linter.unusedSimpArgs false

/-- The unused data blocks. -/
def freeL (b : List UInt8) : List Nat := (List.range' 18 78).filter fun i => !getB b i
def setAll (b : List UInt8) (l : List Nat) : List UInt8 := l.foldl (fun b i => putB b i true) b

theorem setAll_len : ∀ (l : List Nat) (b : List UInt8), (setAll b l).length = b.length
  | [], b => rfl
  | i :: l, b => by
    show (setAll (putB b i true) l).length = _
    rw [setAll_len l, putB_len]

theorem freeB_head (b : List UInt8) : freeB b = (freeL b).head? := (List.head?_filter ..).symm

theorem freeL_nodup (b : List UInt8) : (freeL b).Nodup := (by simpa using List.nodup_range' (s := 18) (n := 78) (step := 1) : (List.range' 18 78).Nodup).sublist List.filter_sublist

theorem freeL_lt {b : List UInt8} {x : Nat} (h : x ∈ freeL b) : 18 ≤ x ∧ x < 96 ∧ getB b x = false := by
  obtain ⟨h1, h2⟩ := List.mem_filter.1 h
  have := List.mem_range'_1.1 h1
  exact ⟨this.1, by omega, by simpa using h2⟩

theorem freeL_put {b : List UInt8} (hb : b.length = 12) {x : Nat} {t : List Nat} (h : freeL b = x :: t) : freeL (putB b x true) = t := by
  have hx := freeL_lt (b := b) (x := x) (by rw [h]; exact List.mem_cons_self ..)
  have hnd := freeL_nodup b
  have e : freeL (putB b x true) = (freeL b).filter fun j => decide (j ≠ x) := by
    unfold freeL
    rw [List.filter_filter]
    refine List.filter_congr fun j hj => ?_
    rw [getB_put true (by omega) j]
    by_cases hjx : j = x
    · subst hjx
      simp
    · simp [hjx]
  rw [e, h, List.filter_cons_of_neg (by simp)]
  rw [h, List.nodup_cons] at hnd
  exact List.filter_eq_self.2 fun j hj => by
    have : j ≠ x := fun e => hnd.1 (e ▸ hj)
    simpa using this

theorem freeL_set : ∀ (c : Nat) {b : List UInt8}, b.length = 12 → c ≤ (freeL b).length → freeL (setAll b ((freeL b).take c)) = (freeL b).drop c
  | 0, b, _, _ => rfl
  | c + 1, b, hb, hc => by
    cases hl : freeL b with
    | nil => rw [hl] at hc; simp at hc
    | cons x t =>
      rw [List.take_succ_cons, List.drop_succ_cons]
      have hp := freeL_put hb hl
      have := freeL_set c (b := putB b x true) (by rw [putB_len]; exact hb) (by rw [hp]; rw [hl] at hc; simpa using hc)
      rw [hp] at this
      exact this

/-- The empty places among some. -/
def fresh (b : Nat → Nat) (i m : Nat) : List Nat := (List.range' i m).filter fun j => decide (b j = 0)

theorem fresh_succ (b : Nat → Nat) (i m : Nat) : fresh b i (m + 1) = fresh b i m ++ (if b (i + m) = 0 then [i + m] else []) := by
  unfold fresh
  rw [List.range'_1_concat, List.filter_append]
  congr 1
  by_cases h : b (i + m) = 0
  · rw [if_pos h, List.filter_cons_of_pos (by simpa using h)]
    rfl
  · rw [if_neg h, List.filter_cons_of_neg (by simpa using h)]
    rfl

theorem mem_fresh {b : Nat → Nat} {i m j : Nat} : j ∈ fresh b i m ↔ i ≤ j ∧ j < i + m ∧ b j = 0 := by
  unfold fresh
  rw [List.mem_filter, List.mem_range'_1]
  simp [and_assoc]

def asg (b : Nat → Nat) (ps : List (Nat × Nat)) : Nat → Nat := ps.foldl (fun b p j => if j = p.1 then p.2 else b j) b

theorem asg_snoc (b : Nat → Nat) (ps : List (Nat × Nat)) (p : Nat × Nat) : asg b (ps ++ [p]) = fun j => if j = p.1 then p.2 else asg b ps j := by
  unfold asg
  rw [List.foldl_append]
  rfl

theorem asg_not : ∀ {ps : List (Nat × Nat)} {b : Nat → Nat} {i : Nat}, (∀ p ∈ ps, p.1 ≠ i) → asg b ps i = b i
  | [], b, i, _ => rfl
  | p :: ps, b, i, h => by
    show asg (fun j => if j = p.1 then p.2 else b j) ps i = b i
    rw [asg_not fun q hq => h q (List.mem_cons_of_mem _ hq)]
    exact if_neg fun e => h p (List.mem_cons_self ..) e.symm

theorem zip_snoc {fr L : List Nat} {i : Nat} (h : fr.length < L.length) : (fr ++ [i]).zip L = fr.zip L ++ [(i, L[fr.length])] := by
  induction fr generalizing L with
  | nil =>
    cases L with
    | nil => simp at h
    | cons x t => simp
  | cons a fr ih =>
    cases L with
    | nil => simp at h
    | cons x t =>
      rw [List.cons_append, List.zip_cons_cons, List.zip_cons_cons, ih (L := t) (by simpa using h)]
      simp

/-- What the reference has after a number of places: blocks in use, the zeroed blocks. -/
theorem wt_is {d : List UInt8} (hd : d.length = 12288) (b : Nat → Nat) : ∀ (i : Nat), let fr := fresh b 0 i; let L := freeL (bmp d)
    if fr.length ≤ L.length then ∃ o, wt d b i = some (o, asg b (fr.zip L)) ∧ o.length = 12288 ∧ bmp o = setAll (bmp d) (L.take fr.length) ∧
      ∀ m, ¬ (1664 ≤ m ∧ m < 1676) → byt o m = if m / 128 ∈ L.take fr.length then 0 else byt d m
    else wt d b i = none := by
  intro i
  have hbl := bmp_len hd
  induction i with
  | zero =>
    refine (if_pos (Nat.zero_le _)).mpr ?_
    exact ⟨d, rfl, hd, rfl, fun m _ => by simp [fresh]⟩
  | succ i ih =>
    intro fr L
    dsimp only at ih
    have hfs : fr = fresh b 0 i ++ (if b i = 0 then [i] else []) := by
      have := fresh_succ b 0 i
      rw [Nat.zero_add] at this
      exact this
    clear_value fr
    have hwt : wt d b (i + 1) = match wt d b i with
      | none => none
      | some (o, b') => if b' i = 0 then (match freeB (bmp o) with
        | none => none
        | some x => some (takeD o x, fun j => if j = i then x else b' j)) else some (o, b') := rfl
    by_cases hc : (fresh b 0 i).length ≤ L.length
    rotate_left
    · rw [if_neg hc] at ih
      have : ¬ fr.length ≤ L.length := by
        rw [hfs, List.length_append]
        omega
      rw [if_neg this, hwt, ih]
    rw [if_pos hc] at ih
    obtain ⟨o, h1, h2, h3, h4⟩ := ih
    rw [h1] at hwt
    dsimp only at hwt
    have hasg : asg b ((fresh b 0 i).zip L) i = b i := asg_not fun p hp => by
      have := (mem_fresh.1 (List.of_mem_zip hp).1).2.1
      omega
    rw [hasg] at hwt
    by_cases hb : b i = 0
    rotate_left
    · rw [if_neg hb, List.append_nil] at hfs
      rw [if_neg hb] at hwt
      rw [hfs, if_pos hc, hwt]
      exact ⟨o, rfl, h2, h3, h4⟩
    rw [if_pos hb] at hfs hwt
    have hfl : fr.length = (fresh b 0 i).length + 1 := by rw [hfs]; simp
    have hfb : freeB (bmp o) = L[(fresh b 0 i).length]? := by
      rw [freeB_head, h3, freeL_set _ hbl hc, List.head?_drop]
    by_cases hc2 : (fresh b 0 i).length < L.length
    rotate_left
    · rw [hfb, List.getElem?_eq_none (by omega)] at hwt
      rw [if_neg (by omega), hwt]
    rw [hfb, List.getElem?_eq_getElem hc2] at hwt
    dsimp only at hwt
    have hxm : L[(fresh b 0 i).length] ∈ L := List.getElem_mem hc2
    have hx := freeL_lt hxm
    have htk : L.take fr.length = L.take (fresh b 0 i).length ++ [L[(fresh b 0 i).length]] := by
      rw [hfl, List.take_succ_eq_append_getElem hc2]
    rw [if_pos (by omega), hwt, hfs, zip_snoc hc2, asg_snoc, ← hfs, htk]
    generalize L[(fresh b 0 i).length] = x at *
    have hso : (putB (bmp o) x true).length = 12 := by rw [putB_len, bmp_len h2]
    have hz : (List.replicate 128 (0 : UInt8)).length = 128 := List.length_replicate
    have hzb : ∀ j, byt (List.replicate 128 (0 : UInt8)) j = 0 := fun j => by
      unfold byt
      rw [List.getD_eq_getElem?_getD, List.getElem?_replicate]
      split <;> rfl
    have hby : ∀ m, byt (takeD o x) m = if m / 128 = x then 0 else if 1664 ≤ m ∧ m < 1676 then byt (putB (bmp o) x true) (m - 1664) else byt o m := fun m => by
      unfold takeD
      rw [byt_lay (by rw [setBmp_len h2 hso, hz]; omega), hz, byt_setBmp h2 hso]
      by_cases hm : m / 128 = x
      · rw [if_pos (by omega), if_pos hm, hzb]
      · rw [if_neg (by omega), if_neg hm]
    refine ⟨takeD o x, rfl, takeD_len h2 hx.2.1, ?_, fun m hm => ?_⟩
    · rw [setAll, List.foldl_append]
      show bmp (takeD o x) = putB (setAll (bmp d) (L.take (fresh b 0 i).length)) x true
      rw [← h3]
      refine byt_ext (by rw [bmp_len (takeD_len h2 hx.2.1), hso]) fun j hj => ?_
      rw [bmp_len (takeD_len h2 hx.2.1)] at hj
      unfold bmp
      rw [byt_cut (by rw [takeD_len h2 hx.2.1]; omega) hj, hby, if_neg (by omega), if_pos (by omega)]
      congr 1
      omega
    · rw [hby, h4 m hm]
      by_cases hmx : m / 128 = x
      · rw [if_pos hmx, if_pos (by rw [hmx]; simp)]
      · rw [if_neg hmx, if_neg hm]
        by_cases hmt : m / 128 ∈ L.take (fresh b 0 i).length
        · rw [if_pos hmt, if_pos (List.mem_append_left _ hmt)]
        · rw [if_neg hmt, if_neg fun h => by
            rcases List.mem_append.1 h with h5 | h5
            · exact hmt h5
            · exact hmx (List.mem_singleton.1 h5)]

end Go.Proofs.YtfeoedkmndkbjaaGreatDoor
namespace Go.Proofs.YtfeoedkmndkbjaaGreatDoor
open Go Go.Sx
set_option maxRecDepth 100000
set_option linter.unusedVariables false
set_option linter.unusedSimpArgs false

theorem byt_zeros (j : Nat) : byt (List.replicate 128 (0 : UInt8)) j = 0 := by
  unfold byt
  rw [List.getD_eq_getElem?_getD, List.getElem?_replicate]
  split <;> rfl

def clr (d : List UInt8) (l : List Nat) : List UInt8 := l.foldl (fun d x => lay d (128 * x) (List.replicate 128 0)) d

theorem clr_len : ∀ {l : List Nat} {d : List UInt8}, d.length = 12288 → (∀ x ∈ l, x < 96) → (clr d l).length = 12288
  | [], d, hd, _ => hd
  | x :: l, d, hd, hl => clr_len (l := l) (d := lay d (128 * x) (List.replicate 128 0)) (by
      have := hl x (List.mem_cons_self ..)
      rw [lay_len (by rw [List.length_replicate]; omega), hd]) fun y hy => hl y (List.mem_cons_of_mem _ hy)

theorem byt_clr : ∀ {l : List Nat} {d : List UInt8}, d.length = 12288 → (∀ x ∈ l, x < 96) → ∀ m, byt (clr d l) m = if m / 128 ∈ l then 0 else byt d m
  | [], d, hd, _, m => by simp [clr]
  | x :: l, d, hd, hl, m => by
    have hx := hl x (List.mem_cons_self ..)
    have hl2 : (lay d (128 * x) (List.replicate 128 0)).length = 12288 := by rw [lay_len (by rw [List.length_replicate]; omega), hd]
    show byt (clr (lay d (128 * x) (List.replicate 128 0)) l) m = _
    rw [byt_clr hl2 fun y hy => hl y (List.mem_cons_of_mem _ hy), byt_lay (by rw [List.length_replicate]; omega), List.length_replicate, byt_zeros]
    by_cases h1 : m / 128 ∈ l
    · rw [if_pos h1, if_pos (List.mem_cons_of_mem _ h1)]
    · rw [if_neg h1]
      by_cases h2 : m / 128 = x
      · rw [if_pos (by omega), if_pos (by rw [h2]; exact List.mem_cons_self ..)]
      · rw [if_neg (by omega), if_neg (by rw [List.mem_cons]; exact fun h => h.elim h2 h1)]

/-- Bytes are laid into the blocks from an offset on. -/
def wdO (o : List UInt8) (b : Nat → Nat) (off : Nat) (data : List UInt8) : Nat → List UInt8
  | 0 => o
  | k + 1 => bput (wdO o b off data k) (128 * b ((off + k) / 128) + (off + k) % 128) (byt data k)

theorem wdO_len (o : List UInt8) (b : Nat → Nat) (off : Nat) (data : List UInt8) : ∀ k, (wdO o b off data k).length = o.length
  | 0 => rfl
  | k + 1 => by
    unfold wdO
    rw [bput_len, wdO_len o b off data k]

theorem wdO_zero (o : List UInt8) (b : Nat → Nat) (data : List UInt8) : ∀ k, wdO o b 0 data k = wd o b data k
  | 0 => rfl
  | k + 1 => by
    unfold wdO wd
    rw [wdO_zero o b data k, Nat.zero_add]

theorem wdO_parts {o o' : List UInt8} {b : Nat → Nat} {off : Nat} {data : List UInt8} (hl : o.length = 12288) (hl' : o'.length = 12288) (hb : ∀ q, q < data.length → 18 ≤ b ((off + q) / 128) ∧ b ((off + q) / 128) < 96)
    (h : ∀ m, ¬ (1664 ≤ m ∧ m < 1676) → byt o m = byt o' m) : ∀ k, k ≤ data.length →
    (∀ m, ¬ (1664 ≤ m ∧ m < 1676) → byt (wdO o b off data k) m = byt (wdO o' b off data k) m) ∧ ∀ m, m < 2304 → byt (wdO o b off data k) m = byt o m
  | 0, _ => ⟨h, fun m _ => rfl⟩
  | k + 1, hk => by
    obtain ⟨h1, h2⟩ := wdO_parts hl hl' hb h k (by omega)
    obtain ⟨g1, g2⟩ := hb k (by omega)
    unfold wdO
    have w1 := wdO_len o b off data k
    have w2 := wdO_len o' b off data k
    have hby := byt_lt data k
    refine ⟨fun m hm => ?_, fun m hm => ?_⟩
    · rw [byt_bput (by omega) hby, byt_bput (by omega) hby, h1 m hm]
    · rw [byt_bput (by omega) hby, if_neg (by omega), h2 m hm]

theorem asg_mem : ∀ {ps : List (Nat × Nat)} {b : Nat → Nat} {j : Nat}, (∃ p ∈ ps, p.1 = j) → ∃ p ∈ ps, asg b ps j = p.2
  | [], b, j, ⟨p, hp, _⟩ => by simp at hp
  | p :: ps, b, j, ⟨q, hq, hqj⟩ => by
    show ∃ r ∈ p :: ps, asg (fun j => if j = p.1 then p.2 else b j) ps j = r.2
    by_cases h : ∃ r ∈ ps, r.1 = j
    · obtain ⟨r, hr, e⟩ := asg_mem (b := fun j => if j = p.1 then p.2 else b j) h
      exact ⟨r, List.mem_cons_of_mem _ hr, e⟩
    · refine ⟨p, List.mem_cons_self .., ?_⟩
      rw [asg_not fun r hr e => h ⟨r, hr, e⟩]
      rcases List.mem_cons.1 hq with h5 | h5
      · subst h5
        exact if_pos hqj.symm
      · exact absurd ⟨q, h5, hqj⟩ h

/-- The blocks behind taking: those of before, and new ones at empty places. -/
theorem asg_ok {b : Nat → Nat} {i m j : Nat} {L : List Nat} (hL : (fresh b i m).length ≤ L.length) (hj : i ≤ j) (hj2 : j < i + m) : (b j ≠ 0 ∧ asg b ((fresh b i m).zip L) j = b j) ∨ (b j = 0 ∧ asg b ((fresh b i m).zip L) j ∈ L) := by
  by_cases hb : b j = 0
  · refine .inr ⟨hb, ?_⟩
    have hm : j ∈ fresh b i m := mem_fresh.2 ⟨hj, hj2, hb⟩
    obtain ⟨k, hk, hkj⟩ := List.getElem_of_mem hm
    have : (j, L[k]'(by omega)) ∈ (fresh b i m).zip L := by
      rw [List.mem_iff_getElem]
      exact ⟨k, by rw [List.length_zip]; omega, by rw [List.getElem_zip, hkj]⟩
    obtain ⟨p, hp, e⟩ := asg_mem (b := b) ⟨_, this, rfl⟩
    rw [e]
    exact (List.of_mem_zip hp).2
  · refine .inl ⟨hb, asg_not fun p hp => ?_⟩
    have := (mem_fresh.1 (List.of_mem_zip hp).1).2.2
    intro e
    rw [e] at this
    exact hb this

noncomputable def pwriteR (d : List UInt8) (n off : Nat) (data : List UInt8) : List UInt8 × Nat :=
  if gete d n ≠ 0 then ([], gete d n) else if data.length = 0 then (d, 0) else if (if rk d n = 2 then 128 else 1536) < off + data.length then ([], 6)
  else if (freeL (bmp d)).length < (fresh (rb d n) (off / 128) ((off + data.length + 127) / 128 - off / 128)).length then ([], 13)
  else (setBmp (putI (wdO (clr d ((freeL (bmp d)).take (fresh (rb d n) (off / 128) ((off + data.length + 127) / 128 - off / 128)).length)) (asg (rb d n) ((fresh (rb d n) (off / 128) ((off + data.length + 127) / 128 - off / 128)).zip (freeL (bmp d)))) off data data.length)
      n (rk d n) (max (rs d n) (off + data.length)) (asg (rb d n) ((fresh (rb d n) (off / 128) ((off + data.length + 127) / 128 - off / 128)).zip (freeL (bmp d)))))
      (setAll (bmp d) ((freeL (bmp d)).take (fresh (rb d n) (off / 128) ((off + data.length + 127) / 128 - off / 128)).length)), 0)

theorem pwrite_zero (d : List UInt8) (n : Nat) (data : List UInt8) : pwriteR d n 0 data = writeR d n data := by
  unfold pwriteR writeR
  by_cases hg : gete d n ≠ 0
  · rw [if_pos hg, if_pos hg]
  rw [if_neg hg, if_neg hg]
  obtain ⟨hd, hok, n', hn', hn, hrk⟩ := gete_zero (show gete d n = 0 by omega)
  have hn' : n = n' := by omega
  subst hn'
  by_cases h0 : data.length = 0
  · rw [if_pos h0, if_pos h0]
  rw [if_neg h0, if_neg h0, Nat.zero_add]
  by_cases hlim : (if rk d n = 2 then 128 else 1536) < data.length
  · rw [if_pos hlim, if_pos hlim]
  rw [if_neg hlim, if_neg hlim]
  have hlen : data.length ≤ 1536 := by
    revert hlim
    split <;> omega
  rw [Nat.zero_div, Nat.sub_zero]
  have hw := wt_is hd (rb d n) ((data.length + 127) / 128)
  dsimp only at hw
  have hfl := fun x => freeL_lt (b := bmp d) (x := x)
  have hok2 : ∀ L, (fresh (rb d n) 0 ((data.length + 127) / 128)).length ≤ L.length → (∀ x ∈ L, 18 ≤ x ∧ x < 96) → ∀ q, q < data.length → 18 ≤ asg (rb d n) ((fresh (rb d n) 0 ((data.length + 127) / 128)).zip L) ((0 + q) / 128) ∧ asg (rb d n) ((fresh (rb d n) 0 ((data.length + 127) / 128)).zip L) ((0 + q) / 128) < 96 := by
    intro L hL hLx q hq
    rcases asg_ok (b := rb d n) (i := 0) (m := (data.length + 127) / 128) (j := (0 + q) / 128) hL (Nat.zero_le _) (by omega) with ⟨h1, h2⟩ | ⟨h1, h2⟩
    · rw [h2]
      have := form_blocks (hok.form n hn) ((0 + q) / 128) (by omega) h1
      omega
    · exact hLx _ h2
  generalize hL : freeL (bmp d) = L at *
  generalize hfr : fresh (rb d n) 0 ((data.length + 127) / 128) = fr at *
  by_cases hc : fr.length ≤ L.length
  rotate_left
  · rw [if_neg hc] at hw
    rw [if_pos (by omega), hw]
  rw [if_pos hc] at hw
  obtain ⟨o, h1, h2, h3, h4⟩ := hw
  rw [if_neg (by omega), h1]
  dsimp only
  have hbk := hok2 L hc fun x hx => ⟨(hfl x hx).1, (hfl x hx).2.1⟩
  have hlx : ∀ x ∈ L.take fr.length, x < 96 := fun x hx => (hfl x (List.mem_of_mem_take hx)).2.1
  have hcl := clr_len hd hlx
  have hcb := byt_clr hd hlx
  have hb12 : (setAll (bmp d) (L.take fr.length)).length = 12 := by rw [setAll_len, bmp_len hd]
  generalize asg (rb d n) (fr.zip L) = b' at *
  generalize setAll (bmp d) (L.take fr.length) = bits at *
  generalize clr d (L.take fr.length) = e0 at *
  obtain ⟨p1, p2⟩ := wdO_parts (o := e0) (o' := o) (b := b') (off := 0) (data := data) hcl h2 hbk (fun m hm => by rw [hcb, h4 m hm]) data.length (Nat.le_refl _)
  obtain ⟨-, p3⟩ := wdO_parts (o := o) (o' := o) (b := b') (off := 0) (data := data) h2 h2 hbk (fun m hm => rfl) data.length (Nat.le_refl _)
  have l1 := (wdO_len e0 b' 0 data data.length).trans hcl
  have l2 := (wdO_len o b' 0 data data.length).trans h2
  rw [← wdO_zero]
  generalize wdO e0 b' 0 data data.length = x1 at *
  generalize wdO o b' 0 data data.length = x2 at *
  congr 1
  have l3 := putI_len l1 hn (rk d n) (max (rs d n) data.length) b'
  refine byt_ext (by rw [setBmp_len l3 hb12, putI_len l2 hn]) fun m hm => ?_
  rw [byt_setBmp l3 hb12, byt_putI l1 hn, byt_putI l2 hn]
  by_cases hbm : 1664 ≤ m ∧ m < 1676
  · rw [if_pos hbm, if_neg (by omega), p3 m (by omega), ← h3]
    unfold bmp
    rw [byt_cut (by omega) (by omega)]
    congr 1
    omega
  · rw [if_neg hbm, p1 m hbm]

end Go.Proofs.YtfeoedkmndkbjaaGreatDoor
namespace Go.Proofs.YtfeoedkmndkbjaaGreatDoor
open Go Go.Sx
set_option maxRecDepth 100000
set_option linter.unusedVariables false
set_option linter.unusedSimpArgs false

/-- What has been taken for an inode. -/
structure Wo (d : List UInt8) (n : Nat) (i j : Nat) (o : List UInt8) (b : Nat → Nat) : Prop where
  len : o.length = 12288
  has : ∀ q, i ≤ q → q < j → b q ≠ 0
  old : ∀ q, rb d n q ≠ 0 → b q = rb d n q
  rest : ∀ q, (q < i ∨ j ≤ q) → b q = rb d n q
  new : ∀ q, q < 12 → b q ≠ 0 → rb d n q = 0 → 18 ≤ b q ∧ b q < 96 ∧ getB (bmp d) (b q) = false ∧ ∀ r, r < 128 → byt o (128 * b q + r) = 0
  inj : ∀ q q', q < 12 → q' < 12 → b q ≠ 0 → b q = b q' → q = q'
  bits : ∀ j, getB (bmp o) j = true ↔ getB (bmp d) j = true ∨ ∃ q, q < 12 ∧ b q ≠ 0 ∧ b q = j
  byts : ∀ m, ¬ (1664 ≤ m ∧ m < 1676) → (∀ q, q < 12 → b q ≠ 0 → rb d n q = 0 → m / 128 ≠ b q) → byt o m = byt d m

theorem rb_inj {d : List UInt8} (hok : Ok37 d) {n : Nat} (hn : n < 32) (q q' : Nat) (hq : q < 12) (hq' : q' < 12) (h1 : rb d n q ≠ 0) (h2 : rb d n q = rb d n q') : q = q' := by
  have hnd := (ok_parts hok).1 n hn
  refine Classical.byContradiction fun hne => ?_
  have key : ∀ a c : Nat, a < c → c < 12 → rb d n a ≠ 0 → rb d n a = rb d n c → False := fun a c hac hc ha he => by
    unfold part at hnd
    have h3 : List.Pairwise (fun x y : Nat => x ≠ y) (((List.range 12).map (rb d n)).filter (· ≠ 0)) := hnd
    rw [List.filter_map] at h3
    have h4 := List.pairwise_map.1 h3
    have h5 : (List.range 12).Pairwise fun x y => rb d n x ≠ 0 → rb d n y ≠ 0 → rb d n x ≠ rb d n y := by
      have := List.pairwise_filter.1 h4
      refine this.imp fun {x y} hxy hx hy => hxy (by simpa using hx) (by simpa using hy)
    rw [List.pairwise_iff_getElem] at h5
    have := h5 a c (by simp; omega) (by simp; omega) hac
    simp only [List.getElem_range] at this
    exact this ha (by rw [← he]; exact ha) he
  rcases Nat.lt_or_gt_of_ne hne with h5 | h5
  · exact key q q' h5 hq' h1 h2
  · exact key q' q h5 hq (by rw [← h2]; exact h1) h2.symm

theorem asg_zip : ∀ {fr L : List Nat} {b : Nat → Nat}, fr.Nodup → ∀ (k : Nat) (h1 : k < fr.length) (h2 : k < L.length), asg b (fr.zip L) fr[k] = L[k]
  | [], L, b, _, k, h1, h2 => by simp at h1
  | f :: fr, [], b, _, k, h1, h2 => by simp at h2
  | f :: fr, x :: L, b, hn, 0, h1, h2 => by
    rw [List.nodup_cons] at hn
    have hno : ∀ p ∈ fr.zip L, p.1 ≠ f := fun p hp he => hn.1 (by rw [← he]; exact (List.of_mem_zip hp).1)
    show asg (fun j => if j = f then x else b j) (fr.zip L) f = x
    rw [asg_not hno, if_pos rfl]
  | f :: fr, x :: L, b, hn, k + 1, h1, h2 => by
    rw [List.nodup_cons] at hn
    exact asg_zip (b := fun j => if j = f then x else b j) hn.2 k (by simpa using h1) (by simpa using h2)

theorem bmp_setBmp {c bits : List UInt8} (hc : c.length = 12288) (hb : bits.length = 12) : bmp (setBmp c bits) = bits := by
  have hl := setBmp_len hc hb
  have hby := byt_setBmp hc hb
  generalize setBmp c bits = o at *
  refine byt_ext (by rw [bmp_len hl, hb]) fun r hr => ?_
  rw [bmp_len hl] at hr
  unfold bmp
  rw [byt_cut (by omega) (by omega), hby, if_pos (by omega)]
  congr 1
  omega

theorem wo_of {d : List UInt8} (hok : Ok37 d) (hd : d.length = 12288) {n : Nat} (hn : n < 32) {i c : Nat} (hc : i + c ≤ 12) (hL : (fresh (rb d n) i c).length ≤ (freeL (bmp d)).length) :
    Wo d n i (i + c) (setBmp (clr d ((freeL (bmp d)).take (fresh (rb d n) i c).length)) (setAll (bmp d) ((freeL (bmp d)).take (fresh (rb d n) i c).length))) (asg (rb d n) ((fresh (rb d n) i c).zip (freeL (bmp d)))) := by
  have hfl := fun x => freeL_lt (b := bmp d) (x := x)
  have hLn := freeL_nodup (bmp d)
  have hfn : (fresh (rb d n) i c).Nodup := (by simpa using List.nodup_range' (s := i) (n := c) (step := 1) : (List.range' i c).Nodup).sublist List.filter_sublist
  have hmf := fun q => mem_fresh (b := rb d n) (i := i) (m := c) (j := q)
  have hao := fun q => asg_ok (b := rb d n) (i := i) (m := c) (j := q) hL
  generalize freeL (bmp d) = L at *
  generalize fresh (rb d n) i c = fr at *
  obtain ⟨b, hb⟩ : ∃ b, b = asg (rb d n) (fr.zip L) := ⟨_, rfl⟩
  have haz : ∀ (k : Nat) (h1 : k < fr.length), b fr[k] = L[k] := fun k h1 => by rw [hb]; exact asg_zip hfn k h1 (by omega)
  have hno : ∀ q, q ∉ fr → b q = rb d n q := fun q hq => by rw [hb]; exact asg_not fun p hp e => hq (by rw [← e]; exact (List.of_mem_zip hp).1)
  rw [← hb]
  have hTl : (L.take fr.length).length = fr.length := by rw [List.length_take]; omega
  have hT : ∀ x, x ∈ L.take fr.length ↔ ∃ q, q ∈ fr ∧ b q = x := fun x => by
    constructor
    · intro h
      obtain ⟨k, hk, rfl⟩ := List.getElem_of_mem h
      rw [hTl] at hk
      exact ⟨fr[k], List.getElem_mem hk, by rw [haz k hk, List.getElem_take]⟩
    · rintro ⟨q, hq, rfl⟩
      obtain ⟨k, hk, rfl⟩ := List.getElem_of_mem hq
      rw [haz k hk]
      rw [List.mem_iff_getElem]
      exact ⟨k, by rw [hTl]; exact hk, by rw [List.getElem_take]⟩
  have hTL : ∀ x, x ∈ L.take fr.length → 18 ≤ x ∧ x < 96 ∧ getB (bmp d) x = false := fun x hx => hfl x (List.mem_of_mem_take hx)
  have hT96 : ∀ x ∈ L.take fr.length, x < 96 := fun x hx => (hTL x hx).2.1
  have hbl := bmp_len hd
  have hcl := clr_len hd hT96
  have hcb := byt_clr hd hT96
  have hsl : (setAll (bmp d) (L.take fr.length)).length = 12 := by rw [setAll_len, hbl]
  have hby := byt_setBmp hcl hsl
  have hin : ∀ q, rb d n q ≠ 0 → q ∉ fr := fun q h1 h2 => h1 ((hmf q).1 h2).2.2
  have hnw : ∀ q, b q ≠ 0 → rb d n q = 0 → q ∈ fr := fun q h1 h2 => Classical.byContradiction fun h => h1 (by rw [hno q h, h2])
  refine ⟨setBmp_len hcl hsl, fun q h1 h2 => ?_, fun q h1 => hno q (hin q h1), fun q hq => hno q fun h => ?_, fun q hq h1 h2 => ?_, fun q q' hq hq' h1 h2 => ?_, fun j => ?_, fun m h1 h2 => ?_⟩
  · by_cases h : q ∈ fr
    · have := hTL _ ((hT _).2 ⟨q, h, rfl⟩)
      omega
    · rw [hno q h]
      exact fun h3 => h ((hmf q).2 ⟨h1, h2, h3⟩)
  · have := (hmf q).1 h
    omega
  · have h3 := (hT _).2 ⟨q, hnw q h1 h2, rfl⟩
    have h4 := hTL _ h3
    refine ⟨h4.1, h4.2.1, h4.2.2, fun r hr => ?_⟩
    rw [hby, if_neg (by omega), hcb, if_pos (by rw [show (128 * b q + r) / 128 = b q by omega]; exact h3)]
  · by_cases f1 : q ∈ fr
    · by_cases f2 : q' ∈ fr
      · obtain ⟨k, hk, rfl⟩ := List.getElem_of_mem f1
        obtain ⟨k', hk', rfl⟩ := List.getElem_of_mem f2
        rw [haz k hk, haz k' hk'] at h2
        have := (List.getElem_inj hLn).1 h2
        subst this
        rfl
      · have h3 := (hTL _ ((hT _).2 ⟨q, f1, rfl⟩)).2.2
        have := (ok_bit hok (b q)).2 (.inr ⟨n, hn, mem_part.2 ⟨h1, q', hq', by rw [h2, hno q' f2]⟩⟩)
        rw [h3] at this
        cases this
    · by_cases f2 : q' ∈ fr
      · have h3 := (hTL _ ((hT _).2 ⟨q', f2, rfl⟩)).2.2
        have := (ok_bit hok (b q')).2 (.inr ⟨n, hn, mem_part.2 ⟨by rw [← h2]; exact h1, q, hq, by rw [← h2, hno q f1]⟩⟩)
        rw [h3] at this
        cases this
      · rw [hno q f1, hno q' f2] at h2
        exact rb_inj hok hn q q' hq hq' (by rw [← hno q f1]; exact h1) h2
  · have hbe := bmp_setBmp hcl hsl
    rw [hbe]
    have := foldl_getB (L.take fr.length) (bmp d) j hbl hT96
    unfold setAll
    rw [this, Bool.or_eq_true, decide_eq_true_eq, hT]
    constructor
    · rintro (⟨q, hq, h1⟩ | h)
      · have h3 := (hTL _ ((hT _).2 ⟨q, hq, rfl⟩)).1
        exact .inr ⟨q, by have := (hmf q).1 hq; omega, by omega, h1⟩
      · exact .inl h
    · rintro (h | ⟨q, hq, h1, h2⟩)
      · exact .inr h
      · by_cases f1 : q ∈ fr
        · exact .inl ⟨q, f1, h2⟩
        · refine .inr ((ok_bit hok j).2 (.inr ⟨n, hn, mem_part.2 ⟨by rw [← h2]; exact h1, q, hq, by rw [← h2, hno q f1]⟩⟩))
  · rw [hby, if_neg h1, hcb, if_neg fun h => ?_]
    obtain ⟨q, hq, h3⟩ := (hT _).1 h
    have h4 := (hTL _ h).1
    exact h2 q (by have := (hmf q).1 hq; omega) (by omega) ((hmf q).1 hq).2.2 h3.symm

/-- The bits may be laid first. -/
theorem put_swap {c data : List UInt8} {b : Nat → Nat} {off : Nat} (hc : c.length = 12288) {bits : List UInt8} (hb : bits.length = 12) {n : Nat} (hn : n < 32) (k s : Nat)
    (hr : ∀ q, q < data.length → 18 ≤ b ((off + q) / 128) ∧ b ((off + q) / 128) < 96) :
    setBmp (putI (wdO c b off data data.length) n k s b) bits = putI (wdO (setBmp c bits) b off data data.length) n k s b := by
  have hl := setBmp_len hc hb
  have hsb := byt_setBmp hc hb
  obtain ⟨p1, -⟩ := wdO_parts (o := c) (o' := setBmp c bits) hc hl hr (fun m hm => by rw [hsb, if_neg hm]) data.length (Nat.le_refl _)
  obtain ⟨-, p3⟩ := wdO_parts (o := setBmp c bits) (o' := setBmp c bits) hl hl hr (fun m hm => rfl) data.length (Nat.le_refl _)
  have l1 := (wdO_len c b off data data.length).trans hc
  have l2 := (wdO_len (setBmp c bits) b off data data.length).trans hl
  generalize wdO c b off data data.length = x1 at *
  generalize wdO (setBmp c bits) b off data data.length = x2 at *
  have l3 := putI_len l1 hn k s b
  refine byt_ext (by rw [setBmp_len l3 hb, putI_len l2 hn]) fun m hm => ?_
  rw [byt_setBmp l3 hb, byt_putI l1 hn, byt_putI l2 hn]
  by_cases hbm : 1664 ≤ m ∧ m < 1676
  · rw [if_pos hbm, if_neg (by omega), p3 m (by omega), hsb, if_pos hbm]
  · rw [if_neg hbm, p1 m hbm]

theorem wdO_bytes {o data : List UInt8} {b : Nat → Nat} {off : Nat} (ho : o.length = 12288) (hb : ∀ q, q < 12 → b q < 96) (hinj : ∀ q q', q < 12 → q' < 12 → b q ≠ 0 → b q = b q' → q = q') (hhas : ∀ t, t < data.length → b ((off + t) / 128) ≠ 0) (hl : off + data.length ≤ 1536) : ∀ k, k ≤ data.length →
    (∀ q r, q < 12 → r < 128 → b q ≠ 0 → off + k ≤ 128 * q + r → byt (wdO o b off data k) (128 * b q + r) = byt o (128 * b q + r)) ∧ (∀ m, (∀ q, q < 12 → b q ≠ 0 → m / 128 ≠ b q) → byt (wdO o b off data k) m = byt o m) ∧
      ∀ t, t < k → byt (wdO o b off data k) (128 * b ((off + t) / 128) + (off + t) % 128) = byt data t
  | 0, _ => ⟨fun q r _ _ _ _ => rfl, fun m _ => rfl, fun t ht => by omega⟩
  | k + 1, hk => by
    obtain ⟨ih1, ih2, ih3⟩ := wdO_bytes ho hb hinj hhas hl k (by omega)
    have hkb := hb ((off + k) / 128) (by omega)
    have hk0 := hhas k (by omega)
    have hput : ∀ m, byt (wdO o b off data (k + 1)) m = if m = 128 * b ((off + k) / 128) + (off + k) % 128 then byt data k else byt (wdO o b off data k) m := fun m => by
      show byt (bput (wdO o b off data k) _ _) m = _
      rw [byt_bput (by rw [wdO_len]; omega) (byt_lt _ _)]
    refine ⟨fun q r hq hr h0 hkr => ?_, fun m hm => ?_, fun t ht => ?_⟩
    · rw [hput, if_neg fun h => ?_, ih1 q r hq hr h0 (by omega)]
      have h5 : b q = b ((off + k) / 128) := by omega
      have := hinj q ((off + k) / 128) hq (by omega) h0 h5
      omega
    · have := hm ((off + k) / 128) (by omega) hk0
      rw [hput, if_neg (by omega), ih2 m hm]
    · rw [hput]
      by_cases htk : t = k
      · rw [htk, if_pos rfl]
      · rw [if_neg fun h => ?_, ih3 t (by omega)]
        have h5 : b ((off + t) / 128) = b ((off + k) / 128) := by omega
        have := hinj _ _ (by omega) (by omega) (hhas t (by omega)) h5
        omega

/-- Writing to a file leaves a tree, and the other files; the bytes are there. -/
theorem pwrite_file {d : List UInt8} (h38 : chk38 d = 0) {n off : Nat} (hg : gete d n = 0) (hk : rk d n = 1) {data : List UInt8} (he : (pwriteR d n off data).2 = 0) :
    chk38 (pwriteR d n off data).1 = 0 ∧ (∀ m, m < 32 → rk (pwriteR d n off data).1 m = rk d m) ∧ (∀ m, m < 32 → m ≠ n → rk d m ≠ 0 → contentR (pwriteR d n off data).1 m = contentR d m) ∧
      ((contentR (pwriteR d n off data).1 n).drop off).take data.length = data ∧ (T0 (pwriteR d n off data).1).es = (T0 d).es := by
  obtain ⟨h0, hG, hE⟩ := tree_facts h38
  obtain ⟨hd, hok⟩ := chk_zero h0
  obtain ⟨hn, -⟩ := (gete_iff h0).1 hg
  obtain ⟨p1, p2⟩ := ok_parts hok
  have hn0 : n ≠ 0 := fun h => by
    have := (mem_dl.1 (root_in h0)).2
    rw [h] at hk
    omega
  unfold pwriteR at he ⊢
  rw [if_neg (by rw [hg]; simp)] at he ⊢
  by_cases hdl : data.length = 0
  · rw [if_pos hdl]
    exact ⟨h38, fun _ _ => rfl, fun _ _ _ _ => rfl, by rw [List.eq_nil_of_length_eq_zero hdl]; rfl, rfl⟩
  rw [if_neg hdl, if_neg (show ¬ rk d n = 2 by omega)] at he ⊢
  by_cases hbig : 1536 < off + data.length
  · rw [if_pos hbig] at he; cases he
  rw [if_neg hbig] at he ⊢
  by_cases hfew : (freeL (bmp d)).length < (fresh (rb d n) (off / 128) ((off + data.length + 127) / 128 - off / 128)).length
  · rw [if_pos hfew] at he; cases he
  rw [if_neg hfew]
  obtain ⟨c, hc⟩ : ∃ c, c = (off + data.length + 127) / 128 - off / 128 := ⟨_, rfl⟩
  rw [← hc] at hfew ⊢
  dsimp only
  have W := wo_of hok hd hn (i := off / 128) (c := c) (by omega) (by omega)
  have hT96 : ∀ x ∈ (freeL (bmp d)).take (fresh (rb d n) (off / 128) c).length, x < 96 := fun x hx => (freeL_lt (List.mem_of_mem_take hx)).2.1
  have hcl := clr_len hd hT96
  have hsl : (setAll (bmp d) ((freeL (bmp d)).take (fresh (rb d n) (off / 128) c).length)).length = 12 := by rw [setAll_len, bmp_len hd]
  generalize asg (rb d n) ((fresh (rb d n) (off / 128) c).zip (freeL (bmp d))) = b at *
  generalize setAll (bmp d) ((freeL (bmp d)).take (fresh (rb d n) (off / 128) c).length) = bits at *
  generalize clr d ((freeL (bmp d)).take (fresh (rb d n) (off / 128) c).length) = e0 at *
  have hsz := form_size (hok.form n hn)
  have hb96 : ∀ q, q < 12 → b q < 96 := fun q hq => by
    by_cases h1 : b q = 0
    · omega
    · by_cases h2 : rb d n q = 0
      · exact (W.new q hq h1 h2).2.1
      · rw [W.old q h2]
        exact ok_blocks hok hn hq
  have hb18 : ∀ q, q < 12 → b q ≠ 0 → 18 ≤ b q := fun q hq h1 => by
    by_cases h2 : rb d n q = 0
    · exact (W.new q hq h1 h2).1
    · rw [W.old q h2]
      exact (form_blocks (hok.form n hn) q hq h2).1
  have hps := put_swap (c := e0) (data := data) (b := b) (off := off) hcl hsl hn (rk d n) (max (rs d n) (off + data.length)) (fun q hq => ⟨hb18 _ (by omega) (W.has _ (by omega) (by omega)), hb96 _ (by omega)⟩)
  rw [hps]
  clear hps
  generalize setBmp e0 bits = o at *
  have hD := wdO_bytes (data := data) (off := off) W.len hb96 W.inj (fun t ht => W.has _ (by omega) (by omega)) (by omega) data.length (Nat.le_refl _)
  obtain ⟨D1, D2, D3⟩ := hD
  have hwl : (wdO o b off data data.length).length = 12288 := by rw [wdO_len, W.len]
  generalize wdO o b off data data.length = w at *
  obtain ⟨s, hs⟩ : ∃ s, s = max (rs d n) (off + data.length) := ⟨_, rfl⟩
  rw [← hs, hk]
  have hs1 : rs d n ≤ s ∧ off + data.length ≤ s ∧ s ≤ 1536 := by omega
  have hpl := putI_len hwl hn 1 s b
  obtain ⟨f1, f2, f3, f4⟩ := putI_fields hwl hn 1 s b (by decide) (by omega) (fun i hi => by have := hb96 i hi; omega)
  have hpb := byt_putI hwl hn 1 s b
  generalize putI w n 1 s b = e at *
  have hby : ∀ m, ¬ (1792 + 16 * n ≤ m ∧ m < 1792 + 16 * n + 16) → ¬ (1664 ≤ m ∧ m < 1676) → (∀ q, q < 12 → b q ≠ 0 → m / 128 ≠ b q) → byt e m = byt d m := fun m h1 h2 h3 => by
    rw [hpb, if_neg h1, D2 m h3, W.byts m h2 fun q hq h4 _ => h3 q hq h4]
  have hlow : ∀ m, m / 128 < 18 → ∀ q, q < 12 → b q ≠ 0 → m / 128 ≠ b q := fun m hm q hq h => by have := hb18 q hq h; omega
  have hbe : bmp e = bmp o := by
    refine byt_ext (by rw [bmp_len hpl, bmp_len W.len]) fun r hr => ?_
    rw [bmp_len hpl] at hr
    have hol := W.len
    unfold bmp
    rw [byt_cut (by omega) hr, byt_cut (by omega) hr, hpb, if_neg (by omega), D2 _ (hlow _ (by omega))]
  have hpe : ∀ x, x ∈ part e n 12 ↔ x ≠ 0 ∧ ∃ q, q < 12 ∧ b q = x := fun x => by
    rw [mem_part]
    constructor
    · rintro ⟨h1, q, hq, h2⟩; exact ⟨h1, q, hq, by rw [← f3 q hq]; exact h2⟩
    · rintro ⟨h1, q, hq, h2⟩; exact ⟨h1, q, hq, by rw [f3 q hq]; exact h2⟩
  have hoth : ∀ m, m < 32 → m ≠ n → ∀ y ∈ part d m 12, ∀ q, q < 12 → b q ≠ 0 → y ≠ b q := fun m hm hmn y hy q hq h1 h2 => by
    by_cases h3 : rb d n q = 0
    · have h4 := (W.new q hq h1 h3).2.2.1
      have := (ok_bit hok y).2 (.inr ⟨m, hm, hy⟩)
      rw [h2, h4] at this
      cases this
    · have h5 := W.old q h3
      exact p2 m n hm hn hmn y hy (mem_part.2 ⟨by rw [h2]; exact h1, q, hq, by rw [h2, h5]⟩)
  have hslot : ∀ m, m < 32 → m ≠ n → SlotSame d e m := fun m hm hmn r hr => hby _ (by omega) (by omega) (hlow _ (by omega))
  have hblk : ∀ m, m < 32 → m ≠ n → ∀ y ∈ part d m 12, ∀ i, 128 * y ≤ i → i < 128 * y + 128 → byt e i = byt d i := fun m hm hmn y hy i a c => by
    have := (part_rng hok hm hy).1
    have h5 : i / 128 = y := by omega
    exact hby i (by omega) (by omega) fun q hq h1 => by rw [h5]; exact hoth m hm hmn y hy q hq h1
  have hOk : Ok37 e := by
    refine ok_change hok hd hpl hn (fun m hm => hby m (by omega) (by omega) (hlow m (by omega))) (fun m a c => hby m (by omega) (by omega) (hlow m (by omega))) hslot ?_ hblk ?_ (fun m hm hmn x hx hx' => ?_) (fun j hj => ?_)
    · unfold formB
      rw [f4, Bool.and_eq_true]
      refine ⟨by simp, ?_⟩
      have hnz : ¬ inoZ (rk e n) (rs e n) (rb e n) = true := fun h => by
        have := (inoZ_iff.1 h).1
        omega
      rw [if_neg hnz, decide_eq_true_eq]
      refine ⟨.inl f1, by rw [f2]; exact hs1.2.2, fun h => absurd h hn0, fun i hi h => ?_, ?_, .inl f1⟩
      · rw [f3 i hi] at h ⊢
        rw [f2]
        refine ⟨hb18 i hi h, hb96 i hi, ?_⟩
        by_cases h2 : rb d n i = 0
        · by_cases h3 : off / 128 ≤ i ∧ i < off / 128 + c
          · omega
          · have := W.rest i (by omega)
            rw [this] at h
            exact absurd h2 h
        · have := (form_blocks (hok.form n hn) i hi h2).2.2
          omega
      · unfold tailZ
        rw [f2]
        by_cases q1 : s % 128 = 0
        · rw [decide_eq_true q1]; rfl
        have hq12 : s / 128 < 12 := by omega
        rw [decide_eq_false q1, Bool.false_or, f3 _ hq12]
        by_cases q2 : b (s / 128) = 0
        · rw [decide_eq_true q2]; rfl
        rw [decide_eq_false q2, Bool.false_or, allZ_iff]
        have h96 := hb96 _ hq12
        have h18 := hb18 _ hq12 q2
        intro r hr
        rw [cut_len (by omega)] at hr
        rw [byt_cut (by omega) hr, hpb, if_neg (by omega), Nat.add_assoc, D1 (s / 128) (s % 128 + r) hq12 (by omega) q2 (by omega)]
        by_cases h2 : rb d n (s / 128) = 0
        · exact (W.new _ hq12 q2 h2).2.2.2 _ (by omega)
        · have hro := W.old _ h2
          have hlt := (form_blocks (hok.form n hn) _ hq12 h2).2.2
          rw [W.byts _ (by omega) fun q hq h3 h4 h5 => ?_]
          · have hf := hok.form n hn
            unfold formB at hf
            rw [Bool.and_eq_true] at hf
            have hf2 := hf.2
            have hnz2 : ¬ inoZ (rk d n) (rs d n) (rb d n) = true := fun h => by
              have := (inoZ_iff.1 h).1
              omega
            rw [if_neg hnz2, decide_eq_true_eq] at hf2
            have ht := hf2.2.2.2.2.1
            unfold tailZ at ht
            have hrq : rs d n / 128 = s / 128 := by omega
            rw [decide_eq_false (by omega), Bool.false_or, hrq, decide_eq_false h2, Bool.false_or, allZ_iff] at ht
            have hro2 : rb d n (s / 128) = b (s / 128) := hro.symm
            rw [hro2] at ht
            have hcl : (cut d (128 * b (s / 128) + rs d n % 128) (128 - rs d n % 128)).length = 128 - rs d n % 128 := cut_len (by omega)
            have := ht (s % 128 + r - rs d n % 128) (by rw [hcl]; omega)
            rw [byt_cut (by omega) (by omega)] at this
            rw [← this]
            congr 1
            omega
          · have h6 : b (s / 128) = b q := by omega
            have := W.inj _ _ hq12 hq q2 h6
            rw [← this] at h4
            exact h2 h4
    · unfold part
      have hnd : List.Pairwise (fun x y : Nat => x ≠ y) (((List.range 12).map (rb e n)).filter (· ≠ 0)) := by
        rw [List.filter_map]
        refine List.pairwise_map.2 (List.pairwise_filter.2 ?_)
        have hr : (List.range 12).Pairwise fun x y => x ≠ y := List.nodup_range
        refine hr.imp_of_mem fun {x y} hx hy hxy hx0 hy0 he => hxy ?_
        have hx := List.mem_range.1 hx
        have hy := List.mem_range.1 hy
        rw [f3 x hx, f3 y hy] at he
        have hx0 : rb e n x ≠ 0 := by simpa using hx0
        rw [f3 x hx] at hx0
        exact W.inj x y hx hy hx0 he
      exact hnd
    · obtain ⟨h1, q, hq, h2⟩ := (hpe x).1 hx
      exact hoth m hm hmn x hx' q hq (by rw [h2]; exact h1) h2.symm
    · rw [hbe, W.bits, ok_bit hok]
      constructor
      · rintro ((h | ⟨m, hm, h⟩) | ⟨q, hq, h1, h2⟩)
        · exact .inl h
        · by_cases hmn : m = n
          · subst hmn
            obtain ⟨h3, q, hq, h4⟩ := mem_part.1 h
            exact .inr (.inl ((hpe j).2 ⟨h3, q, hq, by rw [W.old q (by rw [h4]; exact h3)]; exact h4⟩))
          · exact .inr (.inr ⟨m, hm, hmn, h⟩)
        · exact .inr (.inl ((hpe j).2 ⟨by rw [← h2]; exact h1, q, hq, h2⟩))
      · rintro (h | h | ⟨m, hm, _, h⟩)
        · exact .inl (.inl h)
        · obtain ⟨h1, q, hq, h2⟩ := (hpe j).1 h
          exact .inr ⟨q, hq, by rw [h2]; exact h1, h2⟩
        · exact .inl (.inr ⟨m, hm, h⟩)
  have g0 := chk_ok hpl hOk
  have hkinds : ∀ m, m < 32 → rk e m = rk d m := fun m hm => by
    by_cases hmn : m = n
    · rw [hmn, f1, hk]
    · exact (slot_all (hslot m hm hmn)).1
  have hdle : ∀ m, m ∈ (T0 e).dl ↔ m ∈ (T0 d).dl := fun m => by
    rw [mem_dl, mem_dl]
    constructor
    · rintro ⟨a, c⟩; exact ⟨a, by rw [← hkinds m a]; exact c⟩
    · rintro ⟨a, c⟩; exact ⟨a, by rw [hkinds m a]; exact c⟩
  have hcont : ∀ m ∈ (T0 d).dl, contentR e m = contentR d m := fun m hm => by
    obtain ⟨a, c⟩ := mem_dl.1 hm
    have hmn : m ≠ n := fun h => by rw [h] at c; omega
    exact content_same h0 g0 a (by omega) ⟨hslot m a hmn, hblk m a hmn⟩
  have hch : (T0 e).ch = (T0 d).ch := funext fun m => by
    by_cases hm : m ∈ (T0 d).dl
    · rw [(T0 e).ch_es ((hdle m).2 hm), (T0 d).ch_es hm, T0_E, T0_E, hcont m hm]
    · rw [(T0 e).ch_no fun h => hm ((hdle m).1 h), (T0 d).ch_no hm]
  have hes : (T0 e).es = (T0 d).es := funext fun m => by
    unfold Tree.es
    by_cases hm : m ∈ (T0 d).dl
    · rw [if_pos ((hdle m).2 hm), if_pos hm, T0_E, T0_E, hcont m hm]
    · rw [if_neg fun h => hm ((hdle m).1 h), if_neg hm]
  have hge : gete e n = 0 := (gete_iff g0 (m := n)).2 ⟨hn, by rw [f1]; decide⟩
  refine ⟨chk38_of g0 (fun m hm => ?_) ⟨fun m hm x hx => ?_, fun m hm => ?_, fun m hm m' hm' x hx hx' => ?_⟩ fun m hm hmk => ?_, hkinds, fun m hm hmn hmk => content_same h0 g0 hm hmk ⟨hslot m hm hmn, hblk m hm hmn⟩, ?_, hes⟩
  · rw [hcont m ((hdle m).1 hm)]
    exact hE m ((hdle m).1 hm)
  · rw [hch] at hx
    obtain ⟨q1, q2, q3⟩ := hG.fine.ok m ((hdle m).1 hm) x hx
    exact ⟨q1, q2, by show rk e x ≠ 0; rw [hkinds x q2]; exact q3⟩
  · rw [hch]
    exact hG.fine.nd m ((hdle m).1 hm)
  · rw [hch] at hx hx'
    exact hG.fine.one m ((hdle m).1 hm) m' ((hdle m').1 hm') x hx hx'
  · rw [hch]
    exact tree_rch h38 hm (by rw [← hkinds m hm]; exact hmk)
  · have hrb : ∀ j, j < 12 → rb e n j < 96 := fun j hj => by rw [f3 j hj]; exact hb96 j hj
    have hcl2 : (contB e (rb e n) 12).length = 128 * 12 := contB_len hpl hrb
    unfold contentR
    rw [if_neg (by rw [hge]; simp), f2]
    refine byt_ext (by rw [List.length_take, List.length_drop, List.length_take, hcl2]; omega) fun t ht => ?_
    rw [List.length_take, List.length_drop, List.length_take, hcl2] at ht
    have ht : t < data.length := by omega
    have e1 : byt ((((contB e (rb e n) 12).take s).drop off).take data.length) t = byt (contB e (rb e n) 12) (off + t) := by
      unfold byt
      rw [List.getD_eq_getElem?_getD, List.getD_eq_getElem?_getD, List.getElem?_take, if_pos ht, List.getElem?_drop, List.getElem?_take, if_pos (by omega)]
    have h12 : (off + t) / 128 < 12 := by omega
    have hne := W.has ((off + t) / 128) (by omega) (by omega)
    have hbb := hb18 _ h12 hne
    rw [e1, byt_contB hpl hrb 12 (Nat.le_refl _), f3 _ h12, if_pos ⟨h12, hne⟩, hpb, if_neg (by omega), D3 t ht]

end Go.Proofs.YtfeoedkmndkbjaaGreatDoor
