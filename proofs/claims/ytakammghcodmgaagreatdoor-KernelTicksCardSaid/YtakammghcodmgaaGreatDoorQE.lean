/- Parts of the proof: SyK, SyO, SyP. -/
import Derived.Test.YtakammghcodmgaaGreatDoorQC
import Derived.ChangeKeysEq
import Derived.Laws.StructEq
namespace Go.Sx
open Go
set_option linter.unusedVariables false
set_option linter.unusedSimpArgs false
variable {P : Program}

theorem run_part1 {t : TypeId} {d : TypeDesc} (ht : P.underlying t = some d) (ha : (mkTK d).agg = false) {cs : Array Value} {o : Nat} {v : Value} (hv : cs[o]? = some v) (w : World) : (part t cs o).run P w = .ok v w := by
 unfold part
 rw [run_bind_ok (run_isAgg ht w), ha]
 simp [hv]

theorem run_partA {t : TypeId} {d : TypeDesc} {i : TypeInfo} (ht : P.underlying t = some d) (ha : (mkTK d).agg = true) (hi : P.info? t = some i) {cs : Array Value} {o : Nat} (w : World) :
 (part t cs o).run P w = .ok (.agg (cs.extract o (o + i.size))) w := by
 unfold part
 rw [run_bind_ok (run_isAgg ht w), ha]
 simp only [if_true]
 rw [run_bind_ok (run_sizeOf hi w)]
 rfl

end Go.Sx
namespace Go.Sx
open Go
set_option linter.unusedVariables false
set_option linter.unusedSimpArgs false

/-- Keys of which the model decides whether they are the same. -/
structure KeyT (P : Program) (kt : TypeId) (S : Value → Prop) : Prop where
 check : ∀ k, S k → ∀ (em : Bool) (w : World), (Instr.checkKey em 10000 kt k).run P w = .ok () w
 find : ∀ (k : Value) (l : KVs), S k → (∀ p ∈ l, S p.1) → ∀ w, (∃ i v, l[i]? = some (k, v) ∧ (Instr.findKey kt k (mapG l).toList).run P w = .ok (some (i, v)) w) ∨ ((∀ p ∈ l, p.1 ≠ k) ∧ (Instr.findKey kt k (mapG l).toList).run P w = .ok none w)
 stays : ∀ k, S k → ∀ w, (Instr.keyThatStays k k).run P w = .ok k w

section
variable {P : Program} {tab : Tab} {w0 : World} {R : Nat → Nat → Prop} {av : Nat → Prop} {bs : List (Nat × Nat)} {cs : List (List Value)} {F : Fx}

/-- m[k] and v, ok := m[k]: the key is there. -/
theorem XRead.lookupInT (hT : TabOk P tab) {t kt et : TypeId} {ti tk : TI} (ht : look tab t = some ti) (hk : ti.k = .map kt et) (hkt : look tab kt = some tk) {S : Value → Prop} (hS : KeyT P kt S) {b : Nat} {l : KVs} {k v : Value} {ok : Bool} {K : Value → Prop}
 (hm : SeesM w0 R av bs cs F b l) (hkk : S k) (hl : ∀ p ∈ l, S p.1) (hv : ∀ (i : Nat) u, l[i]? = some (k, u) → u = v) (hin : ∃ p ∈ l, p.1 = k)
 (h : K (if ok then .tuple #[v, .bool true] else v)) :
 XRead P w0 R av (Instr.lookup t (.map (some b)) k ok) bs cs F K := by
 refine (XRead_iff _ _ _ _).2 ⟨_, fun w hst => ?_, h⟩
 obtain ⟨i1, d1, z1, p1, p2, p3, p4, p5, p6, p7, p8⟩ := mkTI_parts (hT _ _ ht)
 obtain ⟨i2, d2, z2, q1, q2, q3, q4, q5, q6, q7, q8⟩ := mkTI_parts (hT _ _ hkt)
 rw [p4] at hk
 obtain rfl := map_of hk
 have hb : w.heap[b]? = some (.map (mapG l) l.length) := hm w hst
 have hck : (Instr.checkKey (mapG l).isEmpty 10000 kt k).run P w = .ok () w := hS.check k hkk _ w
 rcases hS.find k l hkk hl w with ⟨i, u, h1, hf⟩ | ⟨h1, hf⟩
 · have := hv i u h1
   subst this
   cases ok <;> simp [Instr.lookup, run_underlying p2, MapKept.run_getObj_map hb, hck, hf, Result.andThen]
 · obtain ⟨p, hp, he⟩ := hin
   exact absurd he (h1 p hp)

/-- The key is not there. -/
theorem XRead.lookupNoT (hT : TabOk P tab) {t kt et : TypeId} {ti tk : TI} (ht : look tab t = some ti) (hk : ti.k = .map kt et) (hkt : look tab kt = some tk) {S : Value → Prop} (hS : KeyT P kt S) {b : Nat} {l : KVs} {k z : Value} {ok : Bool} {K : Value → Prop}
 (hm : SeesM w0 R av bs cs F b l) (hkk : S k) (hl : ∀ p ∈ l, S p.1) (hno : ∀ p ∈ l, p.1 ≠ k) (hz : (P.info? et).bind (·.zero) = some z)
 (h : K (if ok then .tuple #[z, .bool false] else z)) :
 XRead P w0 R av (Instr.lookup t (.map (some b)) k ok) bs cs F K := by
 refine (XRead_iff _ _ _ _).2 ⟨_, fun w hst => ?_, h⟩
 obtain ⟨i1, d1, z1, p1, p2, p3, p4, p5, p6, p7, p8⟩ := mkTI_parts (hT _ _ ht)
 obtain ⟨i2, d2, z2, q1, q2, q3, q4, q5, q6, q7, q8⟩ := mkTI_parts (hT _ _ hkt)
 rw [p4] at hk
 obtain rfl := map_of hk
 have hb : w.heap[b]? = some (.map (mapG l) l.length) := hm w hst
 have hck : (Instr.checkKey (mapG l).isEmpty 10000 kt k).run P w = .ok () w := hS.check k hkk _ w
 rcases hS.find k l hkk hl w with ⟨i, u, h1, hf⟩ | ⟨h1, hf⟩
 · exact absurd rfl (hno _ (List.mem_of_getElem? h1))
 · have hzv : (zeroValue et).run P w = .ok z w := by
    cases hi : P.info? et with
    | none => rw [hi] at hz; cases hz
    | some i3 =>
     rw [hi] at hz
     exact run_zero hi hz w
   cases ok <;> simp [Instr.lookup, run_underlying p2, MapKept.run_getObj_map hb, hck, hf, hzv, Result.andThen]

/-- m[k] = v: a new key. -/
theorem XUnit.mapNewT (hT : TabOk P tab) {t kt et : TypeId} {ti tk : TI} (ht : look tab t = some ti) (hk : ti.k = .map kt et) (hkt : look tab kt = some tk) {S : Value → Prop} (hS : KeyT P kt S)
 {D : World → Prop} {r1 r2 : List (Nat × Row)} {b : Nat} {l : KVs} {k v : Value} {K : KU} (hkk : S k) (hl : ∀ p ∈ l, S p.1) (hno : ∀ p ∈ l, p.1 ≠ k)
 (h : K bs cs ⟨D, r1 ++ [(b, Row.m (mapG (l ++ [(k, v)])) (l ++ [(k, v)]).length)] ++ r2⟩) :
 XUnit P w0 R av (Instr.mapUpdate t (.map (some b)) k v) bs cs ⟨D, r1 ++ [(b, Row.m (mapG l) l.length)] ++ r2⟩ K := by
 refine XUnit_iff.2 fun w hst => ?_
 obtain ⟨i1, d1, z1, p1, p2, p3, p4, p5, p6, p7, p8⟩ := mkTI_parts (hT _ _ ht)
 obtain ⟨i2, d2, z2, q1, q2, q3, q4, q5, q6, q7, q8⟩ := mkTI_parts (hT _ _ hkt)
 rw [p4] at hk
 obtain rfl := map_of hk
 have hb : w.heap[b]? = some (.map (mapG l) l.length) := (hst.rows (b, Row.m (mapG l) l.length) (by simp)).1
 have hck : (Instr.checkKey false 10000 kt k).run P w = .ok () w := hS.check k hkk _ w
 have hf : (Instr.findKey kt k (mapG l).toList).run P w = .ok none w := by
  rcases hS.find k l hkk hl w with ⟨i, u, h1, _⟩ | ⟨_, h2⟩
  · exact absurd rfl (hno _ (List.mem_of_getElem? h1))
  · exact h2
 obtain ⟨g1, g2⟩ := MapKept.heap_set (o' := .map (mapG (l ++ [(k, v)])) (l ++ [(k, v)]).length) hb
 refine ⟨{ w with heap := w.heap.setIfInBounds b (.map (mapG (l ++ [(k, v)])) (l ++ [(k, v)]).length) }, [], cs, _, ?_, ?_, by rw [List.append_nil]; exact h⟩
 · rw [mapG_snoc]
   simp [Instr.mapUpdate, run_underlying p2, MapKept.run_getObj_map hb, hck, hf, MapKept.run_setObj_map _ hb, Result.andThen]
 · rw [List.append_nil]
   exact hst.putRow (C' := Row.m (mapG (l ++ [(k, v)])) (l ++ [(k, v)]).length) rfl rfl rfl (by simp) g2 g1 fun l hl => by cases hl

/-- m[k] = v: a key that is there. -/
theorem XUnit.mapOldT (hT : TabOk P tab) {t kt et : TypeId} {ti tk : TI} (ht : look tab t = some ti) (hk : ti.k = .map kt et) (hkt : look tab kt = some tk) {S : Value → Prop} (hS : KeyT P kt S)
 {D : World → Prop} {r1 r2 : List (Nat × Row)} {b : Nat} {l : KVs} {k v : Value} {K : KU} (hkk : S k) (hl : ∀ p ∈ l, S p.1) (hin : ∃ p ∈ l, p.1 = k)
 (h : ∀ i u, l[i]? = some (k, u) → K bs cs ⟨D, r1 ++ [(b, Row.m (mapG (l.set i (k, v))) (l.set i (k, v)).length)] ++ r2⟩) :
 XUnit P w0 R av (Instr.mapUpdate t (.map (some b)) k v) bs cs ⟨D, r1 ++ [(b, Row.m (mapG l) l.length)] ++ r2⟩ K := by
 refine XUnit_iff.2 fun w hst => ?_
 obtain ⟨i1, d1, z1, p1, p2, p3, p4, p5, p6, p7, p8⟩ := mkTI_parts (hT _ _ ht)
 obtain ⟨i2, d2, z2, q1, q2, q3, q4, q5, q6, q7, q8⟩ := mkTI_parts (hT _ _ hkt)
 rw [p4] at hk
 obtain rfl := map_of hk
 have hb : w.heap[b]? = some (.map (mapG l) l.length) := (hst.rows (b, Row.m (mapG l) l.length) (by simp)).1
 have hck : (Instr.checkKey false 10000 kt k).run P w = .ok () w := hS.check k hkk _ w
 rcases hS.find k l hkk hl w with ⟨i, u, h1, hf⟩ | ⟨h1, _⟩
 · have e1 : (mapG l)[i]? = some ⟨k, u, i⟩ := by
    have := mapG_get l i
    rw [h1] at this
    simpa using this
   have hst2 : (Instr.keyThatStays k k).run P w = .ok k w := hS.stays k hkk w
   obtain ⟨g1, g2⟩ := MapKept.heap_set (o' := .map (mapG (l.set i (k, v))) (l.set i (k, v)).length) hb
   refine ⟨{ w with heap := w.heap.setIfInBounds b (.map (mapG (l.set i (k, v))) (l.set i (k, v)).length) }, [], cs, _, ?_, ?_, by rw [List.append_nil]; exact h i u h1⟩
   · rw [← mapG_set]
     simp [Instr.mapUpdate, run_underlying p2, MapKept.run_getObj_map hb, hck, hf, e1, hst2, MapKept.run_setObj_map _ hb, Result.andThen]
   · rw [List.append_nil]
     exact hst.putRow (C' := Row.m (mapG (l.set i (k, v))) (l.set i (k, v)).length) rfl rfl rfl (by simp) g2 g1 fun l hl => by cases hl
 · obtain ⟨p, hp, he⟩ := hin
   exact absurd he (h1 p hp)

/-- Whether structs of numbers are the same: their cells are. -/
structure EqT (P : Program) (t : TypeId) (n : Nat) : Prop where
 eq : ∀ (xs ys : List Int) (w : World), xs.length = n → ys.length = n → (Op.equal t (.agg ⟨xs.map (Value.int .i64)⟩) (.agg ⟨ys.map (Value.int .i64)⟩)).run P w = .ok (xs == ys) w

def aggI (xs : List Int) : Value := .agg ⟨xs.map (Value.int .i64)⟩
def IsAgg (n : Nat) (v : Value) : Prop := ∃ xs : List Int, xs.length = n ∧ v = aggI xs

theorem aggI_inj {xs ys : List Int} (h : aggI xs = aggI ys) : xs = ys := by
 unfold aggI at h
 injection h with h
 injection h with h
 exact (List.map_inj_right (fun a b h => by injection h)).1 h

end

end Go.Sx
namespace Go.Sx
open Go
set_option linter.unusedVariables false
set_option linter.unusedSimpArgs false
variable {P : Program}

theorem sameNow_struct {fs : Array Field} {a b : Value} : Instr.sameNow (.struct fs) a b = none := by
 cases a <;> cases b <;> rfl

theorem run_findAsking {kt : TypeId} {n : Nat} (he : EqT P kt n) {xs : List Int} (hx : xs.length = n) (w : World) : ∀ (es : List MapEntry) (i : Nat), (∀ e ∈ es, IsAgg n e.key) →
 (∃ j e, es[j]? = some e ∧ e.key = aggI xs ∧ (Instr.findAsking kt (aggI xs) es i).run P w = .ok (some (i + j, e.val)) w) ∨ ((∀ e ∈ es, e.key ≠ aggI xs) ∧ (Instr.findAsking kt (aggI xs) es i).run P w = .ok none w)
 | [], i, _ => .inr ⟨by simp, rfl⟩
 | e :: es, i, h => by
  obtain ⟨ys, hy, hk⟩ := h e (List.mem_cons_self ..)
  have heq := he.eq xs ys w hx hy
  have hr : (Instr.findAsking kt (aggI xs) (e :: es) i).run P w = (if xs == ys then (Result.ok (some (i, e.val)) w) else (Instr.findAsking kt (aggI xs) es (i + 1)).run P w) := by
   conv => lhs; unfold Instr.findAsking
   rw [hk, run_bind_ok (a := (xs == ys)) (w' := w) (by unfold aggI; exact heq)]
   cases (xs == ys) <;> rfl
  by_cases hxy : xs = ys
  · subst hxy
    exact .inl ⟨0, e, rfl, hk, by rw [hr]; simp⟩
  · have hb : (xs == ys) = false := by simpa using hxy
    rw [hb] at hr
    simp only [Bool.false_eq_true, if_false] at hr
    have hne : e.key ≠ aggI xs := fun q => hxy (aggI_inj (q.symm.trans hk))
    rcases run_findAsking he hx w es (i + 1) (fun x hx => h x (List.mem_cons_of_mem _ hx)) with ⟨j, e', h1, h2, h3⟩ | ⟨h1, h2⟩
    · exact .inl ⟨j + 1, e', h1, h2, by rw [hr, h3]; congr 2; congr 1; omega⟩
    · refine .inr ⟨fun x hx => ?_, by rw [hr, h2]⟩
      rcases List.mem_cons.1 hx with rfl | hx
      · exact hne
      · exact h1 x hx

theorem KeyT.of_eq {kt : TypeId} {n : Nat} {fs : Array Field} (hu : P.underlying kt = some (.struct fs)) (hck : ∀ xs : List Int, xs.length = n → ∀ (em : Bool) (w : World), (Instr.checkKey em 10000 kt (aggI xs)).run P w = .ok () w) (he : EqT P kt n)
 (hsb : ∀ xs : List Int, xs.length = n → Instr.sameBits 10000 (aggI xs) (aggI xs) = true) : KeyT P kt (IsAgg n) where
 check k hk em w := by
  obtain ⟨xs, hx, rfl⟩ := hk
  exact hck xs hx em w
 find k l hk hl w := by
  obtain ⟨xs, hx, rfl⟩ := hk
  have hf : (Instr.findKey kt (aggI xs) (mapG l).toList).run P w = (Instr.findAsking kt (aggI xs) (mapG l).toList 0).run P w := by
   unfold Instr.findKey
   rw [run_bind_ok (run_underlying' hu w)]
   cases hm : (mapG l).toList with
   | nil => rfl
   | cons e es =>
    have : Instr.findNow (.struct fs) (aggI xs) (e :: es) 0 = none := by
     unfold Instr.findNow
     rw [sameNow_struct]
    rw [this]
  have hkeys : ∀ e ∈ (mapG l).toList, IsAgg n e.key := fun e he => by
   obtain ⟨i, p, h1, rfl⟩ := mapG_mem he
   exact hl p (List.mem_of_getElem? h1)
  rcases run_findAsking he hx w (mapG l).toList 0 hkeys with ⟨j, e, h1, h2, h3⟩ | ⟨h1, h2⟩
  · rw [mapG_get] at h1
    cases hp : l[j]? with
    | none => rw [hp] at h1; cases h1
    | some p =>
     rw [hp] at h1
     cases h1
     obtain ⟨p1, p2⟩ := p
     have h2 : p1 = aggI xs := h2
     subst h2
     rw [Nat.zero_add] at h3
     exact .inl ⟨j, p2, hp, by rw [hf, h3]⟩
  · refine .inr ⟨fun p hp => ?_, by rw [hf, h2]⟩
    obtain ⟨i, hi⟩ := List.mem_iff_getElem?.1 hp
    have : (mapG l).toList[i]? = some ⟨p.1, p.2, i⟩ := by rw [mapG_get, hi]; rfl
    exact h1 _ (List.mem_of_getElem? this)
 stays k hk w := by
  obtain ⟨xs, hx, rfl⟩ := hk
  unfold Instr.keyThatStays
  rw [if_pos (hsb xs hx)]
  rfl

theorem run_eqFields_ints {d : Nat} {xs ys : List Int} (w : World) : ∀ (fs : List Field) (k : Nat), (∀ (i : Nat) (f : Field), fs[i]? = some f → f.name ≠ "_" ∧ f.offset = k + i ∧ P.underlying f.type = some (.int .i64)) → k + fs.length = xs.length → k + fs.length = ys.length →
 (Op.eqFields (d + 1) ⟨xs.map (Value.int .i64)⟩ ⟨ys.map (Value.int .i64)⟩ fs).run P w = .ok (xs.drop k == ys.drop k) w
 | [], k, _, h1, h2 => by
  rw [List.drop_of_length_le (by simp at h1; omega), List.drop_of_length_le (by simp at h2; omega)]
  simp [Op.eqFields]
 | f :: fs, k, h, h1, h2 => by
  obtain ⟨hn, ho, hu⟩ := h 0 f rfl
  rw [List.length_cons] at h1 h2
  have hkx : k < xs.length := by omega
  have hky : k < ys.length := by omega
  have ho' : f.offset = k := ho
  have px : (⟨xs.map (Value.int .i64)⟩ : Array Value)[f.offset]? = some (.int .i64 xs[k]) := by
   rw [ho', List.getElem?_toArray, List.getElem?_map, List.getElem?_eq_getElem hkx]
   rfl
  have py : (⟨ys.map (Value.int .i64)⟩ : Array Value)[f.offset]? = some (.int .i64 ys[k]) := by
   rw [ho', List.getElem?_toArray, List.getElem?_map, List.getElem?_eq_getElem hky]
   rfl
  unfold Op.eqFields
  rw [if_pos hn, run_bind_ok (run_part1 hu rfl px w), run_bind_ok (run_part1 hu rfl py w), run_bind_ok (run_equalIn_int w d f.type .i64 .i64 _ _ hu)]
  have ih := run_eqFields_ints (d := d) (xs := xs) (ys := ys) w fs (k + 1) (fun i g hg => by
   have := h (i + 1) g (by simpa using hg)
   exact ⟨this.1, by rw [this.2.1]; omega, this.2.2⟩) (by omega) (by omega)
  rw [List.drop_eq_getElem_cons hkx, List.drop_eq_getElem_cons hky]
  have hc : (xs[k] :: xs.drop (k + 1) == ys[k] :: ys.drop (k + 1)) = (xs[k] == ys[k] && (xs.drop (k + 1) == ys.drop (k + 1))) := rfl
  rw [hc]
  cases hb : (xs[k] == ys[k]) with
  | true =>
   simp only [Bool.not_true, Bool.false_eq_true, if_false, Bool.true_and]
   exact ih
  | false => simp

theorem EqT.flat {t : TypeId} {fs : Array Field} (hu : P.underlying t = some (.struct fs)) (hp : P.stoodInHeld t = false) (hf : ∀ (i : Nat) (f : Field), fs.toList[i]? = some f → f.name ≠ "_" ∧ f.offset = i ∧ P.underlying f.type = some (.int .i64)) : EqT P t fs.size where
 eq xs ys w hx hy := by
  have he : P.fieldsOf t = fs := by
   unfold Program.fieldsOf
   rw [hu]
  show (Op.equalIn (9999 + 1) t _ _).run P w = _
  rw [run_equalIn_struct w 9999 t _ _ (by rw [he]; exact hu) hp, he]
  have hl : fs.toList.length = fs.size := rfl
  have := run_eqFields_ints (P := P) (d := 9998) (xs := xs) (ys := ys) w fs.toList 0 (fun i f h => by rw [Nat.zero_add]; exact hf i f h) (by omega) (by omega)
  simpa using this

theorem sameBits_ints (xs : List Int) : Instr.sameBits 10000 (aggI xs) (aggI xs) = true := by
 unfold aggI Instr.sameBits
 simp only [beq_self_eq_true, Bool.true_and, List.all_eq_true]
 intro p hp
 have : ∀ (l : List Value) (p : Value × Value), p ∈ l.zip l → p.1 = p.2 ∧ p.1 ∈ l := by
  intro l
  induction l with
  | nil => intro p hp; simp at hp
  | cons a l ih =>
   intro p hp
   rw [List.zip_cons_cons] at hp
   rcases List.mem_cons.1 hp with rfl | hp
   · exact ⟨rfl, List.mem_cons_self ..⟩
   · exact ⟨(ih p hp).1, List.mem_cons_of_mem _ (ih p hp).2⟩
 obtain ⟨h1, h2⟩ := this _ p hp
 obtain ⟨x, y⟩ := p
 simp only at h1 h2
 subst h1
 obtain ⟨n, _, rfl⟩ := List.mem_map.1 h2
 simp [Instr.sameBits]

theorem run_checkFields {em : Bool} {n : Nat} {cs : Array Value} (w : World) : ∀ (fs : List Field), (∀ f ∈ fs, ∃ x, (part f.type cs f.offset).run P w = .ok x w ∧ (Instr.checkKey em n f.type x).run P w = .ok () w) →
 (forIn (m := Sem) fs PUnit.unit fun f _ => do
  if f.name ≠ "_" then Instr.checkKey em n f.type (← part f.type cs f.offset)
  pure (ForInStep.yield PUnit.unit)).run P w = .ok PUnit.unit w
 | [], _ => rfl
 | f :: fs, h => by
  obtain ⟨x, h1, h2⟩ := h f (List.mem_cons_self ..)
  rw [List.forIn_cons]
  have ih := run_checkFields w fs fun g hg => h g (List.mem_cons_of_mem _ hg)
  by_cases hn : f.name ≠ "_"
  · rw [if_pos hn, run_bind_ok (a := ForInStep.yield PUnit.unit) (w' := w) (by rw [run_bind_ok h1, run_bind_ok h2]; rfl)]
    exact ih
  · rw [if_neg hn, run_bind_ok (a := ForInStep.yield PUnit.unit) (w' := w) (by rfl)]
    exact ih

theorem run_checkKey_int {em : Bool} {n : Nat} {t : TypeId} (hu : P.underlying t = some (.int .i64)) (x : Int) (w : World) : (Instr.checkKey em (n + 1) t (.int .i64 x)).run P w = .ok () w := by
 unfold Instr.checkKey
 rw [run_bind_ok (run_underlying' hu w)]
 rfl

theorem run_checkKey_flat {em : Bool} {t : TypeId} {fs : Array Field} (hu : P.underlying t = some (.struct fs)) (hf : ∀ (i : Nat) (f : Field), fs.toList[i]? = some f → f.name ≠ "_" ∧ f.offset = i ∧ P.underlying f.type = some (.int .i64)) (n : Nat) (xs : List Int) (hx : xs.length = fs.size) (w : World) :
 (Instr.checkKey em (n + 2) t (aggI xs)).run P w = .ok () w := by
 unfold Instr.checkKey aggI
 rw [run_bind_ok (run_underlying' hu w)]
 simp only
 rw [← Array.forIn_toList]
 rw [run_bind_ok (a := PUnit.unit) (w' := w) (run_checkFields w fs.toList fun f hm => ?_)]
 · rfl
 · obtain ⟨i, hi⟩ := List.mem_iff_getElem?.1 hm
   obtain ⟨hn, ho, hf2⟩ := hf i f hi
   have hlt : i < fs.toList.length := (List.getElem?_eq_some_iff.1 hi).1
   have hix : i < xs.length := by rw [hx]; exact hlt
   refine ⟨.int .i64 xs[i], run_part1 hf2 rfl ?_ w, run_checkKey_int hf2 _ w⟩
   rw [ho, List.getElem?_toArray, List.getElem?_map, List.getElem?_eq_getElem hix]
   rfl

/-- Structs of numbers as keys. -/
theorem KeyT.flat {t : TypeId} {fs : Array Field} (hu : P.underlying t = some (.struct fs)) (hp : P.stoodInHeld t = false) (hf : ∀ (i : Nat) (f : Field), fs.toList[i]? = some f → f.name ≠ "_" ∧ f.offset = i ∧ P.underlying f.type = some (.int .i64)) : KeyT P t (IsAgg fs.size) :=
 KeyT.of_eq hu (fun xs hx em w => run_checkKey_flat hu hf 9998 xs hx w) (EqT.flat hu hp hf) (fun xs _ => sameBits_ints xs)

theorem run_equalIn_flat {t : TypeId} {fs : Array Field} (hu : P.underlying t = some (.struct fs)) (hp : P.stoodInHeld t = false) (hf : ∀ (i : Nat) (f : Field), fs.toList[i]? = some f → f.name ≠ "_" ∧ f.offset = i ∧ P.underlying f.type = some (.int .i64)) (d : Nat) (xs ys : List Int) (hx : xs.length = fs.size) (hy : ys.length = fs.size) (w : World) :
 (Op.equalIn (d + 2) t (aggI xs) (aggI ys)).run P w = .ok (xs == ys) w := by
 have he : P.fieldsOf t = fs := by
  unfold Program.fieldsOf
  rw [hu]
 show (Op.equalIn ((d + 1) + 1) t _ _).run P w = _
 unfold aggI
 rw [run_equalIn_struct w (d + 1) t _ _ (by rw [he]; exact hu) hp, he]
 have hl : fs.toList.length = fs.size := rfl
 have := run_eqFields_ints (P := P) (d := d) (xs := xs) (ys := ys) w fs.toList 0 (fun i f h => by rw [Nat.zero_add]; exact hf i f h) (by omega) (by omega)
 simpa using this

/-- A struct of a number and a struct of three numbers as a key. -/
theorem KeyT.nest {t t1 : TypeId} {f0 f1 : Field} {fs1 : Array Field} {i1 : TypeInfo} (hu : P.underlying t = some (.struct #[f0, f1])) (hp : P.stoodInHeld t = false) (h0 : f0.name ≠ "_" ∧ f0.offset = 0 ∧ P.underlying f0.type = some (.int .i64)) (h1 : f1.name ≠ "_" ∧ f1.offset = 1 ∧ f1.type = t1)
 (hu1 : P.underlying t1 = some (.struct fs1)) (hi1 : P.info? t1 = some i1) (hs1 : i1.size = 3) (hp1 : P.stoodInHeld t1 = false) (hn : fs1.size = 3) (hf1 : ∀ (i : Nat) (f : Field), fs1.toList[i]? = some f → f.name ≠ "_" ∧ f.offset = i ∧ P.underlying f.type = some (.int .i64)) : KeyT P t (IsAgg 4) := by
 obtain ⟨a0, b0, c0⟩ := h0
 obtain ⟨a1, b1, rfl⟩ := h1
 have ex : ∀ xs : List Int, xs.length = 4 → ∃ a b c d, xs = [a, b, c, d] := fun xs hx => by
  rcases xs with _ | ⟨a, _ | ⟨b, _ | ⟨c, _ | ⟨d, _ | ⟨e, l⟩⟩⟩⟩⟩ <;> simp at hx
  exact ⟨a, b, c, d, rfl⟩
 have hpt : ∀ (a b c d : Int) (w : World), (part f1.type (⟨[a, b, c, d].map (Value.int .i64)⟩ : Array Value) f1.offset).run P w = .ok (aggI [b, c, d]) w := fun a b c d w => by
  rw [run_partA hu1 rfl hi1, b1, hs1]
  rfl
 have hp0 : ∀ (a b c d : Int) (w : World), (part f0.type (⟨[a, b, c, d].map (Value.int .i64)⟩ : Array Value) f0.offset).run P w = .ok (.int .i64 a) w := fun a b c d w => by
  rw [b0]
  exact run_part1 c0 rfl rfl w
 refine KeyT.of_eq hu (fun xs hx em w => ?_) ⟨fun xs ys w hx hy => ?_⟩ (fun xs _ => sameBits_ints xs)
 · obtain ⟨a, b, c, d, rfl⟩ := ex xs hx
   unfold Instr.checkKey aggI
   rw [run_bind_ok (run_underlying' hu w)]
   simp only
   rw [← Array.forIn_toList]
   rw [run_bind_ok (a := PUnit.unit) (w' := w) (run_checkFields w _ fun f hm => ?_)]
   · rfl
   · rcases List.mem_cons.1 hm with rfl | hm
     · exact ⟨_, hp0 a b c d w, run_checkKey_int c0 _ w⟩
     · obtain rfl := List.mem_singleton.1 hm
       exact ⟨_, hpt a b c d w, run_checkKey_flat hu1 hf1 9997 _ (by rw [hn]; rfl) w⟩
 · obtain ⟨a, b, c, d, rfl⟩ := ex xs hx
   obtain ⟨a', b', c', d', rfl⟩ := ex ys hy
   have he : P.fieldsOf t = #[f0, f1] := by
    unfold Program.fieldsOf
    rw [hu]
   show (Op.equalIn (9999 + 1) t _ _).run P w = _
   rw [run_equalIn_struct w 9999 t _ _ (by rw [he]; exact hu) hp, he]
   show (Op.eqFields 9999 _ _ [f0, f1]).run P w = _
   unfold Op.eqFields
   rw [if_pos a0, run_bind_ok (hp0 a b c d w), run_bind_ok (hp0 a' b' c' d' w), run_bind_ok (run_equalIn_int w 9998 f0.type .i64 .i64 _ _ c0)]
   have hq := run_equalIn_flat hu1 hp1 hf1 9997 [b, c, d] [b', c', d'] (by rw [hn]; rfl) (by rw [hn]; rfl) w
   have hc : ([a, b, c, d] == [a', b', c', d']) = (a == a' && ([b, c, d] == [b', c', d'])) := rfl
   rw [hc]
   cases hb : (a == a') with
   | false => simp
   | true =>
    simp only [Bool.not_true, Bool.false_eq_true, if_false, Bool.true_and]
    unfold Op.eqFields
    rw [if_pos a1, run_bind_ok (hpt a b c d w), run_bind_ok (hpt a' b' c' d' w), run_bind_ok hq]
    cases hb2 : ([b, c, d] == [b', c', d']) <;> simp [Op.eqFields]

section
variable {tab : Tab} {w0 : World} {R : Nat → Nat → Prop} {av : Nat → Prop} {bs : List (Nat × Nat)} {cs : List (List Value)} {F : Fx}

/-- Structs of numbers compared. -/
theorem XRead.eqAgg {t : TypeId} {n : Nat} (he : EqT P t n) (hg : P.eqGuardType P.depth t = false) {xs ys : List Int} (hx : xs.length = n) (hy : ys.length = n) {x y : Operand} {K : Value → Prop} (h : K (.bool (xs == ys))) :
 XRead P w0 R av (do eqGuard .eql t x y (aggI xs) (aggI ys); binOp .eql t (aggI xs) (aggI ys)) bs cs F K := by
 refine (XRead_iff _ _ _ _).2 ⟨_, fun w _ => ?_, h⟩
 have h1 := he.eq xs ys w hx hy
 unfold aggI
 rw [run_bind_ok (run_eqGuard_agg w .eql t x y _ _ hg), run_eql_struct]
 have h2 : (Op.equalIn 10000 t (.agg ⟨xs.map (Value.int .i64)⟩) (.agg ⟨ys.map (Value.int .i64)⟩)).run P w = .ok (xs == ys) w := h1
 rw [h2]
 rfl

theorem XRead.neAgg {t : TypeId} {n : Nat} (he : EqT P t n) (hg : P.eqGuardType P.depth t = false) {xs ys : List Int} (hx : xs.length = n) (hy : ys.length = n) {x y : Operand} {K : Value → Prop} (h : K (.bool (!(xs == ys)))) :
 XRead P w0 R av (do eqGuard .neq t x y (aggI xs) (aggI ys); binOp .neq t (aggI xs) (aggI ys)) bs cs F K := by
 refine (XRead_iff _ _ _ _).2 ⟨_, fun w _ => ?_, h⟩
 have h1 := he.eq xs ys w hx hy
 unfold aggI
 rw [run_bind_ok (run_eqGuard_agg w .neq t x y _ _ hg)]
 have h2 : (Op.equal t (.agg ⟨xs.map (Value.int .i64)⟩) (.agg ⟨ys.map (Value.int .i64)⟩)).run P w = .ok (xs == ys) w := h1
 unfold binOp
 simp [h2, Result.andThen]
end

end Go.Sx
