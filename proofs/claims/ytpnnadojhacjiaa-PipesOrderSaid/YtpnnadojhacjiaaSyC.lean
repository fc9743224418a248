/- Symbolic execution, part SyC: contracts of functions to which rows are handed over. -/
import Derived.Test.YtpnnadojhacjiaaSyB
namespace Go.Sx
open Go
set_option linter.unusedVariables false
variable {P : Program} {tab : Tab} {w0 : World} {R : Nat → Nat → Prop} {av : Nat → Prop} {bs : List (Nat × Nat)} {cs : List (List Value)}

/-- Back from a call that was walked in place; its boxes are given up. -/
structure XDrop (bs bs' : List (Nat × Nat)) (cs' : List (List Value)) (F' : Fx) (K : List (List Value) → Fx → Prop) : Prop where
  ext : ∃ e c1 c2 F1, bs' = bs ++ e ∧ cs' = c1 ++ c2 ∧ bs.length = c1.length ∧ Ent F' F1 ∧ K c1 F1

theorem XCall.inlineD {F : Fx} (hT : TabOk P tab) {f : FuncId} {fn : Func} (hfn : P.funcs[f]? = some fn) {c : Code} (hb : fn.body = some c) (hnm : (fn.name == "runtime.NumGoroutine") = false) {vs : List Value} (svs : List SV)
    {n : Nat} (hn : fn.ntmps = vs.length + n) (hargs : argsK bs svs vs) {K : KV}
    (h : padK svs n fun tm => xc P tab w0 R av c tm bs cs F (kEnd tab fn.results.toList fun v bs' cs' F' => XDrop bs bs' cs' F' fun c1 F1 => K v bs c1 F1)) : XCall P w0 R av f vs bs cs F K := by
  have h2 : XCall P w0 R av f vs bs cs F fun v bs' cs' F' => XDrop bs bs' cs' F' fun c1 F1 => K v bs c1 F1 := by
    obtain ⟨hlen, hok⟩ := argsK_iff hargs
    refine XCall_iff.2 ⟨⟨fn, hfn, by rw [hb]; rfl, hnm⟩, fun w hst => ?_⟩
    have h := padK_iff h
    refine calls_of_wp hfn hb ?_
    have hfr : FrameOk bs (svs ++ List.replicate n .any) (vs.toArray ++ Array.replicate (fn.ntmps - vs.toArray.size) undef) := by
      refine ⟨by simp; omega, fun t => ?_⟩
      rw [nth_eq]
      by_cases ht : t < vs.length
      · rw [List.getElem?_append_left (by omega), ← nth_eq]
        have := hok t ht
        rw [nth_eq undef] at this
        have e : (vs.toArray ++ Array.replicate (fn.ntmps - vs.toArray.size) undef).getD t undef = (vs[t]?).getD undef := by
          rw [Array.getD_eq_getD_getElem?, Array.getElem?_append_left (by simpa using ht)]
          simp
        rw [e]
        exact this
      · have : (svs ++ List.replicate n SV.any)[t]?.getD .any = .any := by
          rw [List.getElem?_append_right (by omega), List.getElem?_replicate]
          split <;> rfl
        rw [this]
        exact trivial
    refine wp_mono (xc_sound hT c _ _ _ _ _ _ _ h hfr hst) ?_
    rintro e act w' ⟨hd, tm', bs', cs', D', h1, h2, h3⟩
    cases e with
    | normal =>
      obtain ⟨v, g1, g2⟩ := run_results hT h1 h2.box h3
      obtain ⟨x, c1, c2, F1, rfl, q⟩ := g2.ext
      exact ⟨hd, v, g1, v, x, cs', D', rfl, h2, g2⟩
    | ret =>
      obtain ⟨v, g1, g2⟩ := run_results hT h1 h2.box h3
      obtain ⟨x, c1, c2, F1, rfl, q⟩ := g2.ext
      exact ⟨hd, v, g1, v, x, cs', D', rfl, h2, g2⟩
    | _ => exact h3.elim
  refine XCall_iff.2 ⟨(XCall_iff.1 h2).1, fun w hst => ((XCall_iff.1 h2).2 w hst).mono ?_⟩
  rintro e w' ⟨v, ext, cs', D', rfl, g1, g2⟩
  obtain ⟨x, c1, c2, F1, e1, rfl, e2, he, g3⟩ := g2.ext
  exact ⟨v, [], c1, F1, rfl, by rw [List.append_nil]; exact (g1.left e2).ent he, by rw [List.append_nil]; exact g3⟩

theorem anyK_mk : ∀ {n : Nat} {K : List SV → Prop}, K (List.replicate n .any) → anyK n K
  | 0, K, h => h
  | n + 1, K, h => anyK_mk (n := n) (by simpa [List.replicate_succ] using h)

theorem padK_mk : ∀ {l : List SV} {n : Nat} {K : List SV → Prop}, K (l ++ List.replicate n .any) → padK l n K
  | [], n, K, h => anyK_mk h
  | x :: xs, n, K, h => padK_mk (l := xs) h

/-- A region that only makes one box. -/
theorem xc_alloc1 {P : Program} {tab : Tab} {w0 : World} {R : Nat → Nat → Prop} {av : Nat → Prop} {id : Nat} {dst : Option Tmp} {e ty : TypeId} {pos : String} {after : Array Edge} {ti : TI} (ht : look tab e = some ti) {c2 : Code} {tm : List SV} {bs : List (Nat × Nat)} {cs : List (List Value)} {D : Fx} {K : Exit → KT}
    (h : boxK dst ti.zero tm bs cs D fun tm bs cs D => xc P tab w0 R av c2 tm bs cs D K) :
    xc P tab w0 R av (.seq (.region id #[⟨dst, .alloc e, ty, pos, after, none⟩] false) c2) tm bs cs D K := by
  show (match look tab e with | some ti => boxK dst ti.zero tm bs cs D fun tm bs cs D => xc P tab w0 R av c2 tm bs cs D K | none => _)
  rw [ht]
  exact h

def IsIn (rows : List (Nat × Row)) (b : Nat) : Prop := ∃ r ∈ rows, r.1 = b

/-- A function that may write the rows that it is given, and nothing else that was there. -/
def RowsSpec (P : Program) (f : FuncId) (vs : List Value) (rows : List (Nat × Row)) (Pre : World → Prop) (Rel : Value → Fx → Prop) : Prop :=
  Callable P f ∧ ∀ (av : Nat → Prop) (w : World), (∀ b, av b → b < w.heap.size) → (∀ r ∈ rows, RowIs w r.1 r.2 ∧ ¬ av r.1) → (rows.map (·.1)).Nodup → Holds (fun b => av b ∨ IsIn rows b) w Pre →
    Calls P f vs.toArray w fun e w' => ∃ v F, e = .returned v ∧ KeepX (fun b _ => IsIn rows b) w w' ∧
      (∀ r ∈ F.rs, RowIs w' r.1 r.2 ∧ (w.heap.size ≤ r.1 ∨ (IsIn rows r.1 ∧ ∃ l, r.2 = Row.c l))) ∧ (F.rs.map (·.1)).Nodup ∧ Holds (fun b => av b ∨ IsIn F.rs b) w' F.D ∧ Rel v F

theorem RowsSpec.of_xc (hT : TabOk P tab) {f : FuncId} {fn : Func} (hfn : P.funcs[f]? = some fn) {c : Code} (hb : fn.body = some c) (hnm : (fn.name == "runtime.NumGoroutine") = false) {vs : List Value} {svs : List SV}
    {n : Nat} (hn : fn.ntmps = vs.length + n) (hsv : svs = vs.map SV.v) {rows : List (Nat × Row)} (hc : ∀ r ∈ rows, ∃ l, r.2 = Row.c l) {Pre : World → Prop} {Rel : Value → Fx → Prop}
    (h : ∀ w0 av, padK svs n fun tm => xc P tab w0 (fun b _ => IsIn rows b) av c tm [] [] ⟨Pre, rows⟩ (kEnd tab fn.results.toList (pureFin Rel))) : RowsSpec P f vs rows Pre Rel := by
  subst hsv
  refine ⟨⟨fn, hfn, by rw [hb]; rfl, hnm⟩, fun av w hav hrows hnd hpre => ?_⟩
  have hst : St w (fun b _ => IsIn rows b) av w [] [] ⟨Pre, rows⟩ :=
    ⟨KeepX.refl _ _, trivial, by simpa using hnd, fun i hi => by simp at hi, hav, fun r hr => ⟨(hrows r hr).1, .inr ⟨(hrows r hr).2, fun _ => ⟨r, hr, rfl⟩, hc r hr⟩⟩,
      hpre.less fun b hb => hb.elim .inl fun h => h.elim (fun ⟨x, hx, _⟩ => by simp at hx) .inr⟩
  refine (calls_of_xc hT hfn hb hn (by simp) (fun i hi => ?_) hst (h w av)).mono ?_
  · rw [nth_map SV.v undef .any vs i hi]; rfl
  · rintro e w' ⟨v, bs', cs', F, rfl, h1, F2, h2, h3⟩
    have h4 := h1.ent h2
    refine ⟨v, F2, rfl, h4.keep, fun r hr => ⟨(h4.rows r hr).1, (h4.rows r hr).2.imp id fun q => ⟨q.2.1 0, q.2.2⟩⟩, (List.nodup_append.1 h4.nd).2.1, h4.data.less fun b hb => hb.elim .inl fun h => .inr (.inr h), h3⟩

attribute [irreducible] RowsSpec

theorem XCall.rows {f : FuncId} {vs : List Value} {rows : List (Nat × Row)} {Pre : World → Prop} {Rel : Value → Fx → Prop} {D : World → Prop} {r1 r2 : List (Nat × Row)} {K : KV} (spec : RowsSpec P f vs rows Pre Rel)
    (hpre : ∀ w, D w → Pre w) (h : ∀ v F', Rel v F' → K v bs cs ⟨fun w => D w ∧ F'.D w, r1 ++ F'.rs ++ r2⟩) : XCall P w0 R av f vs bs cs ⟨D, r1 ++ rows ++ r2⟩ K := by
  unfold RowsSpec at spec
  refine XCall_iff.2 ⟨spec.1, fun w hst => ?_⟩
  have hnd := hst.nd
  have hmem : ∀ r, r ∈ r1 ++ rows ++ r2 ↔ r ∈ r1 ∨ r ∈ rows ∨ r ∈ r2 := fun r => by simp [or_assoc]
  simp only [List.map_append, List.nodup_append, List.mem_append] at hnd
  obtain ⟨nb, ⟨⟨n1, n0, n10⟩, n2, n12⟩, nbr⟩ := hnd
  have notb : ∀ r ∈ rows, ∀ x ∈ bs, x.1 ≠ r.1 := fun r hr x hx => nbr _ (List.mem_map.2 ⟨x, hx, rfl⟩) _ (.inl (.inr (List.mem_map.2 ⟨r, hr, rfl⟩)))
  have not1 : ∀ r ∈ rows, ∀ x ∈ r1, x.1 ≠ r.1 := fun r hr x hx => n10 _ (List.mem_map.2 ⟨x, hx, rfl⟩) _ (List.mem_map.2 ⟨r, hr, rfl⟩)
  have not2 : ∀ r ∈ rows, ∀ x ∈ r2, x.1 ≠ r.1 := fun r hr x hx e => n12 _ (.inr (List.mem_map.2 ⟨r, hr, rfl⟩)) _ (List.mem_map.2 ⟨x, hx, rfl⟩) e.symm
  have notav : ∀ r ∈ rows, ¬ av r.1 := fun r hr ha => by
    rcases (hst.rows r ((hmem r).2 (.inr (.inl hr)))).2 with h | h
    · have := hst.avlt _ ha
      omega
    · exact h.1 ha
  refine (spec.2 (fun b => av b ∨ (∃ x ∈ bs, x.1 = b) ∨ IsIn r1 b ∨ IsIn r2 b) w (fun b hb => hst.avb ?_) (fun r hr => ⟨(hst.rows r ((hmem r).2 (.inr (.inl hr)))).1, ?_⟩) n0 ?_).mono ?_
  · rcases hb with hb | hb | ⟨r, hr, rfl⟩ | ⟨r, hr, rfl⟩
    · exact .inl hb
    · exact .inr (.inl hb)
    · exact .inr (.inr ⟨r, (hmem r).2 (.inl hr), rfl⟩)
    · exact .inr (.inr ⟨r, (hmem r).2 (.inr (.inr hr)), rfl⟩)
  · rintro (hb | ⟨x, hx, he⟩ | ⟨x, hx, he⟩ | ⟨x, hx, he⟩)
    · exact notav r hr hb
    · exact notb r hr x hx he
    · exact not1 r hr x hx he
    · exact not2 r hr x hx he
  · refine (hst.data.imp hpre).less fun b hb => ?_
    rcases hb with (hb | hb | ⟨r, hr, rfl⟩ | ⟨r, hr, rfl⟩) | ⟨r, hr, rfl⟩
    · exact .inl hb
    · exact .inr (.inl hb)
    · exact .inr (.inr ⟨r, (hmem r).2 (.inl hr), rfl⟩)
    · exact .inr (.inr ⟨r, (hmem r).2 (.inr (.inr hr)), rfl⟩)
    · exact .inr (.inr ⟨r, (hmem r).2 (.inr (.inl hr)), rfl⟩)
  rintro e w' ⟨v, F', rfl, hk, hr', hnd', hd', hrel⟩
  have hsame : ∀ b, b < w.heap.size → ¬ IsIn rows b → w'.heap[b]? = w.heap[b]? := fun b hb hn => hk.same hb fun _ => hn
  refine ⟨v, [], cs, _, rfl, ?_, by rw [List.append_nil]; exact h v F' hrel⟩
  rw [List.append_nil]
  have hold : ∀ x, (x ∈ r1 ∨ x ∈ r2) → w'.heap[x.1]? = w.heap[x.1]? := fun x hx => by
    have hx' : x ∈ r1 ++ rows ++ r2 := (hmem x).2 (hx.elim .inl fun h => .inr (.inr h))
    refine hsame _ (hst.rows x hx').1.lt ?_
    rintro ⟨r, hr, he⟩
    rcases hx with hx | hx
    · exact not1 r hr x hx he.symm
    · exact not2 r hr x hx he.symm
  have hnew : ∀ r ∈ F'.rs, (∀ x ∈ bs, x.1 ≠ r.1) ∧ (∀ x ∈ r1, x.1 ≠ r.1) ∧ (∀ x ∈ r2, x.1 ≠ r.1) := fun r hr => by
    rcases (hr' r hr).2 with h1 | ⟨⟨q, hq, he⟩, _⟩
    · refine ⟨fun x hx he => ?_, fun x hx he => ?_, fun x hx he => ?_⟩
      · have := hst.box.lt x hx
        omega
      · have := (hst.rows x ((hmem x).2 (.inl hx))).1.lt
        omega
      · have := (hst.rows x ((hmem x).2 (.inr (.inr hx)))).1.lt
        omega
    · rw [← he]
      exact ⟨notb q hq, not1 q hq, not2 q hq⟩
  refine ⟨⟨hk.os.trans hst.keep.os, hk.tape.trans hst.keep.tape, hk.output.trans hst.keep.output, Nat.le_trans hst.keep.size hk.size, fun b o ho => ?_⟩, hst.box.of_same fun x hx => hsame _ (hst.box.lt x hx) (fun ⟨r, hr, he⟩ => notb r hr x hx he.symm), ?_, hst.own, hst.avlt, fun r hr => ?_, Holds.and ?_ ?_⟩
  · obtain ⟨o1, g1, s1⟩ := hst.keep.obj b o ho
    obtain ⟨o2, g2, s2⟩ := hk.obj b o1 g1
    refine ⟨o2, g2, s1.trans (s2.mono fun i hi => ?_)⟩
    obtain ⟨r, hr, rfl⟩ := hi
    rcases (hst.rows r ((hmem r).2 (.inr (.inl hr)))).2 with h | h
    · have := lt_of_some ho
      omega
    · exact h.2.1 i
  · simp only [List.map_append, List.nodup_append, List.mem_append]
    refine ⟨nb, ⟨⟨n1, hnd', ?_⟩, n2, ?_⟩, ?_⟩
    · intro x hx y hy e
      obtain ⟨z, hz, rfl⟩ := List.mem_map.1 hx
      obtain ⟨r, hr, rfl⟩ := List.mem_map.1 hy
      exact (hnew r hr).2.1 z hz e
    · intro x hx y hy e
      obtain ⟨z, hz, rfl⟩ := List.mem_map.1 hy
      rcases hx with hx | hx
      · exact n12 _ (.inl hx) _ hy e
      · obtain ⟨r, hr, rfl⟩ := List.mem_map.1 hx
        exact (hnew r hr).2.2 z hz e.symm
    · intro x hx y hy e
      obtain ⟨z, hz, rfl⟩ := List.mem_map.1 hx
      rcases hy with (hy | hy) | hy
      · exact nbr _ hx _ (.inl (.inl hy)) e
      · obtain ⟨r, hr, rfl⟩ := List.mem_map.1 hy
        exact (hnew r hr).1 z hz e
      · exact nbr _ hx _ (.inr hy) e
  · simp only [List.mem_append] at hr
    rcases hr with (hr | hr) | hr
    · have := hst.rows r ((hmem r).2 (.inl hr))
      exact ⟨this.1.of_same (hold r (.inl hr)), this.2⟩
    · obtain ⟨g1, g2⟩ := hr' r hr
      refine ⟨g1, ?_⟩
      rcases g2 with g2 | ⟨⟨q, hq, he⟩, g3⟩
      · exact .inl (Nat.le_trans hst.keep.size g2)
      · rcases (hst.rows q ((hmem q).2 (.inr (.inl hq)))).2 with g4 | g4
        · exact .inl (by rw [← he]; exact g4)
        · exact .inr ⟨by rw [← he]; exact g4.1, by rw [← he]; exact g4.2.1, g3⟩
    · have := hst.rows r ((hmem r).2 (.inr (.inr hr)))
      exact ⟨this.1.of_same (hold r (.inr hr)), this.2⟩
  · refine hst.data.move hk.size (fun b hb hna => hsame b hb fun ⟨r, hr, he⟩ => hna (.inr (.inr ⟨r, (hmem r).2 (.inr (.inl hr)), he⟩))) fun b hb => ?_
    rcases hb with hb | hb | ⟨r, hr, rfl⟩
    · exact .inl (.inl hb)
    · exact .inl (.inr (.inl hb))
    · simp only [List.mem_append] at hr
      rcases hr with (hr | hr) | hr
      · exact .inl (.inr (.inr ⟨r, (hmem r).2 (.inl hr), rfl⟩))
      · rcases (hr' r hr).2 with g | ⟨⟨q, hq, he⟩, _⟩
        · exact .inr g
        · exact .inl (.inr (.inr ⟨q, (hmem q).2 (.inr (.inl hq)), he⟩))
      · exact .inl (.inr (.inr ⟨r, (hmem r).2 (.inr (.inr hr)), rfl⟩))
  · refine hd'.less fun b hb => ?_
    rcases hb with hb | hb | ⟨r, hr, rfl⟩
    · exact .inl (.inl hb)
    · exact .inl (.inr (.inl hb))
    · simp only [List.mem_append] at hr
      rcases hr with (hr | hr) | hr
      · exact .inl (.inr (.inr (.inl ⟨r, hr, rfl⟩)))
      · exact .inr ⟨r, hr, rfl⟩
      · exact .inl (.inr (.inr (.inr ⟨r, hr, rfl⟩)))

end Go.Sx
