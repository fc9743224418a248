/- Sx, part K: functions and their contracts. -/
import Derived.Test.YtpnnadojhacjiaaSxJ
namespace Go.Sx
set_option linter.unusedVariables false

/-! ### the end of a function -/

def resK (tab : Tab) (tm : List SV) (bs : List (Nat × Nat)) (cs : List (List Value)) : List ResultVar → (List Value → Prop) → Prop
  | [], K => K []
  | .tmp t :: r, K => nthK tm t fun s => vK bs s fun v => resK tab tm bs cs r fun vs => K (v :: vs)
  | .cell a t :: r, K => nthK tm a fun s => match s with
    | .p i o => match look tab t with
      | some ti => loadK ti cs i o fun sv => match sv with
        | .v v => resK tab tm bs cs r fun vs => K (v :: vs)
        | _ => False
      | none => False
    | _ => False

def oneK (K : Value → Prop) : List Value → Prop
  | [v] => K v
  | vs => K (.tuple ⟨vs⟩)

/-- What is to be shown where the function returns v. -/
abbrev Fin := Value → List (Nat × Nat) → List (List Value) → Fx → Prop

def kEnd (tab : Tab) (rs : List ResultVar) (F : Fin) : Exit → KT := fun e tm bs cs D => match e with
  | .ret => resK tab tm bs cs rs (oneK fun v => F v bs cs D)
  | .normal => resK tab tm bs cs rs (oneK fun v => F v bs cs D)
  | _ => False

def anyK : Nat → (List SV → Prop) → Prop
  | 0, K => K []
  | n + 1, K => anyK n fun l => K (.any :: l)

def padK : List SV → Nat → (List SV → Prop) → Prop
  | [], n, K => anyK n K
  | x :: xs, n, K => padK xs n fun l => K (x :: l)

theorem anyK_iff : ∀ {n : Nat} {K : List SV → Prop}, anyK n K → K (List.replicate n .any)
  | 0, K, h => h
  | n + 1, K, h => by
    have := anyK_iff (n := n) h
    simpa [List.replicate_succ] using this

theorem padK_iff : ∀ {l : List SV} {n : Nat} {K : List SV → Prop}, padK l n K → K (l ++ List.replicate n .any)
  | [], n, K, h => anyK_iff h
  | x :: xs, n, K, h => padK_iff (l := xs) h

def resSem (a : Array Value) (r : ResultVar) : Sem Value := match r with
  | .tmp t => pure (a.getD t undef)
  | .cell b t => do loadVar t (← asAddr (a.getD b undef))

section
variable {P : Program} {tab : Tab} {w0 : World} {R : Nat → Nat → Prop} {av : Nat → Prop}

theorem resK_sound (hT : TabOk P tab) {tm : List SV} {bs : List (Nat × Nat)} {cs : List (List Value)} {a : Array Value} {w : World} (hf : FrameOk bs tm a) (hb : Boxes w bs cs) :
    ∀ {rs : List ResultVar} {K : List Value → Prop}, resK tab tm bs cs rs K → ∃ vs, (rs.mapM (resSem a)).run P w = .ok vs w ∧ K vs
  | [], K, h => ⟨[], rfl, h⟩
  | .tmp t :: r, K, h => by
    obtain ⟨_, h⟩ := nthK_iff SV.any h
    have h := vK_sound (hf.ok t) h
    obtain ⟨vs, h1, h2⟩ := resK_sound hT hf hb h
    refine ⟨_, ?_, h2⟩
    rw [List.mapM_cons, run_bind_ok (a := a.getD t undef) (w' := w) rfl, run_bind_ok h1]
    rfl
  | .cell b t :: r, K, h => by
    obtain ⟨_, h⟩ := nthK_iff SV.any h
    have hok := hf.ok b
    split at h
    · rename_i i o hs
      rw [hs] at hok
      obtain ⟨hok, _⟩ := hok
      split at h
      · rename_i ti hl
        obtain ⟨v, h1, h⟩ := loadK_sound (bs := bs) (hT _ _ hl) h
        simp only at h
        obtain ⟨vs, h2, h3⟩ := resK_sound hT hf hb h
        refine ⟨_, ?_, h3⟩
        rw [List.mapM_cons]
        rw [run_bind_ok (a := v) (w' := w) (by simp only [resSem, hok]; exact h1 w hb), run_bind_ok h2]
        rfl
      · exact h.elim
    · exact h.elim

theorem run_results (hT : TabOk P tab) {fn : Func} {tm : List SV} {bs : List (Nat × Nat)} {cs : List (List Value)} {a : Array Value} {w : World} (hf : FrameOk bs tm a) (hb : Boxes w bs cs) {K : Value → Prop}
    (h : resK tab tm bs cs fn.results.toList (oneK K)) : ∃ v, (results fn a).run P w = .ok v w ∧ K v := by
  obtain ⟨vs, h1, h2⟩ := resK_sound hT hf hb h
  have hm : (fn.results.mapM (resSem a)).run P w = .ok ⟨vs⟩ w := by
    rw [Array.mapM_eq_mapM_toList]
    show (List.toArray <$> _ : Sem (Array Value)).run P w = _
    rw [← bind_pure_comp, run_bind_ok h1]
    rfl
  have hres : results fn a = (do let vs ← fn.results.mapM (resSem a); pure (if h : vs.size = 1 then vs[0] else .tuple vs)) := by
    unfold results
    congr 1
  rw [hres, run_bind_ok hm]
  cases vs with
  | nil => exact ⟨_, rfl, h2⟩
  | cons v vs =>
    cases vs with
    | nil => exact ⟨v, rfl, h2⟩
    | cons u us =>
      refine ⟨.tuple ⟨v :: u :: us⟩, ?_, h2⟩
      simp

/-- A function whose end is F, out of its code. -/
theorem calls_of_xc (hT : TabOk P tab) {f : FuncId} {fn : Func} (hfn : P.funcs[f]? = some fn) {c : Code} (hb : fn.body = some c) {vs : List Value} {svs : List SV} {bs : List (Nat × Nat)} {cs : List (List Value)}
    {D : Fx} {F : Fin} {n : Nat} (hn : fn.ntmps = vs.length + n) (hlen : svs.length = vs.length) (hok : ∀ i, i < vs.length → SVok bs (nth .any svs i) (nth undef vs i)) (hst : St w0 R av w0 bs cs D)
    (h : padK svs n fun tm => xc P tab w0 R av c tm bs cs D (kEnd tab fn.results.toList F)) :
    Calls P f vs.toArray w0 fun e w' => ∃ v bs' cs' D', e = .returned v ∧ St w0 R av w' bs' cs' D' ∧ F v bs' cs' D' := by
  have h := padK_iff h
  refine calls_of_wp hfn hb ?_
  have hfr : FrameOk bs (svs ++ List.replicate n .any) (vs.toArray ++ Array.replicate (fn.ntmps - vs.toArray.size) undef) := by
    refine ⟨by simp; omega, fun t => ?_⟩
    rw [nth_eq]
    by_cases ht : t < vs.length
    · rw [List.getElem?_append_left (by omega), ← nth_eq]
      have := hok t ht
      rw [nth_eq undef] at this
      have e : (vs.toArray ++ Array.replicate (fn.ntmps - vs.toArray.size) undef).getD t undef = (vs[t]?).getD undef := by
        rw [Array.getD_eq_getD_getElem?, Array.getElem?_append_left (by simpa using ht)]
        simp
      rw [e]
      exact this
    · have : (svs ++ List.replicate n SV.any)[t]?.getD .any = .any := by
        rw [List.getElem?_append_right (by omega), List.getElem?_replicate]
        split <;> rfl
      rw [this]
      exact trivial
  refine wp_mono (xc_sound hT c _ _ _ _ _ _ _ h hfr hst) ?_
  rintro e act w' ⟨hd, tm', bs', cs', D', h1, h2, h3⟩
  cases e with
  | normal =>
    obtain ⟨v, g1, g2⟩ := run_results hT h1 h2.box h3
    exact ⟨hd, v, g1, v, bs', cs', D', rfl, h2, g2⟩
  | ret =>
    obtain ⟨v, g1, g2⟩ := run_results hT h1 h2.box h3
    exact ⟨hd, v, g1, v, bs', cs', D', rfl, h2, g2⟩
  | _ => exact h3.elim

/-! ### contracts -/

/-- A function that leaves alone what was there: where Pre holds of its arguments' memory, it returns some v with facts F, and Rel v F. -/
def PureSpec (P : Program) (f : FuncId) (vs : List Value) (Pre : World → Prop) (Rel : Value → Fx → Prop) : Prop :=
  Callable P f ∧ ∀ (av : Nat → Prop) (w : World), (∀ b, av b → b < w.heap.size) → Holds av w Pre → Calls P f vs.toArray w fun e w' => ∃ v F, e = .returned v ∧ Keep w w' ∧ FxOk av w.heap.size w' F ∧ Rel v F

def pureFin (Rel : Value → Fx → Prop) : Fin := fun v _ _ F => ∃ F', Ent F F' ∧ Rel v F'

theorem Holds.less {av av' : Nat → Prop} {w : World} {D : World → Prop} (h : Holds av w D) (ha : ∀ b, av' b → av b) : Holds av' w D :=
  h.move (Nat.le_refl _) (fun _ _ _ => rfl) (fun b hb => .inl (ha b hb))

theorem St.newRows {w : World} {bs : List (Nat × Nat)} {cs : List (List Value)} {F : Fx} (h : St w0 R av w bs cs F) (hR : ∀ b, ∃ i, ¬ R b i) : ∀ r ∈ F.rs, RowIs w r.1 r.2 ∧ w0.heap.size ≤ r.1 := fun r hr => by
  obtain ⟨h1, h2⟩ := h.rows r hr
  refine ⟨h1, h2.resolve_right fun h3 => ?_⟩
  obtain ⟨i, hi⟩ := hR r.1
  exact hi (h3.2.1 i)

theorem St.fx {w : World} {bs : List (Nat × Nat)} {cs : List (List Value)} {F : Fx} (h : St w0 R av w bs cs F) (hR : ∀ b, ∃ i, ¬ R b i) : FxOk av w0.heap.size w F :=
  ⟨h.newRows hR, (List.nodup_append.1 h.nd).2.1, h.data.less fun b hb => hb.elim .inl (fun hb => .inr (.inr hb))⟩

theorem PureSpec.of_xc (hT : TabOk P tab) {f : FuncId} {fn : Func} (hfn : P.funcs[f]? = some fn) {c : Code} (hb : fn.body = some c) (hnm : (fn.name == "runtime.NumGoroutine") = false) {vs : List Value} {svs : List SV}
    {n : Nat} (hn : fn.ntmps = vs.length + n) (hsv : svs = vs.map SV.v) {Pre : World → Prop} {Rel : Value → Fx → Prop}
    (h : ∀ w0 av, padK svs n fun tm => xc P tab w0 (fun _ _ => False) av c tm [] [] ⟨Pre, []⟩ (kEnd tab fn.results.toList (pureFin Rel))) : PureSpec P f vs Pre Rel := by
  subst hsv
  refine ⟨⟨fn, hfn, by rw [hb]; rfl, hnm⟩, fun av w hav hpre => ?_⟩
  have hst : St w (fun _ _ => False) av w [] [] ⟨Pre, []⟩ :=
    ⟨KeepX.refl _ _, trivial, by simp, fun i hi => by simp at hi, hav, fun r hr => by simp at hr, hpre.less fun b hb => hb.elim id (fun h => h.elim (fun ⟨x, hx, _⟩ => by simp at hx) (fun ⟨x, hx, _⟩ => by simp at hx))⟩
  refine (calls_of_xc hT hfn hb hn (by simp) (fun i hi => ?_) hst (h w av)).mono ?_
  · rw [nth_map SV.v undef .any vs i hi]; rfl
  · rintro e w' ⟨v, bs', cs', F, rfl, h1, F2, h2, h3⟩
    exact ⟨v, F2, rfl, h1.keep, (h1.ent h2).fx fun _ => ⟨0, id⟩, h3⟩

theorem PureSpec.imp {f : FuncId} {vs : List Value} {Pre Pre' : World → Prop} {Rel Rel' : Value → Fx → Prop} (h : PureSpec P f vs Pre Rel) (hp : ∀ w, Pre' w → Pre w)
    (hr : ∀ v D, Rel v D → Rel' v D) : PureSpec P f vs Pre' Rel' :=
  ⟨h.1, fun av w hav hpre => (h.2 av w hav (hpre.imp hp)).mono fun e w' ⟨v, D, h1, h2, h3, h4⟩ => ⟨v, D, h1, h2, h3, hr v D h4⟩⟩

theorem XCall.pure {f : FuncId} {vs : List Value} {Pre : World → Prop} {Rel : Value → Fx → Prop} {bs : List (Nat × Nat)} {cs : List (List Value)} {D : Fx} {K : KV} (spec : PureSpec P f vs Pre Rel)
    (hpre : ∀ w, D.D w → Pre w) (h : ∀ v D', Rel v D' → K v bs cs (D.and D')) : XCall P w0 R av f vs bs cs D K := by
  refine XCall_iff.2 ⟨spec.1, fun w hst => ?_⟩
  refine (spec.2 (Av av bs D.rs) w (fun b hb => hst.avb hb) (hst.data.imp hpre)).mono ?_
  rintro e w' ⟨v, D', rfl, h1, h2, h3⟩
  exact ⟨v, [], cs, _, rfl, by rw [List.append_nil]; exact hst.kept h1 h2, by rw [List.append_nil]; exact h v D' h3⟩

/-- A call that only computes: no new facts. -/
theorem XCall.val {f : FuncId} {vs : List Value} {Pre : World → Prop} {Rel : Value → Fx → Prop} {bs : List (Nat × Nat)} {cs : List (List Value)} {D : Fx} {K : KV} (spec : PureSpec P f vs Pre Rel)
    (hpre : ∀ w, D.D w → Pre w) (h : ∀ v D', Rel v D' → K v bs cs D) : XCall P w0 R av f vs bs cs D K := by
  refine XCall_iff.2 ⟨spec.1, fun w hst => ?_⟩
  refine (spec.2 (Av av bs D.rs) w (fun b hb => hst.avb hb) (hst.data.imp hpre)).mono ?_
  rintro e w' ⟨v, D', rfl, h1, h2, h3⟩
  exact ⟨v, [], cs, _, rfl, by rw [List.append_nil]; exact hst.keptD h1, by rw [List.append_nil]; exact h v D' h3⟩

end
attribute [irreducible] PureSpec
end Go.Sx
