/- Sx, part O: the simulation behind part N. -/
import Derived.Test.YtpnnadojhacjiaaSxN
namespace Go.Sx
set_option linter.unusedVariables false

section
variable {P : Program} {tab : Tab} {w0 : World} {R : Nat → Nat → Prop} {av : Nat → Prop}

theorem getD_false {L : Array Bool} {i : Nat} (hi : i < L.size) : L.getD i true = L.getD i false := by
  simp [Array.getD, hi]

/-- The same at two frames that agree at what the operation looks at. -/
theorem same_of_agree {ops : Array Oper} {o : Oper} (hs : ∀ cs b, o.op ≠ .select cs b) {a a' : Array Value} (h : ∀ t, looks ops.toList t o = true → a'[t]? = a[t]?) :
    execOp (Act.eval ⟨a', []⟩) o = execOp (Act.eval ⟨a, []⟩) o ∧ Region.wanted o (yielded ops a') = Region.wanted o (yielded ops a) := by
  constructor
  · refine execOp_congr o hs fun x hx => ?_
    cases x with
    | tmp t =>
      have : looks ops.toList t o = true := by
        cases hl : looks ops.toList t o with
        | true => rfl
        | false => exact absurd (by simpa using hx) (looks_false hl).1
      simp only [Act.eval, Array.getD_eq_getD_getElem?, h t this]
    | _ => rfl
  · unfold Region.wanted
    cases hg : o.guard with
    | none => rfl
    | some jp =>
      obtain ⟨j, pol⟩ := jp
      simp only
      have : yielded ops a' j = yielded ops a j := by
        unfold yielded
        cases hd : (ops[j]?).bind (·.dst) with
        | none => rfl
        | some t =>
          have : looks ops.toList t o = true := by
            cases hl : looks ops.toList t o with
            | true => rfl
            | false => exact absurd (by rw [Array.getElem?_toList]; exact hd) ((looks_false hl).2 j pol hg)
          simp only [Option.bind_some, h t this]
      rw [this]

/-- What a value that was read early asks of a world. -/
def DepOk (w0 : World) (R : Nat → Nat → Prop) (av : Nat → Prop) (bs : List (Nat × Nat)) (cs : List (List Value)) (D : Fx) : Dep → World → Prop
  | .none, _ => True
  | .box j, w => Range w (nth (0, 0) bs j).1 (nth (0, 0) bs j).2 (nth [] cs j)
  | .all, w => St w0 R av w bs cs D

def DepIn (cs : List (List Value)) : Dep → Prop
  | .box j => j < cs.length
  | _ => True

theorem St.dep {w : World} {bs : List (Nat × Nat)} {cs : List (List Value)} {D : Fx} (h : St w0 R av w bs cs D) {dep : Dep} (hd : DepIn cs dep) : DepOk w0 R av bs cs D dep w := by
  cases dep with
  | none => trivial
  | box j => exact (h.box.get j hd).1
  | all => exact h

structure Sim (P : Program) (w0 : World) (R : Nat → Nat → Prop) (av : Nat → Prop) (ops : Array Oper) (L : List Bool) (L' : Array Bool) (E : List (Nat × Dep)) (bs : List (Nat × Nat)) (cs : List (List Value))
    (D : Fx) (a a' : Array Value) : Prop where
  len : L.length = ops.size
  len' : L'.size = ops.size
  sub : ∀ i, L'.getD i false = true → nthB L i = true
  closed : ∀ i o, ops[i]? = some o → nthB L i = true → waitsOk L o.after.toList = true
  closed' : ∀ k ok, ops[k]? = some ok → L'.getD k false = true → ∀ e ∈ ok.after, Region.binds .any e = true → L'.getD e.on false = true
  size : a'.size = a.size
  agree : ∀ t, (∀ i o, ops[i]? = some o → nthB L i = true → L'.getD i false = false → o.dst ≠ some t) → a'[t]? = a[t]?
  early : ∀ i, nthB L i = true → L'.getD i false = false → ∃ o d m v, ops[i]? = some o ∧ o.dst = some d ∧ (i, m) ∈ E ∧ Free ops.toList i d o ∧ a[d]? = some v ∧ DepIn cs m ∧
    ((Region.wanted o (yielded ops a) = true ∧ ∀ w, DepOk w0 R av bs cs D m w → (execOp (Act.eval ⟨a, []⟩) o).run P w = .ok (.value v) w) ∨ (Region.wanted o (yielded ops a) = false ∧ v = undef))

theorem closed_set {ops : Array Oper} {L' L2 : Array Bool} (hc : ∀ k ok, ops[k]? = some ok → L'.getD k false = true → ∀ e ∈ ok.after, Region.binds .any e = true → L'.getD e.on false = true) {j : Nat} {o : Oper} (hoj : ops[j]? = some o)
    (hset : ∀ k, L2.getD k false = true ↔ k = j ∨ L'.getD k false = true) (hall : ∀ e ∈ o.after, Region.binds .any e = true → L'.getD e.on false = true) :
    ∀ k ok, ops[k]? = some ok → L2.getD k false = true → ∀ e ∈ ok.after, Region.binds .any e = true → L2.getD e.on false = true := by
  intro k ok hk hL e he hb
  refine (hset _).2 (.inr ?_)
  rcases (hset k).1 hL with rfl | hL
  · rw [hoj] at hk
    cases hk
    exact hall e he hb
  · exact hc k ok hk hL e he hb

/-- Whoever is ready agrees at what it looks at. -/
theorem Sim.looked {ops : Array Oper} {L : List Bool} {L' : Array Bool} {E : List (Nat × Dep)} {bs : List (Nat × Nat)} {cs : List (List Value)} {D : Fx} {a a' : Array Value}
    (h : Sim P w0 R av ops L L' E bs cs D a a') {j : Nat} {o : Oper} (hj : ops[j]? = some o) (hw : ∀ e ∈ o.after, Region.binds .any e = true → L'.getD e.on false = true) (hun : L'.getD j false = false)
    (t : Nat) (ht : looks ops.toList t o = true) : a'[t]? = a[t]? := by
  refine h.agree t fun i oi hi hL hL' hd => ?_
  obtain ⟨o1, d, m, v, g1, g2, g3, g4, g5⟩ := h.early i hL hL'
  rw [hi] at g1
  cases g1
  rw [hd] at g2
  cases g2
  by_cases hij : j = i
  · subst hij
    rw [hj] at hi
    cases hi
    rw [g4.own] at ht
    cases ht
  · have := g4.looked j o (by rw [Array.getElem?_toList]; exact hj) hij ht
    obtain ⟨e, he, hb, rfl⟩ := after1_iff.1 this
    have := hw e (Array.mem_toList_iff.1 he) hb
    rw [hL'] at this
    cases this

theorem getD_setB {L' : Array Bool} {i j : Nat} (hi : i < L'.size) : (L'.setIfInBounds i true).getD j false = true ↔ j = i ∨ L'.getD j false = true := by
  by_cases h : i = j
  · subst h; simp [Array.getD, hi]
  · rw [getD_set_ne false h]
    constructor
    · exact .inr
    · rintro (rfl | h')
      · exact absurd rfl h
      · exact h'

theorem put_self {a : Array Value} {d : Nat} {v : Value} (h : d < a.size) : (a.setIfInBounds d v)[d]? = some v := by
  rw [Array.getElem?_setIfInBounds_self_of_lt h]

theorem put_ne {a : Array Value} {d t : Nat} {v : Value} (h : d ≠ t) : (a.setIfInBounds d v)[t]? = a[t]? := Array.getElem?_setIfInBounds_ne h

/-- Carry an operation over to the frame of the real run. -/
theorem wp_carry {o : Oper} {a a' : Array Value} {w : World} {next next' : Act → World → Prop} {Q : Exit → Act → World → Prop} (he : execOp (Act.eval ⟨a', []⟩) o = execOp (Act.eval ⟨a, []⟩) o)
    (hd : ∀ act w, next act w → act.defers = []) (hn : ∀ v w', next (Act.put ⟨a, []⟩ o.dst v) w' → next' (Act.put ⟨a', []⟩ o.dst v) w')
    (h : o.wp P ⟨a, []⟩ w next (fun _ _ _ => False)) : o.wp P ⟨a', []⟩ w next' Q := by
  unfold Oper.wp at h ⊢
  rw [he]
  generalize (execOp (Act.eval ⟨a, []⟩) o).run P w = r at h ⊢
  cases r with
  | ok n w' =>
    cases n <;> simp only [Oper.upon] at h ⊢
    case value v => exact hn _ _ h
    case skip => exact hn _ _ h
    case defer d =>
      have := hd _ _ h
      rw [put_defers] at this
      cases this
    case enter f args =>
      refine Calls.mono h fun e w'' he => ?_
      cases e with
      | returned v => exact hn _ _ he
      | panicked c => exact he.elim
      | outgrown => obtain ⟨_, _, hf⟩ := he; exact hf.elim
    case row row args => exact Rows.mono h fun v w'' he => hn _ _ he
  | halt x w' => cases x <;> simp only [Oper.upon] at h

theorem wantK_sound {ops : Array Oper} {o : Oper} {tm : List SV} {bs : List (Nat × Nat)} {a : Array Value} (hf : FrameOk bs tm a) {Y N : Prop} (h : wantK ops.toList o tm Y N) :
    (Region.wanted o (yielded ops a) = true ∧ Y) ∨ (Region.wanted o (yielded ops a) = false ∧ N) := by
  unfold wantK at h
  split at h
  · rename_i hg
    exact .inl ⟨by unfold Region.wanted; rw [hg], h⟩
  · rename_i j pol hg
    obtain ⟨hjl, h⟩ := nthK_iff o h
    have hj : ops.toList[j]? = some (nth o ops.toList j) := by rw [nth_eq, List.getElem?_eq_getElem hjl]; rfl
    generalize nth o ops.toList j = oj at h hj
    split at h
    · exact h.elim
    · rename_i t ht
      obtain ⟨htl, h⟩ := nthK_iff SV.any h
      have hok := hf.ok t
      have hta : t < a.size := by rw [← hf.len]; exact htl
      split at h
      · rename_i hs
        rw [hs] at hok
        have hw : Region.wanted o (yielded ops a) = (some true == some pol) := by rw [wanted_of hg, yield_at hj ht (getD_of hta hok)]
        split at h
        · exact .inl ⟨by rw [hw]; rfl, h⟩
        · exact .inr ⟨by rw [hw]; rfl, h⟩
      · rename_i hs
        rw [hs] at hok
        have hw : Region.wanted o (yielded ops a) = (some false == some pol) := by rw [wanted_of hg, yield_at hj ht (getD_of hta hok)]
        split at h
        · exact .inr ⟨by rw [hw]; rfl, h⟩
        · exact .inl ⟨by rw [hw]; rfl, h⟩
      · rename_i x hs
        rw [hs] at hok
        exact .inr ⟨by rw [wanted_of hg, yield_not hj ht (getD_of hta hok)]; rfl, h⟩
      · exact h.elim

theorem guardSplit_sound {ops : List Oper} {i : Nat} {o : Oper} {tm : List SV} {bs : List (Nat × Nat)} {a : Array Value} (hf : FrameOk bs tm a) {K : List SV → Prop} (h : guardSplit ops i o tm K) :
    ∃ tm', FrameOk bs tm' a ∧ K tm' := by
  unfold guardSplit at h
  split at h
  · rename_i d _ _
    obtain ⟨_, h⟩ := nthK_iff SV.any h
    have hok := hf.ok d
    split at h
    · rename_i c hs
      rw [hs] at hok
      cases c
      · obtain ⟨_, h⟩ := setK_iff h
        exact ⟨_, hf.same hok, h⟩
      · obtain ⟨_, h⟩ := setK_iff h
        exact ⟨_, hf.same hok, h⟩
    · exact ⟨tm, hf, h⟩
  · exact ⟨tm, hf, h⟩

theorem loadK_box {bs : List (Nat × Nat)} {cs : List (List Value)} {t : TypeId} {x : TI} (hx : mkTI P t = some x) {i o : Nat} {K : SV → Prop}
    (h : loadK x cs i o K) : i < cs.length ∧ ∃ v, (∀ w, Range w (nth (0, 0) bs i).1 (nth (0, 0) bs i).2 (nth [] cs i) → (Instr.loadAt t (ptr bs i o)).run P w = .ok v w) ∧ K (.v v) := by
  obtain ⟨hi, h⟩ := nthK_iff [] h
  have hat : Instr.loadAt t (ptr bs i o) = loadVar t ⟨(nth (0, 0) bs i).1, (nth (0, 0) bs i).2 + o, none⟩ := rfl
  refine ⟨hi, ?_⟩
  split at h
  · rename_i ha
    obtain ⟨h1, h2⟩ := subK_iff h
    refine ⟨_, fun w hr => ?_, h2⟩
    rw [hat]
    refine run_loadVar_agg hx ha _ (by simp; omega) (fun j hj => ?_)
    simp at hj
    rw [Nat.add_assoc, hr.cell (by omega), List.getElem?_take, if_pos (by omega), List.getElem?_drop]
  · rename_i ha
    obtain ⟨h1, h2⟩ := nthK_iff (.tuple #[]) h
    refine ⟨_, fun w hr => ?_, h2⟩
    rw [hat]
    refine run_loadVar_one hx ha ?_
    rw [hr.cell h1, nth_eq (.tuple #[]) (nth [] cs i) o, List.getElem?_eq_getElem h1]
    rfl

theorem xread_sound (hT : TabOk P tab) {tm : List SV} {bs : List (Nat × Nat)} {cs : List (List Value)} {D : Fx} {a : Array Value} (hf : FrameOk bs tm a) {o : Oper}
    {K : SV → Dep → Prop} (h : xread P tab w0 R av o tm bs cs D K) :
    ∃ v s dep, (∀ w, DepOk w0 R av bs cs D dep w → (execOp (Act.eval ⟨a, []⟩) o).run P w = .ok (.value v) w) ∧ DepIn cs dep ∧ SVok bs s v ∧ K s dep := by
  have hg := GOk.nil tm
  obtain ⟨dst, op, ty, pos, after, guard⟩ := o
  unfold xread at h
  simp only at h
  split at h
  · rename_i t x
    obtain ⟨sx, hsx, h⟩ := evG_sound hf hg h
    split at h
    · rename_i j s
      split at h
      · rename_i ti hl
        obtain ⟨hj, v, h1, h2⟩ := loadK_box (bs := bs) (hT _ _ hl) h
        refine ⟨v, .v v, .box j, fun w hw => ?_, hj, rfl, h2⟩
        obtain ⟨hsx, _⟩ := hsx
        simp only [execOp]
        rw [hsx]
        exact run_value (h1 w hw)
      · exact h.elim
    · rename_i v
      have hsx' : Act.eval ⟨a, []⟩ x = v := hsx
      obtain ⟨u, h1, h2⟩ := (XRead_iff _ _ _ _).1 h
      refine ⟨u, .v u, .all, fun w hw => ?_, trivial, rfl, h2⟩
      simp only [execOp, hsx']
      exact run_value (h1 w hw)
    · exact h.elim
  · rename_i op' hnl
    rcases xpure_sound (o := ⟨dst, op, ty, pos, after, guard⟩) hT hf hg h with h | ⟨v, s, h1, h2, h3⟩
    · split at h
      · rename_i t x i _
        obtain ⟨v, h1, h2⟩ := (XRead_iff _ _ _ _).1 (evV_sound hf hg (evV_sound hf hg h))
        exact ⟨v, .v v, .all, fun w hw => run_value (h1 w hw), trivial, rfl, h2⟩
      · rename_i t x i _
        obtain ⟨v, h1, h2⟩ := (XRead_iff _ _ _ _).1 (evV_sound hf hg (evV_sound hf hg h))
        exact ⟨v, .v v, .all, fun w hw => run_value (h1 w hw), trivial, rfl, h2⟩
      · rename_i t x lo hi mx _
        obtain ⟨v, h1, h2⟩ := (XRead_iff _ _ _ _).1 (evO_sound hf hg (evO_sound hf hg (evO_sound hf hg (evV_sound hf hg h))))
        exact ⟨v, .v v, .all, fun w hw => run_value (h1 w hw), trivial, rfl, h2⟩
      · rename_i s d x _
        obtain ⟨v, h1, h2⟩ := (XRead_iff _ _ _ _).1 (evV_sound hf hg h)
        exact ⟨v, .v v, .all, fun w hw => run_value (h1 w hw), trivial, rfl, h2⟩
      · rename_i op t x y t' _
        obtain ⟨v, h1, h2⟩ := (XRead_iff _ _ _ _).1 (evV_sound hf hg (evV_sound hf hg h))
        exact ⟨v, .v v, .all, fun w hw => run_value (h1 w hw), trivial, rfl, h2⟩
      · rename_i b xs ts _
        have h := evVs_sound hf hg h
        split at h
        · rename_i mm hmm
          obtain ⟨v, h1, h2⟩ := (XRead_iff _ _ _ _).1 h
          refine ⟨v, .v v, .all, fun w hw => ?_, trivial, rfl, h2⟩
          have hr := h1 w hw
          rw [execOp_call_builtin]
          cases b <;> simp only [semB] at hmm <;> first | (cases hmm; exact run_value hr) | (cases hmm)
        · exact h.elim
      · exact h.elim
    · exact ⟨v, s, .none, fun w _ => h1 w fun ⟨t, x, he⟩ => absurd he (hnl t x), trivial, h2, h3⟩

end
end Go.Sx
