/- Parts of the proof: SxL, SxM, SxN, SxO, SxP, SxQ, SxR, SxS, SxT, SxU, SxV, SxW, SxX, SxY. -/
import Derived.Test.YtfeoedkmndkbjaaGreatDoorQA
import Derived.Laws.Strings
namespace Go.Sx
set_option linter.unusedVariables false

/-! ### a pointer to a row of cells -/

def Rg (b o n : Nat) (k i : Nat) : Prop := k = b ∧ o ≤ i ∧ i < o + n

/-- A function that writes the cells at its pointer, and nothing else that was there. The pointer stands behind the arguments pre, ahead of post. -/
def PtrSpec (P : Program) (f : FuncId) (pre post : List Value) (c : List Value) (Pre : World → Prop) (Rel : Value → List Value → Fx → Prop) : Prop :=
  Callable P f ∧ ∀ (av : Nat → Prop) (w : World) (b o : Nat), (∀ x, av x → x < w.heap.size) → Range w b o c → Holds (fun x => av x ∨ x = b) w Pre →
    Calls P f (pre ++ .pointer (some ⟨b, o, none⟩) :: post).toArray w fun e w' => ∃ v c' D, e = .returned v ∧ KeepX (Rg b o c.length) w w' ∧ c'.length = c.length ∧ Range w' b o c' ∧
      FxOk (fun x => av x ∨ x = b) w.heap.size w' D ∧ Rel v c' D

def ptrFin (b o n : Nat) (Rel : Value → List Value → Fx → Prop) : Fin := fun v bs cs D => match bs, cs with
  | (b', o') :: _, c' :: _ => (b' = b ∧ o' = o ∧ c'.length = n) ∧ ∃ D', Ent D D' ∧ Rel v c' D'
  | _, _ => False

theorem nth_append_left {α : Type} (d : α) : ∀ (l m : List α) (i : Nat), i < l.length → nth d (l ++ m) i = nth d l i := by
  intro l m i h
  rw [nth_eq, nth_eq, List.getElem?_append_left h]

section
variable {P : Program} {tab : Tab} {w0 : World} {R : Nat → Nat → Prop} {av : Nat → Prop}

theorem PtrSpec.of_xc (hT : TabOk P tab) {f : FuncId} {fn : Func} (hfn : P.funcs[f]? = some fn) {c : Code} (hb : fn.body = some c) (hnm : (fn.name == "runtime.NumGoroutine") = false) {pre post : List Value} {svs : List SV}
    {n : Nat} (hn : fn.ntmps = pre.length + (post.length + 1) + n) (hsv : svs = pre.map SV.v ++ .p 0 0 :: post.map SV.v) {cells : List Value} {Pre : World → Prop} {Rel : Value → List Value → Fx → Prop}
    (h : ∀ w0 av b o, padK svs n fun tm => xc P tab w0 (Rg b o cells.length) av c tm [(b, o)] [cells] ⟨Pre, []⟩ (kEnd tab fn.results.toList (ptrFin b o cells.length Rel))) : PtrSpec P f pre post cells Pre Rel := by
  subst hsv
  refine ⟨⟨fn, hfn, by rw [hb]; rfl, hnm⟩, fun av w b o hav hr hpre => ?_⟩
  have hst : St w (Rg b o cells.length) av w [(b, o)] [cells] ⟨Pre, []⟩ := by
    refine ⟨KeepX.refl _ _, ⟨hr, trivial⟩, by simp, fun i hi => ?_, hav, fun r hr => by simp at hr, hpre.less fun x hx => ?_⟩
    · have : i = 0 := by simpa using hi
      subst this
      exact .inr fun j hj => ⟨rfl, by simp [nth], by simpa [nth] using hj⟩
    · rcases hx with hx | ⟨y, hy, rfl⟩ | ⟨y, hy, rfl⟩
      · exact .inl hx
      · simp at hy; subst hy; exact .inr rfl
      · simp at hy
  refine (calls_of_xc hT hfn hb (by simp only [List.length_append, List.length_cons]; exact hn) (by simp) (fun i hi => ?_) hst (h w av b o)).mono ?_
  · rw [nth_eq, nth_eq]
    by_cases h1 : i < pre.length
    · rw [List.getElem?_append_left (by simpa using h1), List.getElem?_append_left h1, List.getElem?_map, List.getElem?_eq_getElem h1]
      rfl
    · rw [List.getElem?_append_right (by simp; omega), List.getElem?_append_right (by omega)]
      simp only [List.length_map]
      cases hk : i - pre.length with
      | zero => exact ⟨by simp [ptr, nth], by simp⟩
      | succ k =>
        simp only [List.getElem?_cons_succ, List.getElem?_map]
        have : k < post.length := by simp at hi; omega
        rw [List.getElem?_eq_getElem this]
        rfl
  · rintro e w' ⟨v, bs', cs', D', rfl, h1, h2⟩
    unfold ptrFin at h2
    split at h2
    · rename_i b' o' bs c' cs
      obtain ⟨⟨rfl, rfl, hl⟩, D2, h3, h4⟩ := h2
      have h5 := h1.ent h3
      refine ⟨v, c', D2, rfl, h1.keep, hl, h1.box.1, ⟨h5.newRows fun k => ⟨o' + cells.length, fun hR => by have := hR.2.2; omega⟩, (List.nodup_append.1 h5.nd).2.1, h5.data.less fun x hx => ?_⟩, h4⟩
      rcases hx with (hx | rfl) | hx
      · exact .inl hx
      · exact .inr (.inl ⟨_, List.mem_cons_self .., rfl⟩)
      · exact .inr (.inr hx)
    · exact h2.elim

theorem Range.sub {w : World} {b o s : Nat} {c : List Value} (h : Range w b o c) (n : Nat) (hs : s + n ≤ c.length) : Range w b (o + s) ((c.drop s).take n) := by
  obtain ⟨arr, e, h1, h2⟩ := h
  refine ⟨arr, e, h1, fun j hj => ?_⟩
  simp at hj
  rw [List.getElem?_take, if_pos (by omega), List.getElem?_drop, Nat.add_assoc, h2 _ (by omega)]

/-- The box behind a call that wrote a part of it. -/
theorem Range.after {w w' : World} {b o s : Nat} {c c' : List Value} (h : Range w b o c) (hk : KeepX (Rg b (o + s) c'.length) w w') (hr : Range w' b (o + s) c') (hs : s + c'.length ≤ c.length) :
    Range w' b o (c.take s ++ c' ++ c.drop (s + c'.length)) := by
  obtain ⟨arr, e, h1, h2⟩ := h
  obtain ⟨arr', e', h1', h2'⟩ := hr
  refine ⟨arr', e', h1', fun j hj => ?_⟩
  simp only [List.length_append, List.length_take, List.length_drop] at hj
  by_cases hin : s ≤ j ∧ j < s + c'.length
  · have := h2' (j - s) (by omega)
    rw [show o + s + (j - s) = o + j from by omega] at this
    rw [this, List.append_assoc, List.getElem?_append_right (by simp only [List.length_take]; omega), List.getElem?_append_left (by simp only [List.length_take]; omega)]
    congr 1
    simp only [List.length_take]
    omega
  · obtain ⟨o', ho', hs'⟩ := hk.obj b _ h1
    rw [h1'] at ho'
    have hcell : arr'[o + j]? = arr[o + j]? := by
      rcases hs' with he | ⟨x, y, e1, f1, hx, hy, _, hi⟩ | ⟨_, es, n, es', n', hx, hy⟩
      rotate_left 2
      · cases hx
      · rw [← he] at ho'; cases ho'; rfl
      · rw [hy] at ho'
        cases ho'
        cases hx
        exact hi _ (fun hr => hin ⟨by have := hr.2.1; omega, by have := hr.2.2; omega⟩)
    rw [hcell, h2 j (by omega)]
    by_cases hlt : j < s
    · rw [List.append_assoc, List.getElem?_append_left (by simp only [List.length_take]; omega), List.getElem?_take, if_pos hlt]
    · rw [List.getElem?_append_right (by simp only [List.length_take, List.length_append]; omega), List.getElem?_drop]
      congr 1
      simp only [List.length_take, List.length_append]
      omega

/-- A box takes new cells, and more is known. -/
theorem St.put2 {w w' : World} {bs : List (Nat × Nat)} {cs : List (List Value)} {F F' : Fx} (h : St w0 R av w bs cs F) (i : Nat) (hi : i < bs.length) (c' : List Value) (hlen : c'.length = (nth [] cs i).length)
    (hw : KeepX (fun b o => b = (nth (0, 0) bs i).1 ∧ (nth (0, 0) bs i).2 ≤ o ∧ o < (nth (0, 0) bs i).2 + (nth [] cs i).length) w w')
    (hr : Range w' (nth (0, 0) bs i).1 (nth (0, 0) bs i).2 c') (hd : FxOk (Av av bs F.rs) w.heap.size w' F') : St w0 R av w' bs (cs.set i c') (F.and F') := by
  have hp := h.put i hi c' hlen hw hr
  refine ⟨hp.keep, hp.box, ?_, hp.own, hp.avlt, fun r hr => ?_, ?_⟩
  · show (bs.map (·.1) ++ (F.rs ++ F'.rs).map (·.1)).Nodup
    rw [List.map_append, ← List.append_assoc, List.nodup_append]
    refine ⟨h.nd, hd.nd, fun x hx y hy hxy => ?_⟩
    subst hxy
    obtain ⟨r, hr, rfl⟩ := List.mem_map.1 hy
    have h1 := (hd.rows r hr).2
    rcases List.mem_append.1 hx with hx | hx
    · obtain ⟨z, hz, he⟩ := List.mem_map.1 hx
      have := h.box.lt z hz
      omega
    · obtain ⟨z, hz, he⟩ := List.mem_map.1 hx
      have := (h.rows z hz).1.lt
      omega
  · rcases List.mem_append.1 hr with hr | hr
    · exact hp.rows r hr
    · exact ⟨(hd.rows r hr).1, .inl (Nat.le_trans h.keep.size (hd.rows r hr).2)⟩
  · refine Holds.and ?_ ?_
    · refine h.data.move hw.size (fun b hb hna => hw.same hb (fun _ hR => hna (.inr (.inl ⟨_, mem_nth hi, hR.1.symm⟩)))) (fun b hb => ?_)
      rcases hb with hb | hb | ⟨r, hr, rfl⟩
      · exact .inl (.inl hb)
      · exact .inl (.inr (.inl hb))
      · rcases List.mem_append.1 hr with hr | hr
        · exact .inl (.inr (.inr ⟨r, hr, rfl⟩))
        · exact .inr (hd.rows r hr).2
    · refine hd.data.less fun b hb => ?_
      rcases hb with hb | hb | ⟨r, hr, rfl⟩
      · exact .inl (.inl hb)
      · exact .inl (.inr (.inl hb))
      · rcases List.mem_append.1 hr with hr | hr
        · exact .inl (.inr (.inr ⟨r, hr, rfl⟩))
        · exact .inr ⟨r, hr, rfl⟩

/-- A call that writes a part of a box. -/
theorem XCall.ptr {f : FuncId} {vs pre post c : List Value} {Pre : World → Prop} {Rel : Value → List Value → Fx → Prop} {bs : List (Nat × Nat)} {cs : List (List Value)} {D : Fx} {K : KV}
    (spec : PtrSpec P f pre post c Pre Rel) (i s : Nat) (hvs : vs = pre ++ Sx.ptr bs i s :: post) (hsub : nthK cs i fun l => subK l s c.length fun m => m = c) (hpre : ∀ w, D.D w → Pre w)
    (h : ∀ v c' D', c'.length = c.length → Rel v c' D' → nthK cs i fun l => overK l s c' fun l' => setK cs i l' fun cs' => K v bs cs' (D.and D')) : XCall P w0 R av f vs bs cs D K := by
  subst hvs
  obtain ⟨hi, hsub⟩ := nthK_iff [] hsub
  obtain ⟨hle, hsub⟩ := subK_iff hsub
  refine XCall_iff.2 ⟨spec.1, fun w hst => ?_⟩
  obtain ⟨hr, hib⟩ := hst.box.get i hi
  have hr2 := hr.sub c.length hle
  rw [hsub] at hr2
  have hiff : ∀ x, Av av bs D.rs x ↔ ((Av av bs D.rs x ∧ x ≠ (nth (0, 0) bs i).1) ∨ x = (nth (0, 0) bs i).1) := fun x => by
    constructor
    · intro hx
      by_cases he : x = (nth (0, 0) bs i).1
      · exact .inr he
      · exact .inl ⟨hx, he⟩
    · rintro (hx | rfl)
      · exact hx.1
      · exact .inr (.inl ⟨_, mem_nth hib, rfl⟩)
  refine (spec.2 (fun x => Av av bs D.rs x ∧ x ≠ (nth (0, 0) bs i).1) w _ _ (fun x hx => hst.avb hx.1) hr2 ((hst.data.imp hpre).less fun x hx => (hiff x).2 hx)).mono ?_
  rintro e w' ⟨v, c', D', rfl, h1, h2, h3, h4, h5⟩
  have hk := h v c' D' h2 h5
  obtain ⟨_, hk⟩ := nthK_iff [] hk
  obtain ⟨hov, hk⟩ := overK_iff hk
  obtain ⟨_, hk⟩ := setK_iff hk
  have hka : KeepX (Rg (nth (0, 0) bs i).1 ((nth (0, 0) bs i).2 + s) c'.length) w w' := by rw [h2]; exact h1
  have hput := hst.put2 i hib _ (by simp only [List.length_append, List.length_take, List.length_drop]; omega)
    (h1.mono fun k j hkj => ⟨hkj.1, by have := hkj.2.1; omega, by have := hkj.2.2; omega⟩) (hr.after hka h3 hov)
    ⟨h4.rows, h4.nd, h4.data.less fun x hx => hx.elim (fun hx => .inl ((hiff x).1 hx)) .inr⟩
  exact ⟨v, [], _, _, rfl, by rw [List.append_nil]; exact hput, by rw [List.append_nil]; exact hk⟩

/-! ### loops -/

theorem wp_loop_ghost {c : Code} {Q : Exit → Act → World → Prop} {a : Act} {w : World} {ι : Type} (I : ι → Act → World → Prop) (μ : ι → Nat) (i0 : ι) (h0 : I i0 a w)
    (round : ∀ i a w, I i a w → c.wp P (Exit.then (fun a' w' => ∃ i', I i' a' w' ∧ μ i' < μ i) Q) a w) : (Code.loop c).wp P Q a w := by
  intro b k cs
  have key : ∀ n i a w, μ i = n → I i a w → ∃ e a' w', Q e a' w' ∧ Arrives P (lone (b.at a (.code c :: .inLoop c :: k)) cs w) b k cs e a' w' := by
    intro n
    induction n using Nat.strongRecOn with
    | _ n ih =>
      intro i a w hn hI
      obtain ⟨e, a1, w1, hq, harr⟩ := round i a w hI b (.inLoop c :: k) cs
      cases e with
      | normal =>
        obtain ⟨i1, hI1, hlt⟩ := hq
        obtain ⟨e2, a2, w2, hq2, harr2⟩ := ih (μ i1) (hn ▸ hlt) i1 a1 w1 rfl hI1
        exact ⟨e2, a2, w2, hq2, .of_steps (Steps.trans harr (.one step_inLoop)) harr2⟩
      | exit id => exact ⟨_, a1, w1, hq, .pass (x := .inLoop c) rfl (fun _ _ => .inl (by simp)) harr⟩
      | goto l => exact ⟨_, a1, w1, hq, .pass (x := .inLoop c) rfl (fun _ _ => .inl (by simp)) harr⟩
      | ret => exact ⟨_, a1, w1, hq, .pass (x := .inLoop c) rfl (fun _ _ => .inl (by simp)) harr⟩
      | panic ch => exact ⟨_, a1, w1, hq, .pass (x := .inLoop c) rfl (fun _ _ => .inl (by simp)) harr⟩
      | outgrown => exact ⟨_, a1, w1, hq, .pass (x := .inLoop c) rfl (fun _ _ => .inl (by simp)) harr⟩
  obtain ⟨e, a', w', hq, harr⟩ := key _ i0 a w rfl h0
  exact ⟨e, a', w', hq, .of_steps (.one step_loop) harr⟩

/-- The second frame says no more than the first. -/
def FLe : List SV → List SV → Prop
  | [], [] => True
  | _ :: xs, .any :: ys => FLe xs ys
  | x :: xs, y :: ys => x = y ∧ FLe xs ys
  | _, _ => False

theorem FLe.nil : FLe [] [] := trivial
theorem FLe.any {x : SV} {xs ys : List SV} (h : FLe xs ys) : FLe (x :: xs) (.any :: ys) := by simpa [FLe] using h
theorem FLe.cons {x : SV} {xs ys : List SV} (h : FLe xs ys) : FLe (x :: xs) (x :: ys) := by cases x <;> simp [FLe, h]
theorem FLe.eq {x y : SV} {xs ys : List SV} (e : x = y) (h : FLe xs ys) : FLe (x :: xs) (y :: ys) := e ▸ h.cons

theorem FLe.len : ∀ {xs ys : List SV}, FLe xs ys → xs.length = ys.length
  | [], [], _ => rfl
  | x :: xs, y :: ys, h => by
    have : FLe xs ys := by cases y <;> simp_all [FLe]
    simp [this.len]
  | [], y :: ys, h => by simp [FLe] at h
  | x :: xs, [], h => by simp [FLe] at h

theorem FLe.at : ∀ {xs ys : List SV}, FLe xs ys → ∀ t, nth .any ys t = .any ∨ nth .any xs t = nth .any ys t
  | [], [], _, t => .inl rfl
  | x :: xs, y :: ys, h, 0 => by
    cases y with
    | any => exact .inl rfl
    | _ => exact .inr h.1
  | x :: xs, y :: ys, h, t + 1 => by
    have : FLe xs ys := by cases y <;> simp_all [FLe]
    exact this.at t
  | [], y :: ys, h, _ => by simp [FLe] at h
  | x :: xs, [], h, _ => by simp [FLe] at h

theorem FLe.ok {xs ys : List SV} (h : FLe xs ys) {bs : List (Nat × Nat)} {a : Array Value} (hf : FrameOk bs xs a) : FrameOk bs ys a := by
  refine ⟨by rw [← h.len]; exact hf.len, fun t => ?_⟩
  rcases h.at t with he | he
  · rw [he]; exact trivial
  · rw [← he]; exact hf.ok t

def havocK (A : List Nat) : List SV → Nat → (List SV → Prop) → Prop
  | [], _, K => K []
  | x :: xs, n, K => match memN A n with
    | true => havocK A xs (n + 1) fun l => K (.any :: l)
    | false => havocK A xs (n + 1) fun l => K (x :: l)

theorem havocK_iff {A : List Nat} : ∀ {l : List SV} {n : Nat} {K : List SV → Prop}, havocK A l n K → ∃ m, K m ∧ ∀ K', havocK A l n K' → K' m
  | [], _, K, h => ⟨[], h, fun _ h => h⟩
  | x :: xs, n, K, h => by
    simp only [havocK] at h
    cases hm : memN A n with
    | true =>
      rw [hm] at h
      obtain ⟨m, h1, h2⟩ := havocK_iff h
      exact ⟨_, h1, fun K' h' => by simp only [havocK, hm] at h'; exact h2 _ h'⟩
    | false =>
      rw [hm] at h
      obtain ⟨m, h1, h2⟩ := havocK_iff h
      exact ⟨_, h1, fun K' h' => by simp only [havocK, hm] at h'; exact h2 _ h'⟩

def setsK : List (Nat × SV) → List SV → (List SV → Prop) → Prop
  | [], tm, K => K tm
  | (t, s) :: r, tm, K => setK tm t s fun tm' => setsK r tm' K

theorem setsK_iff : ∀ {r : List (Nat × SV)} {tm : List SV} {K : List SV → Prop}, setsK r tm K → ∃ m, K m ∧ ∀ K', setsK r tm K' → K' m
  | [], tm, K, h => ⟨tm, h, fun _ h => h⟩
  | (t, s) :: r, tm, K, h => by
    obtain ⟨h0, h⟩ := setK_iff h
    obtain ⟨m, h1, h2⟩ := setsK_iff h
    exact ⟨m, h1, fun K' h' => h2 _ (setK_iff h').2⟩

/-- The boxes are those, and perhaps more. -/
def BLe : List (Nat × Nat) → List (List Value) → List (Nat × Nat) → List (List Value) → Prop
  | _, _, [], [] => True
  | b' :: bs', c' :: cs', b :: bs, c :: cs => (b' = b ∧ c' = c) ∧ BLe bs' cs' bs cs
  | _, _, _, _ => False

theorem BLe.parts : ∀ {bs' : List (Nat × Nat)} {cs' : List (List Value)} {bs : List (Nat × Nat)} {cs : List (List Value)}, bs'.length = cs'.length → BLe bs' cs' bs cs →
    ∃ e f, bs' = bs ++ e ∧ cs' = cs ++ f ∧ bs.length = cs.length
  | bs', cs', [], [], _, _ => ⟨bs', cs', rfl, rfl, rfl⟩
  | b' :: bs', c' :: cs', b :: bs, c :: cs, hl, h => by
    obtain ⟨⟨rfl, rfl⟩, h⟩ := h
    obtain ⟨e, f, h1, h2, h3⟩ := BLe.parts (by simpa using hl) h
    exact ⟨e, f, by rw [h1]; rfl, by rw [h2]; rfl, by simp [h3]⟩
  | [], _, _ :: _, _, _, h => by simp [BLe] at h
  | [], _, [], _ :: _, _, h => by simp [BLe] at h
  | _ :: _, [], _ :: _, _, hl, _ => by simp at hl
  | _ :: _, _, [], _ :: _, _, h => by simp [BLe] at h
  | _ :: _, _, _ :: _, [], _, h => by simp [BLe] at h

theorem Boxes.left {w : World} : ∀ {bs : List (Nat × Nat)} {cs : List (List Value)} {e : List (Nat × Nat)} {f : List (List Value)}, bs.length = cs.length → Boxes w (bs ++ e) (cs ++ f) → Boxes w bs cs
  | [], [], _, _, _, _ => trivial
  | (b, o) :: bs, c :: cs, e, f, hl, h => ⟨h.1, Boxes.left (by simpa using hl) h.2⟩
  | [], _ :: _, _, _, hl, _ => by simp at hl
  | _ :: _, [], _, _, hl, _ => by simp at hl

theorem St.left {w : World} {bs e : List (Nat × Nat)} {cs f : List (List Value)} {D : Fx} (h : St w0 R av w (bs ++ e) (cs ++ f) D) (hl : bs.length = cs.length) : St w0 R av w bs cs D := by
  refine ⟨h.keep, h.box.left hl, ?_, fun i hi => ?_, h.avlt, h.rows, h.data.less fun b hb => ?_⟩
  · refine h.nd.sublist (List.Sublist.append ?_ (List.Sublist.refl _))
    rw [List.map_append]
    exact List.sublist_append_left _ _
  · have := h.own i (by simp; omega)
    rw [nth_append_left _ _ _ _ hi, nth_append_left _ _ _ _ (by omega)] at this
    exact this
  · rcases hb with hb | ⟨x, hx, rfl⟩ | hb
    · exact .inl hb
    · exact .inr (.inl ⟨x, List.mem_append_left _ hx, rfl⟩)
    · exact .inr (.inr hb)

def pOk (n : Nat) : SV → Bool
  | .p i _ => Nat.blt i n
  | .g _ _ x => pOk n x
  | _ => true

def pAll (n : Nat) : List SV → Bool
  | [] => true
  | x :: xs => match pOk n x with
    | true => pAll n xs
    | false => false

theorem pAll_at {n : Nat} : ∀ {l : List SV}, pAll n l = true → ∀ t, pOk n (nth .any l t) = true
  | [], _, _ => rfl
  | x :: xs, h, 0 => by
    simp only [pAll] at h
    split at h
    · assumption
    · cases h
  | x :: xs, h, t + 1 => by
    simp only [pAll] at h
    split at h
    · exact pAll_at h t
    · cases h

theorem SVok.back {bs ex : List (Nat × Nat)} : ∀ {s : SV} {y : Value}, pOk bs.length s = true → SVok (bs ++ ex) s y → SVok bs s y
  | .v _, _, _, h => h
  | .p i o, y, hp, h => by
    obtain ⟨h1, h2⟩ := h
    have hi : i < bs.length := by simpa [pOk, Nat.blt_eq] using hp
    refine ⟨?_, hi⟩
    rw [h1]
    unfold ptr
    rw [nth_append_left _ _ _ _ hi]
  | .g c pol x, _, hp, h => fun hc => SVok.back (s := x) hp (h hc)
  | .any, _, _, _ => trivial

def loopK {ι : Type} (I : ι → Prop) (vals : ι → List (Nat × SV)) (csI : ι → List (List Value)) (DI : ι → Fx) (μ : ι → Nat) (i : ι) (tm0 : List SV) (bs : List (Nat × Nat)) (K : Exit → KT) : Exit → KT :=
  fun e tm' bs' cs' D' => match e with
    | .normal => ∃ i', (I i' ∧ μ i' < μ i) ∧ (setsK (vals i') tm0 fun t => FLe tm' t ∧ pAll bs.length t = true) ∧ BLe bs' cs' bs (csI i') ∧ Ent D' (DI i')
    | e => K e tm' bs' cs' D'

theorem XStop.loop (hT : TabOk P tab) {ι : Type} {body : Code} {tm : List SV} {bs : List (Nat × Nat)} {cs : List (List Value)} {D : Fx} {K : Exit → KT} (A : List Nat) (I : ι → Prop)
    (vals : ι → List (Nat × SV)) (csI : ι → List (List Value)) (DI : ι → Fx) (μ : ι → Nat) (i0 : ι) (h0 : I i0)
    (start : havocK A tm 0 fun tm0 => setsK (vals i0) tm0 fun tm1 => FLe tm tm1) (hcs : cs = csI i0) (hD : Ent D (DI i0))
    (round : ∀ i, I i → havocK A tm 0 fun tm0 => setsK (vals i) tm0 fun tm1 => xc P tab w0 R av body tm1 bs (csI i) (DI i) (loopK I vals csI DI μ i tm0 bs K)) :
    XStop P w0 R av (.loop body) tm bs cs D K := by
  obtain ⟨tm0, start, htm0⟩ := havocK_iff start
  refine XStop_iff.2 fun a w hf hst => ?_
  refine wp_loop_ghost (ι := ι) (fun i act w => I i ∧ act.defers = [] ∧ (∃ tmi, FrameOk bs tmi act.tmps ∧ ∀ K', setsK (vals i) tm0 K' → K' tmi) ∧ St w0 R av w bs (csI i) (DI i)) μ i0 ?_ ?_
  · obtain ⟨m, h1, h2⟩ := setsK_iff start
    refine ⟨h0, rfl, ⟨m, h1.ok hf, h2⟩, ?_⟩
    rw [← hcs]
    exact hst.ent hD
  · rintro i act w ⟨hI, hd, ⟨tmi, hfi, hmi⟩, hsti⟩
    have hx := hmi _ (htm0 _ (round i hI))
    rw [act_eta hd]
    refine wp_mono (xc_sound hT body _ _ _ _ _ _ _ hx hfi hsti) ?_
    rintro e act' w' ⟨hd', tm', bs', cs', D', h1, h2, h3⟩
    cases e with
    | normal =>
      obtain ⟨i', ⟨hi1, hi2⟩, hs, hbl, hDD⟩ := h3
      obtain ⟨m, hm1, hm2⟩ := setsK_iff hs
      obtain ⟨ex, fx, rfl, rfl, hl⟩ := hbl.parts h2.box.len.symm
      have hm := hm1.1.ok h1
      exact ⟨i', ⟨hi1, hd', ⟨m, ⟨hm.len, fun t => (hm.ok t).back (pAll_at hm1.2 t)⟩, hm2⟩, (h2.left hl).ent hDD⟩, hi2⟩
    | _ => exact ⟨hd', tm', bs', cs', D', h1, h2, h3⟩

end
attribute [irreducible] FLe PtrSpec
end Go.Sx
namespace Go.Sx
set_option linter.unusedVariables false

/-! ### definitions -/

def edgeOn (e : Edge) : Option Nat := match e.ground with
  | .textOnly _ => none
  | .gcOnly _ => none
  | _ => some e.on

def nthB : List Bool → Nat → Bool
  | [], _ => false
  | x :: _, 0 => x
  | _ :: xs, n + 1 => nthB xs n

/-- All that an operation waits for is listed. -/
def waitsOk (L : List Bool) : List Edge → Bool
  | [] => true
  | e :: r => match edgeOn e with
    | none => waitsOk L r
    | some i => match nthB L i with
      | true => waitsOk L r
      | false => false

def after1 (i : Nat) : List Edge → Bool
  | [] => false
  | e :: r => match edgeOn e with
    | none => after1 i r
    | some k => match Nat.beq i k with
      | true => true
      | false => after1 i r

def readsT (d : Nat) : List Operand → Bool
  | [] => false
  | .tmp t :: r => match Nat.beq t d with
    | true => true
    | false => readsT d r
  | _ :: r => readsT d r

/-- The operation looks at slot d: an operand, or its guard. -/
def looks (all : List Oper) (d : Nat) (o : Oper) : Bool :=
  match readsT d o.op.operands.toList with
  | true => true
  | false => match o.guard with
    | none => false
    | some (j, _) => match ((all[j]?).bind (·.dst)) with
      | some t => Nat.beq t d
      | none => false

def dstIs (d : Nat) (o : Oper) : Bool := match o.dst with
  | some t => Nat.beq t d
  | none => false

/-- The i-th operation, which writes slot d: whoever looks at d waits for it; nobody else writes d; and it looks at nothing that one writes for whom it does not wait. -/
def freeFrom (all : List Oper) (i d : Nat) (oi : Oper) : List Oper → Nat → Bool
  | [], _ => true
  | o :: r, j => match Nat.beq i j with
    | true => match looks all d oi with
      | true => false
      | false => freeFrom all i d oi r (j + 1)
    | false => match looks all d o, after1 i o.after.toList with
      | true, false => false
      | _, _ => match dstIs d o with
        | true => false
        | false => match o.dst with
          | none => freeFrom all i d oi r (j + 1)
          | some t => match looks all t oi, after1 j oi.after.toList with
            | true, false => false
            | _, _ => freeFrom all i d oi r (j + 1)

/-- Edges point back. -/
def backOk : List Edge → Nat → Bool
  | [], _ => true
  | e :: r, i => match edgeOn e with
    | none => backOk r i
    | some k => match Nat.blt k i with
      | true => backOk r i
      | false => false

def allBack : List Oper → Nat → Bool
  | [], _ => true
  | o :: r, i => match backOk o.after.toList i with
    | true => allBack r (i + 1)
    | false => false

def noSel : List Oper → Bool
  | [] => true
  | o :: r => match o.op with
    | .select _ _ => false
    | _ => noSel r

/-- Some flag where the operation only reads; the flag: it reads memory. -/
def readOp (tab : Tab) (tm : List SV) : Op → Option Bool
  | .load _ _ => some true
  | .indexAddr _ _ _ => some true
  | .index _ _ _ => some true
  | .slice _ _ _ _ _ => some true
  | .convert s d _ => match scalarT tab s, scalarT tab d with
    | true, true => some false
    | _, _ => some true
  | .move _ | .assign _ | .fieldAddr _ _ _ | .field _ _ _ | .extract _ _ | .nilCheck _ | .makeFunc _ _ _ | .pick _ _ _ | .build _ _ => some false
  | .unOp _ t _ => match scalarT tab t with
    | true => some false
    | false => none
  | .binOp op t _ _ _ => match op with
    | .shl | .shr => some true
    | _ => match scalarT tab t with
      | true => some false
      | false => some true
  | .call ⟨.builtin .len, ⟨[_]⟩, ⟨[t]⟩⟩ => match lenT tab t with
    | true => some false
    | false => none
  | .call ⟨.builtin .min, _, _⟩ => some true
  | .call ⟨.builtin .max, _, _⟩ => some true
  | .call ⟨.builtin .cap, _, _⟩ => some true
  | _ => none

def findQ (tab : Tab) (all : List Oper) (tm : List SV) (L : List Bool) : List Oper → Nat → Option (Nat × Bool)
  | [], _ => none
  | o :: r, i => match nthB L i, waitsOk L o.after.toList, readOp tab tm o.op, o.dst with
    | false, true, some m, some d => match freeFrom all i d o all 0 with
      | true => some (i, m)
      | false => findQ tab all tm L r (i + 1)
    | _, _, _, _ => findQ tab all tm L r (i + 1)

def readyL (L : List Bool) : List Oper → Nat → List Nat
  | [], _ => []
  | o :: r, i => match nthB L i, waitsOk L o.after.toList with
    | false, true => i :: readyL L r (i + 1)
    | _, _ => readyL L r (i + 1)

def setB : List Bool → Nat → List Bool
  | [], _ => []
  | _ :: xs, 0 => true :: xs
  | x :: xs, n + 1 => x :: setB xs n

/-- What a value that was read early hangs on. -/
inductive Dep where
  | none
  | box (j : Nat)
  | all
  | base

def edgesOf : List Oper → Nat → List Edge
  | [], _ => []
  | o :: _, 0 => o.after.toList
  | _ :: r, n + 1 => edgesOf r n

/-- The edges of those that these edges' data come from. -/
def dataBack (all : List Oper) : List Edge → List Edge
  | [] => []
  | e :: r => match e.ground with
    | .data => match edgeOn e with
      | some k => edgesOf all k ++ dataBack all r
      | none => dataBack all r
    | _ => dataBack all r

/-- Operation i comes first, through up to n steps of data. -/
def afterT (all : List Oper) : Nat → Nat → List Edge → Bool
  | 0, i, es => after1 i es
  | n + 1, i, es => match after1 i es with
    | true => true
    | false => afterT all n i (dataBack all es)

/-- The early ones that are still to be held when an operation with these edges has run. -/
def dropE (all : List Oper) (es : List Edge) : List (Nat × Dep) → List (Nat × Dep)
  | [] => []
  | (i, m) :: r => match afterT all 3 i es with
    | true => dropE all es r
    | false => (i, m) :: dropE all es r

def anyAll : List (Nat × Dep) → Bool
  | [] => false
  | (_, .all) :: _ => true
  | (_, .none) :: r => anyAll r
  | (_, .base) :: r => anyAll r
  | (_, .box _) :: r => anyAll r

/-- A box that was read early is as it was. -/
structure XKeep (b b' : Nat × Nat) (c c' : List Value) (K : Prop) : Prop where
  b : b' = b
  c : c' = c
  rest : K

theorem XKeep.of {b : Nat × Nat} {c : List Value} {K : Prop} (h : K) : XKeep b b c c K := ⟨rfl, rfl, h⟩

def boxesK (bs : List (Nat × Nat)) (cs : List (List Value)) (bs' : List (Nat × Nat)) (cs' : List (List Value)) (K : Prop) : List (Nat × Dep) → Prop
  | [] => K
  | (_, .box j) :: r => nthK bs j fun b => nthK bs' j fun b' => nthK cs j fun c => nthK cs' j fun c' => XKeep b b' c c' (boxesK bs cs bs' cs' K r)
  | (_, .none) :: r => boxesK bs cs bs' cs' K r
  | (_, .base) :: r => boxesK bs cs bs' cs' K r
  | (_, .all) :: r => boxesK bs cs bs' cs' K r

/-- What was read early is still so. -/
structure XHeld (bs : List (Nat × Nat)) (cs : List (List Value)) (D : Fx) (bs' : List (Nat × Nat)) (cs' : List (List Value)) (D' : Fx) (K : Prop) : Prop where
  data : Ent D' D
  rest : K

def wantK (all : List Oper) (o : Oper) (tm : List SV) (Y N : Prop) : Prop := match o.guard with
  | none => Y
  | some (j, pol) => nthK all j fun oj => match oj.dst with
    | none => False
    | some t => nthK tm t fun s => match s with
      | .v (.bool true) => match pol with
        | true => Y
        | false => N
      | .v (.bool false) => match pol with
        | true => N
        | false => Y
      | .v (.tuple _) => N
      | _ => False

def isGuard (i : Nat) : List Oper → Bool
  | [] => false
  | o :: r => match o.guard with
    | some (j, _) => match Nat.beq i j with
      | true => true
      | false => isGuard i r
    | none => isGuard i r

/-- A guard's value is parted at once. -/
def guardSplit (all : List Oper) (i : Nat) (o : Oper) (tm : List SV) (K : List SV → Prop) : Prop := match isGuard i all, o.dst with
  | true, some d => nthK tm d fun s => match s with
    | .v (.bool c) => XIf c (setK tm d (.v (.bool true)) K) (setK tm d (.v (.bool false)) K)
    | _ => K tm
  | _, _ => K tm

section
variable (P : Program) (tab : Tab) (w0 : World) (R : Nat → Nat → Prop) (av : Nat → Prop)

def XRead (m : Sem Value) (bs : List (Nat × Nat)) (cs : List (List Value)) (D : Fx) (K : Value → Prop) : Prop :=
  ∃ v, (∀ w, St w0 R av w bs cs D → m.run P w = .ok v w) ∧ K v

theorem XRead_iff {m : Sem Value} {bs : List (Nat × Nat)} {cs : List (List Value)} {D : Fx} {K : Value → Prop} : XRead P w0 R av m bs cs D K ↔ ∃ v, (∀ w, St w0 R av w bs cs D → m.run P w = .ok v w) ∧ K v := Iff.rfl

def xread (o : Oper) (tm : List SV) (bs : List (Nat × Nat)) (cs : List (List Value)) (D : Fx) (K : SV → Dep → Prop) : Prop :=
  let KR : Value → Prop := fun v => K (.v v) .all
  let KB : Value → Prop := fun v => K (.v v) .base
  let F0 : Fx := ⟨fun _ => True, []⟩
  match o.op with
  | .load t x => evG tm [] x fun sx => match sx with
    | .p j s => match look tab t with
      | some ti => loadK ti cs j s fun sv => K sv (.box j)
      | none => False
    | .v v => XRead P w0 R av (Instr.loadAt t v) [] [] D KR
    | _ => False
  | op => xpure tab [] op tm bs cs (fun sv => K sv .none) (match op with
    | .indexAddr t x i => evV tm [] bs x fun v => evV tm [] bs i fun n => XRead P w0 R av (Instr.indexAt t v n) [] [] F0 KB
    | .index t x i => evV tm [] bs x fun v => evV tm [] bs i fun n => XRead P w0 R av (Instr.index t v n) [] [] F0 KB
    | .slice t x lo hi mx => evV tm [] bs x fun v => evO tm [] bs lo fun a => evO tm [] bs hi fun b => evO tm [] bs mx fun c => XRead P w0 R av (Instr.sliceAt t v a b c) [] [] F0 KB
    | .convert s d x => evV tm [] bs x fun v => XRead P w0 R av (convert s d v) [] [] D KR
    | .binOp op t x y _ => evV tm [] bs x fun v => evV tm [] bs y fun u => XRead P w0 R av (do eqGuard op t x y v u; binOp op t v u) [] [] F0 KB
    | .call ⟨.builtin b, ⟨xs⟩, ts⟩ => evVs tm [] bs xs fun vs => match semB b ts o.type ⟨vs⟩ with
      | some m => XRead P w0 R av m [] [] F0 KB
      | none => False
    | _ => False)

def heldK (E : List (Nat × Dep)) (bs : List (Nat × Nat)) (cs : List (List Value)) (D : Fx) (bs' : List (Nat × Nat)) (cs' : List (List Value)) (D' : Fx) (K : Prop) : Prop :=
  match anyAll E with
  | true => XHeld bs cs D bs' cs' D' (boxesK bs cs bs' cs' K E)
  | false => boxesK bs cs bs' cs' K E

def allK (S : Nat → Prop) : List Nat → Prop
  | [] => False
  | [j] => S j
  | j :: r => S j ∧ allK S r

def xany (all : List Oper) : Nat → List Bool → List (Nat × Dep) → List SV → List (Nat × Nat) → List (List Value) → Fx → KT → Prop
  | 0, _, _, _, _, _, _, _ => False
  | n + 1, L, E, tm, bs, cs, D, K => match findQ tab all tm L all 0 with
    | some (i, m) => nthK all i fun o => wantK all o tm
        (xread P tab w0 R av o tm bs cs D fun sv dep => fin o.dst tm sv fun tm => guardSplit all i o tm fun tm => xany all n (setB L i) ((i, dep) :: E) tm bs cs D K)
        (fin o.dst tm (.v undef) fun tm => xany all n (setB L i) ((i, .none) :: E) tm bs cs D K)
    | none => match readyL L all 0 with
      | [] => K tm bs cs D
      | j :: r => allK (fun j => nthK all j fun o => wantK all o tm
          (xop P tab w0 R av o tm bs cs D fun tm' bs' cs' D' => heldK (dropE all o.after.toList E) bs cs D bs' cs' D'
            (guardSplit all j o tm' fun tm' => xany all n (setB L j) (dropE all o.after.toList E) tm' bs' cs' D' K))
          (fin o.dst tm (.v undef) fun tm' => xany all n (setB L j) (dropE all o.after.toList E) tm' bs cs D K)) (j :: r)

end
attribute [irreducible] XRead
end Go.Sx
namespace Go.Sx
set_option linter.unusedVariables false

/-! ### what the definitions say -/

theorem edgeOn_iff {e : Edge} {i : Nat} : edgeOn e = some i ↔ Region.binds .any e = true ∧ e.on = i := by
  unfold edgeOn Region.binds
  cases e.ground <;> simp

theorem edgeOn_none {e : Edge} (h : edgeOn e = none) : Region.binds .any e = false := by
  unfold edgeOn at h
  unfold Region.binds
  cases hg : e.ground <;> rw [hg] at h <;> first | rfl | (cases h)

theorem waitsOk_iff {L : List Bool} : ∀ {es : List Edge}, waitsOk L es = true ↔ ∀ e ∈ es, Region.binds .any e = true → nthB L e.on = true
  | [] => by simp [waitsOk]
  | e :: r => by
    simp only [waitsOk, List.mem_cons, forall_eq_or_imp]
    cases he : edgeOn e with
    | none =>
      simp only
      rw [waitsOk_iff]
      have := edgeOn_none he
      simp [this]
    | some i =>
      obtain ⟨h1, rfl⟩ := edgeOn_iff.1 he
      simp only
      cases hn : nthB L e.on with
      | true => simp only; rw [waitsOk_iff]; simp
      | false => simp [h1]

theorem after1_iff {i : Nat} : ∀ {es : List Edge}, after1 i es = true ↔ ∃ e ∈ es, Region.binds .any e = true ∧ e.on = i
  | [] => by simp [after1]
  | e :: r => by
    simp only [after1, List.mem_cons, exists_eq_or_imp]
    cases he : edgeOn e with
    | none =>
      simp only
      rw [after1_iff]
      have := edgeOn_none he
      simp [this]
    | some k =>
      obtain ⟨h1, rfl⟩ := edgeOn_iff.1 he
      simp only
      cases hb : Nat.beq i e.on with
      | true =>
        have := Nat.eq_of_beq_eq_true hb
        simp [h1, this]
      | false =>
        simp only
        rw [after1_iff]
        have : e.on ≠ i := fun h => by subst h; rw [Nat.beq_refl] at hb; cases hb
        simp [this]

theorem nthB_eq : ∀ (L : List Bool) (i : Nat), nthB L i = (L[i]?).getD false
  | [], _ => by simp [nthB]
  | _ :: _, 0 => by simp [nthB]
  | _ :: xs, n + 1 => by simp [nthB, nthB_eq xs n]

theorem setB_eq : ∀ (L : List Bool) (i : Nat), setB L i = L.set i true
  | [], _ => by simp [setB]
  | _ :: _, 0 => by simp [setB]
  | _ :: xs, n + 1 => by simp [setB, setB_eq xs n]

theorem nthB_setB {L : List Bool} {i j : Nat} (hi : i < L.length) : nthB (setB L i) j = true ↔ j = i ∨ nthB L j = true := by
  rw [nthB_eq, nthB_eq, setB_eq]
  by_cases h : i = j
  · subst h; rw [List.getElem?_set_self hi]; simp
  · rw [List.getElem?_set_ne h]
    constructor
    · exact .inr
    · rintro (rfl | h')
      · exact absurd rfl h
      · exact h'

theorem readsT_iff {d : Nat} : ∀ {xs : List Operand}, readsT d xs = true ↔ Operand.tmp d ∈ xs
  | [] => by simp [readsT]
  | x :: r => by
    cases x with
    | tmp t =>
      simp only [readsT, List.mem_cons, Operand.tmp.injEq]
      cases hb : Nat.beq t d with
      | true => simp [Nat.eq_of_beq_eq_true hb]
      | false =>
        simp only
        rw [readsT_iff]
        have : d ≠ t := fun h => by subst h; rw [Nat.beq_refl] at hb; cases hb
        simp [this]
    | _ =>
      simp only [readsT, List.mem_cons]
      rw [readsT_iff]
      simp

theorem looks_false {all : List Oper} {d : Nat} {o : Oper} (h : looks all d o = false) : Operand.tmp d ∉ o.op.operands.toList ∧ ∀ j pol, o.guard = some (j, pol) → (all[j]?).bind (·.dst) ≠ some d := by
  unfold looks at h
  split at h
  · cases h
  · rename_i hr
    refine ⟨fun hm => ?_, fun j pol hg he => ?_⟩
    · rw [readsT_iff.2 hm] at hr; cases hr
    · rw [hg] at h
      simp only [he] at h
      rw [Nat.beq_refl] at h
      cases h

theorem dstIs_false {d : Nat} {o : Oper} (h : dstIs d o = false) : o.dst ≠ some d := by
  intro he
  unfold dstIs at h
  rw [he] at h
  simp only [Nat.beq_refl] at h
  cases h

structure Free (all : List Oper) (i d : Nat) (oi : Oper) : Prop where
  own : looks all d oi = false
  looked : ∀ j oj, all[j]? = some oj → j ≠ i → looks all d oj = true → after1 i oj.after.toList = true
  alone : ∀ j oj, all[j]? = some oj → j ≠ i → oj.dst ≠ some d
  looking : ∀ j oj t, all[j]? = some oj → j ≠ i → oj.dst = some t → looks all t oi = true → after1 j oi.after.toList = true

theorem freeFrom_parts {all : List Oper} {i d : Nat} {oi : Oper} : ∀ {r : List Oper} {k : Nat}, freeFrom all i d oi r k = true →
    (∀ n oj, r[n]? = some oj → k + n ≠ i → (looks all d oj = true → after1 i oj.after.toList = true) ∧ oj.dst ≠ some d ∧ ∀ t, oj.dst = some t → looks all t oi = true → after1 (k + n) oi.after.toList = true) ∧
    ((∃ n, n < r.length ∧ k + n = i) → looks all d oi = false)
  | [], k, _ => ⟨fun n oj h => by simp at h, fun ⟨n, h, _⟩ => by simp at h⟩
  | o :: r, k, h => by
    simp only [freeFrom] at h
    cases hb : Nat.beq i k with
    | true =>
      have hik := Nat.eq_of_beq_eq_true hb
      rw [hb] at h
      simp only at h
      cases hl : looks all d oi with
      | true => rw [hl] at h; cases h
      | false =>
        rw [hl] at h
        simp only at h
        obtain ⟨h1, h2⟩ := freeFrom_parts h
        refine ⟨fun n oj hn hne => ?_, fun _ => rfl⟩
        cases n with
        | zero => omega
        | succ n =>
          have := h1 n oj (by simpa using hn) (by omega)
          rwa [show k + 1 + n = k + (n + 1) from by omega] at this
    | false =>
      have hik : i ≠ k := fun e => by subst e; rw [Nat.beq_refl] at hb; cases hb
      rw [hb] at h
      simp only at h
      have key : ∀ (hrec : freeFrom all i d oi r (k + 1) = true), (looks all d o = true → after1 i o.after.toList = true) → o.dst ≠ some d →
          (∀ t, o.dst = some t → looks all t oi = true → after1 k oi.after.toList = true) →
          (∀ n oj, (o :: r)[n]? = some oj → k + n ≠ i → (looks all d oj = true → after1 i oj.after.toList = true) ∧ oj.dst ≠ some d ∧ ∀ t, oj.dst = some t → looks all t oi = true → after1 (k + n) oi.after.toList = true) ∧
            ((∃ n, n < (o :: r).length ∧ k + n = i) → looks all d oi = false) := by
        intro hrec p1 p2 p3
        obtain ⟨h1, h2⟩ := freeFrom_parts hrec
        refine ⟨fun n oj hn hne => ?_, fun ⟨n, hn, he⟩ => ?_⟩
        · cases n with
          | zero => simp at hn; subst hn; exact ⟨p1, p2, fun t ht hlk => by simpa using p3 t ht hlk⟩
          | succ n =>
            have := h1 n oj (by simpa using hn) (by omega)
            rwa [show k + 1 + n = k + (n + 1) from by omega] at this
        · cases n with
          | zero => omega
          | succ n => exact h2 ⟨n, by simpa using hn, by omega⟩
      split at h
      · cases h
      · rename_i hnot
        have p1 : looks all d o = true → after1 i o.after.toList = true := fun hl => by
          cases ha : after1 i o.after.toList with
          | true => rfl
          | false => exact absurd ha (hnot hl)
        split at h
        · cases h
        · rename_i hdst
          split at h
          · rename_i hnone
            exact key h p1 (dstIs_false hdst) (fun t ht => by rw [hnone] at ht; cases ht)
          · rename_i t ht
            split at h
            · cases h
            · rename_i hnot2
              refine key h p1 (dstIs_false hdst) (fun t' ht' hl => ?_)
              rw [ht] at ht'
              cases ht'
              cases ha : after1 k oi.after.toList with
              | true => rfl
              | false => exact absurd ha (hnot2 hl)

theorem free_of {all : List Oper} {i d : Nat} {oi : Oper} (hi : i < all.length) (h : freeFrom all i d oi all 0 = true) : Free all i d oi := by
  obtain ⟨h1, h2⟩ := freeFrom_parts h
  refine ⟨h2 ⟨i, hi, by omega⟩, fun j oj hj hne => (h1 j oj hj (by omega)).1, fun j oj hj hne => (h1 j oj hj (by omega)).2.1, fun j oj t hj hne ht hl => ?_⟩
  have := (h1 j oj hj (by omega)).2.2 t ht hl
  rwa [Nat.zero_add] at this

theorem findQ_parts {tab : Tab} {all : List Oper} {tm : List SV} {L : List Bool} : ∀ {r : List Oper} {k : Nat} {i : Nat} {m : Bool}, findQ tab all tm L r k = some (i, m) →
    ∃ n o d, r[n]? = some o ∧ i = k + n ∧ nthB L i = false ∧ waitsOk L o.after.toList = true ∧ readOp tab tm o.op = some m ∧ o.dst = some d ∧ freeFrom all i d o all 0 = true
  | [], _, _, _, h => by simp [findQ] at h
  | o :: r, k, i, m, h => by
    simp only [findQ] at h
    have hrec : findQ tab all tm L r (k + 1) = some (i, m) → ∃ n o' d, (o :: r)[n]? = some o' ∧ i = k + n ∧ nthB L i = false ∧ waitsOk L o'.after.toList = true ∧ readOp tab tm o'.op = some m ∧ o'.dst = some d ∧ freeFrom all i d o' all 0 = true := by
      intro h
      obtain ⟨n, o', d, h1, h2, h3⟩ := findQ_parts h
      exact ⟨n + 1, o', d, by simpa using h1, by omega, h3⟩
    split at h
    · rename_i m' d hL hw hr hd
      split at h
      · rename_i hf
        cases h
        exact ⟨0, o, d, by simp, by omega, hL, hw, hr, hd, hf⟩
      · exact hrec h
    · exact hrec h

theorem readyL_mem {L : List Bool} : ∀ {r : List Oper} {k j : Nat}, j ∈ readyL L r k ↔ ∃ n o, r[n]? = some o ∧ j = k + n ∧ nthB L j = false ∧ waitsOk L o.after.toList = true
  | [], k, j => by simp [readyL]
  | o :: r, k, j => by
    simp only [readyL]
    have hrec := readyL_mem (L := L) (r := r) (k := k + 1) (j := j)
    have hsplit : (∃ n o', (o :: r)[n]? = some o' ∧ j = k + n ∧ nthB L j = false ∧ waitsOk L o'.after.toList = true) ↔
        (j = k ∧ nthB L k = false ∧ waitsOk L o.after.toList = true) ∨ j ∈ readyL L r (k + 1) := by
      rw [hrec]
      constructor
      · rintro ⟨n, o', h1, h2, h3, h4⟩
        cases n with
        | zero => simp at h1; subst h1; left; have : j = k := by omega
                  subst this; exact ⟨rfl, h3, h4⟩
        | succ n => right; exact ⟨n, o', by simpa using h1, by omega, h3, h4⟩
      · rintro (⟨rfl, h2, h3⟩ | ⟨n, o', h1, h2, h3⟩)
        · exact ⟨0, o, by simp, by omega, h2, h3⟩
        · exact ⟨n + 1, o', by simpa using h1, by omega, h3⟩
    rw [hsplit]
    cases h1 : nthB L k <;> cases h2 : waitsOk L o.after.toList <;> simp

theorem allK_mem {S : Nat → Prop} : ∀ {l : List Nat}, allK S l → ∀ j ∈ l, S j
  | [], h, _, _ => h.elim
  | [j], h, k, hk => by simp at hk; subst hk; exact h
  | j :: i :: r, h, k, hk => by
    rcases List.mem_cons.1 hk with rfl | hk
    · exact h.1
    · exact allK_mem h.2 k hk

theorem edgesOf_eq : ∀ {all : List Oper} {k : Nat} {e : Edge}, e ∈ edgesOf all k → ∃ o, all[k]? = some o ∧ e ∈ o.after.toList
  | [], _, _, h => by simp [edgesOf] at h
  | o :: _, 0, _, h => ⟨o, rfl, h⟩
  | _ :: r, n + 1, _, h => by
    obtain ⟨o, h1, h2⟩ := edgesOf_eq (all := r) (k := n) h
    exact ⟨o, by simpa using h1, h2⟩

theorem dataBack_done {ops : Array Oper} {L' : Array Bool} (hc : ∀ k ok, ops[k]? = some ok → L'.getD k false = true → ∀ e ∈ ok.after, Region.binds .any e = true → L'.getD e.on false = true) :
    ∀ {es : List Edge}, (∀ e ∈ es, Region.binds .any e = true → L'.getD e.on false = true) → ∀ e ∈ dataBack ops.toList es, Region.binds .any e = true → L'.getD e.on false = true
  | [], _, e, he => by simp [dataBack] at he
  | x :: r, h, e, he => by
    have ih := dataBack_done hc (es := r) fun e he => h e (List.mem_cons_of_mem _ he)
    simp only [dataBack] at he
    split at he
    · split at he
      · rename_i k hk
        rcases List.mem_append.1 he with he | he
        · obtain ⟨o, h1, h2⟩ := edgesOf_eq he
          have hx : Region.binds .any x = true ∧ x.on = k := edgeOn_iff.1 hk
          have hd := h x (List.mem_cons_self ..) hx.1
          rw [hx.2] at hd
          exact hc k o (by rw [← Array.getElem?_toList]; exact h1) hd e (Array.mem_toList_iff.1 h2)
        · exact ih e he
      · exact ih e he
    · exact ih e he

theorem afterT_done {ops : Array Oper} {L' : Array Bool} (hc : ∀ k ok, ops[k]? = some ok → L'.getD k false = true → ∀ e ∈ ok.after, Region.binds .any e = true → L'.getD e.on false = true) {i : Nat} :
    ∀ (n : Nat) {es : List Edge}, (∀ e ∈ es, Region.binds .any e = true → L'.getD e.on false = true) → afterT ops.toList n i es = true → L'.getD i false = true
  | 0, es, h, ha => by
    obtain ⟨e, he, hb, rfl⟩ := after1_iff.1 ha
    exact h e he hb
  | n + 1, es, h, ha => by
    simp only [afterT] at ha
    split at ha
    · rename_i h1
      obtain ⟨e, he, hb, rfl⟩ := after1_iff.1 h1
      exact h e he hb
    · exact afterT_done hc n (dataBack_done hc h) ha

theorem dropE_mem {all : List Oper} {es : List Edge} {i : Nat} {m : Dep} : ∀ {E : List (Nat × Dep)}, (i, m) ∈ E → afterT all 3 i es = false → (i, m) ∈ dropE all es E
  | [], h, _ => by simp at h
  | (k, b) :: r, h, ha => by
    simp only [dropE]
    rcases List.mem_cons.1 h with h | h
    · cases h
      rw [ha]
      exact List.mem_cons_self ..
    · have := dropE_mem h ha
      split
      · exact this
      · exact List.mem_cons_of_mem _ this

theorem anyAll_mem {i : Nat} : ∀ {E : List (Nat × Dep)}, (i, Dep.all) ∈ E → anyAll E = true
  | [], h => by simp at h
  | (k, .all) :: r, _ => rfl
  | (k, .none) :: r, h => by
    rcases List.mem_cons.1 h with h | h
    · cases h
    · show anyAll r = true
      exact anyAll_mem h
  | (k, .base) :: r, h => by
    rcases List.mem_cons.1 h with h | h
    · cases h
    · show anyAll r = true
      exact anyAll_mem h
  | (k, .box _) :: r, h => by
    rcases List.mem_cons.1 h with h | h
    · cases h
    · show anyAll r = true
      exact anyAll_mem h

theorem boxesK_iff {bs : List (Nat × Nat)} {cs : List (List Value)} {bs' : List (Nat × Nat)} {cs' : List (List Value)} {K : Prop} : ∀ {E : List (Nat × Dep)}, boxesK bs cs bs' cs' K E →
    K ∧ ∀ i j, (i, Dep.box j) ∈ E → nth (0, 0) bs' j = nth (0, 0) bs j ∧ nth [] cs' j = nth [] cs j ∧ j < cs'.length
  | [], h => ⟨h, fun i j hi => by simp at hi⟩
  | (k, .none) :: r, h => by
    obtain ⟨h1, h2⟩ := boxesK_iff (E := r) h
    refine ⟨h1, fun i j hi => ?_⟩
    rcases List.mem_cons.1 hi with hi | hi
    · cases hi
    · exact h2 i j hi
  | (k, .base) :: r, h => by
    obtain ⟨h1, h2⟩ := boxesK_iff (E := r) h
    refine ⟨h1, fun i j hi => ?_⟩
    rcases List.mem_cons.1 hi with hi | hi
    · cases hi
    · exact h2 i j hi
  | (k, .all) :: r, h => by
    obtain ⟨h1, h2⟩ := boxesK_iff (E := r) h
    refine ⟨h1, fun i j hi => ?_⟩
    rcases List.mem_cons.1 hi with hi | hi
    · cases hi
    · exact h2 i j hi
  | (k, .box j') :: r, h => by
    obtain ⟨_, h⟩ := nthK_iff (0, 0) h
    obtain ⟨_, h⟩ := nthK_iff (0, 0) h
    obtain ⟨_, h⟩ := nthK_iff [] h
    obtain ⟨hl, h⟩ := nthK_iff [] h
    obtain ⟨e1, e2, h⟩ := h
    obtain ⟨h1, h2⟩ := boxesK_iff (E := r) h
    refine ⟨h1, fun i j hi => ?_⟩
    rcases List.mem_cons.1 hi with hi | hi
    · cases hi
      exact ⟨e1, e2, hl⟩
    · exact h2 i j hi

theorem noSel_at : ∀ {l : List Oper}, noSel l = true → ∀ (j : Nat) (o : Oper), l[j]? = some o → ∀ cs b, o.op ≠ .select cs b
  | [], _, j, o, h => by simp at h
  | x :: r, h, j, o, hj => by
    simp only [noSel] at h
    cases j with
    | zero =>
      simp at hj
      subst hj
      intro cs b he
      rw [he] at h
      cases h
    | succ j =>
      refine noSel_at (l := r) ?_ j o (by simpa using hj)
      split at h
      · cases h
      · exact h

theorem backOk_iff : ∀ {es : List Edge} {i : Nat}, backOk es i = true → ∀ e ∈ es, Region.binds .any e = true → e.on < i
  | [], _, _, _, h, _ => by simp at h
  | x :: r, i, h, e, he, hb => by
    simp only [backOk] at h
    cases hx : edgeOn x with
    | none =>
      rw [hx] at h
      rcases List.mem_cons.1 he with rfl | he
      · rw [edgeOn_none hx] at hb; cases hb
      · exact backOk_iff h e he hb
    | some k =>
      rw [hx] at h
      simp only at h
      split at h
      · rename_i hk
        rcases List.mem_cons.1 he with rfl | he
        · obtain ⟨_, rfl⟩ := edgeOn_iff.1 hx
          simpa [Nat.blt_eq] using hk
        · exact backOk_iff h e he hb
      · cases h

theorem allBack_at : ∀ {l : List Oper} {k : Nat}, allBack l k = true → ∀ (j : Nat) (o : Oper), l[j]? = some o → ∀ e ∈ o.after.toList, Region.binds .any e = true → e.on < k + j
  | [], _, _, j, o, h => by simp at h
  | x :: r, k, h, j, o, hj => by
    simp only [allBack] at h
    split at h
    · rename_i hx
      cases j with
      | zero => simp at hj; subst hj; exact fun e he hb => by simpa using backOk_iff hx e he hb
      | succ j =>
        intro e he hb
        have := allBack_at h j o (by simpa using hj) e he hb
        omega
    · cases h

/-- Where nothing is ready, all is listed. -/
theorem all_listed {l : List Oper} (hb : allBack l 0 = true) {p : Nat → Bool} (h : ∀ j o, l[j]? = some o → p j = false → ¬ ∀ e ∈ o.after.toList, Region.binds .any e = true → p e.on = true) :
    ∀ j, j < l.length → p j = true := by
  intro j
  induction j using Nat.strongRecOn with
  | _ j ih =>
    intro hj
    cases hp : p j with
    | true => rfl
    | false =>
      exact absurd (fun e he hbd => by
        have := allBack_at hb j l[j] (List.getElem?_eq_getElem hj) e he hbd
        exact ih e.on (by omega) (by omega)) (h j l[j] (List.getElem?_eq_getElem hj) hp)

end Go.Sx
namespace Go.Sx
set_option linter.unusedVariables false

section
variable {P : Program} {tab : Tab} {w0 : World} {R : Nat → Nat → Prop} {av : Nat → Prop}

theorem getD_false {L : Array Bool} {i : Nat} (hi : i < L.size) : L.getD i true = L.getD i false := by
  simp [Array.getD, hi]

/-- The same at two frames that agree at what the operation looks at. -/
theorem same_of_agree {ops : Array Oper} {o : Oper} (hs : ∀ cs b, o.op ≠ .select cs b) {a a' : Array Value} (h : ∀ t, looks ops.toList t o = true → a'[t]? = a[t]?) :
    execOp (Act.eval ⟨a', []⟩) o = execOp (Act.eval ⟨a, []⟩) o ∧ Region.wanted o (yielded ops a') = Region.wanted o (yielded ops a) := by
  constructor
  · refine execOp_congr o hs fun x hx => ?_
    cases x with
    | tmp t =>
      have : looks ops.toList t o = true := by
        cases hl : looks ops.toList t o with
        | true => rfl
        | false => exact absurd (by simpa using hx) (looks_false hl).1
      simp only [Act.eval, Array.getD_eq_getD_getElem?, h t this]
    | _ => rfl
  · unfold Region.wanted
    cases hg : o.guard with
    | none => rfl
    | some jp =>
      obtain ⟨j, pol⟩ := jp
      simp only
      have : yielded ops a' j = yielded ops a j := by
        unfold yielded
        cases hd : (ops[j]?).bind (·.dst) with
        | none => rfl
        | some t =>
          have : looks ops.toList t o = true := by
            cases hl : looks ops.toList t o with
            | true => rfl
            | false => exact absurd (by rw [Array.getElem?_toList]; exact hd) ((looks_false hl).2 j pol hg)
          simp only [Option.bind_some, h t this]
      rw [this]

/-- What a value that was read early asks of a world. -/
def DepOk (w0 : World) (R : Nat → Nat → Prop) (av : Nat → Prop) (bs : List (Nat × Nat)) (cs : List (List Value)) (D : Fx) : Dep → World → Prop
  | .none, _ => True
  | .box j, w => Range w (nth (0, 0) bs j).1 (nth (0, 0) bs j).2 (nth [] cs j)
  | .all, w => St w0 R av w [] [] D
  | .base, w => St w0 R av w [] [] ⟨fun _ => True, []⟩

theorem St.base {w0 : World} {R : Nat → Nat → Prop} {av : Nat → Prop} {w : World} {bs : List (Nat × Nat)} {cs : List (List Value)} {D : Fx} (h : St w0 R av w bs cs D) : St w0 R av w [] [] ⟨fun _ => True, []⟩ :=
  (St.left (bs := []) (cs := []) (e := bs) (f := cs) (by simpa using h) rfl).imp ⟨List.nil_sublist _, fun _ _ => trivial⟩

theorem St.bare {w0 : World} {R : Nat → Nat → Prop} {av : Nat → Prop} {w : World} {bs : List (Nat × Nat)} {cs : List (List Value)} {D : Fx} (h : St w0 R av w bs cs D) : St w0 R av w [] [] D :=
  St.left (bs := []) (cs := []) (e := bs) (f := cs) (by simpa using h) rfl

def DepIn (cs : List (List Value)) : Dep → Prop
  | .box j => j < cs.length
  | _ => True

theorem St.dep {w : World} {bs : List (Nat × Nat)} {cs : List (List Value)} {D : Fx} (h : St w0 R av w bs cs D) {dep : Dep} (hd : DepIn cs dep) : DepOk w0 R av bs cs D dep w := by
  cases dep with
  | none => trivial
  | box j => exact (h.box.get j hd).1
  | all => exact h.bare
  | base => exact h.base

structure Sim (P : Program) (w0 : World) (R : Nat → Nat → Prop) (av : Nat → Prop) (ops : Array Oper) (L : List Bool) (L' : Array Bool) (E : List (Nat × Dep)) (bs : List (Nat × Nat)) (cs : List (List Value))
    (D : Fx) (a a' : Array Value) : Prop where
  len : L.length = ops.size
  len' : L'.size = ops.size
  sub : ∀ i, L'.getD i false = true → nthB L i = true
  closed : ∀ i o, ops[i]? = some o → nthB L i = true → waitsOk L o.after.toList = true
  closed' : ∀ k ok, ops[k]? = some ok → L'.getD k false = true → ∀ e ∈ ok.after, Region.binds .any e = true → L'.getD e.on false = true
  size : a'.size = a.size
  agree : ∀ t, (∀ i o, ops[i]? = some o → nthB L i = true → L'.getD i false = false → o.dst ≠ some t) → a'[t]? = a[t]?
  early : ∀ i, nthB L i = true → L'.getD i false = false → ∃ o d m v, ops[i]? = some o ∧ o.dst = some d ∧ (i, m) ∈ E ∧ Free ops.toList i d o ∧ a[d]? = some v ∧ DepIn cs m ∧
    ((Region.wanted o (yielded ops a) = true ∧ ∀ w, DepOk w0 R av bs cs D m w → (execOp (Act.eval ⟨a, []⟩) o).run P w = .ok (.value v) w) ∨ (Region.wanted o (yielded ops a) = false ∧ v = undef))

theorem closed_set {ops : Array Oper} {L' L2 : Array Bool} (hc : ∀ k ok, ops[k]? = some ok → L'.getD k false = true → ∀ e ∈ ok.after, Region.binds .any e = true → L'.getD e.on false = true) {j : Nat} {o : Oper} (hoj : ops[j]? = some o)
    (hset : ∀ k, L2.getD k false = true ↔ k = j ∨ L'.getD k false = true) (hall : ∀ e ∈ o.after, Region.binds .any e = true → L'.getD e.on false = true) :
    ∀ k ok, ops[k]? = some ok → L2.getD k false = true → ∀ e ∈ ok.after, Region.binds .any e = true → L2.getD e.on false = true := by
  intro k ok hk hL e he hb
  refine (hset _).2 (.inr ?_)
  rcases (hset k).1 hL with rfl | hL
  · rw [hoj] at hk
    cases hk
    exact hall e he hb
  · exact hc k ok hk hL e he hb

/-- Whoever is ready agrees at what it looks at. -/
theorem Sim.looked {ops : Array Oper} {L : List Bool} {L' : Array Bool} {E : List (Nat × Dep)} {bs : List (Nat × Nat)} {cs : List (List Value)} {D : Fx} {a a' : Array Value}
    (h : Sim P w0 R av ops L L' E bs cs D a a') {j : Nat} {o : Oper} (hj : ops[j]? = some o) (hw : ∀ e ∈ o.after, Region.binds .any e = true → L'.getD e.on false = true) (hun : L'.getD j false = false)
    (t : Nat) (ht : looks ops.toList t o = true) : a'[t]? = a[t]? := by
  refine h.agree t fun i oi hi hL hL' hd => ?_
  obtain ⟨o1, d, m, v, g1, g2, g3, g4, g5⟩ := h.early i hL hL'
  rw [hi] at g1
  cases g1
  rw [hd] at g2
  cases g2
  by_cases hij : j = i
  · subst hij
    rw [hj] at hi
    cases hi
    rw [g4.own] at ht
    cases ht
  · have := g4.looked j o (by rw [Array.getElem?_toList]; exact hj) hij ht
    obtain ⟨e, he, hb, rfl⟩ := after1_iff.1 this
    have := hw e (Array.mem_toList_iff.1 he) hb
    rw [hL'] at this
    cases this

theorem getD_setB {L' : Array Bool} {i j : Nat} (hi : i < L'.size) : (L'.setIfInBounds i true).getD j false = true ↔ j = i ∨ L'.getD j false = true := by
  by_cases h : i = j
  · subst h; simp [Array.getD, hi]
  · rw [getD_set_ne false h]
    constructor
    · exact .inr
    · rintro (rfl | h')
      · exact absurd rfl h
      · exact h'

theorem put_self {a : Array Value} {d : Nat} {v : Value} (h : d < a.size) : (a.setIfInBounds d v)[d]? = some v := by
  rw [Array.getElem?_setIfInBounds_self_of_lt h]

theorem put_ne {a : Array Value} {d t : Nat} {v : Value} (h : d ≠ t) : (a.setIfInBounds d v)[t]? = a[t]? := Array.getElem?_setIfInBounds_ne h

/-- Carry an operation over to the frame of the real run. -/
theorem wp_carry {o : Oper} {a a' : Array Value} {w : World} {next next' : Act → World → Prop} {Q : Exit → Act → World → Prop} (he : execOp (Act.eval ⟨a', []⟩) o = execOp (Act.eval ⟨a, []⟩) o)
    (hd : ∀ act w, next act w → act.defers = []) (hn : ∀ v w', next (Act.put ⟨a, []⟩ o.dst v) w' → next' (Act.put ⟨a', []⟩ o.dst v) w')
    (h : o.wp P ⟨a, []⟩ w next (fun _ _ _ => False)) : o.wp P ⟨a', []⟩ w next' Q := by
  unfold Oper.wp at h ⊢
  rw [he]
  generalize (execOp (Act.eval ⟨a, []⟩) o).run P w = r at h ⊢
  cases r with
  | ok n w' =>
    cases n <;> simp only [Oper.upon] at h ⊢
    case value v => exact hn _ _ h
    case skip => exact hn _ _ h
    case defer d =>
      have := hd _ _ h
      rw [put_defers] at this
      cases this
    case enter f args =>
      refine Calls.mono h fun e w'' he => ?_
      cases e with
      | returned v => exact hn _ _ he
      | panicked c => exact he.elim
      | outgrown => obtain ⟨_, _, hf⟩ := he; exact hf.elim
    case row row args => exact Rows.mono h fun v w'' he => hn _ _ he
  | halt x w' => cases x <;> simp only [Oper.upon] at h

theorem wantK_sound {ops : Array Oper} {o : Oper} {tm : List SV} {bs : List (Nat × Nat)} {a : Array Value} (hf : FrameOk bs tm a) {Y N : Prop} (h : wantK ops.toList o tm Y N) :
    (Region.wanted o (yielded ops a) = true ∧ Y) ∨ (Region.wanted o (yielded ops a) = false ∧ N) := by
  unfold wantK at h
  split at h
  · rename_i hg
    exact .inl ⟨by unfold Region.wanted; rw [hg], h⟩
  · rename_i j pol hg
    obtain ⟨hjl, h⟩ := nthK_iff o h
    have hj : ops.toList[j]? = some (nth o ops.toList j) := by rw [nth_eq, List.getElem?_eq_getElem hjl]; rfl
    generalize nth o ops.toList j = oj at h hj
    split at h
    · exact h.elim
    · rename_i t ht
      obtain ⟨htl, h⟩ := nthK_iff SV.any h
      have hok := hf.ok t
      have hta : t < a.size := by rw [← hf.len]; exact htl
      split at h
      · rename_i hs
        rw [hs] at hok
        have hw : Region.wanted o (yielded ops a) = (some true == some pol) := by rw [wanted_of hg, yield_at hj ht (getD_of hta hok)]
        split at h
        · exact .inl ⟨by rw [hw]; rfl, h⟩
        · exact .inr ⟨by rw [hw]; rfl, h⟩
      · rename_i hs
        rw [hs] at hok
        have hw : Region.wanted o (yielded ops a) = (some false == some pol) := by rw [wanted_of hg, yield_at hj ht (getD_of hta hok)]
        split at h
        · exact .inr ⟨by rw [hw]; rfl, h⟩
        · exact .inl ⟨by rw [hw]; rfl, h⟩
      · rename_i x hs
        rw [hs] at hok
        exact .inr ⟨by rw [wanted_of hg, yield_not hj ht (getD_of hta hok)]; rfl, h⟩
      · exact h.elim

theorem guardSplit_sound {ops : List Oper} {i : Nat} {o : Oper} {tm : List SV} {bs : List (Nat × Nat)} {a : Array Value} (hf : FrameOk bs tm a) {K : List SV → Prop} (h : guardSplit ops i o tm K) :
    ∃ tm', FrameOk bs tm' a ∧ K tm' := by
  unfold guardSplit at h
  split at h
  · rename_i d _ _
    obtain ⟨_, h⟩ := nthK_iff SV.any h
    have hok := hf.ok d
    split at h
    · rename_i c hs
      rw [hs] at hok
      cases c
      · obtain ⟨_, h⟩ := setK_iff h
        exact ⟨_, hf.same hok, h⟩
      · obtain ⟨_, h⟩ := setK_iff h
        exact ⟨_, hf.same hok, h⟩
    · exact ⟨tm, hf, h⟩
  · exact ⟨tm, hf, h⟩

theorem loadK_box {bs : List (Nat × Nat)} {cs : List (List Value)} {t : TypeId} {x : TI} (hx : mkTI P t = some x) {i o : Nat} {K : SV → Prop}
    (h : loadK x cs i o K) : i < cs.length ∧ ∃ v, (∀ w, Range w (nth (0, 0) bs i).1 (nth (0, 0) bs i).2 (nth [] cs i) → (Instr.loadAt t (ptr bs i o)).run P w = .ok v w) ∧ K (.v v) := by
  obtain ⟨hi, h⟩ := nthK_iff [] h
  have hat : Instr.loadAt t (ptr bs i o) = loadVar t ⟨(nth (0, 0) bs i).1, (nth (0, 0) bs i).2 + o, none⟩ := rfl
  refine ⟨hi, ?_⟩
  split at h
  · rename_i ha
    obtain ⟨h1, h2⟩ := subK_iff h
    refine ⟨_, fun w hr => ?_, h2⟩
    rw [hat]
    refine run_loadVar_agg hx ha _ (by simp; omega) (fun j hj => ?_)
    simp at hj
    rw [Nat.add_assoc, hr.cell (by omega), List.getElem?_take, if_pos (by omega), List.getElem?_drop]
  · rename_i ha
    obtain ⟨h1, h2⟩ := nthK_iff (.tuple #[]) h
    refine ⟨_, fun w hr => ?_, h2⟩
    rw [hat]
    refine run_loadVar_one hx ha ?_
    rw [hr.cell h1, nth_eq (.tuple #[]) (nth [] cs i) o, List.getElem?_eq_getElem h1]
    rfl

theorem xread_sound (hT : TabOk P tab) {tm : List SV} {bs : List (Nat × Nat)} {cs : List (List Value)} {D : Fx} {a : Array Value} (hf : FrameOk bs tm a) {o : Oper}
    {K : SV → Dep → Prop} (h : xread P tab w0 R av o tm bs cs D K) :
    ∃ v s dep, (∀ w, DepOk w0 R av bs cs D dep w → (execOp (Act.eval ⟨a, []⟩) o).run P w = .ok (.value v) w) ∧ DepIn cs dep ∧ SVok bs s v ∧ K s dep := by
  have hg := GOk.nil tm
  obtain ⟨dst, op, ty, pos, after, guard⟩ := o
  unfold xread at h
  simp only at h
  split at h
  · rename_i t x
    obtain ⟨sx, hsx, h⟩ := evG_sound hf hg h
    split at h
    · rename_i j s
      split at h
      · rename_i ti hl
        obtain ⟨hj, v, h1, h2⟩ := loadK_box (bs := bs) (hT _ _ hl) h
        refine ⟨v, .v v, .box j, fun w hw => ?_, hj, rfl, h2⟩
        obtain ⟨hsx, _⟩ := hsx
        simp only [execOp]
        rw [hsx]
        exact run_value (h1 w hw)
      · exact h.elim
    · rename_i v
      have hsx' : Act.eval ⟨a, []⟩ x = v := hsx
      obtain ⟨u, h1, h2⟩ := (XRead_iff _ _ _ _).1 h
      refine ⟨u, .v u, .all, fun w hw => ?_, trivial, rfl, h2⟩
      simp only [execOp, hsx']
      exact run_value (h1 w hw)
    · exact h.elim
  · rename_i op' hnl
    rcases xpure_sound (o := ⟨dst, op, ty, pos, after, guard⟩) hT hf hg h with h | ⟨v, s, h1, h2, h3⟩
    · split at h
      · rename_i t x i _
        obtain ⟨v, h1, h2⟩ := (XRead_iff _ _ _ _).1 (evV_sound hf hg (evV_sound hf hg h))
        exact ⟨v, .v v, .base, fun w hw => run_value (h1 w hw), trivial, rfl, h2⟩
      · rename_i t x i _
        obtain ⟨v, h1, h2⟩ := (XRead_iff _ _ _ _).1 (evV_sound hf hg (evV_sound hf hg h))
        exact ⟨v, .v v, .base, fun w hw => run_value (h1 w hw), trivial, rfl, h2⟩
      · rename_i t x lo hi mx _
        obtain ⟨v, h1, h2⟩ := (XRead_iff _ _ _ _).1 (evO_sound hf hg (evO_sound hf hg (evO_sound hf hg (evV_sound hf hg h))))
        exact ⟨v, .v v, .base, fun w hw => run_value (h1 w hw), trivial, rfl, h2⟩
      · rename_i s d x _
        obtain ⟨v, h1, h2⟩ := (XRead_iff _ _ _ _).1 (evV_sound hf hg h)
        exact ⟨v, .v v, .all, fun w hw => run_value (h1 w hw), trivial, rfl, h2⟩
      · rename_i op t x y t' _
        obtain ⟨v, h1, h2⟩ := (XRead_iff _ _ _ _).1 (evV_sound hf hg (evV_sound hf hg h))
        exact ⟨v, .v v, .base, fun w hw => run_value (h1 w hw), trivial, rfl, h2⟩
      · rename_i b xs ts _
        have h := evVs_sound hf hg h
        split at h
        · rename_i mm hmm
          obtain ⟨v, h1, h2⟩ := (XRead_iff _ _ _ _).1 h
          refine ⟨v, .v v, .base, fun w hw => ?_, trivial, rfl, h2⟩
          have hr := h1 w hw
          rw [execOp_call_builtin]
          cases b <;> simp only [semB] at hmm <;> first | (cases hmm; exact run_value hr) | (cases hmm)
        · exact h.elim
      · exact h.elim
    · exact ⟨v, s, .none, fun w _ => h1 w fun ⟨t, x, he⟩ => absurd he (hnl t x), trivial, h2, h3⟩

end
end Go.Sx
namespace Go.Sx
set_option linter.unusedVariables false

section
variable {P : Program} {tab : Tab} {w0 : World} {R : Nat → Nat → Prop} {av : Nat → Prop}

theorem heldK_sound {E : List (Nat × Dep)} {bs bs' : List (Nat × Nat)} {cs cs' : List (List Value)} {D D' : Fx} {K : Prop} (h : heldK E bs cs D bs' cs' D' K) :
    K ∧ ∀ i dep, (i, dep) ∈ E → (DepIn cs dep → DepIn cs' dep) ∧ ∀ w, DepIn cs dep → DepOk w0 R av bs' cs' D' dep w → DepOk w0 R av bs cs D dep w := by
  unfold heldK at h
  split at h
  · rename_i hm
    obtain ⟨h1, h2⟩ := boxesK_iff h.rest
    refine ⟨h1, fun i dep hi => ?_⟩
    cases dep with
    | none => exact ⟨fun _ => trivial, fun _ _ _ => trivial⟩
    | base => exact ⟨fun _ => trivial, fun _ _ h => h⟩
    | all =>
      refine ⟨fun _ => trivial, fun w _ hst => ?_⟩
      have hst : St w0 R av w [] [] D' := hst
      exact hst.ent h.data
    | box j =>
      obtain ⟨e1, e2, e3⟩ := h2 i j hi
      exact ⟨fun _ => e3, fun w _ hw => by
        show Range w _ _ _
        rw [← e1, ← e2]
        exact hw⟩
  · rename_i hm
    obtain ⟨h1, h2⟩ := boxesK_iff h
    refine ⟨h1, fun i dep hi => ?_⟩
    cases dep with
    | none => exact ⟨fun _ => trivial, fun _ _ _ => trivial⟩
    | base => exact ⟨fun _ => trivial, fun _ _ h => h⟩
    | all => rw [anyAll_mem hi] at hm; cases hm
    | box j =>
      obtain ⟨e1, e2, e3⟩ := h2 i j hi
      exact ⟨fun _ => e3, fun w _ hw => by
        show Range w _ _ _
        rw [← e1, ← e2]
        exact hw⟩

def left (L' : Array Bool) : Nat := (L'.toList.filter fun b => !b).length

theorem left_set {L' : Array Bool} {i : Nat} (hi : i < L'.size) (h : L'.getD i false = false) : left (L'.setIfInBounds i true) + 1 = left L' := by
  unfold left
  rw [Array.toList_setIfInBounds]
  have hi' : i < L'.toList.length := by simpa using hi
  have hv : L'.toList[i] = false := by
    have : L'[i] = false := by simpa [Array.getD, hi] using h
    simpa using this
  generalize L'.toList = l at hi' hv
  clear h hi
  induction l generalizing i with
  | nil => simp at hi'
  | cons x xs ih =>
    cases i with
    | zero =>
      simp at hv
      subst hv
      simp
    | succ i =>
      have := ih (i := i) (by simpa using hi') (by simpa using hv)
      cases x <;> simp <;> omega

theorem xany_sound (hT : TabOk P tab) {ops : Array Oper} {Q : Exit → Act → World → Prop} (hns : noSel ops.toList = true) (hbk : allBack ops.toList 0 = true) {K : KT} (hQ : ∀ act w, LiftN w0 R av K act w → Q .normal act w) :
    ∀ (s n m : Nat) (L : List Bool) (L' : Array Bool) (E : List (Nat × Dep)) (tm : List SV) (bs : List (Nat × Nat)) (cs : List (List Value)) (D : Fx) (a a' : Array Value) (w : World),
      n + m ≤ s → left L' ≤ m → xany P tab w0 R av ops.toList n L E tm bs cs D K → FrameOk bs tm a → St w0 R av w bs cs D → Sim P w0 R av ops L L' E bs cs D a a' → wpAny P .any ops Q m L' ⟨a', []⟩ w := by
  intro s
  induction s with
  | zero =>
    intro n m L L' E tm bs cs D a a' w hs hm h hf hst hsim
    obtain rfl : n = 0 := by omega
    exact h.elim
  | succ s ih =>
    intro n m L L' E tm bs cs D a a' w hs hm h hf hst hsim
    cases n with
    | zero => exact h.elim
    | succ n =>
      have hX := h
      simp only [xany] at h
      cases hq : findQ tab ops.toList tm L ops.toList 0 with
      | some im =>
        obtain ⟨i, mm⟩ := im
        rw [hq] at h
        simp only at h
        obtain ⟨hil, h⟩ := nthK_iff default h
        obtain ⟨k, o, d, hk, hik, hun, hwt, hrd, hdst, hfree⟩ := findQ_parts hq
        rw [Nat.zero_add] at hik
        subst hik
        have hnth : nth default ops.toList i = o := by rw [nth_eq, hk]; rfl
        rw [hnth] at h
        have hops : ops[i]? = some o := by rw [← Array.getElem?_toList]; exact hk
        have hF := free_of (by simpa using hil) hfree
        have hiL : i < L.length := by rw [hsim.len]; simpa using hil
        have hL' : L'.getD i false = false := by
          cases hc : L'.getD i false with
          | false => rfl
          | true => rw [hsim.sub i hc] at hun; cases hun
        -- the new canonical state
        have key : ∀ (v : Value) (sv : SV) (dep : Dep), SVok bs sv v → DepIn cs dep → (Region.wanted o (yielded ops a) = true ∧ (∀ w, DepOk w0 R av bs cs D dep w → (execOp (Act.eval ⟨a, []⟩) o).run P w = .ok (.value v) w) ∨ (Region.wanted o (yielded ops a) = false ∧ v = undef)) →
            ∀ tm', FrameOk bs tm' (a.setIfInBounds d v) → d < a.size → xany P tab w0 R av ops.toList n (setB L i) ((i, dep) :: E) tm' bs cs D K → wpAny P .any ops Q m L' ⟨a', []⟩ w := by
          intro v sv dep hsv hdi hy tm' hf' hda hx
          refine ih n m (setB L i) L' ((i, dep) :: E) tm' bs cs D (a.setIfInBounds d v) a' w (by omega) hm hx hf' hst ?_
          have hlook : ∀ (k : Nat) (ok : Oper), ops[k]? = some ok → (k = i ∨ nthB L k = true) → looks ops.toList d ok = false := by
            intro k ok hk' hor
            cases hl : looks ops.toList d ok with
            | false => rfl
            | true =>
              rcases hor with rfl | hor
              · rw [hops] at hk'; cases hk'; rw [hF.own] at hl; cases hl
              · have hki : k ≠ i := fun e => by subst e; rw [hun] at hor; cases hor
                have := hF.looked k ok (by rw [Array.getElem?_toList]; exact hk') hki hl
                obtain ⟨e, he, hb, rfl⟩ := after1_iff.1 this
                have := waitsOk_iff.1 (hsim.closed k ok hk' hor) e he hb
                rw [hun] at this
                cases this
          have hsame : ∀ (k : Nat) (ok : Oper), ops[k]? = some ok → (k = i ∨ nthB L k = true) →
              execOp (Act.eval ⟨a.setIfInBounds d v, []⟩) ok = execOp (Act.eval ⟨a, []⟩) ok ∧ Region.wanted ok (yielded ops (a.setIfInBounds d v)) = Region.wanted ok (yielded ops a) := by
            intro k ok hk' hor
            refine same_of_agree (noSel_at hns k ok (by rw [Array.getElem?_toList]; exact hk')) fun t ht => ?_
            refine put_ne fun e => ?_
            subst e
            rw [hlook k ok hk' hor] at ht
            cases ht
          refine ⟨by rw [setB_eq]; simp [hsim.len], hsim.len', fun k hk' => (nthB_setB hiL).2 (.inr (hsim.sub k hk')), ?_, hsim.closed', by simp [hsim.size], ?_, ?_⟩
          · intro k ok hk' hkL
            refine waitsOk_iff.2 fun e he hb => (nthB_setB hiL).2 (.inr ?_)
            rcases (nthB_setB hiL).1 hkL with rfl | hkL
            · rw [hops] at hk'; cases hk'
              exact waitsOk_iff.1 hwt e he hb
            · exact waitsOk_iff.1 (hsim.closed k ok hk' hkL) e he hb
          · intro t ht
            have htd : d ≠ t := fun e => ht i o hops ((nthB_setB hiL).2 (.inl rfl)) hL' (by rw [hdst, e])
            rw [put_ne htd]
            exact hsim.agree t fun k ok hk' hkL hkL' => ht k ok hk' ((nthB_setB hiL).2 (.inr hkL)) hkL'
          · intro k hkL1 hkL'
            rcases (nthB_setB hiL).1 hkL1 with rfl | hkL
            · refine ⟨o, d, dep, v, hops, hdst, List.mem_cons_self .., hF, put_self hda, hdi, ?_⟩
              obtain ⟨e1, e2⟩ := hsame k o hops (.inl rfl)
              rw [e1, e2]
              rcases hy with ⟨y1, y2⟩ | y
              · exact .inl ⟨y1, y2⟩
              · exact .inr y
            · obtain ⟨o1, d1, m1, v1, g1, g2, g3, g4, g5, gd, g6⟩ := hsim.early k hkL hkL'
              have hki : k ≠ i := fun e => by subst e; rw [hun] at hkL; cases hkL
              have hdd : d ≠ d1 := fun e => by
                subst e
                exact hF.alone k o1 (by rw [Array.getElem?_toList]; exact g1) hki g2
              refine ⟨o1, d1, m1, v1, g1, g2, List.mem_cons_of_mem _ g3, g4, by rw [put_ne hdd]; exact g5, gd, ?_⟩
              obtain ⟨e1, e2⟩ := hsame k o1 g1 (.inr hkL)
              rw [e1, e2]
              exact g6
        rcases wantK_sound hf h with ⟨hw, h⟩ | ⟨hw, h⟩
        · obtain ⟨v, sv, dep, h1, hdi, h2, h3⟩ := xread_sound hT hf h
          rw [hdst] at h3
          obtain ⟨hdl, h3⟩ := setK_iff h3
          obtain ⟨tm', h4, h5⟩ := guardSplit_sound (hf.set d h2) h3
          exact key v sv dep h2 hdi (.inl ⟨hw, h1⟩) tm' h4 (by rw [← hf.len]; exact hdl) h5
        · rw [hdst] at h
          obtain ⟨hdl, h⟩ := setK_iff h
          exact key undef (.v undef) .none rfl trivial (.inr ⟨hw, rfl⟩) _ (hf.set d (s := .v undef) rfl) (by rw [← hf.len]; exact hdl) h
      | none =>
        rw [hq] at h
        simp only at h
        -- an early one is run
        have hearly : ∀ (m' j : Nat), m = m' + 1 → j ∈ Region.ready .any ops L' → nthB L j = true → wpOp P ops Q j (wpAny P .any ops Q m' (L'.setIfInBounds j true)) ⟨a', []⟩ w := by
          intro m' j hm' hj hjL
          obtain ⟨hj0, o, hoj, hall⟩ := mem_ready.1 hj
          have hjs : j < ops.size := lt_of_some hoj
          have hjL' : L'.getD j false = false := by rw [← getD_false (by rw [hsim.len']; exact hjs)]; exact hj0
          obtain ⟨o1, d, mm, v, g1, g2, g3, g4, g5, gd, g6⟩ := hsim.early j hjL hjL'
          rw [hoj] at g1
          cases g1
          obtain ⟨e1, e2⟩ := same_of_agree (noSel_at hns j o (by rw [Array.getElem?_toList]; exact hoj)) (hsim.looked hoj hall hjL')
          have hcont : wpAny P .any ops Q m' (L'.setIfInBounds j true) (Act.put ⟨a', []⟩ o.dst v) w := by
            rw [g2]
            have hls := left_set (by rw [hsim.len']; exact hjs) hjL'
            refine ih (n + 1) m' L (L'.setIfInBounds j true) E tm bs cs D a (a'.setIfInBounds d v) w (by omega) (by omega) hX hf hst ?_
            have hset : ∀ k, (L'.setIfInBounds j true).getD k false = true ↔ k = j ∨ L'.getD k false = true := fun k => getD_setB (by rw [hsim.len']; exact hjs)
            have hnot : ∀ k, (L'.setIfInBounds j true).getD k false = false → k ≠ j ∧ L'.getD k false = false := fun k hk => by
              refine ⟨fun e => ?_, ?_⟩
              · rw [(hset k).2 (.inl e)] at hk; cases hk
              · cases hc : L'.getD k false with
                | false => rfl
                | true => rw [(hset k).2 (.inr hc)] at hk; cases hk
            refine ⟨hsim.len, by simp [hsim.len'], fun k hk => ?_, hsim.closed, closed_set hsim.closed' hoj hset hall, by simp [hsim.size], fun t ht => ?_, fun k hkL hkL' => ?_⟩
            · rcases (hset k).1 hk with rfl | hk
              · exact hjL
              · exact hsim.sub k hk
            · by_cases hdt : d = t
              · subst hdt
                rw [put_self (by rw [hsim.size]; exact lt_of_some g5), g5]
              · rw [put_ne hdt]
                refine hsim.agree t fun k ok hk hkL hkL' => ?_
                by_cases hkj : k = j
                · subst hkj
                  rw [hoj] at hk
                  cases hk
                  rw [g2]
                  simpa using hdt
                · refine ht k ok hk hkL ?_
                  cases hc : (L'.setIfInBounds j true).getD k false with
                  | false => rfl
                  | true =>
                    rcases (hset k).1 hc with hc | hc
                    · exact absurd hc hkj
                    · rw [hkL'] at hc; cases hc
            · exact hsim.early k hkL (hnot k hkL').2
          unfold wpOp
          simp only [hoj]
          rcases g6 with ⟨y1, y2⟩ | ⟨y1, rfl⟩
          · have hw : Region.wanted o (yielded ops a') = true := by rw [e2]; exact y1
            simp only [hw, if_true]
            exact .inl (wp_of_value (by rw [e1]; exact y2 w (hst.dep gd)) hcont)
          · have hw : Region.wanted o (yielded ops a') = false := by rw [e2]; exact y1
            simp only [hw, Bool.false_eq_true, if_false]
            exact hcont
        have hlisted : Region.ready .any ops L' = [] → ∀ j, j < ops.size → L'.getD j false = true := by
          intro hr j hj
          refine all_listed (l := ops.toList) hbk (p := fun j => L'.getD j false) (fun k ok hk hpk hall => ?_) j (by simpa using hj)
          have hks : k < ops.size := lt_of_some (by rw [← Array.getElem?_toList]; exact hk)
          have : k ∈ Region.ready .any ops L' := mem_ready.2 ⟨by rw [getD_false (by rw [hsim.len']; exact hks)]; exact hpk, ok, by rw [← Array.getElem?_toList]; exact hk,
            fun e he hb => hall e (Array.mem_toList_iff.2 he) hb⟩
          rw [hr] at this
          cases this
        have hleft : left L' = 0 → Region.ready .any ops L' = [] := by
          intro h0
          cases hr : Region.ready .any ops L' with
          | nil => rfl
          | cons j r =>
            have hj : j ∈ Region.ready .any ops L' := by rw [hr]; exact List.mem_cons_self ..
            obtain ⟨hj0, o, hoj, hall⟩ := mem_ready.1 hj
            have hjs : j < ops.size := lt_of_some hoj
            have := left_set (L' := L') (i := j) (by rw [hsim.len']; exact hjs) (by rw [← getD_false (by rw [hsim.len']; exact hjs)]; exact hj0)
            omega
        cases hrl : readyL L ops.toList 0 with
        | nil =>
          rw [hrl] at h
          simp only at h
          have hLall : ∀ j, j < ops.size → nthB L j = true := by
            intro j hj
            refine all_listed (l := ops.toList) hbk (p := fun j => nthB L j) (fun k ok hk hpk hall => ?_) j (by simpa using hj)
            have : k ∈ readyL L ops.toList 0 := readyL_mem.2 ⟨k, ok, hk, by omega, hpk, waitsOk_iff.2 hall⟩
            rw [hrl] at this
            cases this
          have hdone : Region.ready .any ops L' = [] → Q .normal ⟨a', []⟩ w := by
            intro hr
            have : a' = a := by
              refine Array.ext_getElem? fun t => hsim.agree t fun k ok hk _ hkL' => ?_
              rw [hlisted hr k (lt_of_some hk)] at hkL'
              cases hkL'
            subst this
            exact hQ _ _ ⟨rfl, tm, bs, cs, D, hf, hst, h⟩
          cases m with
          | zero => exact ⟨hleft (by omega), hdone (hleft (by omega))⟩
          | succ m =>
            refine ⟨hdone, fun j hj => hearly m j rfl hj (hLall j ?_)⟩
            obtain ⟨_, o, hoj, _⟩ := mem_ready.1 hj
            exact lt_of_some hoj
        | cons j0 r0 =>
          rw [hrl] at h
          simp only at h
          have hj0 : j0 ∈ readyL L ops.toList 0 := by rw [hrl]; exact List.mem_cons_self ..
          have hno : Region.ready .any ops L' ≠ [] := by
            intro hr
            obtain ⟨k, ok, hk, hjk, hun, _⟩ := readyL_mem.1 hj0
            rw [Nat.zero_add] at hjk
            subst hjk
            have hks : j0 < ops.size := lt_of_some (by rw [← Array.getElem?_toList]; exact hk)
            rw [hsim.sub j0 (hlisted hr j0 hks)] at hun
            cases hun
          cases m with
          | zero => exact absurd (hleft (by omega)) hno
          | succ m =>
            refine ⟨fun hr => absurd hr hno, fun j hj => ?_⟩
            cases hjL : nthB L j with
            | true => exact hearly m j rfl hj hjL
            | false =>
              obtain ⟨hjt, o, hoj, hall⟩ := mem_ready.1 hj
              have hjs : j < ops.size := lt_of_some hoj
              have hojl : ops.toList[j]? = some o := by rw [Array.getElem?_toList]; exact hoj
              have hjL' : L'.getD j false = false := by rw [← getD_false (by rw [hsim.len']; exact hjs)]; exact hjt
              have hwL : waitsOk L o.after.toList = true := waitsOk_iff.2 fun e he hb => hsim.sub _ (hall e (Array.mem_toList_iff.1 he) hb)
              have hjr : j ∈ j0 :: r0 := by rw [← hrl]; exact readyL_mem.2 ⟨j, o, hojl, by omega, hjL, hwL⟩
              have hS := allK_mem h j hjr
              obtain ⟨_, hS⟩ := nthK_iff o hS
              have hnth : nth o ops.toList j = o := by rw [nth_eq, hojl]; rfl
              rw [hnth] at hS
              obtain ⟨e1, e2⟩ := same_of_agree (noSel_at hns j o hojl) (hsim.looked hoj hall hjL')
              have hiL : j < L.length := by rw [hsim.len]; exact hjs
              have hls := left_set (L' := L') (i := j) (by rw [hsim.len']; exact hjs) hjL'
              have hset : ∀ k, (L'.setIfInBounds j true).getD k false = true ↔ k = j ∨ L'.getD k false = true := fun k => getD_setB (by rw [hsim.len']; exact hjs)
              -- the state behind it
              have key : ∀ (v : Value) (w' : World) (tm' : List SV) (bs' : List (Nat × Nat)) (cs' : List (List Value)) (D' : Fx), FrameOk bs' tm' (Act.put ⟨a, []⟩ o.dst v).tmps → St w0 R av w' bs' cs' D' →
                  (∀ i dep, (i, dep) ∈ dropE ops.toList o.after.toList E → (DepIn cs dep → DepIn cs' dep) ∧ ∀ w, DepIn cs dep → DepOk w0 R av bs' cs' D' dep w → DepOk w0 R av bs cs D dep w) →
                  xany P tab w0 R av ops.toList n (setB L j) (dropE ops.toList o.after.toList E) tm' bs' cs' D' K →
                  wpAny P .any ops Q m (L'.setIfInBounds j true) ⟨(Act.put ⟨a', []⟩ o.dst v).tmps, []⟩ w' := by
                intro v w' tm' bs' cs' D' hf' hst' hheld hx
                refine ih n m (setB L j) (L'.setIfInBounds j true) _ tm' bs' cs' D' _ _ w' (by omega) (by omega) hx hf' hst' ?_
                have hput : ∀ (b : Array Value) t, o.dst ≠ some t → (Act.put ⟨b, []⟩ o.dst v).tmps[t]? = b[t]? := by
                  intro b t ht
                  cases hd : o.dst with
                  | none => rfl
                  | some d => exact put_ne (fun e => ht (by rw [hd, e]))
                have hnot : ∀ k, (L'.setIfInBounds j true).getD k false = false → k ≠ j ∧ L'.getD k false = false := fun k hk => by
                  refine ⟨fun e => ?_, ?_⟩
                  · rw [(hset k).2 (.inl e)] at hk; cases hk
                  · cases hc : L'.getD k false with
                    | false => rfl
                    | true => rw [(hset k).2 (.inr hc)] at hk; cases hk
                have hsz : ∀ b : Array Value, (Act.put ⟨b, []⟩ o.dst v).tmps.size = b.size := by
                  intro b
                  cases o.dst <;> simp [Act.put]
                refine ⟨by rw [setB_eq]; simp [hsim.len], by simp [hsim.len'], fun k hk => ?_, fun k ok hk hkL => ?_, closed_set hsim.closed' hoj hset hall, by rw [hsz, hsz, hsim.size], fun t ht => ?_, fun k hkL hkL' => ?_⟩
                · rcases (hset k).1 hk with rfl | hk
                  · exact (nthB_setB hiL).2 (.inl rfl)
                  · exact (nthB_setB hiL).2 (.inr (hsim.sub k hk))
                · refine waitsOk_iff.2 fun e he hb => (nthB_setB hiL).2 (.inr ?_)
                  rcases (nthB_setB hiL).1 hkL with rfl | hkL
                  · rw [hoj] at hk; cases hk
                    exact waitsOk_iff.1 hwL e he hb
                  · exact waitsOk_iff.1 (hsim.closed k ok hk hkL) e he hb
                · by_cases hdt : o.dst = some t
                  · rw [hdt]
                    show (a'.setIfInBounds t v)[t]? = (a.setIfInBounds t v)[t]?
                    rw [Array.getElem?_setIfInBounds, Array.getElem?_setIfInBounds, hsim.size]
                    simp
                  · rw [hput a' t hdt, hput a t hdt]
                    refine hsim.agree t fun k ok hk hkL hkL' => ?_
                    have hkj : k ≠ j := fun e => by subst e; rw [hjL] at hkL; cases hkL
                    refine ht k ok hk ((nthB_setB hiL).2 (.inr hkL)) ?_
                    cases hc : (L'.setIfInBounds j true).getD k false with
                    | false => rfl
                    | true =>
                      rcases (hset k).1 hc with hc | hc
                      · exact absurd hc hkj
                      · rw [hkL'] at hc; cases hc
                · obtain ⟨hkj, hkL'⟩ := hnot k hkL'
                  have hkL2 : nthB L k = true := ((nthB_setB hiL).1 hkL).resolve_left hkj
                  obtain ⟨o1, d1, m1, v1, g1, g2, g3, g4, g5, gd, g6⟩ := hsim.early k hkL2 hkL'
                  have hdd : o.dst ≠ some d1 := g4.alone j o hojl (Ne.symm hkj)
                  have hin : (k, m1) ∈ dropE ops.toList o.after.toList E := by
                    refine dropE_mem g3 ?_
                    cases hc : afterT ops.toList 3 k o.after.toList with
                    | false => rfl
                    | true =>
                      rw [afterT_done hsim.closed' 3 (fun e he hb => hall e (Array.mem_toList_iff.1 he) hb) hc] at hkL'
                      cases hkL'
                  refine ⟨o1, d1, m1, v1, g1, g2, hin, g4, by rw [hput a d1 hdd]; exact g5, (hheld k m1 hin).1 gd, ?_⟩
                  obtain ⟨f1, f2⟩ := same_of_agree (ops := ops) (a := a) (a' := (Act.put ⟨a, []⟩ o.dst v).tmps) (noSel_at hns k o1 (by rw [Array.getElem?_toList]; exact g1)) fun t ht => by
                    refine hput a t fun hd => ?_
                    have := g4.looking j o t hojl (Ne.symm hkj) hd ht
                    obtain ⟨e, he, hb, rfl⟩ := after1_iff.1 this
                    have := waitsOk_iff.1 (hsim.closed k o1 g1 hkL2) e he hb
                    rw [hjL] at this
                    cases this
                  rw [f1, f2]
                  rcases g6 with ⟨y1, y2⟩ | y
                  · exact .inl ⟨y1, fun w hw => y2 w ((hheld k m1 hin).2 w gd hw)⟩
                  · exact .inr y
              unfold wpOp
              simp only [hoj]
              rcases wantK_sound hf hS with ⟨hw, hS⟩ | ⟨hw, hS⟩
              · have hw' : Region.wanted o (yielded ops a') = true := by rw [e2]; exact hw
                simp only [hw', if_true]
                refine .inl (wp_carry e1 (fun act w h => h.1) ?_ (xop_sound hT hf hst hS _))
                rintro v w' ⟨hd, tm', bs', cs', D', h1, h2, h3⟩
                obtain ⟨h3, h4⟩ := heldK_sound (w0 := w0) (R := R) (av := av) h3
                obtain ⟨tm2, h5, h6⟩ := guardSplit_sound h1 h3
                have := key v w' tm2 bs' cs' D' h5 h2 h4 h6
                rwa [← act_eta (put_defers _ _ _)] at this
              · have hw' : Region.wanted o (yielded ops a') = false := by rw [e2]; exact hw
                simp only [hw', Bool.false_eq_true, if_false]
                obtain ⟨tm', h1, h2⟩ := hf.put o.dst (s := .v undef) (y := undef) rfl hS
                have := key undef w tm' bs cs D h1 hst (fun _ _ _ => ⟨fun h => h, fun w _ h => h⟩) h2
                rwa [← act_eta (put_defers _ _ _)] at this

def falsesK : List Oper → (List Bool → Prop) → Prop
  | [], K => K []
  | _ :: r, K => falsesK r fun l => K (false :: l)

theorem falsesK_iff : ∀ {l : List Oper} {K : List Bool → Prop}, falsesK l K → K (List.replicate l.length false)
  | [], _, h => h
  | _ :: r, K, h => falsesK_iff (l := r) h

/-- A statement whose order is open. -/
theorem XStop.draw (hT : TabOk P tab) (hm : P.follows .mixedOrders = true) {id : Nat} {l : List Oper} {tm : List SV} {bs : List (Nat × Nat)} {cs : List (List Value)} {D : Fx} {K : Exit → KT} (hns : noSel l = true)
    (hbk : allBack l 0 = true) (h : falsesK l fun L => xany P tab w0 R av l 1000 L [] tm bs cs D (K .normal)) : XStop P w0 R av (.region id ⟨l⟩ true) tm bs cs D K := by
  have h := falsesK_iff h
  refine XStop_iff.2 fun a w hf hst => wp_region_any hm ?_
  have hst' : St w0 R av { w with drawn := w.drawn + 1 } bs cs D := hst.keptD ⟨rfl, rfl, rfl, Nat.le_refl _, fun b o ho => ⟨o, ho, .refl _ _⟩⟩
  have hnB : ∀ i, nthB (List.replicate l.length false) i = false := fun i => by
    rw [nthB_eq, List.getElem?_replicate]
    split <;> rfl
  refine xany_sound hT (ops := ⟨l⟩) hns hbk (K := K .normal) (fun act w h => h) _ 1000 _ (List.replicate l.length false) _ [] tm bs cs D a a _ (Nat.le_refl _) ?_ h hf hst' ?_
  · unfold left
    simp
  · refine ⟨by simp, by simp, fun i hi => ?_, fun i o _ hi => ?_, fun i o _ hi => ?_, rfl, fun _ _ => rfl, fun i hi => ?_⟩
    · simp [Array.getD] at hi
    · rw [hnB] at hi; cases hi
    · simp [Array.getD] at hi
    · rw [hnB] at hi; cases hi

theorem BLe.same : ∀ {bs : List (Nat × Nat)} {cs : List (List Value)}, bs.length = cs.length → BLe bs cs bs cs
  | [], [], _ => trivial
  | _ :: _, _ :: _, h => ⟨⟨rfl, rfl⟩, BLe.same (by simpa using h)⟩
  | [], _ :: _, h => by simp at h
  | _ :: _, [], h => by simp at h

theorem Ent.left (F F' : Fx) : Ent (F.and F') F := .of_le ⟨List.sublist_append_left _ _, fun _ h => h.1⟩

/-- Behind a call that leaves the boxes alone. -/
theorem XHeld.call {bs bs' : List (Nat × Nat)} {cs cs' : List (List Value)} {F F' : Fx} {K : Prop} (hl : 0 = 0) (h : K) : XHeld bs cs F bs' cs' (F.and F') K := ⟨Ent.left _ _, h⟩

theorem XHeld.same {bs bs' : List (Nat × Nat)} {cs cs' : List (List Value)} {F : Fx} {K : Prop} (hl : 0 = 0) (h : K) : XHeld bs cs F bs' cs' F K := ⟨Ent.refl _, h⟩

/-- Behind an operation that makes a row. -/
theorem XHeld.row {bs bs' : List (Nat × Nat)} {cs cs' : List (List Value)} {F : Fx} {rs : List (Nat × Row)} {K : Prop} (hl : 0 = 0) (h : K) : XHeld bs cs F bs' cs' ⟨F.D, F.rs ++ rs⟩ K :=
  ⟨.of_le ⟨List.sublist_append_left _ _, fun _ h => h⟩, h⟩

end
end Go.Sx
namespace Go.Sx
set_option linter.unusedVariables false

def byteV (x : UInt8) : Value := .int .u8 (x.toNat : Int)

/-- From the address on lie the cells L (nil: none). -/
def RowAt (w : World) (a : Option Addr) (L : List Value) : Prop :=
  match a with
  | none => L = []
  | some ad => L = [] ∨ (ad.spot = none ∧ ∃ arr e fz, w.heap[ad.block]? = some (.cells arr e fz) ∧ ∀ j, j < L.length → arr[ad.off + j]? = L[j]?)

/-- Where there is a cell, the block is there. -/
theorem RowAt.there {w : World} {ad : Addr} {L : List Value} (h : RowAt w (some ad) L) (hn : L ≠ []) : ad.spot = none ∧ ∃ arr e fz, w.heap[ad.block]? = some (.cells arr e fz) ∧ ∀ j, j < L.length → arr[ad.off + j]? = L[j]? :=
  h.resolve_left hn

theorem RowAt.none' {w : World} (a : Option Addr) : RowAt w a [] := by
  cases a with
  | none => rfl
  | some ad => exact .inl rfl

theorem ne_of_lt {α : Type} {L : List α} {j : Nat} (h : j < L.length) : L ≠ [] := by
  rintro rfl
  simp at h

theorem RowAt.nilA {w : World} : RowAt w none [] := rfl

theorem RowAt.nil_of {w : World} {L : List Value} (h : RowAt w none L) : L = [] := h

theorem RowAt.cell {w : World} {ad : Addr} {L : List Value} (h : RowAt w (some ad) L) {j : Nat} (hj : j < L.length) : w.cell? (ad.add j) = L[j]? := by
  obtain ⟨hs, arr, e, fz, h1, h2⟩ := h.there (ne_of_lt hj)
  obtain ⟨b, o, s⟩ := ad
  simp at hs
  subst hs
  rw [Addr.add_none]
  simp [World.cell?, h1, h2 j hj]

theorem Addr.addAdd {ad : Addr} (h : ad.spot = none) (m n : Nat) : (ad.add m).add n = ad.add (m + n) := by
  obtain ⟨b, o, s⟩ := ad
  simp at h
  subst h
  simp [Addr.add_none, Nat.add_assoc]

theorem RowAt.drop {w : World} {ad : Addr} {L : List Value} (h : RowAt w (some ad) L) (k : Nat) : RowAt w (some (ad.add k)) (L.drop k) := by
  rcases h with rfl | ⟨hs, arr, e, fz, h1, h2⟩
  · exact .inl (by simp)
  obtain ⟨b, o, s⟩ := ad
  simp at hs
  subst hs
  rw [Addr.add_none]
  refine .inr ⟨rfl, arr, e, fz, h1, fun j hj => ?_⟩
  simp at hj
  rw [Nat.add_assoc, h2 _ (by omega), List.getElem?_drop]

theorem RowAt.take {w : World} {a : Option Addr} {L : List Value} (h : RowAt w a L) (k : Nat) : RowAt w a (L.take k) := by
  cases a with
  | none => rw [RowAt.nil_of h]; simp [RowAt]
  | some ad =>
    rcases h with rfl | ⟨hs, arr, e, fz, h1, h2⟩
    · exact .inl (by simp)
    refine .inr ⟨hs, arr, e, fz, h1, fun j hj => ?_⟩
    simp at hj
    rw [h2 _ (by omega), List.getElem?_take, if_pos (by omega)]

theorem RowAt.nil {w : World} {a : Option Addr} {L : List Value} (h : RowAt w a L) : RowAt w a [] := by simpa using h.take 0

theorem RowAt.of_row {w : World} {b : Nat} {C : List Value} (h : RowIs w b C) : RowAt w (some ⟨b, 0, none⟩) C := by
  obtain ⟨e, h⟩ := h
  exact .inr ⟨rfl, C.toArray, e, _, h, fun j hj => by simp⟩

theorem RowAt.of_range {w : World} {b o : Nat} {C : List Value} (h : Range w b o C) : RowAt w (some ⟨b, o, none⟩) C := by
  obtain ⟨arr, e, h1, h2⟩ := h
  exact .inr ⟨rfl, arr, e, _, h1, h2⟩

theorem RowAt.holds {av : Nat → Prop} {w : World} {ad : Addr} {L : List Value} (h : RowAt w (some ad) L) (ha : ¬ av ad.block) : Holds av w (fun w => RowAt w (some ad) L) := by
  rcases h with rfl | ⟨hs, arr, e, fz, h1, h2⟩
  · exact ⟨fun _ => False, fun _ h => h.elim, fun _ _ => .inl rfl⟩
  exact Holds.block ad.block (lt_of_some h1) ha fun w' hw => .inr ⟨hs, arr, e, fz, by rw [hw, h1], h2⟩

section
variable {P : Program} {tab : Tab} {w0 : World} {R : Nat → Nat → Prop} {av : Nat → Prop} {bs : List (Nat × Nat)} {cs : List (List Value)} {F : Fx}

/-- What a walk sees at an address, whatever the world. -/
def Sees (w0 : World) (R : Nat → Nat → Prop) (av : Nat → Prop) (bs : List (Nat × Nat)) (cs : List (List Value)) (F : Fx) (a : Option Addr) (L : List Value) : Prop := ∀ w, St w0 R av w bs cs F → RowAt w a L

theorem Sees.fact {a : Option Addr} {L : List Value} (h : ∀ w, F.D w → RowAt w a L) : Sees w0 R av bs cs F a L := fun w hst => h w hst.now

theorem Sees.row {b : Nat} {C : List Value} (h : (b, Row.c C) ∈ F.rs) : Sees w0 R av bs cs F (some ⟨b, 0, none⟩) C := fun w hst => .of_row (hst.rows _ h).1

theorem Sees.take {a : Option Addr} {L : List Value} (h : Sees w0 R av bs cs F a L) (k : Nat) : Sees w0 R av bs cs F a (L.take k) := fun w hst => (h w hst).take k

theorem Sees.eq {a : Option Addr} {L L' : List Value} (h : Sees w0 R av bs cs F a L) (e : L = L') : Sees w0 R av bs cs F a L' := e ▸ h

theorem XVal.of_read {m : Sem Value} {K : KV} (h : XRead P w0 R av m bs cs F fun v => K v bs cs F) : XVal P w0 R av m bs cs F K := by
  obtain ⟨v, h1, h2⟩ := (XRead_iff _ _ _ _).1 h
  exact XVal_iff.2 fun w hst => ⟨v, w, [], cs, F, h1 w hst, by rw [List.append_nil]; exact hst, by rw [List.append_nil]; exact h2⟩

theorem slice_of {d : TypeDesc} {e : TypeId} (h : mkTK d = .slice e) : d = .slice e := by
  cases d <;> simp [mkTK] at h
  rw [h]

/-- s[i]'s address. -/
theorem XRead.index (hT : TabOk P tab) {t : TypeId} {ti te : TI} {e : TypeId} (ht : look tab t = some ti) (hk : ti.k = .slice e) (he : look tab e = some te) {a : Option Addr} {n c : Nat} {k : IntKind} {i : Int} {K : Value → Prop}
    (h0 : 0 ≤ i) (h1 : i < n) (ha : a = none → n = 0) (h : ∀ ad, a = some ad → K (.pointer (some (ad.add (i.toNat * te.size))))) :
    XRead P w0 R av (Instr.indexAt t (.slice a n c) (.int k i)) bs cs F K := by
  cases a with
  | none => have := ha rfl; omega
  | some ad =>
    refine (XRead_iff _ _ _ _).2 ⟨_, fun w _ => ?_, h ad rfl⟩
    obtain ⟨i1, d1, z1, p1, p2, p3, p4, p5, p6, p7, p8⟩ := mkTI_parts (hT _ _ ht)
    obtain ⟨i2, d2, z2, q1, q2, q3, q4, q5, q6, q7, q8⟩ := mkTI_parts (hT _ _ he)
    rw [p4] at hk
    obtain rfl := slice_of hk
    unfold Instr.indexAt
    rw [run_bind_ok (m := asIntOf (.int k i)) (a := (k, i)) (w' := w) rfl]
    simp only
    rw [run_bind_ok (run_underlying' p2 w)]
    simp only
    rw [run_bind_ok (run_pure P _ w), run_bind_ok (run_underlying' p2 w)]
    simp only
    rw [if_pos ⟨h0, h1⟩, run_bind_ok (run_sizeOf q1 w), ← q5]
    rfl

/-- A cell that is read through a pointer. -/
theorem XRead.load (hT : TabOk P tab) {t : TypeId} {ti : TI} (ht : look tab t = some ti) (hk : ti.k.agg = false) {p ad : Addr} {k : Nat} {L : List Value} {v : Value} {K : Value → Prop}
    (hs : Sees w0 R av bs cs F (some ad) L) (hp : p = ad.add k) (hv : L[k]? = some v) (h : K v) : XRead P w0 R av (Instr.loadAt t (.pointer (some p))) bs cs F K := by
  subst hp
  refine (XRead_iff _ _ _ _).2 ⟨v, fun w hst => ?_, h⟩
  show (loadVar t (ad.add k)).run P w = _
  have hlt : k < L.length := (List.getElem?_eq_some_iff.1 hv).1
  exact run_loadVar_one (hT _ _ ht) hk (by rw [(hs w hst).cell hlt, hv])

/-- A struct that is read through a pointer. -/
theorem XRead.loads (hT : TabOk P tab) {t : TypeId} {ti : TI} (ht : look tab t = some ti) (hk : ti.k.agg = true) {p ad : Addr} {k : Nat} {L m : List Value} {K : Value → Prop}
    (hs : Sees w0 R av bs cs F (some ad) L) (hp : p = ad.add k) (hm : (L.drop k).take ti.size = m) (hl : m.length = ti.size) (h : K (.agg ⟨m⟩)) : XRead P w0 R av (Instr.loadAt t (.pointer (some p))) bs cs F K := by
  subst hp
  refine (XRead_iff _ _ _ _).2 ⟨_, fun w hst => ?_, h⟩
  show (loadVar t (ad.add k)).run P w = _
  have hr := (hs w hst)
  rcases hr with he | hr
  · subst he
    simp at hm
    subst hm
    obtain ⟨i1, d1, z1, p1, p2, p3, p4, p5, p6, p7, p8⟩ := mkTI_parts (hT _ _ ht)
    unfold loadVar
    rw [run_bind_ok (run_isAgg p2 w), ← p4, hk]
    simp only [if_true]
    rw [run_bind_ok (run_sizeOf p1 w), ← p5, ← hl]
    rfl
  have hsp : ad.spot = none := hr.1
  have hr : RowAt w (some ad) L := .inr hr
  obtain ⟨b, o, s⟩ := ad
  simp at hsp
  subst hsp
  rw [Addr.add_none]
  refine run_loadVar_agg (hT _ _ ht) hk m hl fun j hj => ?_
  have := hr.cell (j := k + j) (by rw [← hm] at hj; simp at hj; omega)
  rw [Addr.add_none, ← Nat.add_assoc] at this
  rw [this, ← hm, List.getElem?_take, if_pos (by omega), List.getElem?_drop]

/-! ### cutting a slice -/

/-- The address of s[l:..:m]. -/
def cutA (a : Option Addr) (l m size : Nat) : Option Addr := if m = l then a else a.map (·.add (l * size))

theorem RowAt.cut {w : World} {a : Option Addr} {L : List Value} (h : RowAt w a L) {l hi m size : Nat} (hm : l ≤ hi ∧ hi ≤ m) : RowAt w (cutA a l m size) ((L.drop (l * size)).take ((hi - l) * size)) := by
  unfold cutA
  split
  · have : hi - l = 0 := by omega
    rw [this]
    simpa using h.nil
  · cases a with
    | none => rw [RowAt.nil_of h]; simp [RowAt]
    | some ad => exact (h.drop _).take _

theorem cutA_none {a : Option Addr} {l m size : Nat} (h : cutA a l m size = none) : a = none := by
  unfold cutA at h
  split at h
  · exact h
  · cases a <;> simp at h ⊢

theorem run_bound {P : Program} {w : World} {k : IntKind} {i : Int} {y : Nat} {code : BoundsCode} (h0 : 0 ≤ i) (h1 : i ≤ y) : (Instr.sliceBound (.int k i) y code).run P w = .ok i.toNat w := by
  unfold Instr.sliceBound
  rw [run_bind_ok (m := asIntOf (.int k i)) (a := (k, i)) (w' := w) rfl]
  simp only
  rw [if_pos ⟨h0, h1⟩]
  rfl

/-- s[lo:hi] of a slice. -/
theorem XRead.slice (hT : TabOk P tab) {t : TypeId} {ti te : TI} {e : TypeId} (ht : look tab t = some ti) (hk : ti.k = .slice e) (he : look tab e = some te) {a : Option Addr} {n c : Nat} {k1 k2 k3 : IntKind}
    {lo hi mx : Option Int} {K : Value → Prop} (l h m : Nat) (hl : lo.getD 0 = l) (hh : hi.getD n = h) (hm : mx.getD c = m) (h1 : l ≤ h) (h2 : h ≤ m) (h3 : m ≤ c) (hx : mx.isSome = true → hi.isSome = true)
    (hK : K (.slice (cutA a l m te.size) (h - l) (m - l))) :
    XRead P w0 R av (Instr.sliceAt t (.slice a n c) (lo.map (.int k1)) (hi.map (.int k2)) (mx.map (.int k3))) bs cs F K := by
  refine (XRead_iff _ _ _ _).2 ⟨_, fun w _ => ?_, hK⟩
  obtain ⟨i1, d1, z1, p1, p2, p3, p4, p5, p6, p7, p8⟩ := mkTI_parts (hT _ _ ht)
  obtain ⟨i2, d2, z2, q1, q2, q3, q4, q5, q6, q7, q8⟩ := mkTI_parts (hT _ _ he)
  rw [p4] at hk
  obtain rfl := slice_of hk
  unfold Instr.sliceAt
  rw [run_bind_ok (run_underlying' p2 w)]
  simp only
  unfold Instr.slice
  rw [run_bind_ok (run_underlying' p2 w)]
  simp only
  have hb : (Instr.sliceBounds true n c (lo.map (.int k1)) (hi.map (.int k2)) (mx.map (.int k3))).run P w = .ok (l, h, m) w := by
    unfold Instr.sliceBounds
    cases mx with
    | none =>
      obtain rfl : m = c := by have : (c : Int) = m := hm; omega
      cases hi with
      | none =>
        obtain rfl : h = n := by have : (n : Int) = h := hh; omega
        simp only [Option.map_none]
        rw [run_bind_ok (run_pure P _ w), run_bind_ok (run_pure P _ w)]
        cases lo with
        | none =>
          obtain rfl : l = 0 := by have : (0 : Int) = l := hl; omega
          rfl
        | some i =>
          obtain rfl : i = (l : Int) := hl
          simp only [Option.map_some]
          rw [run_bind_ok (run_bound (by omega) (by omega))]
          rfl
      | some j =>
        obtain rfl : j = (h : Int) := hh
        simp only [Option.map_none, Option.map_some]
        rw [run_bind_ok (run_pure P _ w), run_bind_ok (run_bound (by omega) (by omega))]
        cases lo with
        | none =>
          obtain rfl : l = 0 := by have : (0 : Int) = l := hl; omega
          rfl
        | some i =>
          obtain rfl : i = (l : Int) := hl
          simp only [Option.map_some]
          rw [run_bind_ok (run_bound (by omega) (by simp; omega))]
          rfl
    | some mm =>
      obtain rfl : mm = (m : Int) := hm
      cases hi with
      | none => simp at hx
      | some j =>
        obtain rfl : j = (h : Int) := hh
        simp only [Option.map_some]
        rw [run_bind_ok (run_bound (by omega) (by omega)), run_bind_ok (run_bound (by omega) (by simp; omega))]
        cases lo with
        | none =>
          obtain rfl : l = 0 := by have : (0 : Int) = l := hl; omega
          rfl
        | some i =>
          obtain rfl : i = (l : Int) := hl
          simp only [Option.map_some]
          rw [run_bind_ok (run_bound (by omega) (by simp; omega))]
          rfl
  rw [run_bind_ok hb]
  simp only
  rw [run_bind_ok (run_sizeOf q1 w), ← q5]
  rfl

end
end Go.Sx
namespace Go.Sx
set_option linter.unusedVariables false

/-! ### literals -/

theorem fill_all (size : Nat) : ∀ (vs : List Value) (k : Nat) (pre z : List Value), pre.length = k * size → z.length = vs.length * size → (∀ v ∈ vs, v.cells.toList.length = size) →
    Instr.fill (fun i => some (i * size, size)) ⟨pre ++ z⟩ ((vs.zipIdx k).map fun x => (x.2, x.1)) = some ⟨pre ++ vs.flatMap (·.cells.toList)⟩
  | [], k, pre, z, h1, h2, _ => by
    have : z = [] := List.eq_nil_of_length_eq_zero (by simpa using h2)
    subst this
    simp [Instr.fill]
  | v :: vs, k, pre, z, h1, h2, h3 => by
    have hv := h3 v (List.mem_cons_self ..)
    have hz : size ≤ z.length := by rw [h2, List.length_cons, Nat.succ_mul]; omega
    simp only [List.zipIdx_cons, List.map_cons]
    rw [fill_step _ _ _ _ _ (k * size) size rfl hv (by rw [hv, List.length_append, h1]; omega)]
    have e1 : (pre ++ z).take (k * size) = pre := by rw [← h1, List.take_left]
    have e2 : (pre ++ z).drop (k * size + v.cells.toList.length) = z.drop size := by
      rw [hv, ← h1, List.drop_append, List.drop_of_length_le (by omega)]
      simp
    rw [e1, e2, fill_all size vs (k + 1) (pre ++ v.cells.toList) (z.drop size) (by rw [List.length_append, h1, hv, Nat.succ_mul])
      (by rw [List.length_drop, h2, List.length_cons, Nat.succ_mul]; omega) (fun u hu => h3 u (List.mem_cons_of_mem _ hu))]
    simp

theorem St.newRow {w0 : World} {R : Nat → Nat → Prop} {av : Nat → Prop} {w : World} {bs : List (Nat × Nat)} {cs : List (List Value)} {F : Fx} (h : St w0 R av w bs cs F) (c : List Value) (e : TypeId) :
    St w0 R av { w with heap := w.heap.push (.cells c.toArray e) } bs cs ⟨F.D, F.rs ++ [(w.heap.size, Row.c c)]⟩ := by
  have hk : Keep w { w with heap := w.heap.push (.cells c.toArray e) } :=
    keep_of_heap rfl rfl rfl (by simp) (fun b hb => by simp [Array.getElem?_push, Nat.ne_of_lt hb])
  refine (h.kept (F' := ⟨fun _ => True, [(w.heap.size, Row.c c)]⟩) hk ⟨fun r hr => ?_, by simp, .pure trivial⟩).ent (Ent.imp fun w h => h.1)
  simp at hr
  subst hr
  exact ⟨⟨e, by simp⟩, Nat.le_refl _⟩

/-- A row that the function owns (or nil): n elements of sz cells, L; the block's cells are C. -/
structure Own (sz n : Nat) (a : Option Addr) (cap : Nat) (C L : List Value) : Prop where
  len : L.length = n * sz
  fit : n ≤ cap
  alt : (a = none ∧ C = [] ∧ cap = 0) ∨ ∃ b, a = some ⟨b, 0, none⟩ ∧ C.length = cap * sz ∧ C.take (n * sz) = L

def orow (a : Option Addr) (C : List Value) : List (Nat × Row) := match a with
  | none => []
  | some ad => [(ad.block, C)]

theorem Own.nil (sz : Nat) : Own sz 0 none 0 [] [] := ⟨by simp, Nat.le_refl _, .inl ⟨rfl, rfl, rfl⟩⟩

theorem Own.full {sz n : Nat} {b : Nat} {L : List Value} (h : L.length = n * sz) : Own sz n (some ⟨b, 0, none⟩) n L L :=
  ⟨h, Nat.le_refl _, .inr ⟨b, rfl, h, by rw [← h]; simp⟩⟩

theorem Own.none_nil {sz n : Nat} {a : Option Addr} {cap : Nat} {C L : List Value} (h : Own sz n a cap C L) (ha : a = none) : n = 0 := by
  rcases h.alt with ⟨_, _, h1⟩ | ⟨b, h1, _⟩
  · have := h.fit; omega
  · rw [ha] at h1; cases h1

section
variable {P : Program} {tab : Tab} {w0 : World} {R : Nat → Nat → Prop} {av : Nat → Prop} {bs : List (Nat × Nat)} {cs : List (List Value)} {F : Fx}

theorem Own.at {w : World} {sz n : Nat} {a : Option Addr} {cap : Nat} {C L : List Value} (h : Own sz n a cap C L) {r1 r2 : List (Nat × Row)} {D : World → Prop}
    (hst : St w0 R av w bs cs ⟨D, r1 ++ orow a C ++ r2⟩) : RowAt w a L := by
  rcases h.alt with ⟨rfl, rfl, h3⟩ | ⟨b, rfl, h2, h3⟩
  · have : n = 0 := by have := h.fit; omega
    have hl := h.len
    rw [this] at hl
    exact List.eq_nil_of_length_eq_zero (by simpa using hl)
  · have hm : (b, Row.c C) ∈ r1 ++ orow (some ⟨b, 0, none⟩) C ++ r2 := by simp [orow]
    rw [← h3]
    exact (RowAt.of_row (hst.rows _ hm).1).take _

/-- An owned row is looked at. -/
theorem Own.sees {sz n : Nat} {a : Option Addr} {cap : Nat} {C L : List Value} (h : Own sz n a cap C L) {r1 r2 : List (Nat × Row)} {D : World → Prop} :
    Sees w0 R av bs cs ⟨D, r1 ++ orow a C ++ r2⟩ a L := fun w hst => h.at hst

/-- An owned row is given up for a fact. -/
theorem Own.share {sz n : Nat} {a : Option Addr} {cap : Nat} {C L : List Value} (h : Own sz n a cap C L) {r1 r2 : List (Nat × Row)} {D : World → Prop} :
    Ent ⟨D, r1 ++ orow a C ++ r2⟩ ⟨fun w => D w ∧ RowAt w a L, r1 ++ r2⟩ := by
  intro w0 R av w bs cs hst
  have hat := h.at hst
  have hle : Fx.Le ⟨D, r1 ++ orow a C ++ r2⟩ ⟨D, r1 ++ r2⟩ := ⟨by
    show (r1 ++ r2).Sublist (r1 ++ orow a C ++ r2)
    exact List.Sublist.append (List.sublist_append_left _ _) (List.Sublist.refl _), fun _ h => h⟩
  have h2 := hst.imp hle
  refine ⟨h2.keep, h2.box, h2.nd, h2.own, h2.avlt, h2.rows, Holds.and h2.data ?_⟩
  rcases h.alt with ⟨rfl, rfl, h3⟩ | ⟨b, rfl, h2', h3⟩
  · exact Holds.pure (p := L = []) hat
  · refine hat.holds ?_
    have hnd := hst.nd
    simp only [orow, List.map_append, List.map_cons, List.map_nil] at hnd
    have hm : (b, Row.c C) ∈ r1 ++ orow (some ⟨b, 0, none⟩) C ++ r2 := by simp [orow]
    have hb0 := (hst.rows _ hm).2
    rintro (hb | ⟨x, hx, he⟩ | ⟨r, hr, he⟩)
    · rcases hb0 with hb0 | hb0
      · have h7 := hst.avlt b hb
        simp at hb0
        omega
      · exact hb0.1 hb
    · rw [List.nodup_append] at hnd
      exact hnd.2.2 x.1 (List.mem_map.2 ⟨x, hx, rfl⟩) b (by simp) he
    · rw [List.nodup_append] at hnd
      have h8 := hnd.2.1
      rw [List.append_assoc, List.nodup_append] at h8
      rcases List.mem_append.1 hr with hr | hr
      · exact h8.2.2 r.1 (List.mem_map.2 ⟨r, hr, rfl⟩) b (by simp) he
      · have := h8.2.1
        simp only [List.singleton_append, List.nodup_cons] at this
        exact this.1 (List.mem_map.2 ⟨r, hr, he⟩)

end
end Go.Sx
namespace Go.Sx
set_option linter.unusedVariables false

section
variable {P : Program} {tab : Tab} {w0 : World} {R : Nat → Nat → Prop} {av : Nat → Prop} {bs : List (Nat × Nat)} {cs : List (List Value)} {F : Fx}

theorem run_newRow (w : World) (e : TypeId) (c : List Value) : (newRow e ⟨c⟩).run P w = .ok ⟨w.heap.size, 0, none⟩ { w with heap := w.heap.push (.cells c.toArray e) } := rfl

/-- []T{..}, or the row of one that append takes: a row of the function's own. -/
theorem XVal.build (hT : TabOk P tab) {t : TypeId} {ti te : TI} {e : TypeId} (ht : look tab t = some ti) (hk : ti.k = .slice e) (he : look tab e = some te) {ps : List (Nat × Value)} {n : Nat} {K : KV} (vs : List Value)
    (hps : ps = vs.zipIdx.map fun x => (x.2, x.1)) (hn : n = vs.length) (hsz : ∀ v ∈ vs, v.cells.toList.length = te.size) (hroom : n * te.size ≤ 2 ^ 24)
    (h : ∀ b, K (.slice (some ⟨b, 0, none⟩) n n) bs cs ⟨F.D, F.rs ++ [(b, Row.c (vs.flatMap (·.cells.toList)))]⟩) : XVal P w0 R av (Instr.buildSlice t n ⟨ps⟩) bs cs F K := by
  subst hps hn
  refine XVal_iff.2 fun w hst => ?_
  obtain ⟨i1, d1, z1, p1, p2, p3, p4, p5, p6, p7, p8⟩ := mkTI_parts (hT _ _ ht)
  obtain ⟨i2, d2, z2, q1, q2, q3, q4, q5, q6, q7, q8⟩ := mkTI_parts (hT _ _ he)
  rw [p4] at hk
  obtain rfl := slice_of hk
  refine ⟨_, _, [], cs, _, ?_, by rw [List.append_nil]; exact hst.newRow (vs.flatMap (·.cells.toList)) e, by rw [List.append_nil]; exact h _⟩
  unfold Instr.buildSlice
  rw [run_bind_ok (run_underlying' p2 w)]
  simp only
  rw [run_bind_ok (run_sizeOf q1 w), ← q5, if_neg (by omega)]
  have key : ∀ z : Array Value, (match Instr.fill (fun i => some (i * te.size, te.size)) (Array.map (fun x => z[x % z.size]!) (Array.range (vs.length * te.size))) (List.map (fun x => (x.snd, x.fst)) vs.zipIdx) with
      | some cells => do
        let r ← newRow e cells
        pure (Value.slice (some r) vs.length vs.length)
      | _ => stuck "buildSlice: a part of the wrong size" : Sem Value).run P w =
      .ok (.slice (some ⟨w.heap.size, 0, none⟩) vs.length vs.length) { w with heap := w.heap.push (.cells (vs.flatMap (·.cells.toList)).toArray e) } := by
    intro z
    have hf := fill_all te.size vs 0 [] ((List.range (vs.length * te.size)).map (z[· % z.size]!)) (by simp) (by simp) hsz
    simp only [List.nil_append] at hf
    have hr : (Array.range (vs.length * te.size)).map (z[· % z.size]!) = ⟨(List.range (vs.length * te.size)).map (z[· % z.size]!)⟩ := by
      apply Array.toList_inj.1
      simp
    rw [hr]
    simp only [hf]
    rw [run_bind_ok (run_newRow w e _)]
    rfl
  split
  · rw [run_bind_ok (run_pure P _ w)]
    exact key _
  · rw [run_bind_ok (run_zero q1 q3 w), run_bind_ok (run_pure P _ w)]
    exact key _

/-! ### append -/

theorem growBy_le (newLen : Nat) : ∀ (k c : Nat), c ≤ newLen + (newLen + 768) / 4 → Builtin.growBy newLen k c ≤ newLen + (newLen + 768) / 4
  | 0, c, h => h
  | k + 1, c, h => by
    unfold Builtin.growBy
    split
    · exact h
    · exact growBy_le newLen k _ (by omega)

theorem nextslicecap_le {need cap : Nat} (h : cap < need) : Builtin.nextslicecap need cap ≤ 2 * need + 1000 := by
  unfold Builtin.nextslicecap
  split
  · omega
  · split
    · omega
    · have := growBy_le need 4 cap (by omega)
      omega

theorem run_firstCells {w : World} {a : Option Addr} {n c m sz : Nat} {L : List Value} (h : RowAt w a L) (hL : L.length = m * sz) : (Builtin.firstCells sz m (.slice a n c)).run P w = .ok ⟨L⟩ w := by
  cases a with
  | none => rw [RowAt.nil_of h]; rfl
  | some ad =>
    show (loadCells ad (m * sz)).run P w = _
    rw [← hL]
    rcases h with rfl | h
    · rfl
    have hsp : ad.spot = none := h.1
    have h : RowAt w (some ad) L := .inr h
    obtain ⟨b, o, s⟩ := ad
    simp at hsp
    subst hsp
    refine run_loadCells L fun j hj => ?_
    have := h.cell hj
    rwa [Addr.add_none] at this

theorem zeroCells_len (z : List Value) (n : Nat) : (Builtin.zeroCells ⟨z⟩ n).toList.length = n * z.length := by
  unfold Builtin.zeroCells
  simp

theorem run_append_fits {w : World} {t xt ty e xe : TypeId} {i2 : TypeInfo} (ht : P.underlying t = some (.slice e)) (hx : P.underlying xt = some (.slice xe)) (he : P.info? e = some i2) {a p : Option Addr} {n cap m cx : Nat}
    (hfit : n + m ≤ cap) {M : List Value} (hM : RowAt w p M) (hl : M.length = m * i2.size) {w' : World} (hs : ∀ ad, a = some ad → (storeCells (ad.add (n * i2.size)) M).run P w = .ok () w') (hn : a = none → w' = w) :
    (Builtin.append_ #[t, xt] ty #[.slice a n cap, .slice p m cx]).run P w = .ok (.slice a (n + m) cap) w' := by
  unfold Builtin.append_
  simp only [show (#[t, xt] : Array TypeId)[0]? = some t from rfl, show (#[t, xt] : Array TypeId)[1]? = some xt from rfl, show ∀ u v : Value, (#[u, v] : Array Value)[0]? = some u from fun _ _ => rfl,
    show ∀ u v : Value, (#[u, v] : Array Value)[1]? = some v from fun _ _ => rfl]
  rw [run_bind_ok (run_underlying' ht w)]
  simp only
  rw [run_bind_ok (run_sizeOf he w), run_bind_ok (run_underlying' hx w), run_bind_ok (run_pure P _ w)]
  simp only [Bool.false_eq_true, if_false, Bool.not_false, if_true]
  rw [run_bind_ok (m := Builtin.lenOf (.slice p m cx)) (a := m) (w' := w) rfl]
  rw [if_pos hfit]
  rw [run_bind_ok (run_firstCells hM hl)]
  cases a with
  | none => rw [hn rfl]; rfl
  | some ad =>
    simp only
    rw [run_bind_ok (hs ad rfl)]
    rfl

theorem run_askRoom (w : World) (n : Nat) : (askRoom n).run P w = .ok () w := by
  unfold askRoom
  split <;> rfl

theorem run_append_growsG {w : World} {t xt ty e xe : TypeId} {i2 : TypeInfo} {z : Value} (ht : P.underlying t = some (.slice e)) (hx : P.underlying xt = some (.slice xe)) (he : P.info? e = some i2) (hz : i2.zero = some z)
    {a p : Option Addr} {n cap m cx : Nat} (hfit : ¬ n + m ≤ cap) {L M : List Value} (hL : RowAt w a L) (hl : L.length = n * i2.size) (hM : RowAt w p M) (hm : M.length = m * i2.size) (hlen : n + m ≤ 4611686018427387904)
    (hroom : Builtin.nextslicecap (n + m) cap * i2.bytes ≤ 2 ^ 48) :
    ∃ newCap, n + m ≤ newCap ∧ (Builtin.append_ #[t, xt] ty #[.slice a n cap, .slice p m cx]).run P w =
      .ok (.slice (some ⟨w.heap.size, 0, none⟩) (n + m) newCap)
        { w with heap := w.heap.push (.cells (L ++ M ++ (Builtin.zeroCells z.cells (newCap - (n + m))).toList).toArray e), drawn := w.drawn + 1 } := by
  refine ⟨Question.cut (.appendCap (n + m) cap e) (w.tape w.drawn (.appendCap (n + m) cap e)), by simp [Question.cut], ?_⟩
  have hcap : ¬ Builtin.nextslicecap (n + m) cap * i2.bytes > 2 ^ 48 := by omega
  have hmax : ¬ ((n + m : Nat) : Int) > IntKind.i64.max := by
    have : IntKind.i64.max = 9223372036854775807 := by decide
    rw [this]
    omega
  unfold Builtin.append_
  simp only [show (#[t, xt] : Array TypeId)[0]? = some t from rfl, show (#[t, xt] : Array TypeId)[1]? = some xt from rfl, show ∀ u v : Value, (#[u, v] : Array Value)[0]? = some u from fun _ _ => rfl,
    show ∀ u v : Value, (#[u, v] : Array Value)[1]? = some v from fun _ _ => rfl]
  rw [run_bind_ok (run_underlying' ht w)]
  simp only
  rw [run_bind_ok (run_sizeOf he w), run_bind_ok (run_underlying' hx w), run_bind_ok (run_pure P _ w)]
  simp only [Bool.false_eq_true, if_false, Bool.not_false, if_true]
  rw [run_bind_ok (m := Builtin.lenOf (.slice p m cx)) (a := m) (w' := w) rfl]
  rw [if_neg hfit]
  rw [run_bind_ok (run_typeInfo he w), if_neg (fun h => hmax h.1)]
  rw [run_bind_ok (run_typeInfo he w), if_neg hcap]
  rw [run_bind_ok (m := choose _) (w' := { w with drawn := w.drawn + 1 }) rfl]
  rw [run_bind_ok (run_typeInfo he _), run_bind_ok (run_askRoom _ _)]
  rw [run_bind_ok (run_firstCells (L := L) (by exact hL) hl), run_bind_ok (run_firstCells (L := M) (by exact hM) hm)]
  rw [run_bind_ok (run_zero he hz _)]
  have hc : (⟨L⟩ : Array Value) ++ ⟨M⟩ ++ Builtin.zeroCells z.cells (Question.cut (.appendCap (n + m) cap e) (w.tape w.drawn (.appendCap (n + m) cap e)) - (n + m)) =
      ⟨L ++ M ++ (Builtin.zeroCells z.cells (Question.cut (.appendCap (n + m) cap e) (w.tape w.drawn (.appendCap (n + m) cap e)) - (n + m))).toList⟩ := by
    apply Array.toList_inj.1
    simp
  rw [hc, run_bind_ok (run_newRow _ e _)]
  rfl

theorem run_append_grows {w : World} {t xt ty e xe : TypeId} {i2 : TypeInfo} {z : Value} (ht : P.underlying t = some (.slice e)) (hx : P.underlying xt = some (.slice xe)) (he : P.info? e = some i2) (hz : i2.zero = some z)
    {a p : Option Addr} {n cap m cx : Nat} (hfit : ¬ n + m ≤ cap) {L M : List Value} (hL : RowAt w a L) (hl : L.length = n * i2.size) (hM : RowAt w p M) (hm : M.length = m * i2.size) (hlen : n + m ≤ 4611686018427387904)
    (hroom : (2 * (n + m) + 1000) * i2.bytes ≤ 2 ^ 48) :
    ∃ newCap, n + m ≤ newCap ∧ (Builtin.append_ #[t, xt] ty #[.slice a n cap, .slice p m cx]).run P w =
      .ok (.slice (some ⟨w.heap.size, 0, none⟩) (n + m) newCap)
        { w with heap := w.heap.push (.cells (L ++ M ++ (Builtin.zeroCells z.cells (newCap - (n + m))).toList).toArray e), drawn := w.drawn + 1 } :=
  run_append_growsG ht hx he hz hfit hL hl hM hm hlen (by
    have := Nat.mul_le_mul_right i2.bytes (nextslicecap_le (need := n + m) (cap := cap) (by omega))
    omega)

end
end Go.Sx
namespace Go.Sx
set_option linter.unusedVariables false

section
variable {P : Program} {tab : Tab} {w0 : World} {R : Nat → Nat → Prop} {av : Nat → Prop} {bs : List (Nat × Nat)} {cs : List (List Value)}

theorem Ent.perm {D : World → Prop} {rs rs' : List (Nat × Row)} (h : rs.Perm rs') : Ent ⟨D, rs⟩ ⟨D, rs'⟩ := by
  intro w0 R av w bs cs hst
  have hm : ∀ r, r ∈ rs' → r ∈ rs := fun r hr => h.mem_iff.2 hr
  refine ⟨hst.keep, hst.box, ?_, hst.own, hst.avlt, fun r hr => hst.rows r (hm r hr), hst.data.less fun b hb => ?_⟩
  · exact (List.Perm.nodup_iff (List.Perm.append (List.Perm.refl _) (h.map _))).1 hst.nd
  · rcases hb with hb | hb | ⟨r, hr, rfl⟩
    · exact .inl hb
    · exact .inr (.inl hb)
    · exact .inr (.inr ⟨r, hm r hr, rfl⟩)

theorem St.drew {w : World} {F : Fx} (h : St w0 R av w bs cs F) : St w0 R av { w with drawn := w.drawn + 1 } bs cs F :=
  h.keptD ⟨rfl, rfl, rfl, Nat.le_refl _, fun b o ho => ⟨o, ho, .refl _ _⟩⟩

/-- A row of the function's own takes new cells. -/
theorem St.putRow {w w' : World} {D : World → Prop} {r1 r2 : List (Nat × Row)} {b : Nat} {C C' : Row} (h : St w0 R av w bs cs ⟨D, r1 ++ [(b, C)] ++ r2⟩) (h1 : w'.os = w.os) (h2 : w'.tape = w.tape)
    (h3 : w'.output = w.output) (h4 : w'.heap.size = w.heap.size) (h5 : ∀ k, k ≠ b → w'.heap[k]? = w.heap[k]?) (h6 : RowIs w' b C') (h7 : ∀ l, C = Row.c l → (∃ l', C' = Row.c l') ∧ ∃ e a a', w.heap[b]? = some (.cells a e (0, 0)) ∧ w'.heap[b]? = some (.cells a' e (0, 0)) ∧ a'.size = a.size)
    (h8 : ∀ es k, C = Row.m es k → ∃ es' k', C' = Row.m es' k' := by intro es k hh; first | (cases hh; done) | exact ⟨_, _, rfl⟩) : St w0 R av w' bs cs ⟨D, r1 ++ [(b, C')] ++ r2⟩ := by
  have hb0 := (h.rows (b, C) (by simp)).2
  have hnd := h.nd
  simp only [List.map_append, List.map_cons, List.map_nil] at hnd
  have hnb : ∀ x ∈ bs, x.1 ≠ b := fun x hx he => by
    rw [List.nodup_append] at hnd
    exact hnd.2.2 x.1 (List.mem_map.2 ⟨x, hx, rfl⟩) b (by simp) he
  have hnr : ∀ r, r ∈ r1 ∨ r ∈ r2 → r.1 ≠ b := fun r hr he => by
    rw [List.nodup_append] at hnd
    have h8 := hnd.2.1
    rw [List.append_assoc, List.nodup_append] at h8
    rcases hr with hr | hr
    · exact h8.2.2 r.1 (List.mem_map.2 ⟨r, hr, rfl⟩) b (by simp) he
    · have := h8.2.1
      simp only [List.singleton_append, List.nodup_cons] at this
      exact this.1 (List.mem_map.2 ⟨r, hr, he⟩)
  refine ⟨⟨h1.trans h.keep.os, h2.trans h.keep.tape, h3.trans h.keep.output, by rw [h4]; exact h.keep.size, fun k o ho => ?_⟩, h.box.of_same fun x hx => h5 _ (hnb x hx), ?_, h.own, h.avlt, fun r hr => ?_, ?_⟩
  · obtain ⟨o', ho', hs⟩ := h.keep.obj k o ho
    have hlt := lt_of_some ho
    by_cases hkb : k = b
    · subst hkb
      rcases hb0 with hb0 | ⟨_, hR, ⟨l, hC⟩ | ⟨es, kk, hC⟩⟩
      · simp at hb0
        omega
      · obtain ⟨_, e, a, a', g1, g2, g3⟩ := h7 l hC
        rw [g1] at ho'
        cases ho'
        exact ⟨_, g2, hs.trans (.inr (.inl ⟨a, a', e, _, rfl, rfl, g3, fun i hi => absurd (hR i) hi⟩))⟩
      · have hC : C = Row.m es kk := hC
        obtain ⟨es', k', hC'⟩ := h8 es kk hC
        have g1 := (h.rows (k, C) (by simp)).1
        dsimp only at g1
        rw [hC] at g1
        rw [hC'] at h6
        have g1 : w.heap[k]? = some (.map es kk) := g1
        have g2 : w'.heap[k]? = some (.map es' k') := h6
        rw [g1] at ho'
        cases ho'
        exact ⟨_, g2, hs.trans (.inr (.inr ⟨hR, es, kk, es', k', rfl, rfl⟩))⟩
    · exact ⟨o', by rw [h5 k hkb]; exact ho', hs⟩
  · simpa only [List.map_append, List.map_cons, List.map_nil] using hnd
  · simp only [List.mem_append, List.mem_singleton] at hr
    rcases hr with (hr | rfl) | hr
    · have := h.rows r (by simp [hr])
      exact ⟨this.1.of_same (h5 _ (hnr r (.inl hr))), this.2⟩
    · refine ⟨h6, hb0.imp id fun ⟨q1, q2, q3⟩ => ⟨q1, q2, q3.elim (fun ⟨l, q3⟩ => .inl (h7 l q3).1) fun ⟨es, k, q3⟩ => .inr (h8 es k q3)⟩⟩
    · have := h.rows r (by simp [hr])
      exact ⟨this.1.of_same (h5 _ (hnr r (.inr hr))), this.2⟩
  · refine h.data.move (by omega) (fun k hk hna => h5 k fun he => hna (.inr (.inr ⟨(b, C), by simp, he.symm⟩))) (fun k hk => .inl ?_)
    rcases hk with hk | hk | ⟨r, hr, rfl⟩
    · exact .inl hk
    · exact .inr (.inl hk)
    · simp only [List.mem_append, List.mem_singleton] at hr
      rcases hr with (hr | rfl) | hr
      · exact .inr (.inr ⟨r, by simp [hr], rfl⟩)
      · exact .inr (.inr ⟨(b, C), by simp, rfl⟩)
      · exact .inr (.inr ⟨r, by simp [hr], rfl⟩)

/-- append(s, x...), s a row of the function's own (or nil). -/
theorem XVal.appendG (hT : TabOk P tab) {t xt ty : TypeId} {ti tx te : TI} {e xe : TypeId} (ht : look tab t = some ti) (hk : ti.k = .slice e) (hx : look tab xt = some tx) (hxk : tx.k = .slice xe) (he : look tab e = some te)
    (hzl : te.zero.length = te.size) {D : World → Prop} {r1 r2 : List (Nat × Row)} {a p : Option Addr} {n cap m cx : Nat} {C L M : List Value} {K : KV} (own : Own te.size n a cap C L)
    (hM : Sees w0 R av bs cs ⟨D, r1 ++ orow a C ++ r2⟩ p M) (hm : M.length = m * te.size) (hone : ∀ v ∈ M, oneCell v = true) (hlen : n + m ≤ 4611686018427387904) (hroom : cap < n + m → Builtin.nextslicecap (n + m) cap * te.bytes ≤ 2 ^ 48)
    (h : ∀ a' cap' C', Own te.size (n + m) a' cap' C' (L ++ M) → K (.slice a' (n + m) cap') bs cs ⟨D, r1 ++ orow a' C' ++ r2⟩) :
    XVal P w0 R av (Builtin.append_ #[t, xt] ty #[.slice a n cap, .slice p m cx]) bs cs ⟨D, r1 ++ orow a C ++ r2⟩ K := by
  refine XVal_iff.2 fun w hst => ?_
  obtain ⟨i1, d1, z1, p1, p2, p3, p4, p5, p6, p7, p8⟩ := mkTI_parts (hT _ _ ht)
  obtain ⟨i3, d3, z3, o1, o2, o3, o4, o5, o6, o7, o8⟩ := mkTI_parts (hT _ _ hx)
  obtain ⟨i2, d2, z2, q1, q2, q3, q4, q5, q6, q7, q8⟩ := mkTI_parts (hT _ _ he)
  rw [p4] at hk
  rw [o4] at hxk
  obtain rfl := slice_of hk
  obtain rfl := slice_of hxk
  have hMw := hM w hst
  have hLw := own.at hst
  by_cases hfit : n + m ≤ cap
  · rcases own.alt with ⟨rfl, rfl, hc0⟩ | ⟨b, rfl, hCl, hCt⟩
    · have hn0 : n = 0 := by omega
      have hm0 : m = 0 := by omega
      subst hn0 hm0
      have hM0 : M = [] := List.eq_nil_of_length_eq_zero (by simpa using hm)
      have hL0 : L = [] := List.eq_nil_of_length_eq_zero (by simpa using own.len)
      subst hM0 hL0 hc0
      refine ⟨_, w, [], cs, _, run_append_fits p2 o2 q1 (by omega) hMw (by simp) (w' := w) (fun ad h => by cases h) (fun _ => rfl), by rw [List.append_nil]; exact hst, by
        rw [List.append_nil]; exact h none 0 [] (Own.nil _)⟩
    · have hrow := (hst.rows (b, C) (by simp [orow])).1
      obtain ⟨et, hrow⟩ := hrow
      have hsz : 0 + n * te.size + 0 + M.length ≤ C.toArray.size := by
        simp only [List.size_toArray]
        rw [hCl, hm, Nat.zero_add, Nat.add_zero, ← Nat.add_mul]
        exact Nat.mul_le_mul_right _ hfit
      obtain ⟨w', g1, g2, g3, g4, g5, g6, arr', g7, g8, g9⟩ := run_storeCells (P := P) (b := b) (o := 0 + n * te.size) M 0 w C.toArray et hrow hone hsz
      have hO : Own te.size (n + m) (some ⟨b, 0, none⟩) cap (C.take (n * te.size) ++ M ++ C.drop ((n + m) * te.size)) (L ++ M) := by
        have hle : n * te.size + m * te.size ≤ C.length := by rw [hCl, ← Nat.add_mul]; exact Nat.mul_le_mul_right _ hfit
        have hadd : (n + m) * te.size = n * te.size + m * te.size := Nat.add_mul ..
        refine ⟨by rw [List.length_append, own.len, hm, Nat.add_mul], hfit, .inr ⟨b, rfl, ?_, ?_⟩⟩
        · simp only [List.length_append, List.length_take, List.length_drop]
          omega
        · rw [hCt, hadd, List.take_append_of_le_length (by rw [List.length_append, own.len, hm]; exact Nat.le_refl _)]
          rw [List.take_of_length_le (by rw [List.length_append, own.len, hm]; exact Nat.le_refl _)]
      refine ⟨_, w', [], cs, _, run_append_fits p2 o2 q1 hfit hMw (by rw [← q5]; exact hm) (w' := w') (fun ad had => ?_) (fun h => by cases h), ?_, by
        rw [List.append_nil]; exact h _ _ _ hO⟩
      · cases had
        rw [Addr.add_none, ← q5]
        exact g1
      · rw [List.append_nil]
        refine hst.putRow (C := Row.c C) (C' := Row.c _) g2 g3 g4 g5 g6 ⟨et, ?_⟩ fun l hl => ⟨⟨_, rfl⟩, et, _, _, hrow, g7, g8⟩
        rw [g7]
        congr 2
        apply Array.ext_getElem?
        intro j
        rw [g9 j]
        have hle : n * te.size + m * te.size ≤ C.length := by rw [hCl, ← Nat.add_mul]; exact Nat.mul_le_mul_right _ hfit
        have hadd : (n + m) * te.size = n * te.size + m * te.size := Nat.add_mul ..
        simp only [Nat.zero_add, Nat.add_zero, List.getElem?_toArray]
        by_cases hin : n * te.size ≤ j ∧ j < n * te.size + M.length
        · rw [if_pos hin, List.append_assoc, List.getElem?_append_right (by simp only [List.length_take]; omega), List.getElem?_append_left (by simp only [List.length_take]; omega)]
          congr 1
          simp only [List.length_take]
          omega
        · rw [if_neg hin]
          by_cases hlt : j < n * te.size
          · rw [List.append_assoc, List.getElem?_append_left (by simp only [List.length_take]; omega), List.getElem?_take, if_pos hlt]
          · rw [List.getElem?_append_right (by simp only [List.length_take, List.length_append]; omega), List.getElem?_drop]
            congr 1
            simp only [List.length_take, List.length_append]
            omega
  · obtain ⟨newCap, hc, hrun⟩ := run_append_growsG (w := w) (ty := ty) p2 o2 q1 q3 (cx := cx) hfit hLw (by rw [← q5]; exact own.len) hMw (by rw [← q5]; exact hm) hlen (by rw [← q7]; exact hroom (by omega))
    have hO : Own te.size (n + m) (some ⟨w.heap.size, 0, none⟩) newCap (L ++ M ++ (Builtin.zeroCells z2.cells (newCap - (n + m))).toList) (L ++ M) := by
      refine ⟨by rw [List.length_append, own.len, hm, Nat.add_mul], hc, .inr ⟨_, rfl, ?_, ?_⟩⟩
      · have hzc : z2.cells = ⟨te.zero⟩ := by rw [q6]
        rw [List.length_append, List.length_append, own.len, hm, hzc, zeroCells_len, hzl, ← Nat.add_mul, ← Nat.add_mul]
        congr 1
        omega
      · rw [List.take_append_of_le_length (by rw [List.length_append, own.len, hm, Nat.add_mul]; exact Nat.le_refl _)]
        rw [List.take_of_length_le (by rw [List.length_append, own.len, hm, Nat.add_mul]; exact Nat.le_refl _)]
    refine ⟨_, _, [], cs, _, hrun, ?_, by rw [List.append_nil]; exact h _ _ _ hO⟩
    · rw [List.append_nil]
      have hle : Fx.Le ⟨D, r1 ++ orow a C ++ r2⟩ ⟨D, r1 ++ r2⟩ := ⟨List.Sublist.append (List.sublist_append_left _ _) (List.Sublist.refl _), fun _ h => h⟩
      have h1 := ((hst.imp hle).newRow (L ++ M ++ (Builtin.zeroCells z2.cells (newCap - (n + m))).toList) e).drew
      refine h1.ent (Ent.perm ?_)
      have hp : ∀ x : Nat × Row, (r1 ++ r2 ++ [x]).Perm (r1 ++ [x] ++ r2) := fun x => by
        rw [List.append_assoc, List.append_assoc]
        exact List.Perm.append (List.Perm.refl _) List.perm_append_comm
      exact hp _

/-- append(s, x...), s a row of the function's own (or nil). -/
theorem XVal.append (hT : TabOk P tab) {t xt ty : TypeId} {ti tx te : TI} {e xe : TypeId} (ht : look tab t = some ti) (hk : ti.k = .slice e) (hx : look tab xt = some tx) (hxk : tx.k = .slice xe) (he : look tab e = some te)
    (hzl : te.zero.length = te.size) {D : World → Prop} {r1 r2 : List (Nat × Row)} {a p : Option Addr} {n cap m cx : Nat} {C L M : List Value} {K : KV} (own : Own te.size n a cap C L)
    (hM : Sees w0 R av bs cs ⟨D, r1 ++ orow a C ++ r2⟩ p M) (hm : M.length = m * te.size) (hone : ∀ v ∈ M, oneCell v = true) (hlen : n + m ≤ 4611686018427387904) (hroom : (2 * (n + m) + 1000) * te.bytes ≤ 2 ^ 48)
    (h : ∀ a' cap' C', Own te.size (n + m) a' cap' C' (L ++ M) → K (.slice a' (n + m) cap') bs cs ⟨D, r1 ++ orow a' C' ++ r2⟩) :
    XVal P w0 R av (Builtin.append_ #[t, xt] ty #[.slice a n cap, .slice p m cx]) bs cs ⟨D, r1 ++ orow a C ++ r2⟩ K :=
  XVal.appendG hT ht hk hx hxk he hzl own hM hm hone hlen (fun hc => by
    have := Nat.mul_le_mul_right te.bytes (nextslicecap_le (need := n + m) (cap := cap) hc)
    omega) h

/-- append(s, x...) that must make a new array. -/
theorem XVal.appendNew (hT : TabOk P tab) {t xt ty : TypeId} {ti tx te : TI} {e xe : TypeId} (ht : look tab t = some ti) (hk : ti.k = .slice e) (hx : look tab xt = some tx) (hxk : tx.k = .slice xe) (he : look tab e = some te)
    (hzl : te.zero.length = te.size) {F : Fx} {a p : Option Addr} {n cap m cx : Nat} {L M : List Value} {K : KV} (hL : Sees w0 R av bs cs F a L) (hl : L.length = n * te.size)
    (hM : Sees w0 R av bs cs F p M) (hm : M.length = m * te.size) (hc : cap < n + m) (hlen : n + m ≤ 4611686018427387904) (hroom : (2 * (n + m) + 1000) * te.bytes ≤ 2 ^ 48)
    (h : ∀ b cap' C', Own te.size (n + m) (some ⟨b, 0, none⟩) cap' C' (L ++ M) → K (.slice (some ⟨b, 0, none⟩) (n + m) cap') bs cs ⟨F.D, F.rs ++ [(b, Row.c C')]⟩) :
    XVal P w0 R av (Builtin.append_ #[t, xt] ty #[.slice a n cap, .slice p m cx]) bs cs F K := by
  refine XVal_iff.2 fun w hst => ?_
  obtain ⟨i1, d1, z1, p1, p2, p3, p4, p5, p6, p7, p8⟩ := mkTI_parts (hT _ _ ht)
  obtain ⟨i3, d3, z3, o1, o2, o3, o4, o5, o6, o7, o8⟩ := mkTI_parts (hT _ _ hx)
  obtain ⟨i2, d2, z2, q1, q2, q3, q4, q5, q6, q7, q8⟩ := mkTI_parts (hT _ _ he)
  rw [p4] at hk
  rw [o4] at hxk
  obtain rfl := slice_of hk
  obtain rfl := slice_of hxk
  obtain ⟨newCap, hc, hrun⟩ := run_append_grows (w := w) (ty := ty) p2 o2 q1 q3 (cx := cx) (Nat.not_le.2 hc) (hL w hst) (by rw [← q5]; exact hl) (hM w hst) (by rw [← q5]; exact hm) hlen (by rw [← q7]; exact hroom)
  have hO : Own te.size (n + m) (some ⟨w.heap.size, 0, none⟩) newCap (L ++ M ++ (Builtin.zeroCells z2.cells (newCap - (n + m))).toList) (L ++ M) := by
    refine ⟨by rw [List.length_append, hl, hm, Nat.add_mul], hc, .inr ⟨_, rfl, ?_, ?_⟩⟩
    · have hzc : z2.cells = ⟨te.zero⟩ := by rw [q6]
      rw [List.length_append, List.length_append, hl, hm, hzc, zeroCells_len, hzl, ← Nat.add_mul, ← Nat.add_mul]
      congr 1
      omega
    · rw [List.take_append_of_le_length (by rw [List.length_append, hl, hm, Nat.add_mul]; exact Nat.le_refl _)]
      rw [List.take_of_length_le (by rw [List.length_append, hl, hm, Nat.add_mul]; exact Nat.le_refl _)]
  refine ⟨_, _, [], cs, _, hrun, ?_, by rw [List.append_nil]; exact h _ _ _ hO⟩
  rw [List.append_nil]
  exact (hst.newRow _ e).drew

end
end Go.Sx
namespace Go.Sx
set_option linter.unusedVariables false

section
variable {P : Program} {tab : Tab} {w0 : World} {R : Nat → Nat → Prop} {av : Nat → Prop} {bs : List (Nat × Nat)} {cs : List (List Value)} {F : Fx}

theorem eqGuard_slice (op : BinOp) (t : TypeId) (x y : Operand) (a b : Option Addr) (n m c d : Nat) (w : World) : (eqGuard op t x y (.slice a n c) (.slice b m d)).run P w = .ok () w := by
  cases op <;> rfl

theorem run_equalIn_nil {t e : TypeId} (h : P.underlying t = some (.slice e)) (d : Nat) (a : Option Addr) (n c : Nat) (w : World) : (Op.equalIn (d + 1) t (.slice a n c) (.slice none 0 0)).run P w = .ok a.isNone w := by
  unfold Op.equalIn
  rw [run_bind_ok (run_underlying' h w)]
  cases a <;> rfl

theorem run_equal_nil {t e : TypeId} (h : P.underlying t = some (.slice e)) (a : Option Addr) (n c : Nat) (w : World) : (Op.equal t (.slice a n c) (.slice none 0 0)).run P w = .ok a.isNone w :=
  run_equalIn_nil h 9999 a n c w

/-- s == nil -/
theorem XRead.eqNil (hT : TabOk P tab) {t e : TypeId} {ti : TI} (ht : look tab t = some ti) (hk : ti.k = .slice e) {x y : Operand} {a : Option Addr} {n c : Nat} {K : Value → Prop} (h : K (.bool a.isNone)) :
    XRead P w0 R av (do eqGuard .eql t x y (.slice a n c) (.slice none 0 0); binOp .eql t (.slice a n c) (.slice none 0 0)) bs cs F K := by
  refine (XRead_iff _ _ _ _).2 ⟨_, fun w _ => ?_, h⟩
  obtain ⟨i1, d1, z1, p1, p2, p3, p4, p5, p6, p7, p8⟩ := mkTI_parts (hT _ _ ht)
  rw [p4] at hk
  obtain rfl := slice_of hk
  rw [run_bind_ok (eqGuard_slice _ _ _ _ _ _ _ _ _ _ w)]
  show (do pure (Value.bool (← Op.equal t (.slice a n c) (.slice none 0 0))) : Sem Value).run P w = _
  rw [run_bind_ok (run_equal_nil p2 a n c w)]
  rfl

/-! ### strings out of bytes -/

def strV (l : List UInt8) : Value := .string ⟨⟨l⟩⟩

def stepB (c : Value) (s : ByteArray) : Sem (ForInStep ByteArray) := match c with
  | .int .u8 n => pure (ForInStep.yield (s.push (UInt8.ofNat n.toNat)))
  | _ => do
    stuck "bytesToString: byte expected"
    pure (ForInStep.yield s)

theorem stepB_byte (x : UInt8) (acc : List UInt8) : stepB (byteV x) ⟨⟨acc⟩⟩ = pure (ForInStep.yield ⟨⟨acc ++ [x]⟩⟩) := by
  unfold stepB byteV
  simp only
  congr 2
  have : UInt8.ofNat (x.toNat : Int).toNat = x := by simp
  rw [this]
  show ByteArray.mk (Array.push ⟨acc⟩ x) = _
  congr 1
  apply Array.toList_inj.1
  simp

theorem run_bytes_loop (w : World) : ∀ (l acc : List UInt8), (forIn (l.map byteV) (⟨⟨acc⟩⟩ : ByteArray) stepB : Sem ByteArray).run P w = .ok ⟨⟨acc ++ l⟩⟩ w
  | [], acc => by simp
  | x :: l, acc => by
    simp only [List.map_cons, List.forIn_cons, stepB_byte]
    rw [run_bind_ok (run_pure P _ w)]
    simp only
    rw [run_bytes_loop w l (acc ++ [x])]
    simp

theorem run_bytesToString {w : World} {a : Option Addr} {n c : Nat} {l : List UInt8} (h : RowAt w a (l.map byteV)) (hn : n = l.length) : (Conv.bytesToString (.slice a n c)).run P w = .ok (strV l) w := by
  cases a with
  | none =>
    have : l = [] := by simpa using RowAt.nil_of h
    subst this
    rfl
  | some ad =>
    have e : Conv.bytesToString (.slice (some ad) n c) = (do let cells ← loadCells ad n; let s ← forIn cells ByteArray.empty stepB; pure (.string s)) := rfl
    have hl : (loadCells ad n).run P w = .ok ⟨l.map byteV⟩ w := by
      have := run_firstCells (P := P) (n := n) (c := c) (m := n) (sz := 1) h (by simp [hn])
      simpa [Builtin.firstCells] using this
    rw [e, run_bind_ok hl, ← Array.forIn_toList]
    have hz := run_bytes_loop (P := P) w l []
    have he : (ByteArray.mk ⟨[]⟩) = ByteArray.empty := rfl
    rw [he] at hz
    rw [run_bind_ok hz]
    rfl

theorem string_of {d : TypeDesc} (h : mkTK d = .str) : d = .string := by
  cases d <;> simp [mkTK] at h
  rfl

/-- string(b) -/
theorem XRead.bytes (hT : TabOk P tab) {t u e : TypeId} {ti tu te : TI} (ht : look tab t = some ti) (hk : ti.k = .slice e) (hu : look tab u = some tu) (hs : tu.k = .str) (he : look tab e = some te) (hb : te.k = .int .u8)
    {a : Option Addr} {n c : Nat} {l : List UInt8} {K : Value → Prop} (hr : Sees w0 R av bs cs F a (l.map byteV)) (hn : n = l.length) (h : K (strV l)) : XRead P w0 R av (convert t u (.slice a n c)) bs cs F K := by
  refine (XRead_iff _ _ _ _).2 ⟨_, fun w hst => ?_, h⟩
  obtain ⟨i1, d1, z1, p1, p2, p3, p4, p5, p6, p7, p8⟩ := mkTI_parts (hT _ _ ht)
  obtain ⟨i3, d3, z3, o1, o2, o3, o4, o5, o6, o7, o8⟩ := mkTI_parts (hT _ _ hu)
  obtain ⟨i2, d2, z2, q1, q2, q3, q4, q5, q6, q7, q8⟩ := mkTI_parts (hT _ _ he)
  rw [p4] at hk
  rw [o4] at hs
  rw [q4] at hb
  obtain rfl := slice_of hk
  obtain rfl := string_of hs
  have hb' : d2 = .int .u8 := by cases d2 <;> simp [mkTK] at hb; rw [hb]
  subst hb'
  unfold convert
  rw [run_bind_ok (run_underlying' p2 w), run_bind_ok (run_underlying' o2 w)]
  simp only
  rw [run_bind_ok (run_underlying' q2 w)]
  exact run_bytesToString (hr w hst) hn

theorem eqGuard_str (op : BinOp) (t : TypeId) (x y : Operand) (a b : ByteArray) (w : World) : (eqGuard op t x y (.string a) (.string b)).run P w = .ok () w := by
  cases op <;> rfl

theorem toList_mk (l : List UInt8) : (ByteArray.mk ⟨l⟩).toList = l := by
  rw [ByteArray.toList_eq]

theorem XRead.strEq {t : TypeId} {x y : Operand} {l m : List UInt8} {K : Value → Prop} (h : K (.bool (l == m))) :
    XRead P w0 R av (do eqGuard .eql t x y (strV l) (strV m); binOp .eql t (strV l) (strV m)) bs cs F K := by
  refine (XRead_iff _ _ _ _).2 ⟨_, fun w _ => ?_, h⟩
  unfold strV
  rw [run_bind_ok (eqGuard_str _ _ _ _ _ _ w)]
  simp only [binOp, Op.stringOp, toList_mk]
  rfl

theorem XRead.strNe {t : TypeId} {x y : Operand} {l m : List UInt8} {K : Value → Prop} (h : K (.bool (!(l == m)))) :
    XRead P w0 R av (do eqGuard .neq t x y (strV l) (strV m); binOp .neq t (strV l) (strV m)) bs cs F K := by
  refine (XRead_iff _ _ _ _).2 ⟨_, fun w _ => ?_, h⟩
  unfold strV
  rw [run_bind_ok (eqGuard_str _ _ _ _ _ _ w)]
  simp only [binOp, Op.stringOp, toList_mk]
  rfl

theorem XRead.min {ts : Array TypeId} {ty : TypeId} {k : IntKind} {a b : Int} {K : Value → Prop} (h : K (.int k (if b < a then b else a))) :
    XRead P w0 R av (Builtin.min_ ts ty #[.int k a, .int k b]) bs cs F K := (XRead_iff _ _ _ _).2 ⟨_, fun w _ => rfl, h⟩

theorem int_of {d : TypeDesc} {k : IntKind} (h : mkTK d = .int k) : d = .int k := by
  cases d <;> simp [mkTK] at h
  rw [h]

end
end Go.Sx
namespace Go.Sx
set_option linter.unusedVariables false

/-- A slice's address and capacity. -/
structure Hd where
  a : Option Addr
  c : Nat

def Hd.nil : Hd := ⟨none, 0⟩

/-- The slice's value. -/
abbrev Hd.v (h : Hd) (n : Nat) : Value := .slice h.a n h.c

/-- What is known of a slice of n elements without looking at memory. -/
structure Hd.Ok (h : Hd) (n : Nat) : Prop where
  nil : h.a = none → n = 0
  cap : n ≤ h.c

theorem Hd.nil_ok : Hd.nil.Ok 0 := ⟨fun _ => rfl, Nat.le_refl _⟩

/-- The slice's bytes. -/
abbrev By (w : World) (h : Hd) (l : List UInt8) : Prop := RowAt w h.a (l.map byteV)

theorem By.nil (w : World) : By w Hd.nil [] := rfl

theorem byte_one {l : List UInt8} : ∀ v ∈ l.map byteV, oneCell v = true := by
  intro v hv
  obtain ⟨x, _, rfl⟩ := List.mem_map.1 hv
  rfl

/-- A new slice of bytes is handed back. -/
def RelB (l : List UInt8) (v : Value) (F : Fx) : Prop := ∃ h : Hd, v = h.v l.length ∧ h.Ok l.length ∧ F = ⟨fun w => By w h l, []⟩

theorem Own.hd {n : Nat} {a : Option Addr} {cap : Nat} {C L : List Value} (h : Own 1 n a cap C L) : (⟨a, cap⟩ : Hd).Ok n := ⟨h.none_nil, h.fit⟩

theorem wrap_i64 {n : Int} (h : -9223372036854775808 ≤ n ∧ n ≤ 9223372036854775807) : IntKind.i64.wrap n = n := by
  simp only [IntKind.wrap, IntKind.bits, IntKind.signed]
  have : (2 : Int) ^ 64 = 18446744073709551616 := by decide
  have : (2 : Int) ^ (64 - 1) = 9223372036854775808 := by decide
  simp only [*, Bool.true_and, decide_eq_true_eq]
  split <;> omega

section
variable {P : Program} {tab : Tab} {w0 : World} {R : Nat → Nat → Prop} {av : Nat → Prop} {bs : List (Nat × Nat)} {cs : List (List Value)} {F : Fx}

/-- b[i]'s address. -/
theorem XRead.byteAt (hT : TabOk P tab) {t : TypeId} {ti te : TI} {e : TypeId} (ht : look tab t = some ti) (hk : ti.k = .slice e) (he : look tab e = some te) (hsz : te.size = 1) {h : Hd} {n : Nat} {k : IntKind} {i : Int} {K : Value → Prop}
    (j : Nat) (hj : i = (j : Int)) (h1 : j < n) (hh : h.Ok n) (hK : ∀ ad, h.a = some ad → K (.pointer (some (ad.add j)))) : XRead P w0 R av (Instr.indexAt t (.slice h.a n h.c) (.int k i)) bs cs F K := by
  subst hj
  refine XRead.index hT ht hk he (by omega) (by omega) hh.nil fun ad had => ?_
  rw [hsz, Nat.mul_one]
  exact hK ad had

end

theorem cutA_zero (a : Option Addr) (m sz : Nat) : cutA a 0 m sz = a := by
  unfold cutA
  split
  · rfl
  · cases a with
    | none => rfl
    | some ad => simp [Addr.add]

end Go.Sx
namespace Go.Sx
set_option linter.unusedVariables false

theorem Ent.share1 {D : World → Prop} {b : Nat} {C : List Value} {rs : List (Nat × Row)} : Ent ⟨D, (b, C) :: rs⟩ ⟨fun w => D w ∧ RowAt w (some ⟨b, 0, none⟩) C, rs⟩ :=
  Own.share (sz := 1) (n := C.length) (cap := C.length) (a := some ⟨b, 0, none⟩) (r1 := []) (r2 := rs) (Own.full (by simp))

def RowsAt (w : World) : List (Nat × Row) → Prop
  | [] => True
  | (b, .c l) :: rs => RowAt w (some ⟨b, 0, none⟩) l ∧ RowsAt w rs
  | (_, .m _ _) :: rs => True ∧ RowsAt w rs
  | (_, .o _) :: rs => True ∧ RowsAt w rs

theorem Ent.shareAll : ∀ {rs : List (Nat × Row)} {D : World → Prop}, Ent ⟨D, rs⟩ ⟨fun w => D w ∧ RowsAt w rs, []⟩
  | [], D => Ent.imp fun w h => ⟨h, trivial⟩
  | (b, .m es k) :: rs, D => ((show Ent ⟨D, (b, .m es k) :: rs⟩ ⟨D, rs⟩ from Ent.of_le ⟨List.sublist_cons_self _ _, fun _ h => h⟩).trans Ent.shareAll).trans (Ent.imp fun w h => ⟨h.1, trivial, h.2⟩)
  | (b, .o x) :: rs, D => ((show Ent ⟨D, (b, .o x) :: rs⟩ ⟨D, rs⟩ from Ent.of_le ⟨List.sublist_cons_self _ _, fun _ h => h⟩).trans Ent.shareAll).trans (Ent.imp fun w h => ⟨h.1, trivial, h.2⟩)
  | (b, .c C) :: rs, D => (Ent.share1.trans Ent.shareAll).trans (Ent.imp fun w h => ⟨h.1.1, h.1.2, h.2⟩)

theorem Own.row {w : World} {sz n b cap : Nat} {C L : List Value} (h : Own sz n (some ⟨b, 0, none⟩) cap C L) (hr : RowAt w (some ⟨b, 0, none⟩) C) : RowAt w (some ⟨b, 0, none⟩) L := by
  rcases h.alt with ⟨h1, _⟩ | ⟨b', h1, _, h3⟩
  · cases h1
  · rw [← h3]; exact hr.take _

end Go.Sx
namespace Go.Sx
open Go
variable {P : Program} {tab : Tab} {w0 : World} {R : Nat → Nat → Prop} {av : Nat → Prop} {bs : List (Nat × Nat)} {cs : List (List Value)} {F : Fx}

/-- Appending no element to a slice changes nothing. -/
theorem XVal.append0 (hT : TabOk P tab) {t xt ty : TypeId} {ti tx te : TI} {e xe : TypeId} (ht : look tab t = some ti) (hk : ti.k = .slice e) (hx : look tab xt = some tx) (hxk : tx.k = .slice xe) (he : look tab e = some te)
    {a p : Option Addr} {n cap m cx : Nat} {K : KV} (hfit : n ≤ cap) (hm : m = 0) (hM : Sees w0 R av bs cs F p [])
    (h : K (.slice a n cap) bs cs F) : XVal P w0 R av (Builtin.append_ #[t, xt] ty #[.slice a n cap, .slice p m cx]) bs cs F K := by
  subst hm
  refine XVal_iff.2 fun w hst => ?_
  obtain ⟨i1, d1, z1, p1, p2, p3, p4, p5, p6, p7, p8⟩ := mkTI_parts (hT _ _ ht)
  obtain ⟨i3, d3, z3, o1, o2, o3, o4, o5, o6, o7, o8⟩ := mkTI_parts (hT _ _ hx)
  obtain ⟨i2, d2, z2, q1, q2, q3, q4, q5, q6, q7, q8⟩ := mkTI_parts (hT _ _ he)
  rw [p4] at hk
  rw [o4] at hxk
  obtain rfl := slice_of hk
  obtain rfl := slice_of hxk
  exact ⟨_, w, [], cs, _, run_append_fits p2 o2 q1 (m := 0) (M := []) hfit (hM w hst) (by simp) (w' := w) (fun ad _ => rfl) (fun _ => rfl), by rw [List.append_nil]; exact hst, by rw [List.append_nil]; exact h⟩

end Go.Sx
namespace Go.Sx
open Go
variable {P : Program} {tab : Tab} {w0 : World} {R : Nat → Nat → Prop} {av : Nat → Prop} {bs : List (Nat × Nat)} {cs : List (List Value)} {F F' : Fx}

theorem XCall.ent {f : FuncId} {vs : List Value} {K : KV} (h : Ent F F') (k : XCall P w0 R av f vs bs cs F' K) : XCall P w0 R av f vs bs cs F K :=
  XCall_iff.2 ⟨(XCall_iff.1 k).1, fun w hst => (XCall_iff.1 k).2 w (h _ _ _ _ _ _ hst)⟩

theorem XVal.ent {m : Sem Value} {K : KV} (h : Ent F F') (k : XVal P w0 R av m bs cs F' K) : XVal P w0 R av m bs cs F K :=
  XVal_iff.2 fun w hst => XVal_iff.1 k w (h _ _ _ _ _ _ hst)

theorem XStop.ent {c : Code} {tm : List SV} {K : Exit → KT} (h : Ent F F') (k : XStop P w0 R av c tm bs cs F' K) : XStop P w0 R av c tm bs cs F K :=
  XStop_iff.2 fun a w hf hst => XStop_iff.1 k a w hf (h _ _ _ _ _ _ hst)

end Go.Sx
