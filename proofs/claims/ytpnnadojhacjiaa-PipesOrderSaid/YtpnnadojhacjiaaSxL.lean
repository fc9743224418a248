/- Sx, part L: functions that write through a pointer; loops. -/
import Derived.Test.YtpnnadojhacjiaaSxK
namespace Go.Sx
set_option linter.unusedVariables false

/-! ### a pointer to a row of cells -/

def Rg (b o n : Nat) (k i : Nat) : Prop := k = b ∧ o ≤ i ∧ i < o + n

/-- A function that writes the cells at its pointer, and nothing else that was there. The pointer stands behind the arguments pre, ahead of post. -/
def PtrSpec (P : Program) (f : FuncId) (pre post : List Value) (c : List Value) (Pre : World → Prop) (Rel : Value → List Value → Fx → Prop) : Prop :=
  Callable P f ∧ ∀ (av : Nat → Prop) (w : World) (b o : Nat), (∀ x, av x → x < w.heap.size) → Range w b o c → Holds (fun x => av x ∨ x = b) w Pre →
    Calls P f (pre ++ .pointer (some ⟨b, o, none⟩) :: post).toArray w fun e w' => ∃ v c' D, e = .returned v ∧ KeepX (Rg b o c.length) w w' ∧ c'.length = c.length ∧ Range w' b o c' ∧
      FxOk (fun x => av x ∨ x = b) w.heap.size w' D ∧ Rel v c' D

def ptrFin (b o n : Nat) (Rel : Value → List Value → Fx → Prop) : Fin := fun v bs cs D => match bs, cs with
  | (b', o') :: _, c' :: _ => (b' = b ∧ o' = o ∧ c'.length = n) ∧ ∃ D', Ent D D' ∧ Rel v c' D'
  | _, _ => False

theorem nth_append_left {α : Type} (d : α) : ∀ (l m : List α) (i : Nat), i < l.length → nth d (l ++ m) i = nth d l i := by
  intro l m i h
  rw [nth_eq, nth_eq, List.getElem?_append_left h]

section
variable {P : Program} {tab : Tab} {w0 : World} {R : Nat → Nat → Prop} {av : Nat → Prop}

theorem PtrSpec.of_xc (hT : TabOk P tab) {f : FuncId} {fn : Func} (hfn : P.funcs[f]? = some fn) {c : Code} (hb : fn.body = some c) (hnm : (fn.name == "runtime.NumGoroutine") = false) {pre post : List Value} {svs : List SV}
    {n : Nat} (hn : fn.ntmps = pre.length + (post.length + 1) + n) (hsv : svs = pre.map SV.v ++ .p 0 0 :: post.map SV.v) {cells : List Value} {Pre : World → Prop} {Rel : Value → List Value → Fx → Prop}
    (h : ∀ w0 av b o, padK svs n fun tm => xc P tab w0 (Rg b o cells.length) av c tm [(b, o)] [cells] ⟨Pre, []⟩ (kEnd tab fn.results.toList (ptrFin b o cells.length Rel))) : PtrSpec P f pre post cells Pre Rel := by
  subst hsv
  refine ⟨⟨fn, hfn, by rw [hb]; rfl, hnm⟩, fun av w b o hav hr hpre => ?_⟩
  have hst : St w (Rg b o cells.length) av w [(b, o)] [cells] ⟨Pre, []⟩ := by
    refine ⟨KeepX.refl _ _, ⟨hr, trivial⟩, by simp, fun i hi => ?_, hav, fun r hr => by simp at hr, hpre.less fun x hx => ?_⟩
    · have : i = 0 := by simpa using hi
      subst this
      exact .inr fun j hj => ⟨rfl, by simp [nth], by simpa [nth] using hj⟩
    · rcases hx with hx | ⟨y, hy, rfl⟩ | ⟨y, hy, rfl⟩
      · exact .inl hx
      · simp at hy; subst hy; exact .inr rfl
      · simp at hy
  refine (calls_of_xc hT hfn hb (by simp only [List.length_append, List.length_cons]; exact hn) (by simp) (fun i hi => ?_) hst (h w av b o)).mono ?_
  · rw [nth_eq, nth_eq]
    by_cases h1 : i < pre.length
    · rw [List.getElem?_append_left (by simpa using h1), List.getElem?_append_left h1, List.getElem?_map, List.getElem?_eq_getElem h1]
      rfl
    · rw [List.getElem?_append_right (by simp; omega), List.getElem?_append_right (by omega)]
      simp only [List.length_map]
      cases hk : i - pre.length with
      | zero => exact ⟨by simp [ptr, nth], by simp⟩
      | succ k =>
        simp only [List.getElem?_cons_succ, List.getElem?_map]
        have : k < post.length := by simp at hi; omega
        rw [List.getElem?_eq_getElem this]
        rfl
  · rintro e w' ⟨v, bs', cs', D', rfl, h1, h2⟩
    unfold ptrFin at h2
    split at h2
    · rename_i b' o' bs c' cs
      obtain ⟨⟨rfl, rfl, hl⟩, D2, h3, h4⟩ := h2
      have h5 := h1.ent h3
      refine ⟨v, c', D2, rfl, h1.keep, hl, h1.box.1, ⟨h5.newRows fun k => ⟨o' + cells.length, fun hR => by have := hR.2.2; omega⟩, (List.nodup_append.1 h5.nd).2.1, h5.data.less fun x hx => ?_⟩, h4⟩
      rcases hx with (hx | rfl) | hx
      · exact .inl hx
      · exact .inr (.inl ⟨_, List.mem_cons_self .., rfl⟩)
      · exact .inr (.inr hx)
    · exact h2.elim

theorem Range.sub {w : World} {b o s : Nat} {c : List Value} (h : Range w b o c) (n : Nat) (hs : s + n ≤ c.length) : Range w b (o + s) ((c.drop s).take n) := by
  obtain ⟨arr, e, h1, h2⟩ := h
  refine ⟨arr, e, h1, fun j hj => ?_⟩
  simp at hj
  rw [List.getElem?_take, if_pos (by omega), List.getElem?_drop, Nat.add_assoc, h2 _ (by omega)]

/-- The box behind a call that wrote a part of it. -/
theorem Range.after {w w' : World} {b o s : Nat} {c c' : List Value} (h : Range w b o c) (hk : KeepX (Rg b (o + s) c'.length) w w') (hr : Range w' b (o + s) c') (hs : s + c'.length ≤ c.length) :
    Range w' b o (c.take s ++ c' ++ c.drop (s + c'.length)) := by
  obtain ⟨arr, e, h1, h2⟩ := h
  obtain ⟨arr', e', h1', h2'⟩ := hr
  refine ⟨arr', e', h1', fun j hj => ?_⟩
  simp only [List.length_append, List.length_take, List.length_drop] at hj
  by_cases hin : s ≤ j ∧ j < s + c'.length
  · have := h2' (j - s) (by omega)
    rw [show o + s + (j - s) = o + j from by omega] at this
    rw [this, List.append_assoc, List.getElem?_append_right (by simp only [List.length_take]; omega), List.getElem?_append_left (by simp only [List.length_take]; omega)]
    congr 1
    simp only [List.length_take]
    omega
  · obtain ⟨o', ho', hs'⟩ := hk.obj b _ h1
    rw [h1'] at ho'
    have hcell : arr'[o + j]? = arr[o + j]? := by
      rcases hs' with he | ⟨x, y, e1, f1, hx, hy, _, hi⟩
      · rw [← he] at ho'; cases ho'; rfl
      · rw [hy] at ho'
        cases ho'
        cases hx
        exact hi _ (fun hr => hin ⟨by have := hr.2.1; omega, by have := hr.2.2; omega⟩)
    rw [hcell, h2 j (by omega)]
    by_cases hlt : j < s
    · rw [List.append_assoc, List.getElem?_append_left (by simp only [List.length_take]; omega), List.getElem?_take, if_pos hlt]
    · rw [List.getElem?_append_right (by simp only [List.length_take, List.length_append]; omega), List.getElem?_drop]
      congr 1
      simp only [List.length_take, List.length_append]
      omega

/-- A box takes new cells, and more is known. -/
theorem St.put2 {w w' : World} {bs : List (Nat × Nat)} {cs : List (List Value)} {F F' : Fx} (h : St w0 R av w bs cs F) (i : Nat) (hi : i < bs.length) (c' : List Value) (hlen : c'.length = (nth [] cs i).length)
    (hw : KeepX (fun b o => b = (nth (0, 0) bs i).1 ∧ (nth (0, 0) bs i).2 ≤ o ∧ o < (nth (0, 0) bs i).2 + (nth [] cs i).length) w w')
    (hr : Range w' (nth (0, 0) bs i).1 (nth (0, 0) bs i).2 c') (hd : FxOk (Av av bs F.rs) w.heap.size w' F') : St w0 R av w' bs (cs.set i c') (F.and F') := by
  have hp := h.put i hi c' hlen hw hr
  refine ⟨hp.keep, hp.box, ?_, hp.own, hp.avlt, fun r hr => ?_, ?_⟩
  · show (bs.map (·.1) ++ (F.rs ++ F'.rs).map (·.1)).Nodup
    rw [List.map_append, ← List.append_assoc, List.nodup_append]
    refine ⟨h.nd, hd.nd, fun x hx y hy hxy => ?_⟩
    subst hxy
    obtain ⟨r, hr, rfl⟩ := List.mem_map.1 hy
    have h1 := (hd.rows r hr).2
    rcases List.mem_append.1 hx with hx | hx
    · obtain ⟨z, hz, he⟩ := List.mem_map.1 hx
      have := h.box.lt z hz
      omega
    · obtain ⟨z, hz, he⟩ := List.mem_map.1 hx
      have := (h.rows z hz).1.lt
      omega
  · rcases List.mem_append.1 hr with hr | hr
    · exact hp.rows r hr
    · exact ⟨(hd.rows r hr).1, .inl (Nat.le_trans h.keep.size (hd.rows r hr).2)⟩
  · refine Holds.and ?_ ?_
    · refine h.data.move hw.size (fun b hb hna => hw.same hb (fun _ hR => hna (.inr (.inl ⟨_, mem_nth hi, hR.1.symm⟩)))) (fun b hb => ?_)
      rcases hb with hb | hb | ⟨r, hr, rfl⟩
      · exact .inl (.inl hb)
      · exact .inl (.inr (.inl hb))
      · rcases List.mem_append.1 hr with hr | hr
        · exact .inl (.inr (.inr ⟨r, hr, rfl⟩))
        · exact .inr (hd.rows r hr).2
    · refine hd.data.less fun b hb => ?_
      rcases hb with hb | hb | ⟨r, hr, rfl⟩
      · exact .inl (.inl hb)
      · exact .inl (.inr (.inl hb))
      · rcases List.mem_append.1 hr with hr | hr
        · exact .inl (.inr (.inr ⟨r, hr, rfl⟩))
        · exact .inr ⟨r, hr, rfl⟩

/-- A call that writes a part of a box. -/
theorem XCall.ptr {f : FuncId} {vs pre post c : List Value} {Pre : World → Prop} {Rel : Value → List Value → Fx → Prop} {bs : List (Nat × Nat)} {cs : List (List Value)} {D : Fx} {K : KV}
    (spec : PtrSpec P f pre post c Pre Rel) (i s : Nat) (hvs : vs = pre ++ Sx.ptr bs i s :: post) (hsub : nthK cs i fun l => subK l s c.length fun m => m = c) (hpre : ∀ w, D.D w → Pre w)
    (h : ∀ v c' D', c'.length = c.length → Rel v c' D' → nthK cs i fun l => overK l s c' fun l' => setK cs i l' fun cs' => K v bs cs' (D.and D')) : XCall P w0 R av f vs bs cs D K := by
  subst hvs
  obtain ⟨hi, hsub⟩ := nthK_iff [] hsub
  obtain ⟨hle, hsub⟩ := subK_iff hsub
  refine XCall_iff.2 ⟨spec.1, fun w hst => ?_⟩
  obtain ⟨hr, hib⟩ := hst.box.get i hi
  have hr2 := hr.sub c.length hle
  rw [hsub] at hr2
  have hiff : ∀ x, Av av bs D.rs x ↔ ((Av av bs D.rs x ∧ x ≠ (nth (0, 0) bs i).1) ∨ x = (nth (0, 0) bs i).1) := fun x => by
    constructor
    · intro hx
      by_cases he : x = (nth (0, 0) bs i).1
      · exact .inr he
      · exact .inl ⟨hx, he⟩
    · rintro (hx | rfl)
      · exact hx.1
      · exact .inr (.inl ⟨_, mem_nth hib, rfl⟩)
  refine (spec.2 (fun x => Av av bs D.rs x ∧ x ≠ (nth (0, 0) bs i).1) w _ _ (fun x hx => hst.avb hx.1) hr2 ((hst.data.imp hpre).less fun x hx => (hiff x).2 hx)).mono ?_
  rintro e w' ⟨v, c', D', rfl, h1, h2, h3, h4, h5⟩
  have hk := h v c' D' h2 h5
  obtain ⟨_, hk⟩ := nthK_iff [] hk
  obtain ⟨hov, hk⟩ := overK_iff hk
  obtain ⟨_, hk⟩ := setK_iff hk
  have hka : KeepX (Rg (nth (0, 0) bs i).1 ((nth (0, 0) bs i).2 + s) c'.length) w w' := by rw [h2]; exact h1
  have hput := hst.put2 i hib _ (by simp only [List.length_append, List.length_take, List.length_drop]; omega)
    (h1.mono fun k j hkj => ⟨hkj.1, by have := hkj.2.1; omega, by have := hkj.2.2; omega⟩) (hr.after hka h3 hov)
    ⟨h4.rows, h4.nd, h4.data.less fun x hx => hx.elim (fun hx => .inl ((hiff x).1 hx)) .inr⟩
  exact ⟨v, [], _, _, rfl, by rw [List.append_nil]; exact hput, by rw [List.append_nil]; exact hk⟩

/-! ### loops -/

theorem wp_loop_ghost {c : Code} {Q : Exit → Act → World → Prop} {a : Act} {w : World} {ι : Type} (I : ι → Act → World → Prop) (μ : ι → Nat) (i0 : ι) (h0 : I i0 a w)
    (round : ∀ i a w, I i a w → c.wp P (Exit.then (fun a' w' => ∃ i', I i' a' w' ∧ μ i' < μ i) Q) a w) : (Code.loop c).wp P Q a w := by
  intro b k cs
  have key : ∀ n i a w, μ i = n → I i a w → ∃ e a' w', Q e a' w' ∧ Arrives P (lone (b.at a (.code c :: .inLoop c :: k)) cs w) b k cs e a' w' := by
    intro n
    induction n using Nat.strongRecOn with
    | _ n ih =>
      intro i a w hn hI
      obtain ⟨e, a1, w1, hq, harr⟩ := round i a w hI b (.inLoop c :: k) cs
      cases e with
      | normal =>
        obtain ⟨i1, hI1, hlt⟩ := hq
        obtain ⟨e2, a2, w2, hq2, harr2⟩ := ih (μ i1) (hn ▸ hlt) i1 a1 w1 rfl hI1
        exact ⟨e2, a2, w2, hq2, .of_steps (Steps.trans harr (.one step_inLoop)) harr2⟩
      | exit id => exact ⟨_, a1, w1, hq, .pass (x := .inLoop c) rfl (fun _ _ => .inl (by simp)) harr⟩
      | goto l => exact ⟨_, a1, w1, hq, .pass (x := .inLoop c) rfl (fun _ _ => .inl (by simp)) harr⟩
      | ret => exact ⟨_, a1, w1, hq, .pass (x := .inLoop c) rfl (fun _ _ => .inl (by simp)) harr⟩
      | panic ch => exact ⟨_, a1, w1, hq, .pass (x := .inLoop c) rfl (fun _ _ => .inl (by simp)) harr⟩
      | outgrown => exact ⟨_, a1, w1, hq, .pass (x := .inLoop c) rfl (fun _ _ => .inl (by simp)) harr⟩
  obtain ⟨e, a', w', hq, harr⟩ := key _ i0 a w rfl h0
  exact ⟨e, a', w', hq, .of_steps (.one step_loop) harr⟩

/-- The second frame says no more than the first. -/
def FLe : List SV → List SV → Prop
  | [], [] => True
  | _ :: xs, .any :: ys => FLe xs ys
  | x :: xs, y :: ys => x = y ∧ FLe xs ys
  | _, _ => False

theorem FLe.nil : FLe [] [] := trivial
theorem FLe.any {x : SV} {xs ys : List SV} (h : FLe xs ys) : FLe (x :: xs) (.any :: ys) := by simpa [FLe] using h
theorem FLe.cons {x : SV} {xs ys : List SV} (h : FLe xs ys) : FLe (x :: xs) (x :: ys) := by cases x <;> simp [FLe, h]
theorem FLe.eq {x y : SV} {xs ys : List SV} (e : x = y) (h : FLe xs ys) : FLe (x :: xs) (y :: ys) := e ▸ h.cons

theorem FLe.len : ∀ {xs ys : List SV}, FLe xs ys → xs.length = ys.length
  | [], [], _ => rfl
  | x :: xs, y :: ys, h => by
    have : FLe xs ys := by cases y <;> simp_all [FLe]
    simp [this.len]
  | [], y :: ys, h => by simp [FLe] at h
  | x :: xs, [], h => by simp [FLe] at h

theorem FLe.at : ∀ {xs ys : List SV}, FLe xs ys → ∀ t, nth .any ys t = .any ∨ nth .any xs t = nth .any ys t
  | [], [], _, t => .inl rfl
  | x :: xs, y :: ys, h, 0 => by
    cases y with
    | any => exact .inl rfl
    | _ => exact .inr h.1
  | x :: xs, y :: ys, h, t + 1 => by
    have : FLe xs ys := by cases y <;> simp_all [FLe]
    exact this.at t
  | [], y :: ys, h, _ => by simp [FLe] at h
  | x :: xs, [], h, _ => by simp [FLe] at h

theorem FLe.ok {xs ys : List SV} (h : FLe xs ys) {bs : List (Nat × Nat)} {a : Array Value} (hf : FrameOk bs xs a) : FrameOk bs ys a := by
  refine ⟨by rw [← h.len]; exact hf.len, fun t => ?_⟩
  rcases h.at t with he | he
  · rw [he]; exact trivial
  · rw [← he]; exact hf.ok t

def havocK (A : List Nat) : List SV → Nat → (List SV → Prop) → Prop
  | [], _, K => K []
  | x :: xs, n, K => match memN A n with
    | true => havocK A xs (n + 1) fun l => K (.any :: l)
    | false => havocK A xs (n + 1) fun l => K (x :: l)

theorem havocK_iff {A : List Nat} : ∀ {l : List SV} {n : Nat} {K : List SV → Prop}, havocK A l n K → ∃ m, K m ∧ ∀ K', havocK A l n K' → K' m
  | [], _, K, h => ⟨[], h, fun _ h => h⟩
  | x :: xs, n, K, h => by
    simp only [havocK] at h
    cases hm : memN A n with
    | true =>
      rw [hm] at h
      obtain ⟨m, h1, h2⟩ := havocK_iff h
      exact ⟨_, h1, fun K' h' => by simp only [havocK, hm] at h'; exact h2 _ h'⟩
    | false =>
      rw [hm] at h
      obtain ⟨m, h1, h2⟩ := havocK_iff h
      exact ⟨_, h1, fun K' h' => by simp only [havocK, hm] at h'; exact h2 _ h'⟩

def setsK : List (Nat × SV) → List SV → (List SV → Prop) → Prop
  | [], tm, K => K tm
  | (t, s) :: r, tm, K => setK tm t s fun tm' => setsK r tm' K

theorem setsK_iff : ∀ {r : List (Nat × SV)} {tm : List SV} {K : List SV → Prop}, setsK r tm K → ∃ m, K m ∧ ∀ K', setsK r tm K' → K' m
  | [], tm, K, h => ⟨tm, h, fun _ h => h⟩
  | (t, s) :: r, tm, K, h => by
    obtain ⟨h0, h⟩ := setK_iff h
    obtain ⟨m, h1, h2⟩ := setsK_iff h
    exact ⟨m, h1, fun K' h' => h2 _ (setK_iff h').2⟩

/-- The boxes are those, and perhaps more. -/
def BLe : List (Nat × Nat) → List (List Value) → List (Nat × Nat) → List (List Value) → Prop
  | _, _, [], [] => True
  | b' :: bs', c' :: cs', b :: bs, c :: cs => (b' = b ∧ c' = c) ∧ BLe bs' cs' bs cs
  | _, _, _, _ => False

theorem BLe.parts : ∀ {bs' : List (Nat × Nat)} {cs' : List (List Value)} {bs : List (Nat × Nat)} {cs : List (List Value)}, bs'.length = cs'.length → BLe bs' cs' bs cs →
    ∃ e f, bs' = bs ++ e ∧ cs' = cs ++ f ∧ bs.length = cs.length
  | bs', cs', [], [], _, _ => ⟨bs', cs', rfl, rfl, rfl⟩
  | b' :: bs', c' :: cs', b :: bs, c :: cs, hl, h => by
    obtain ⟨⟨rfl, rfl⟩, h⟩ := h
    obtain ⟨e, f, h1, h2, h3⟩ := BLe.parts (by simpa using hl) h
    exact ⟨e, f, by rw [h1]; rfl, by rw [h2]; rfl, by simp [h3]⟩
  | [], _, _ :: _, _, _, h => by simp [BLe] at h
  | [], _, [], _ :: _, _, h => by simp [BLe] at h
  | _ :: _, [], _ :: _, _, hl, _ => by simp at hl
  | _ :: _, _, [], _ :: _, _, h => by simp [BLe] at h
  | _ :: _, _, _ :: _, [], _, h => by simp [BLe] at h

theorem Boxes.left {w : World} : ∀ {bs : List (Nat × Nat)} {cs : List (List Value)} {e : List (Nat × Nat)} {f : List (List Value)}, bs.length = cs.length → Boxes w (bs ++ e) (cs ++ f) → Boxes w bs cs
  | [], [], _, _, _, _ => trivial
  | (b, o) :: bs, c :: cs, e, f, hl, h => ⟨h.1, Boxes.left (by simpa using hl) h.2⟩
  | [], _ :: _, _, _, hl, _ => by simp at hl
  | _ :: _, [], _, _, hl, _ => by simp at hl

theorem St.left {w : World} {bs e : List (Nat × Nat)} {cs f : List (List Value)} {D : Fx} (h : St w0 R av w (bs ++ e) (cs ++ f) D) (hl : bs.length = cs.length) : St w0 R av w bs cs D := by
  refine ⟨h.keep, h.box.left hl, ?_, fun i hi => ?_, h.avlt, h.rows, h.data.less fun b hb => ?_⟩
  · refine h.nd.sublist (List.Sublist.append ?_ (List.Sublist.refl _))
    rw [List.map_append]
    exact List.sublist_append_left _ _
  · have := h.own i (by simp; omega)
    rw [nth_append_left _ _ _ _ hi, nth_append_left _ _ _ _ (by omega)] at this
    exact this
  · rcases hb with hb | ⟨x, hx, rfl⟩ | hb
    · exact .inl hb
    · exact .inr (.inl ⟨x, List.mem_append_left _ hx, rfl⟩)
    · exact .inr (.inr hb)

def pOk (n : Nat) : SV → Bool
  | .p i _ => Nat.blt i n
  | .g _ _ x => pOk n x
  | _ => true

def pAll (n : Nat) : List SV → Bool
  | [] => true
  | x :: xs => match pOk n x with
    | true => pAll n xs
    | false => false

theorem pAll_at {n : Nat} : ∀ {l : List SV}, pAll n l = true → ∀ t, pOk n (nth .any l t) = true
  | [], _, _ => rfl
  | x :: xs, h, 0 => by
    simp only [pAll] at h
    split at h
    · assumption
    · cases h
  | x :: xs, h, t + 1 => by
    simp only [pAll] at h
    split at h
    · exact pAll_at h t
    · cases h

theorem SVok.back {bs ex : List (Nat × Nat)} : ∀ {s : SV} {y : Value}, pOk bs.length s = true → SVok (bs ++ ex) s y → SVok bs s y
  | .v _, _, _, h => h
  | .p i o, y, hp, h => by
    obtain ⟨h1, h2⟩ := h
    have hi : i < bs.length := by simpa [pOk, Nat.blt_eq] using hp
    refine ⟨?_, hi⟩
    rw [h1]
    unfold ptr
    rw [nth_append_left _ _ _ _ hi]
  | .g c pol x, _, hp, h => fun hc => SVok.back (s := x) hp (h hc)
  | .any, _, _, _ => trivial

def loopK {ι : Type} (I : ι → Prop) (vals : ι → List (Nat × SV)) (csI : ι → List (List Value)) (DI : ι → Fx) (μ : ι → Nat) (i : ι) (tm0 : List SV) (bs : List (Nat × Nat)) (K : Exit → KT) : Exit → KT :=
  fun e tm' bs' cs' D' => match e with
    | .normal => ∃ i', (I i' ∧ μ i' < μ i) ∧ (setsK (vals i') tm0 fun t => FLe tm' t ∧ pAll bs.length t = true) ∧ BLe bs' cs' bs (csI i') ∧ Ent D' (DI i')
    | e => K e tm' bs' cs' D'

theorem XStop.loop (hT : TabOk P tab) {ι : Type} {body : Code} {tm : List SV} {bs : List (Nat × Nat)} {cs : List (List Value)} {D : Fx} {K : Exit → KT} (A : List Nat) (I : ι → Prop)
    (vals : ι → List (Nat × SV)) (csI : ι → List (List Value)) (DI : ι → Fx) (μ : ι → Nat) (i0 : ι) (h0 : I i0)
    (start : havocK A tm 0 fun tm0 => setsK (vals i0) tm0 fun tm1 => FLe tm tm1) (hcs : cs = csI i0) (hD : Ent D (DI i0))
    (round : ∀ i, I i → havocK A tm 0 fun tm0 => setsK (vals i) tm0 fun tm1 => xc P tab w0 R av body tm1 bs (csI i) (DI i) (loopK I vals csI DI μ i tm0 bs K)) :
    XStop P w0 R av (.loop body) tm bs cs D K := by
  obtain ⟨tm0, start, htm0⟩ := havocK_iff start
  refine XStop_iff.2 fun a w hf hst => ?_
  refine wp_loop_ghost (ι := ι) (fun i act w => I i ∧ act.defers = [] ∧ (∃ tmi, FrameOk bs tmi act.tmps ∧ ∀ K', setsK (vals i) tm0 K' → K' tmi) ∧ St w0 R av w bs (csI i) (DI i)) μ i0 ?_ ?_
  · obtain ⟨m, h1, h2⟩ := setsK_iff start
    refine ⟨h0, rfl, ⟨m, h1.ok hf, h2⟩, ?_⟩
    rw [← hcs]
    exact hst.ent hD
  · rintro i act w ⟨hI, hd, ⟨tmi, hfi, hmi⟩, hsti⟩
    have hx := hmi _ (htm0 _ (round i hI))
    rw [act_eta hd]
    refine wp_mono (xc_sound hT body _ _ _ _ _ _ _ hx hfi hsti) ?_
    rintro e act' w' ⟨hd', tm', bs', cs', D', h1, h2, h3⟩
    cases e with
    | normal =>
      obtain ⟨i', ⟨hi1, hi2⟩, hs, hbl, hDD⟩ := h3
      obtain ⟨m, hm1, hm2⟩ := setsK_iff hs
      obtain ⟨ex, fx, rfl, rfl, hl⟩ := hbl.parts h2.box.len.symm
      have hm := hm1.1.ok h1
      exact ⟨i', ⟨hi1, hd', ⟨m, ⟨hm.len, fun t => (hm.ok t).back (pAll_at hm1.2 t)⟩, hm2⟩, (h2.left hl).ent hDD⟩, hi2⟩
    | _ => exact ⟨hd', tm', bs', cs', D', h1, h2, h3⟩

end
attribute [irreducible] FLe PtrSpec
end Go.Sx
