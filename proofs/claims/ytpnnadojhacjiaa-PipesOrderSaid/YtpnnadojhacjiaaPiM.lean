/- Pipes, part M: rows of steps and answers; few; the document's example. -/
import Derived.Test.YtpnnadojhacjiaaPiL
import Derived.Test.YtpnnadojhacjiaaSyD
namespace Go.Proofs.Ytpnnadojhacjiaa
open Go Go.Sx
set_option maxRecDepth 100000
set_option maxHeartbeats 4000000
set_option linter.unusedVariables false
set_option linter.unusedSimpArgs false

section
variable {α : Type} {f : α → List Value} {n : Nat}

theorem flat_len (hf : ∀ x, (f x).length = n) (l : List α) : (l.flatMap f).length = l.length * n := by
  induction l with
  | nil => simp
  | cons x l ih =>
    rw [List.flatMap_cons, List.length_append, ih, hf, List.length_cons, Nat.add_mul, Nat.one_mul, Nat.add_comm]

theorem flat_drop (hf : ∀ x, (f x).length = n) (l : List α) (i : Nat) : (l.flatMap f).drop (i * n) = (l.drop i).flatMap f := by
  induction i generalizing l with
  | zero => simp
  | succ i ih =>
    cases l with
    | nil => simp
    | cons p l =>
      have e2 : (i + 1) * n = (f p).length + i * n := by rw [hf, Nat.add_mul, Nat.one_mul, Nat.add_comm]
      rw [List.flatMap_cons, e2, List.drop_length_add_append, ih]
      rfl

theorem flat_get (hf : ∀ x, (f x).length = n) (l : List α) {i : Nat} (h : i < l.length) : ((l.flatMap f).drop (i * n)).take n = f l[i] := by
  rw [flat_drop hf, List.drop_eq_getElem_cons h, List.flatMap_cons, List.take_append_of_le_length (by rw [hf]; exact Nat.le_refl _), List.take_of_length_le (by rw [hf]; exact Nat.le_refl _)]

theorem flat_at (hf : ∀ x, (f x).length = n) (l : List α) {i : Nat} (h : i < l.length) {j : Nat} (hj : j < n) : (l.flatMap f)[i * n + j]? = (f l[i])[j]? := by
  have h2 : (((l.flatMap f).drop (i * n)).take n)[j]? = (f l[i])[j]? := by rw [flat_get hf l h]
  rw [List.getElem?_take_of_lt hj, List.getElem?_drop] at h2
  exact h2

end

def stpCells (l : List (Stp × Hd)) : List Value := l.flatMap fun p => p.1.cells p.2
def StpAt (w : World) (h : Hd) (l : List (Stp × Hd)) : Prop := RowAt w h.a (stpCells l) ∧ ∀ p ∈ l, By w p.2 p.1.req.data
def StpOk (l : List (Stp × Hd)) : Prop := ∀ p ∈ l, p.2.Ok p.1.req.data.length

theorem stp_len (p : Stp × Hd) : (p.1.cells p.2).length = 5 := rfl
theorem stp_one (s : Stp) (k : Hd) : ∀ v ∈ s.cells k, oneCell v = true := by simp [Stp.cells, oneCell]
theorem stpCells_one (l : List (Stp × Hd)) : ∀ v ∈ stpCells l, oneCell v = true := by
  intro v hv
  obtain ⟨p, _, hp⟩ := List.mem_flatMap.1 hv
  exact stp_one p.1 p.2 v hp
theorem stpCells_len (l : List (Stp × Hd)) : (stpCells l).length = l.length * 5 := flat_len stp_len l
theorem stpCells_get (l : List (Stp × Hd)) {i : Nat} (h : i < l.length) : ((stpCells l).drop (i * 5)).take 5 = l[i].1.cells l[i].2 := flat_get stp_len l h
theorem stpCells_at (l : List (Stp × Hd)) {i : Nat} (h : i < l.length) {j : Nat} (hj : j < 5) : (stpCells l)[i * 5 + j]? = (l[i].1.cells l[i].2)[j]? := flat_at stp_len l h hj
theorem anCells_get (l : List (An × Hd)) {i : Nat} (h : i < l.length) : ((anCells l).drop (i * 3)).take 3 = l[i].1.cells l[i].2 := flat_get (f := fun p : An × Hd => p.1.cells p.2) (n := 3) (fun _ => rfl) l h
theorem anCells_at (l : List (An × Hd)) {i : Nat} (h : i < l.length) {j : Nat} (hj : j < 3) : (anCells l)[i * 3 + j]? = (l[i].1.cells l[i].2)[j]? := flat_at (f := fun p : An × Hd => p.1.cells p.2) (n := 3) (fun _ => rfl) l h hj

def few (l : List Stp) : Bool := l.all (fun s => iLe s.req.data.length 200) && iLe l.length 40

theorem few_all {l : List Stp} (h : few l = true) : l.length ≤ 40 ∧ ∀ s ∈ l, s.req.data.length ≤ 200 := by
  simp only [few, Bool.and_eq_true, List.all_eq_true, iLe_eq] at h
  simp at h
  exact ⟨by omega, fun s hs => by have := h.1 s hs; omega⟩

theorem few_spec (h : Hd) (l : List (Stp × Hd)) (hh : h.Ok l.length) (hn : l.length ≤ 9223372036854775807) : PureSpec Try.prog 8 [h.v l.length] (fun w => RowAt w h.a (stpCells l)) (fun v F => v = .bool (few (l.map (·.1)))) := by
  refine PureSpec.of_xc tabOk Try.func8 rfl (by decide) (n := Try.f8.ntmps - 1) rfl rfl fun w0 av => ?_
  conv => whnf
  refine XStop.loop tabOk (ι := Nat) [3, 4, 5, 6, 7, 8, 9, 10, 11, 12, 13, 14, 15, 16, 17] (fun x => x ≤ l.length ∧ ((l.map (·.1)).drop x).all (fun s => iLe s.req.data.length 200) = (l.map (·.1)).all (fun s => iLe s.req.data.length 200))
    (fun x => [(3, .v (.int .i64 (x : Int)))]) (fun _ => []) (fun _ => ⟨fun w => RowAt w h.a (stpCells l), []⟩)
    (fun x => l.length - x) 0 ⟨Nat.zero_le _, rfl⟩ ?_ rfl (Ent.refl _) fun i hi => ?_
  · conv => whnf
    repeat (first | exact FLe.nil | refine FLe.any ?_ | refine FLe.cons ?_)
  obtain ⟨hi1, hi2⟩ := hi
  conv => whnf
  refine XIf.split (fun hlt => ?_) (fun hge => ?_)
  · conv => whnf
    have hlt' : i < l.length := by
      have : (i : Int) < l.length := by simpa [iLt_eq] using hlt
      omega
    rw [List.drop_eq_getElem_cons (by simpa using hlt'), List.all_cons] at hi2
    refine XVal.of_read (XRead.index tabOk (t := 22) rfl rfl rfl (by omega) (by omega) hh.nil fun ad had => ?_)
    conv => whnf
    refine XVal.of_read (XRead.loadF tabOk (t := 25) rfl rfl (ad := ad) (k := i * 5 + 4) (L := stpCells l) (v := l[i].2.v l[i].1.req.data.length) (fun w hst => had ▸ hst.now) (fun hsp => ?_) (stpCells_at l hlt' (by omega)) ?_)
    · rw [Addr.add_add hsp, Addr.add_add hsp]
      rfl
    conv => whnf
    refine XIf.split (fun hc => ?_) (fun hc => ?_)
    · conv => whnf
      refine ⟨_, Ent.refl _, ?_⟩
      have : few (l.map (·.1)) = false := by
        unfold few
        rw [← hi2]
        simp [iGt_eq, iLe_eq] at hc ⊢
        intro h1
        omega
      rw [this]
    · conv => whnf
      refine ⟨i + 1, ⟨⟨hlt', ?_⟩, by dsimp only; omega⟩, ?_, ?_, Ent.refl _⟩
      · rw [← hi2]
        simp [iGt_eq, iLe_eq] at hc ⊢
        intro _
        omega
      · conv => whnf
        refine ⟨?_, rfl⟩
        repeat (first | exact FLe.nil | refine FLe.any ?_ | refine FLe.cons ?_ | refine FLe.eq (by rw [wrap_i64 (by omega)]; rfl) ?_)
      · conv => whnf
        trivial
  · conv => whnf
    have hge' : l.length ≤ i := by
      have : ¬ (i : Int) < l.length := by simpa [iLt_eq] using hge
      omega
    rw [List.drop_of_length_le (by simpa using hge')] at hi2
    refine ⟨_, Ent.refl _, ?_⟩
    unfold few
    rw [← hi2]
    simp

def awP : Pipe := ⟨[], 1, 1, []⟩
def awR : Req := ⟨16, false, 10, []⟩
def awW : Req := ⟨17, true, 0, [97, 98, 99]⟩

theorem aw_ex : ∃ q m : Pipe × List An × Int, awP.ask awR = q ∧ q.1.ask awW = m ∧ q.1.Few ∧ q.1.wait.length < 100000 ∧ q.2.2 = 0 ∧ m.2.2 = 0 ∧ q.2.1 = [] ∧ ∃ x y : An, m.2.1 = [x, y] ∧ x.task = 17 ∧ x.res = 3 ∧ y.task = 16 ∧ y.data = [97, 98, 99] := by
  refine ⟨_, _, rfl, rfl, ⟨?_, ?_, ?_⟩, ?_, ?_, ?_, ?_, ⟨17, 3, []⟩, ⟨16, 3, [97, 98, 99]⟩, ?_, rfl, rfl, rfl, rfl⟩
  · decide +kernel
  · decide +kernel
  · decide +kernel
  · decide +kernel
  · decide +kernel
  · decide +kernel
  · kernel_rfl
  · kernel_rfl

theorem awake_spec : PureSpec Try.prog 7 [] (fun _ => True) (fun v F => v = .bool true) := by
  obtain ⟨q, m, eq, em, fq, lq, oq, om, nq, x, y, exy, h1, h2, h3, h4⟩ := aw_ex
  refine PureSpec.of_xc tabOk Try.func7 rfl (by decide) (n := Try.f7.ntmps) rfl rfl fun w0 av => ?_
  conv => whnf
  intro b1
  conv => whnf
  refine XCall.pure (ask_spec awP PH.nil ⟨Hd.nil_ok, Hd.nil_ok, rfl, fun _ h => by cases h⟩ ⟨by decide, by decide, fun _ h => by cases h⟩ (by decide) awR Hd.nil Hd.nil_ok (by decide)) (fun w _ => ⟨⟨By.nil w, rfl, fun _ h => by cases h⟩, By.nil w⟩) ?_
  rw [eq]
  rintro v F ⟨hq, ka, la, rfl, hhq, hka, hla, hoa, rfl⟩
  conv => whnf
  intro b2
  conv => whnf
  refine XVal.build tabOk (t := 25) rfl rfl rfl [byteV 97, byteV 98, byteV 99] rfl rfl (by simp [byteV, Value.cells]) (by decide) fun b3 => ?_
  conv => whnf
  refine XVal.ent (F' := ⟨fun w => (True ∧ hq.By q.1 w ∧ AnAt w ka la), [] ++ [(b3, Row.c ([97, 98, 99].map byteV))] ++ []⟩) (Ent.refl _) ?_
  refine XVal.lit tabOk (t := 25) rfl rfl rfl rfl ?_
  conv => whnf
  refine XCall.pure (ask_spec q.1 hq hhq fq lq awW ⟨some ⟨b3, 0, none⟩, 3⟩ ⟨(fun h => by cases h), Nat.le_refl 3⟩ (by decide)) (fun w h => ⟨h.1.2.1, h.2⟩) ?_
  rw [em]
  rintro v F ⟨hm, km, lm, rfl, hhm, hkm, hlm, hom, rfl⟩
  conv => whnf
  intro b4
  conv => whnf
  have hl0 : la.length = 0 := by
    rw [nq] at hla
    rw [List.map_eq_nil_iff.1 hla]
    rfl
  have hl2 : lm.length = 2 := by
    have := congrArg List.length hlm
    rw [exy] at this
    simpa using this
  have hx : (lm[0]'(by omega)).1 = x := by
    have : (lm.map (·.1))[0]? = some x := by rw [hlm, exy]; rfl
    rw [List.getElem?_map, List.getElem?_eq_getElem (by omega)] at this
    simpa using this
  have hy : (lm[1]'(by omega)).1 = y := by
    have : (lm.map (·.1))[1]? = some y := by rw [hlm, exy]; rfl
    rw [List.getElem?_map, List.getElem?_eq_getElem (by omega)] at this
    simpa using this
  have l0 : 0 < lm.length := by omega
  have l1 : 1 < lm.length := by omega
  repeat (refine XSame.of ?_; conv => whnf)
  refine XIf.split (fun hc => ?_) (fun hc => ?_)
  rotate_left
  · exfalso
    simp [iEq_eq, oq, om, hl0, hl2] at hc
  conv => whnf
  refine XVal.of_read (XRead.index tabOk (t := 32) rfl rfl rfl (by omega) (by omega) hkm.nil fun ad had => ?_)
  conv => whnf
  refine XVal.of_read (XRead.loadF tabOk (t := 3) rfl rfl (ad := ad) (k := 0 * 3 + 0) (L := anCells lm) (v := .int .i64 lm[0].1.task) (fun w hst => had ▸ hst.now.2.2.1) (fun hsp => Addr.add_add hsp _ _) (anCells_at lm l0 (by omega)) ?_)
  conv => whnf
  repeat (refine XSame.of ?_; conv => whnf)
  refine XIf.split (fun hc => ?_) (fun hc => ?_)
  rotate_left
  · exfalso
    simp [iEq_eq, hx, h1, oq, om, hl0, hl2] at hc
  conv => whnf
  refine XVal.of_read (XRead.index tabOk (t := 32) rfl rfl rfl (by omega) (by omega) hkm.nil fun ad2 had2 => ?_)
  conv => whnf
  refine XVal.of_read (XRead.loadF tabOk (t := 3) rfl rfl (ad := ad2) (k := 0 * 3 + 1) (L := anCells lm) (v := .int .i64 lm[0].1.res) (fun w hst => had2 ▸ hst.now.2.2.1) (fun hsp => Addr.add_add hsp _ _) (anCells_at lm l0 (by omega)) ?_)
  conv => whnf
  repeat (refine XSame.of ?_; conv => whnf)
  refine XIf.split (fun hc => ?_) (fun hc => ?_)
  rotate_left
  · exfalso
    simp [iEq_eq, hx, h1, h2, oq, om, hl0, hl2] at hc
  conv => whnf
  refine XVal.of_read (XRead.index tabOk (t := 32) rfl rfl rfl (by omega) (by omega) hkm.nil fun ad3 had3 => ?_)
  conv => whnf
  refine XVal.of_read (XRead.loadF tabOk (t := 3) rfl rfl (ad := ad3) (k := 1 * 3 + 0) (L := anCells lm) (v := .int .i64 lm[1].1.task) (fun w hst => had3 ▸ hst.now.2.2.1) (fun hsp => Addr.add_add hsp _ _) (anCells_at lm l1 (by omega)) ?_)
  conv => whnf
  repeat (refine XSame.of ?_; conv => whnf)
  refine XIf.split (fun hc => ?_) (fun hc => ?_)
  rotate_left
  · exfalso
    simp [iEq_eq, hx, hy, h1, h2, h3, oq, om, hl0, hl2] at hc
  conv => whnf
  refine XVal.of_read (XRead.index tabOk (t := 32) rfl rfl rfl (by omega) (by omega) hkm.nil fun ad4 had4 => ?_)
  conv => whnf
  refine XVal.of_read (XRead.loadF tabOk (t := 25) rfl rfl (ad := ad4) (k := 1 * 3 + 2) (L := anCells lm) (v := lm[1].2.v lm[1].1.data.length) (fun w hst => had4 ▸ hst.now.2.2.1) (fun hsp => Addr.add_add hsp _ _) (anCells_at lm l1 (by omega)) ?_)
  conv => whnf
  refine XVal.of_read (XRead.bytes tabOk (t := 25) (u := 9) rfl rfl rfl rfl rfl rfl (l := lm[1].1.data) (Sees.fact fun w hw => hw.2.2.2 _ (List.getElem_mem l1)) rfl ?_)
  conv => whnf
  refine XVal.of_read (XRead.strEq (l := lm[1].1.data) (m := [97, 98, 99]) ?_)
  conv => whnf
  repeat (refine XSame.of ?_; conv => whnf)
  refine ⟨_, Ent.refl _, ?_⟩
  simp [iEq_eq, hx, hy, h1, h2, h3, h4, oq, om, hl0, hl2]

end Go.Proofs.Ytpnnadojhacjiaa
