/- Pipes, part B: reads, writes, Valid. -/
import Derived.Test.YtpnnadojhacjiaaPiA
namespace Go.Proofs.Ytpnnadojhacjiaa
open Go Go.Sx
set_option maxRecDepth 100000
set_option maxHeartbeats 2000000
set_option linter.unusedVariables false
set_option linter.unusedSimpArgs false

/-- A pipe, plainly. -/
structure Pipe where
  buf : List UInt8
  rd : Int
  wr : Int
  wait : List Req

/-- The handles of a pipe: buffer, row of requests, and each request's data. -/
structure PH where
  b : Hd
  w : Hd
  l : List (Req × Hd)

def PH.cells (h : PH) (p : Pipe) : List Value := [h.b.v p.buf.length, .int .i64 p.rd, .int .i64 p.wr, h.w.v h.l.length]

structure PH.Ok (h : PH) (p : Pipe) : Prop where
  b : h.b.Ok p.buf.length
  w : h.w.Ok h.l.length
  l : h.l.map (·.1) = p.wait
  d : ReqOk h.l

structure PH.By (h : PH) (p : Pipe) (w : World) : Prop where
  b : Sx.By w h.b p.buf
  r : ReqAt w h.w h.l

structure Pipe.Few (p : Pipe) : Prop where
  b : p.buf.length ≤ 100000
  w : p.wait.length ≤ 100000
  d : ∀ r ∈ p.wait, r.data.length ≤ 100000

def first (p : Pipe) (t : Bool) : Int := idx (fun r => r.write == t) p.wait 0
def index (p : Pipe) (t : Int) : Int := idx (fun r => iEq r.task t) p.wait 0

theorem idx_map {α β : Type} (f : α → β) (q : β → Bool) : ∀ (l : List α) (i : Nat), idx (fun x => q (f x)) l i = idx q (l.map f) i
  | [], _ => rfl
  | x :: xs, i => by simp only [idx, List.map_cons, idx_map f q xs]

theorem idx_range {α : Type} (q : α → Bool) : ∀ (l : List α) (i : Nat), idx q l i = -1 ∨ ∃ (k : Nat) (h : k < l.length), idx q l i = ((i + k : Nat) : Int) ∧ q l[k] = true ∧ ∀ j (hj : j < k), q (l[j]'(by omega)) = false
  | [], _ => .inl rfl
  | x :: xs, i => by
    simp only [idx]
    by_cases hx : q x = true
    · rw [if_pos hx]
      exact .inr ⟨0, by simp, by simp, hx, fun j hj => by omega⟩
    · rw [if_neg hx]
      rcases idx_range q xs (i + 1) with h | ⟨k, hk, h1, h2, h3⟩
      · exact .inl h
      · refine .inr ⟨k + 1, by simp; omega, by rw [h1]; omega, by simpa using h2, fun j hj => ?_⟩
        cases j with
        | zero => simpa using hx
        | succ j => simpa using h3 j (by omega)

def Pipe.reads (p : Pipe) : Bool := iGe (first p false) 0 && (iGt p.buf.length 0 || iEq p.wr 0)

def dataAt (l : List Req) (i : Nat) : List UInt8 := (l[i]?.map (·.data)).getD []

def Pipe.writes (p : Pipe) : Bool := iGe (first p true) 0 && (iEq p.rd 0 || iLe ((p.buf.length : Int) + (dataAt p.wait (first p true).toNat).length) 64)

theorem first_at (p : Pipe) (t : Bool) (h : iGe (first p t) 0 = true) : ∃ k : Nat, first p t = (k : Int) ∧ k < p.wait.length := by
  rcases idx_range (fun r : Req => r.write == t) p.wait 0 with e | ⟨k, hk, e, _⟩
  · have : first p t = -1 := e
    rw [this] at h
    simp [iGe_eq] at h
  · exact ⟨k, by show idx _ _ _ = _; rw [e]; simp, hk⟩

theorem first' (p : Pipe) (h : PH) (hh : h.Ok p) (hf : p.Few) (t : Bool) : PureSpec Try.prog 47 [.agg ⟨h.cells p⟩, .bool t] (h.By p) (fun v F => v = .int .i64 (first p t)) := by
  have hlen : h.l.length = p.wait.length := by rw [← hh.l]; simp
  have := first_spec h.b h.w p.buf.length p.rd p.wr h.l hh.w (by rw [hlen]; exact hf.w) t
  rw [show idx (fun p : Req × Hd => p.1.write == t) h.l 0 = first p t from by rw [first, ← hh.l]; exact idx_map (·.1) (fun r : Req => r.write == t) h.l 0] at this
  exact this.imp (fun w hw => hw.r) (fun _ _ h => h)

theorem index' (p : Pipe) (h : PH) (hh : h.Ok p) (hf : p.Few) (t : Int) : PureSpec Try.prog 28 [.agg ⟨h.cells p⟩, .int .i64 t] (h.By p) (fun v F => v = .int .i64 (index p t)) := by
  have hlen : h.l.length = p.wait.length := by rw [← hh.l]; simp
  have := index_spec h.b h.w p.buf.length p.rd p.wr h.l hh.w (by rw [hlen]; exact hf.w) t
  rw [show idx (fun p : Req × Hd => iEq p.1.task t) h.l 0 = index p t from by rw [index, ← hh.l]; exact idx_map (·.1) (fun r : Req => iEq r.task t) h.l 0] at this
  exact this.imp (fun w hw => hw.r) (fun _ _ h => h)

theorem reads_spec (p : Pipe) (h : PH) (hh : h.Ok p) (hf : p.Few) : PureSpec Try.prog 35 [.agg ⟨h.cells p⟩] (h.By p) (fun v F => v = .bool p.reads) := by
  refine PureSpec.of_xc tabOk Try.func35 rfl (by decide) (n := Try.f35.ntmps - 1) rfl rfl fun w0 av => ?_
  conv => whnf
  intro b
  conv => whnf
  refine XCall.val (first' p h hh hf false) (fun _ h => h) (fun v D hv => ?_)
  subst hv
  conv => whnf
  repeat' (first
    | (refine XSame.of ?_; conv => whnf)
    | (refine XIf.split (fun hc => ?_) (fun hc => ?_) <;> conv => whnf))
  all_goals
    refine ⟨_, Ent.refl _, ?_⟩
    simp_all [Pipe.reads]

theorem writes_spec (p : Pipe) (h : PH) (hh : h.Ok p) (hf : p.Few) : PureSpec Try.prog 36 [.agg ⟨h.cells p⟩] (h.By p) (fun v F => v = .bool p.writes) := by
  refine PureSpec.of_xc tabOk Try.func36 rfl (by decide) (n := Try.f36.ntmps - 1) rfl rfl fun w0 av => ?_
  conv => whnf
  intro b
  conv => whnf
  refine XCall.val (first' p h hh hf true) (fun _ h => h) (fun v D hv => ?_)
  subst hv
  conv => whnf
  refine XStop.draw tabOk mixed rfl rfl ?_
  conv => whnf
  refine XIf.split (fun hc => ?_) (fun hc => ?_)
  · conv => whnf
    refine XIf.split (fun hc2 => ?_) (fun hc2 => ?_)
    · conv => whnf
      refine ⟨_, Ent.refl _, ?_⟩
      simp [Pipe.writes, hc, hc2]
    · conv => whnf
      obtain ⟨k, e1, hk⟩ := first_at p true hc
      have hlen : h.l.length = p.wait.length := by rw [← hh.l]; simp
      have hk' : k < h.l.length := by omega
      have hd : dataAt p.wait (first p true).toNat = h.l[k].1.data := by
        rw [e1, dataAt, ← hh.l]
        simp [hk']
      rw [e1]
      refine XRead.index tabOk (t := 26) rfl rfl rfl (by omega) (by omega) hh.w.nil fun ad had => ?_
      conv => whnf
      refine XRead.loadF tabOk (t := 25) rfl rfl (ad := ad) (k := k * 4 + 3) (L := reqCells h.l) (v := h.l[k].2.v h.l[k].1.data.length) (fun w hst => had ▸ hst.now.r.1) (fun hsp => Addr.add_add hsp _ _) (reqCells_at h.l hk' (by omega)) ?_
      conv => whnf
      have h1 := hf.b
      have h2 := hf.d h.l[k].1 (by rw [← hh.l]; exact List.mem_map_of_mem (List.getElem_mem hk'))
      refine ⟨_, Ent.refl _, ?_⟩
      rw [wrap_i64 (by omega)]
      simp [Pipe.writes, hc, hc2, hd]
  · conv => whnf
    refine ⟨_, Ent.refl _, ?_⟩
    simp [Pipe.writes, hc]

/-- Each request is proper, with no more than 64 bytes; no task twice; ks are the tasks before. -/
def okReqs : List Int → List Req → Bool
  | _, [] => true
  | ks, r :: l => r.proper && !decide (r.task ∈ ks) && iLe r.data.length 64 && okReqs (ks ++ [r.task]) l

def Pipe.valid (p : Pipe) : Bool :=
  iLe p.buf.length 64 && iGe p.rd 0 && iLe p.rd 1000 && iGe p.wr 0 && iLe p.wr 1000 && okReqs [] p.wait && !p.reads && !p.writes

theorem okReqs_drop {l : List Req} {i : Nat} (h : i < l.length) : okReqs ((l.take i).map (·.task)) (l.drop i) = (l[i].proper && !decide (l[i].task ∈ (l.take i).map (·.task)) && iLe l[i].data.length 64 && okReqs ((l.take (i + 1)).map (·.task)) (l.drop (i + 1))) := by
  rw [List.drop_eq_getElem_cons h, List.take_succ_eq_append_getElem h, List.map_append]
  rfl

theorem valid_spec (p : Pipe) (h : PH) (hh : h.Ok p) (hf : p.Few) : PureSpec Try.prog 20 [.agg ⟨h.cells p⟩] (h.By p) (fun v F => v = .bool p.valid) := by
  have hlen : h.l.length = p.wait.length := by rw [← hh.l]; simp
  refine PureSpec.of_xc tabOk Try.func20 rfl (by decide) (n := Try.f20.ntmps - 1) rfl rfl fun w0 av => ?_
  conv => whnf
  intro b1
  conv => whnf
  repeat (refine XSame.of ?_; conv => whnf)
  refine XIf.split (fun hc => ?_) (fun hc => ?_)
  · conv => whnf
    refine ⟨_, Ent.refl _, ?_⟩
    have : p.valid = false := by
      simp only [Pipe.valid, iGt_eq, iLt_eq, iLe_eq, iGe_eq] at *
      simp at hc ⊢
      omega
    rw [this]
  conv => whnf
  have hb : (iLe p.buf.length 64 && iGe p.rd 0 && iLe p.rd 1000 && iGe p.wr 0 && iLe p.wr 1000) = true := by
    simp only [iGt_eq, iLt_eq, iLe_eq, iGe_eq] at *
    simp at hc ⊢
    omega
  have hv : p.valid = (okReqs [] p.wait && !p.reads && !p.writes) := by
    unfold Pipe.valid
    rw [hb]
    rfl
  rw [hv]
  refine XVal.makeMap fun mb => ?_
  conv => whnf
  refine XStop.loop tabOk (ι := Nat) [2, 5, 34, 35, 36, 37, 38, 39, 40, 41, 42, 43, 44, 45, 46, 47, 48, 49, 50, 51, 52, 53, 54, 55, 56] (fun x => x ≤ p.wait.length ∧ okReqs ((p.wait.take x).map (·.task)) (p.wait.drop x) = okReqs [] p.wait)
    (fun x => [(34, .v (.int .i64 (x : Int)))]) (fun _ => [h.cells p]) (fun x => ⟨h.By p, [] ++ [(mb, Row.m (setM ((p.wait.take x).map (·.task))) ((p.wait.take x).map (·.task)).length)] ++ []⟩)
    (fun x => p.wait.length - x) 0 ⟨Nat.zero_le _, rfl⟩ ?_ rfl (Ent.refl _) fun i hi => ?_
  · conv => whnf
    repeat (first | exact FLe.nil | refine FLe.any ?_ | refine FLe.cons ?_)
  obtain ⟨hi1, hi2⟩ := hi
  conv => whnf
  refine XIf.split (fun hlt => ?_) (fun hge => ?_)
  · conv => whnf
    have hlt' : i < h.l.length := by
      have : (i : Int) < h.l.length := by simpa [iLt_eq] using hlt
      omega
    have hlt2 : i < p.wait.length := by omega
    have hpw : p.wait[i] = h.l[i].1 := by
      have : p.wait[i]? = (h.l.map (·.1))[i]? := by rw [hh.l]
      simpa [hlt', hlt2] using this
    rw [okReqs_drop hlt2, hpw] at hi2
    refine XVal.of_read (XRead.index tabOk (t := 26) rfl rfl rfl (by omega) (by omega) hh.w.nil fun ad had => ?_)
    conv => whnf
    refine XVal.of_read (XRead.loads tabOk (t := 51) rfl rfl (ad := ad) (k := i * 4) (L := reqCells h.l) (fun w hst => had ▸ hst.now.r.1) rfl (reqCells_get h.l hlt') rfl ?_)
    conv => whnf
    intro b2
    conv => whnf
    refine XCall.val (proper_spec h.l[i].1 h.l[i].2) (fun _ _ => trivial) (fun v D hv => ?_)
    subst hv
    conv => whnf
    refine XIf.split (fun hq => ?_) (fun hq => ?_)
    · conv => whnf
      repeat (refine XSame.of ?_; conv => whnf)
      refine ⟨_, Ent.refl _, ?_⟩
      have hq' : h.l[i].1.proper = false := by simpa using hq
      rw [← hi2, hq']
      simp
    conv => whnf
    have hq' : h.l[i].1.proper = true := by simpa using hq
    refine XVal.of_read (XRead.lookupSet tabOk (t := 78) rfl rfl rfl rfl (by kernel_rfl) (ks := (p.wait.take i).map (·.task)) (List.mem_append_left _ (List.mem_append_right _ (List.mem_singleton.2 rfl))) ?_)
    conv => whnf
    repeat (refine XSame.of ?_; conv => whnf)
    refine XIf.split (fun hm => ?_) (fun hm => ?_)
    · conv => whnf
      refine ⟨_, Ent.refl _, ?_⟩
      rw [← hi2, hq']
      have : (!decide (h.l[i].1.task ∈ (p.wait.take i).map (·.task)) && iLe h.l[i].1.data.length 64) = false := by
        simp [iGt_eq, iLe_eq] at hm ⊢
        intro h1
        rcases hm with h2 | h2
        · exact absurd h2 (by simpa using h1)
        · omega
      rw [Bool.true_and, this]
      simp
    conv => whnf
    have hm1 : h.l[i].1.task ∉ (p.wait.take i).map (·.task) := by
      simp at hm
      simpa using hm.1
    have hm2 : iLe h.l[i].1.data.length 64 = true := by
      simp [iGt_eq] at hm
      simp [iLe_eq]
      omega
    refine XUnit.addSet tabOk (t := 78) rfl rfl rfl rfl (r1 := []) (r2 := []) hm1 ?_
    conv => whnf
    have htk : (p.wait.take (i + 1)).map (·.task) = (p.wait.take i).map (·.task) ++ [h.l[i].1.task] := by
      rw [List.take_succ_eq_append_getElem hlt2, List.map_append, hpw]
      rfl
    rw [hq', hm2, decide_eq_false hm1] at hi2
    have hw := hf.w
    refine ⟨i + 1, ⟨⟨hlt2, by simpa using hi2⟩, by dsimp only; omega⟩, ?_, ?_, ?_⟩
    · conv => whnf
      refine ⟨?_, rfl⟩
      repeat (first | exact FLe.nil | refine FLe.any ?_ | refine FLe.cons ?_ | refine FLe.eq (by rw [wrap_i64 (by omega)]; rfl) ?_)
    · conv => whnf
      exact ⟨⟨rfl, rfl⟩, trivial⟩
    · dsimp only
      rw [htk]
      exact Ent.refl _
  · conv => whnf
    have hge' : p.wait.length ≤ i := by
      have : ¬ (i : Int) < h.l.length := by simpa [iLt_eq] using hge
      omega
    rw [List.drop_of_length_le hge'] at hi2
    have hok : okReqs [] p.wait = true := by rw [← hi2]; rfl
    refine XCall.val (reads_spec p h hh hf) (fun w h => h) (fun v D hv => ?_)
    subst hv
    conv => whnf
    repeat' (first
      | (refine XSame.of ?_; conv => whnf)
      | (refine XCall.val (writes_spec p h hh hf) (fun w h => h) (fun v D hv => ?_); subst hv; conv => whnf)
      | (refine XIf.split (fun hq => ?_) (fun hq => ?_) <;> conv => whnf))
    all_goals
      refine ⟨_, Ent.refl _, ?_⟩
      rw [hok]
      simp_all

end Go.Proofs.Ytpnnadojhacjiaa
