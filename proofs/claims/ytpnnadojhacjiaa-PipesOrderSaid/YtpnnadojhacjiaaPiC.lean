/- Pipes, part C: clone. -/
import Derived.Test.YtpnnadojhacjiaaPiB
namespace Go.Proofs.Ytpnnadojhacjiaa
open Go Go.Sx
set_option maxRecDepth 100000
set_option maxHeartbeats 2000000
set_option linter.unusedVariables false
set_option linter.unusedSimpArgs false

/-- A pipe whose buffer and row of requests are the function's own. -/
structure OP where
  ba : Option Addr
  bc : Nat
  bC : List Value
  wa : Option Addr
  wc : Nat
  wC : List Value
  l : List (Req × Hd)

structure OP.Ok (o : OP) (p : Pipe) : Prop where
  b : Own 1 p.buf.length o.ba o.bc o.bC (p.buf.map byteV)
  w : Own 4 o.l.length o.wa o.wc o.wC (reqCells o.l)
  l : o.l.map (·.1) = p.wait
  d : ReqOk o.l

def OP.cells (o : OP) (p : Pipe) : List Value := [.slice o.ba p.buf.length o.bc, .int .i64 p.rd, .int .i64 p.wr, .slice o.wa o.l.length o.wc]

def OP.D (o : OP) (w : World) : Prop := ∀ q ∈ o.l, By w q.2 q.1.data

def OP.rs (o : OP) : List (Nat × Row) := orow o.ba o.bC ++ orow o.wa o.wC

theorem laid_take {C l : List Value} {k n : Nat} (h : k + l.length ≤ n) (hn : n ≤ C.length) : (laid C k l).take n = laid (C.take n) k l := by
  apply List.ext_getElem?
  intro j
  rw [List.getElem?_take, laid_get (by omega), laid_get (by simp; omega), List.getElem?_take]
  by_cases hj : j < n
  · simp [hj]
  · simp only [hj, if_false]
    rw [if_neg (by omega)]

theorem laid_app (A C l : List Value) (k : Nat) : laid (A ++ C) (A.length + k) l = A ++ laid C k l := by
  unfold laid
  rw [List.take_length_add_append, Nat.add_assoc, List.drop_length_add_append]
  simp

theorem reqCells_cut (m : List (Req × Hd)) {i : Nat} (h : i < m.length) : reqCells m = reqCells (m.take i) ++ (m[i].1.cells m[i].2 ++ reqCells (m.drop (i + 1))) := by
  have e : m = m.take i ++ (m[i] :: m.drop (i + 1)) := by simp
  have e2 : reqCells (m[i] :: m.drop (i + 1)) = m[i].1.cells m[i].2 ++ reqCells (m.drop (i + 1)) := rfl
  rw [← e2, ← reqCells_append, ← e]

theorem reqCells_set (m : List (Req × Hd)) {i : Nat} (h : i < m.length) (k : Hd) : laid (reqCells m) (i * 4 + 3) [k.v m[i].1.data.length] = reqCells (m.set i (m[i].1, k)) := by
  have h1 := reqCells_cut m h
  have h2 := reqCells_cut (m.set i (m[i].1, k)) (i := i) (by simpa using h)
  have e1 : (m.set i (m[i].1, k)).take i = m.take i := by rw [List.take_set, List.set_eq_of_length_le (by simp; omega)]
  have e2 : (m.set i (m[i].1, k)).drop (i + 1) = m.drop (i + 1) := by simp [List.drop_set]
  rw [e1, e2] at h2
  simp only [List.getElem_set_self] at h2
  rw [h2, h1]
  have hl : (reqCells (m.take i)).length = i * 4 := by rw [reqCells_len]; simp; omega
  rw [← hl, laid_app]
  rfl

theorem Own.laid {n : Nat} {b : Nat} {cap : Nat} {C : List Value} {m : List (Req × Hd)} (h : Own 4 n (some ⟨b, 0, none⟩) cap C (reqCells m)) {i : Nat} (hi : i < m.length) (hm : m.length = n) (k : Hd) :
    Own 4 n (some ⟨b, 0, none⟩) cap (laid C (i * 4 + 3) [k.v m[i].1.data.length]) (reqCells (m.set i (m[i].1, k))) := by
  rcases h.alt with ⟨h1, _⟩ | ⟨b', h1, h2, h3⟩
  · cases h1
  · have hf := h.fit
    have hle : n * 4 ≤ C.length := by rw [h2]; exact Nat.mul_le_mul_right _ hf
    refine ⟨by rw [reqCells_len]; simp [hm], hf, .inr ⟨b', h1, ?_, ?_⟩⟩
    · rw [laid_len (by simp; omega), h2]
    · rw [laid_take (by simp; omega) hle, h3, reqCells_set m hi k]

theorem clone_spec (p : Pipe) (h : PH) (hh : h.Ok p) (hf : p.Few) : PureSpec Try.prog 29 [.agg ⟨h.cells p⟩] (h.By p) (fun v F => ∃ o : OP, v = .agg ⟨o.cells p⟩ ∧ o.Ok p ∧ F = ⟨o.D, o.rs⟩) := by
  have hlen : h.l.length = p.wait.length := by rw [← hh.l]; simp
  have hw := hf.w
  refine PureSpec.of_xc tabOk Try.func29 rfl (by decide) (n := Try.f29.ntmps - 1) rfl rfl fun w0 av => ?_
  conv => whnf
  intro b1
  conv => whnf
  intro b2
  conv => whnf
  refine XStop.draw tabOk mixed rfl rfl ?_
  conv => whnf
  repeat' (first
    | (refine And.intro ?_ ?_ <;> conv => whnf)
    | (refine XSame.of ?_; conv => whnf)
    | (refine XHeld.same rfl ?_; conv => whnf)
    | (refine XHeld.call rfl ?_; conv => whnf)
    | (refine XKeep.of ?_; conv => whnf)
    | (refine XCall.pure (cloneB_spec h.b p.buf hh.b (by have := hf.b; omega)) (fun w h => by first | exact h.b | exact h.1.b) ?_; rintro v F ⟨ba, bc, bC, rfl, hOb, rfl⟩; conv => whnf)
    | (refine XCall.pure (cloneR_spec h.w h.l hh.w (by omega)) (fun w h => by first | exact h.r | exact h.1.r) ?_; rintro v F ⟨wa, wc, wC, rfl, hOw, rfl⟩; conv => whnf))
  refine XStop.loop tabOk (ι := Nat × List (Req × Hd) × List Value) [3, 15, 16, 17, 18, 19, 20, 21, 22, 23, 24, 25, 26, 27, 28, 29, 30]
    (fun x => x.1 ≤ h.l.length ∧ x.2.1.map (·.1) = h.l.map (·.1) ∧ Own 4 h.l.length wa wc x.2.2 (reqCells x.2.1) ∧ ReqOk x.2.1)
    (fun x => [(15, .v (.int .i64 (x.1 : Int)))]) (fun _ => [[.slice ba p.buf.length bc, .int .i64 p.rd, .int .i64 p.wr, .slice wa h.l.length wc], [.slice none 0 0, .int .i64 0, .int .i64 0, .slice none 0 0]])
    (fun x => ⟨fun w => ∀ q ∈ x.2.1, By w q.2 q.1.data, orow ba bC ++ orow wa x.2.2⟩)
    (fun x => h.l.length - x.1) (0, h.l, wC) ⟨Nat.zero_le _, rfl, hOw, hh.d⟩ ?_ rfl (Ent.of_le ⟨by simp [Fx.and], fun w hw => hw.1.1.r.2⟩) fun x hx => ?_
  · conv => whnf
    repeat (first | exact FLe.nil | refine FLe.any ?_ | refine FLe.cons ?_)
  obtain ⟨i, m, C⟩ := x
  obtain ⟨hi, hm, hO, hd⟩ := hx
  dsimp only at hi hm hO hd ⊢
  have hml : m.length = h.l.length := by simpa using congrArg List.length hm
  conv => whnf
  refine XIf.split (fun hlt => ?_) (fun hge => ?_)
  · conv => whnf
    have hlt' : i < m.length := by
      have : (i : Int) < h.l.length := by simpa [iLt_eq] using hlt
      omega
    obtain ⟨wb, rfl⟩ := own_some hO (by omega)
    have hdl : m[i].1.data.length ≤ 100000 := by
      refine hf.d _ ?_
      rw [← hh.l, ← hm]
      exact List.mem_map_of_mem (List.getElem_mem hlt')
    refine XStop.draw tabOk mixed rfl rfl ?_
    conv => whnf
    have hpp : ((⟨wb, 0, none⟩ : Addr).add ((i : Int).toNat * 4)).add 3 = ⟨wb, i * 4 + 3, none⟩ := by
      rw [Addr.add_none, Addr.add_none]
      simp
    have hok := hd m[i] (List.getElem_mem hlt')
    repeat (first
      | (refine XHeld.same rfl ?_; conv => whnf)
      | (refine XHeld.call rfl ?_; conv => whnf)
      | (refine XKeep.of ?_; conv => whnf)
      | (refine XRead.index tabOk (t := 26) rfl rfl rfl (by omega) (by omega) (fun h => by cases h) fun ad had => ?_; cases had; conv => whnf)
      | (refine XRead.loadF tabOk (t := 25) rfl rfl (ad := ⟨wb, 0, none⟩) (k := i * 4 + 3) (L := reqCells m) (v := m[i].2.v m[i].1.data.length) (fun w hst => hO.at (r1 := orow ba bC) (r2 := []) (by rw [List.append_nil]; exact hst)) (fun _ => hpp.trans (by simp [Addr.add])) (reqCells_at m hlt' (by omega)) ?_; conv => whnf)
      | (refine XCall.pure (cloneB_spec m[i].2 m[i].1.data hok (by omega)) (fun w h => h _ (List.getElem_mem hlt')) ?_; rintro v F ⟨a2, c2, C2, rfl, hO2, rfl⟩; conv => whnf))
    have hC : i * 4 + 3 + 1 ≤ C.length := by
      rcases hO.alt with ⟨h1, _⟩ | ⟨b', _, h2, _⟩
      · cases h1
      · have := hO.fit
        omega
    refine XUnit.ent (F' := ⟨fun w => ∀ q ∈ m, By w q.2 q.1.data, orow ba bC ++ [(wb, Row.c C)] ++ orow a2 C2⟩) (Ent.of_le ⟨by simp [Fx.and, orow], fun w h => h.1⟩) ?_
    refine XUnit.storeIn tabOk (t := 25) rfl (r1 := orow ba bC) (r2 := orow a2 C2) hpp rfl (by simp [Value.cells, oneCell]) hC ?_
    conv => whnf
    have hsh := Own.share (r1 := orow ba bC ++ [(wb, Row.c (Sx.laid C (i * 4 + 3) [(⟨a2, c2⟩ : Hd).v m[i].1.data.length]))]) (r2 := []) hO2 (D := fun w => ∀ q ∈ m, By w q.2 q.1.data)
    simp only [List.append_nil] at hsh
    refine ⟨(i + 1, m.set i (m[i].1, ⟨a2, c2⟩), Sx.laid C (i * 4 + 3) [(⟨a2, c2⟩ : Hd).v m[i].1.data.length]), ⟨⟨by dsimp only; omega, ?_, Own.laid hO hlt' hml ⟨a2, c2⟩, ?_⟩, by dsimp only; omega⟩, ?_, ?_, ?_⟩
    · dsimp only
      rw [List.map_set, ← hm]
      apply List.ext_getElem (by simp)
      intro n h1 h2
      rw [List.getElem_set]
      split
      · rename_i e
        subst e
        simp
      · rfl
    · intro q hq
      rcases List.mem_or_eq_of_mem_set hq with hq | rfl
      · exact hd q hq
      · exact ⟨hO2.none_nil, hO2.fit⟩
    · conv => whnf
      refine ⟨?_, rfl⟩
      repeat (first | exact FLe.nil | refine FLe.any ?_ | refine FLe.cons ?_ | refine FLe.eq (by rw [wrap_i64 (by omega)]; rfl) ?_)
    · conv => whnf
      exact ⟨⟨rfl, rfl⟩, ⟨rfl, rfl⟩, trivial⟩
    · refine hsh.trans (Ent.imp fun w hw q hq => ?_)
      rcases List.mem_or_eq_of_mem_set hq with hq | rfl
      · exact hw.1 q hq
      · exact hw.2
  · conv => whnf
    exact ⟨_, Ent.refl _, ⟨ba, bc, bC, wa, wc, C, m⟩, by simp [OP.cells, hml], ⟨hOb, by rw [hml]; exact hO, by rw [hm, hh.l], hd⟩, rfl⟩

end Go.Proofs.Ytpnnadojhacjiaa
