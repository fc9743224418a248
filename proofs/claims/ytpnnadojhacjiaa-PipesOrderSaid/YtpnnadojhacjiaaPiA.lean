/- Pipes, part A: data; Clone; proper; first; index. -/
import Derived.Test.YtpnnadojhacjiaaTab
import Derived.Test.YtpnnadojhacjiaaSyA
import Derived.Test.YtpnnadojhacjiaaSxX
namespace Go.Proofs.Ytpnnadojhacjiaa
open Go Go.Sx
set_option maxRecDepth 100000
set_option maxHeartbeats 2000000
set_option linter.unusedVariables false
set_option linter.unusedSimpArgs false

theorem mixed : Try.prog.follows .mixedOrders = true := by kernel_rfl

structure Req where
  task : Int
  write : Bool
  n : Int
  data : List UInt8

def Req.cells (r : Req) (h : Hd) : List Value := [.int .i64 r.task, .bool r.write, .int .i64 r.n, h.v r.data.length]

/-- Requests in a row, each with its handle. -/
def reqCells (l : List (Req × Hd)) : List Value := l.flatMap fun p => p.1.cells p.2

def ReqAt (w : World) (h : Hd) (l : List (Req × Hd)) : Prop := RowAt w h.a (reqCells l) ∧ ∀ p ∈ l, By w p.2 p.1.data

def ReqOk (l : List (Req × Hd)) : Prop := ∀ p ∈ l, p.2.Ok p.1.data.length

theorem reqCells_len (l : List (Req × Hd)) : (reqCells l).length = l.length * 4 := by
  induction l with
  | nil => rfl
  | cons p l ih =>
    have e : reqCells (p :: l) = p.1.cells p.2 ++ reqCells l := rfl
    rw [e, List.length_append, ih, List.length_cons]
    simp [Req.cells]
    omega

theorem req_one (r : Req) (k : Hd) : ∀ v ∈ r.cells k, oneCell v = true := by
  simp [Req.cells, oneCell]

theorem reqCells_one (l : List (Req × Hd)) : ∀ v ∈ reqCells l, oneCell v = true := by
  intro v hv
  obtain ⟨p, _, hp⟩ := List.mem_flatMap.1 hv
  exact req_one p.1 p.2 v hp

theorem reqCells_append (l m : List (Req × Hd)) : reqCells (l ++ m) = reqCells l ++ reqCells m := by simp [reqCells]

theorem reqCells_drop (l : List (Req × Hd)) (i : Nat) : (reqCells l).drop (i * 4) = reqCells (l.drop i) := by
  induction i generalizing l with
  | zero => simp
  | succ i ih =>
    cases l with
    | nil => simp [reqCells]
    | cons p l =>
      have e : reqCells (p :: l) = p.1.cells p.2 ++ reqCells l := rfl
      have e2 : (i + 1) * 4 = (p.1.cells p.2).length + i * 4 := by simp [Req.cells]; omega
      rw [e, e2, List.drop_length_add_append, ih]
      rfl

theorem reqCells_take (l : List (Req × Hd)) (i : Nat) : (reqCells l).take (i * 4) = reqCells (l.take i) := by
  have h := reqCells_append (l.take i) (l.drop i)
  rw [List.take_append_drop] at h
  by_cases hi : i ≤ l.length
  · rw [h, List.take_append_of_le_length (by rw [reqCells_len]; simp; omega), List.take_of_length_le (by rw [reqCells_len]; simp; omega)]
  · rw [List.take_of_length_le (by rw [reqCells_len]; omega), List.take_of_length_le (by omega)]

theorem reqCells_get (l : List (Req × Hd)) {i : Nat} (h : i < l.length) : ((reqCells l).drop (i * 4)).take 4 = l[i].1.cells l[i].2 := by
  rw [reqCells_drop, List.drop_eq_getElem_cons h]
  rfl

theorem reqCells_at (l : List (Req × Hd)) {i : Nat} (h : i < l.length) {j : Nat} (hj : j < 4) : (reqCells l)[i * 4 + j]? = (l[i].1.cells l[i].2)[j]? := by
  have h1 := reqCells_get l h
  have h2 : (((reqCells l).drop (i * 4)).take 4)[j]? = (l[i].1.cells l[i].2)[j]? := by rw [h1]
  rw [List.getElem?_take_of_lt hj, List.getElem?_drop] at h2
  exact h2

theorem cloneB_spec (h : Hd) (l : List UInt8) (hh : h.Ok l.length) (hn : l.length ≤ 1000000) : PureSpec Try.prog 34 [h.v l.length] (fun w => By w h l) (fun v F => ∃ a cap C, v = .slice a l.length cap ∧ Own 1 l.length a cap C (l.map byteV) ∧ F = ⟨fun _ => True, orow a C⟩) := by
  refine PureSpec.of_xc tabOk Try.func34 rfl (by decide) (n := 7) rfl rfl fun w0 av => ?_
  conv => whnf
  refine XVal.of_read (XRead.eqNil tabOk (t := 25) rfl rfl ?_)
  conv => whnf
  refine XIf.split (fun hc => ?_) (fun hc => ?_)
  · conv => whnf
    have h0 : h.a = none := by simpa using hc
    have hl : l = [] := List.eq_nil_of_length_eq_zero (hh.nil h0)
    subst hl
    exact ⟨⟨fun _ => True, orow none []⟩, Ent.imp fun w _ => trivial, none, 0, [], rfl, Own.nil 1, rfl⟩
  · conv => whnf
    refine XVal.build tabOk (t := 25) rfl rfl rfl [] rfl rfl (by simp) (by decide) fun b => ?_
    conv => whnf
    refine XVal.append tabOk (t := 25) (xt := 25) rfl rfl rfl rfl rfl rfl (r1 := []) (r2 := []) (C := []) (L := []) (M := l.map byteV) (Own.full (by simp)) (Sees.fact fun w h => h) (by simp) byte_one (by omega) (by simp; omega) fun a' cap' C' hO => ?_
    conv => whnf
    simp only [List.nil_append, Nat.zero_add] at hO ⊢
    exact ⟨_, Ent.of_le ⟨by simp, fun _ _ => trivial⟩, a', cap', C', rfl, hO, rfl⟩

theorem cloneR_spec (h : Hd) (l : List (Req × Hd)) (hh : h.Ok l.length) (hn : l.length ≤ 100000) : PureSpec Try.prog 44 [h.v l.length] (fun w => ReqAt w h l) (fun v F => ∃ a cap C, v = .slice a l.length cap ∧ Own 4 l.length a cap C (reqCells l) ∧ F = ⟨fun _ => True, orow a C⟩) := by
  refine PureSpec.of_xc tabOk Try.func44 rfl (by decide) (n := Try.f44.ntmps - 1) rfl rfl fun w0 av => ?_
  conv => whnf
  refine XVal.of_read (XRead.eqNil tabOk (t := 26) rfl rfl ?_)
  conv => whnf
  refine XIf.split (fun hc => ?_) (fun hc => ?_)
  · conv => whnf
    have h0 : h.a = none := by simpa using hc
    have hl : l = [] := List.eq_nil_of_length_eq_zero (hh.nil h0)
    subst hl
    exact ⟨⟨fun _ => True, orow none []⟩, Ent.imp fun w _ => trivial, none, 0, [], rfl, Own.nil 4, rfl⟩
  · conv => whnf
    refine XVal.build tabOk (t := 26) rfl rfl rfl [] rfl rfl (by simp) (by decide) fun b => ?_
    conv => whnf
    refine XVal.append tabOk (t := 26) (xt := 26) rfl rfl rfl rfl rfl rfl (r1 := []) (r2 := []) (C := []) (L := []) (M := reqCells l) (Own.full (by simp)) (Sees.fact fun w h => h.1) (reqCells_len l) (reqCells_one l) (by omega) (by simp; omega) fun a' cap' C' hO => ?_
    conv => whnf
    simp only [List.nil_append, Nat.zero_add] at hO ⊢
    exact ⟨_, Ent.of_le ⟨by simp, fun _ _ => trivial⟩, a', cap', C', rfl, hO, rfl⟩

def Req.proper (r : Req) : Bool :=
  if r.write then iGe r.task 1 && iEq r.n 0 && iGe r.data.length 1 && iLe r.data.length 128
  else iGe r.task 1 && iGe r.n 1 && iLe r.n 128 && iEq r.data.length 0

theorem proper_spec (r : Req) (h : Hd) : PureSpec Try.prog 33 [.agg ⟨r.cells h⟩] (fun _ => True) (fun v F => v = .bool r.proper) := by
  refine PureSpec.of_xc tabOk Try.func33 rfl (by decide) (n := Try.f33.ntmps - 1) rfl rfl fun w0 av => ?_
  conv => whnf
  intro b
  conv => whnf
  refine XIf.split (fun hc => ?_) (fun hc => ?_)
  all_goals
    conv => whnf
    repeat (refine XSame.of ?_; conv => whnf)
    refine ⟨_, Ent.refl _, ?_⟩
    simp [Req.proper, hc]

/-- The first place where p holds, from i on, or -1. -/
def idx {α : Type} (p : α → Bool) : List α → Nat → Int
  | [], _ => -1
  | x :: xs, i => if p x then (i : Int) else idx p xs (i + 1)

theorem idx_drop {α : Type} {p : α → Bool} {l : List α} {i : Nat} (h : i < l.length) : idx p (l.drop i) i = if p l[i] then (i : Int) else idx p (l.drop (i + 1)) (i + 1) := by
  rw [List.drop_eq_getElem_cons h]
  rfl

theorem Sees.box {w0 : World} {R : Nat → Nat → Prop} {av : Nat → Prop} {bs : List (Nat × Nat)} {cs : List (List Value)} {F : Fx} (i : Nat) (hi : i < cs.length) :
    Sees w0 R av bs cs F (some ⟨(nth (0, 0) bs i).1, (nth (0, 0) bs i).2, none⟩) (nth [] cs i) := fun w hst => RowAt.of_range (hst.box.get i hi).1

theorem first_spec (bh wh : Hd) (bl : Nat) (rd wr : Int) (l : List (Req × Hd)) (hk : wh.Ok l.length) (hl : l.length ≤ 100000) (t : Bool) :
    PureSpec Try.prog 47 [.agg ⟨[bh.v bl, .int .i64 rd, .int .i64 wr, wh.v l.length]⟩, .bool t] (fun w => ReqAt w wh l) (fun v F => v = .int .i64 (idx (fun p => p.1.write == t) l 0)) := by
  refine PureSpec.of_xc tabOk Try.func47 rfl (by decide) (n := Try.f47.ntmps - 2) rfl rfl fun w0 av => ?_
  conv => whnf
  intro b1
  conv => whnf
  intro b2
  conv => whnf
  refine XCall.inlineV tabOk Try.func42 rfl (by decide) (n := Try.f42.ntmps - 2) rfl rfl ?_
  conv => whnf
  refine XStop.loop tabOk (ι := Nat) [4, 5, 8, 9, 10, 11, 12, 13, 14, 15, 16, 17, 18] (fun x => x ≤ l.length ∧ idx (fun p => p.1.write == t) (l.drop x) x = idx (fun p => p.1.write == t) l 0)
    (fun x => [(8, .v (.int .i64 (x : Int)))]) (fun _ => [[bh.v bl, .int .i64 rd, .int .i64 wr, wh.v l.length], [.bool t]]) (fun _ => ⟨fun w => ReqAt w wh l, []⟩)
    (fun x => l.length - x) 0 ⟨Nat.zero_le _, rfl⟩ ?_ rfl (Ent.refl _) fun i hi => ?_
  · conv => whnf
    repeat (first | exact FLe.nil | refine FLe.any ?_ | refine FLe.cons ?_)
  obtain ⟨hi1, hi2⟩ := hi
  conv => whnf
  refine XIf.split (fun hlt => ?_) (fun hge => ?_)
  · conv => whnf
    have hlt' : i < l.length := by
      have : (i : Int) < l.length := by simpa [iLt_eq] using hlt
      omega
    refine XVal.of_read (XRead.index tabOk (t := 26) rfl rfl rfl (by omega) (by omega) hk.nil fun ad had => ?_)
    conv => whnf
    refine XVal.of_read (XRead.loads tabOk (t := 51) rfl rfl (ad := ad) (k := i * 4) (L := reqCells l) (fun w hst => had ▸ hst.now.1) rfl (reqCells_get l hlt') rfl ?_)
    conv => whnf
    refine XCall.inlineV tabOk Try.func51 rfl (by decide) (n := Try.f51.ntmps - 2) rfl rfl ?_
    conv => whnf
    intro b3
    conv => whnf
    refine XVal.of_read (XRead.load tabOk (t := 4) rfl rfl (ad := ⟨b2, 0, none⟩) (k := 0) (L := [.bool t]) (Sees.box 1 (by simp)) rfl rfl ?_)
    conv => whnf
    refine ⟨⟨[(b3, 0)], rfl⟩, ?_⟩
    conv => whnf
    rw [idx_drop hlt'] at hi2
    refine XIf.split (fun hc => ?_) (fun hc => ?_)
    · conv => whnf
      refine ⟨⟨[(b3, 0)], rfl⟩, ?_⟩
      conv => whnf
      rw [if_pos hc] at hi2
      exact ⟨_, Ent.refl _, by dsimp only; rw [← hi2]⟩
    · conv => whnf
      rw [if_neg (by simp [hc])] at hi2
      refine ⟨i + 1, ⟨⟨hlt', hi2⟩, by dsimp only; omega⟩, ?_, ?_, Ent.refl _⟩
      · conv => whnf
        refine ⟨?_, rfl⟩
        repeat (first | exact FLe.nil | refine FLe.any ?_ | refine FLe.cons ?_ | refine FLe.eq (by rw [wrap_i64 (by omega)]; rfl) ?_)
      · conv => whnf
        exact ⟨⟨rfl, rfl⟩, ⟨rfl, rfl⟩, trivial⟩
  · conv => whnf
    have hge' : l.length ≤ i := by
      have : ¬ (i : Int) < l.length := by simpa [iLt_eq] using hge
      omega
    rw [List.drop_of_length_le hge'] at hi2
    refine ⟨⟨[], rfl⟩, ?_⟩
    conv => whnf
    exact ⟨_, Ent.refl _, by dsimp only; rw [← hi2]; rfl⟩

theorem index_spec (bh wh : Hd) (bl : Nat) (rd wr : Int) (l : List (Req × Hd)) (hk : wh.Ok l.length) (hl : l.length ≤ 100000) (t : Int) :
    PureSpec Try.prog 28 [.agg ⟨[bh.v bl, .int .i64 rd, .int .i64 wr, wh.v l.length]⟩, .int .i64 t] (fun w => ReqAt w wh l) (fun v F => v = .int .i64 (idx (fun p => iEq p.1.task t) l 0)) := by
  refine PureSpec.of_xc tabOk Try.func28 rfl (by decide) (n := Try.f28.ntmps - 2) rfl rfl fun w0 av => ?_
  conv => whnf
  intro b1
  conv => whnf
  intro b2
  conv => whnf
  refine XCall.inlineV tabOk Try.func42 rfl (by decide) (n := Try.f42.ntmps - 2) rfl rfl ?_
  conv => whnf
  refine XStop.loop tabOk (ι := Nat) [4, 5, 8, 9, 10, 11, 12, 13, 14, 15, 16, 17, 18] (fun x => x ≤ l.length ∧ idx (fun p => iEq p.1.task t) (l.drop x) x = idx (fun p => iEq p.1.task t) l 0)
    (fun x => [(8, .v (.int .i64 (x : Int)))]) (fun _ => [[bh.v bl, .int .i64 rd, .int .i64 wr, wh.v l.length], [.int .i64 t]]) (fun _ => ⟨fun w => ReqAt w wh l, []⟩)
    (fun x => l.length - x) 0 ⟨Nat.zero_le _, rfl⟩ ?_ rfl (Ent.refl _) fun i hi => ?_
  · conv => whnf
    repeat (first | exact FLe.nil | refine FLe.any ?_ | refine FLe.cons ?_)
  obtain ⟨hi1, hi2⟩ := hi
  conv => whnf
  refine XIf.split (fun hlt => ?_) (fun hge => ?_)
  · conv => whnf
    have hlt' : i < l.length := by
      have : (i : Int) < l.length := by simpa [iLt_eq] using hlt
      omega
    refine XVal.of_read (XRead.index tabOk (t := 26) rfl rfl rfl (by omega) (by omega) hk.nil fun ad had => ?_)
    conv => whnf
    refine XVal.of_read (XRead.loads tabOk (t := 51) rfl rfl (ad := ad) (k := i * 4) (L := reqCells l) (fun w hst => had ▸ hst.now.1) rfl (reqCells_get l hlt') rfl ?_)
    conv => whnf
    refine XCall.inlineV tabOk Try.func43 rfl (by decide) (n := Try.f43.ntmps - 2) rfl rfl ?_
    conv => whnf
    intro b3
    conv => whnf
    refine XVal.of_read (XRead.load tabOk (t := 3) rfl rfl (ad := ⟨b2, 0, none⟩) (k := 0) (L := [.int .i64 t]) (Sees.box 1 (by simp)) rfl rfl ?_)
    conv => whnf
    refine ⟨⟨[(b3, 0)], rfl⟩, ?_⟩
    conv => whnf
    rw [idx_drop hlt'] at hi2
    refine XIf.split (fun hc => ?_) (fun hc => ?_)
    · conv => whnf
      refine ⟨⟨[(b3, 0)], rfl⟩, ?_⟩
      conv => whnf
      rw [if_pos hc] at hi2
      exact ⟨_, Ent.refl _, by dsimp only; rw [← hi2]⟩
    · conv => whnf
      rw [if_neg (by simp [hc])] at hi2
      refine ⟨i + 1, ⟨⟨hlt', hi2⟩, by dsimp only; omega⟩, ?_, ?_, Ent.refl _⟩
      · conv => whnf
        refine ⟨?_, rfl⟩
        repeat (first | exact FLe.nil | refine FLe.any ?_ | refine FLe.cons ?_ | refine FLe.eq (by rw [wrap_i64 (by omega)]; rfl) ?_)
      · conv => whnf
        exact ⟨⟨rfl, rfl⟩, ⟨rfl, rfl⟩, trivial⟩
  · conv => whnf
    have hge' : l.length ≤ i := by
      have : ¬ (i : Int) < l.length := by simpa [iLt_eq] using hge
      omega
    rw [List.drop_of_length_le hge'] at hi2
    refine ⟨⟨[], rfl⟩, ?_⟩
    conv => whnf
    exact ⟨_, Ent.refl _, by dsimp only; rw [← hi2]; rfl⟩

end Go.Proofs.Ytpnnadojhacjiaa
