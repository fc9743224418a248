/- Names, part C: prefixes. -/
import Derived.Test.YtbfpgfopppfhoaaGreatDoorNaB
namespace Go.Proofs.YtbfpgfopppfhoaaGreatDoor
open Go Go.Sx
set_option maxRecDepth 100000
set_option maxHeartbeats 4000000
set_option linter.unusedVariables false
set_option linter.unusedSimpArgs false

def pre (s : List UInt8) : Bool := s.take 1 == [47]

theorem prefix_spec (s : List UInt8) (hs : s.length ≤ 1000000) : PureSpec Tryz.prog 122 [strV s, strV [47]] (fun w => True) (fun v F => v = .bool (pre s)) := by
  refine PureSpec.of_xc tabOk Tryz.func122 rfl (by decide) (n := Tryz.f122.ntmps - 2) rfl rfl fun w0 av => ?_
  conv => whnf
  repeat' (first
    | (refine XSame.of ?_; conv => whnf))
  refine XIf.split (fun hlt => ?_) (fun hlt => ?_)
  · conv => whnf
    have h1 : 1 ≤ s.length := by
      have := hlt
      simp only [iGe_eq, mk_size, decide_eq_true_eq] at this
      simp at this
      omega
    refine XVal.of_read (XRead.strTake tabOk (t := 9) rfl rfl 1 rfl h1 ?_)
    conv => whnf
    refine XVal.of_read (XRead.strEq (l := s.take 1) (m := [47]) ?_)
    conv => whnf
    repeat' (first
      | (refine XSame.of ?_; conv => whnf))
    exact ⟨_, Ent.refl _, rfl⟩
  · conv => whnf
    repeat' (first
      | (refine XSame.of ?_; conv => whnf))
    have h1 : s = [] := by
      have := hlt
      simp only [iGe_eq, mk_size, decide_eq_false_iff_not] at this
      simp at this
      exact List.eq_nil_of_length_eq_zero (by omega)
    subst h1
    exact ⟨_, Ent.refl _, rfl⟩

def cutV (s : List UInt8) : Value := .tuple #[strV (if pre s then s.drop 1 else s), .bool (pre s)]

theorem cut_spec (s : List UInt8) (hs : s.length ≤ 1000000) : PureSpec Tryz.prog 86 [strV s, strV [47]] (fun w => True) (fun v F => v = cutV s) := by
  refine PureSpec.of_xc tabOk Tryz.func86 rfl (by decide) (n := Tryz.f86.ntmps - 2) rfl rfl fun w0 av => ?_
  conv => whnf
  refine XCall.val (prefix_spec s hs) (fun w hw => trivial) (fun v D hv => ?_)
  subst hv
  conv => whnf
  generalize hp : pre s = b
  cases b
  · conv => whnf
    refine ⟨_, Ent.refl _, ?_⟩
    simp only [cutV, hp]
    rfl
  · conv => whnf
    have h1 : 1 ≤ s.length := by
      cases s with
      | nil => cases hp
      | cons x s => simp
    refine XVal.of_read (XRead.strDrop tabOk (t := 9) rfl rfl 1 rfl h1 ?_)
    conv => whnf
    refine ⟨_, Ent.refl _, ?_⟩
    simp only [cutV, hp]
    rfl

theorem cutPrefix_spec (s : List UInt8) (hs : s.length ≤ 1000000) : PureSpec Tryz.prog 40 [strV s, strV [47]] (fun w => True) (fun v F => v = cutV s) := by
  refine PureSpec.of_xc tabOk Tryz.func40 rfl (by decide) (n := Tryz.f40.ntmps - 2) rfl rfl fun w0 av => ?_
  conv => whnf
  refine XCall.val (cut_spec s hs) (fun w hw => trivial) (fun v D hv => ?_)
  subst hv
  unfold cutV
  conv => whnf
  exact ⟨_, Ent.refl _, rfl⟩

/-! ### splitting -/

def splitOn : List UInt8 → List (List UInt8)
  | [] => [[]]
  | c :: r => if c = 47 then [] :: splitOn r else match splitOn r with
    | x :: xs => (c :: x) :: xs
    | [] => [[c]]

theorem splitOn_ne (r : List UInt8) : splitOn r ≠ [] := by
  cases r with
  | nil => simp [splitOn]
  | cons c r =>
    unfold splitOn
    split
    · simp
    · split <;> simp

theorem splitOn_len : ∀ r : List UInt8, (splitOn r).length = r.count 47 + 1
  | [] => rfl
  | c :: r => by
    have ih := splitOn_len r
    unfold splitOn
    by_cases h : c = 47
    · subst h
      rw [if_pos rfl, List.count_cons_self, List.length_cons, ih]
    · rw [if_neg h, List.count_cons_of_ne h]
      split
      · rename_i x xs hx
        rw [hx] at ih
        simpa using ih
      · rename_i hx
        exact absurd hx (splitOn_ne r)

theorem splitOn_none {r : List UInt8} (h : r.count 47 = 0) : splitOn r = [r] := by
  induction r with
  | nil => rfl
  | cons c r ih =>
    by_cases hc : c = 47
    · subst hc
      rw [List.count_cons_self] at h
      omega
    · rw [List.count_cons_of_ne hc] at h
      unfold splitOn
      rw [if_neg hc, ih h]

theorem splitOn_some : ∀ {r : List UInt8}, r.count 47 ≠ 0 → ∃ k : Nat, slash r = (k : Int) ∧ k < r.length ∧ splitOn r = r.take k :: splitOn (r.drop (k + 1)) ∧ r.count 47 = (r.drop (k + 1)).count 47 + 1
  | [], h => absurd rfl h
  | c :: r, h => by
    by_cases hc : c = 47
    · subst hc
      refine ⟨0, rfl, by simp, ?_, by simp⟩
      conv => lhs; unfold splitOn
      simp
    · rw [List.count_cons_of_ne hc] at h
      obtain ⟨k, h1, h2, h3, h4⟩ := splitOn_some h
      refine ⟨k + 1, ?_, by simp; omega, ?_, by rw [List.count_cons_of_ne hc]; simpa using h4⟩
      · unfold slash at h1 ⊢
        have hb : (c == 47) = false := by simpa using hc
        simp only [List.findIdx?_cons, hb]
        cases hf : r.findIdx? (· == 47) with
        | none => rw [hf] at h1; simp at h1
        | some n =>
          rw [hf] at h1
          simp only [Int.natCast_inj] at h1
          subst h1
          simp
      · conv => lhs; unfold splitOn
        rw [if_neg hc, h3]
        rfl

/-- A new slice of strings is handed back. -/
def StrAt (w : World) (h : Hd) (l : List (List UInt8)) : Prop := RowAt w h.a (l.map strV)
def RelS (l : List (List UInt8)) (v : Value) (F : Fx) : Prop := ∃ h : Hd, v = h.v l.length ∧ h.Ok l.length ∧ F = ⟨fun w => StrAt w h l, []⟩

theorem laid_next (d : List (List UInt8)) (x : List UInt8) (z : Value) (n : Nat) (h : d.length < n) : laid (d.map strV ++ List.replicate (n - d.length) z) d.length [strV x] = (d ++ [x]).map strV ++ List.replicate (n - (d ++ [x]).length) z := by
  obtain ⟨k, hk⟩ : ∃ k, n - d.length = k + 1 := ⟨n - d.length - 1, by omega⟩
  have hk2 : n - (d ++ [x]).length = k := by simp; omega
  rw [hk, hk2]
  unfold laid
  have e : d.length = (d.map strV).length := by simp
  rw [e, List.take_left, List.drop_append]
  simp [List.replicate_succ]

theorem genSplit_spec (s p : List UInt8) (n : Int) (hs : s.length ≤ 1000) (hp : p = [47]) (hn : n < 0) : PureSpec Tryz.prog 87 [strV s, strV p, .int .i64 0, .int .i64 n] (fun w => True) (RelS (splitOn s)) := by
  have hcnt : s.count 47 ≤ s.length := List.count_le_length
  refine PureSpec.of_xc tabOk Tryz.func87 rfl (by decide) (n := Tryz.f87.ntmps - 4) rfl rfl fun w0 av => ?_
  conv => whnf
  refine XIf.no (by simp [iEq_eq]; omega) ?_
  conv => whnf
  refine XVal.of_read (XRead.strEq (l := p) (m := []) ?_)
  conv => whnf
  refine XIf.no (by simp [hp]) ?_
  subst hp
  conv => whnf
  refine XIf.yes (by simp [iLt_eq]; omega) ?_
  conv => whnf
  refine XCall.val (count_spec s) (fun w hw => trivial) (fun v D hv => ?_)
  subst hv
  conv => whnf
  generalize hN : ite (IntKind.i64.wrap _ < IntKind.i64.wrap _) _ _ = N
  have hN : N = ((s.count 47 + 1 : Nat) : Int) := by
    rw [← hN, mk_size, wrap_i64 (by omega), wrap_i64 (by omega)]
    split <;> omega
  subst hN
  refine XVal.makeRow tabOk (t := 23) rfl rfl rfl (s.count 47 + 1) rfl rfl (by omega) (by decide) rfl (by omega) (by simp; omega) fun b => ?_
  conv => whnf
  generalize hN : IntKind.i64.wrap _ = N
  have hN : N = ((s.count 47 : Nat) : Int) := by
    rw [← hN, wrap_i64 (by omega)]
    omega
  subst hN
  refine XStop.loop tabOk (ι := List UInt8 × List (List UInt8)) ([0, 10, 11] ++ List.range' 34 24) (fun x => splitOn s = x.2 ++ splitOn x.1 ∧ x.1.length ≤ s.length ∧ x.2.length + x.1.count 47 = s.count 47)
    (fun x => [(0, .v (strV x.1)), (10, .v (.int .i64 (x.2.length : Int)))]) (fun _ => [])
    (fun x => ⟨fun w => True, [] ++ [(b, Row.c (x.2.map strV ++ List.replicate (s.count 47 + 1 - x.2.length) (strV [])))] ++ []⟩)
    (fun x => x.1.count 47) (s, []) ⟨rfl, Nat.le_refl _, by simp⟩ ?_ rfl (Ent.of_le ⟨by simp [strV], fun w hw => trivial⟩) fun x hx => ?_
  · conv => whnf
    repeat (first | exact FLe.nil | refine FLe.any ?_ | refine FLe.cons ?_)
  obtain ⟨r, d⟩ := x
  obtain ⟨hsp, hrl, hct⟩ := hx
  dsimp only at hsp hrl hct ⊢
  conv => whnf
  refine XIf.split (fun hlt => ?_) (fun hlt => ?_)
  · conv => whnf
    have hlt' : d.length < s.count 47 := by
      have := hlt
      simp only [iLt_eq, decide_eq_true_eq] at this
      omega
    obtain ⟨k, hk1, hk2, hk3, hk4⟩ := splitOn_some (r := r) (by omega)
    refine XCall.val (index_spec r) (fun w hw => trivial) (fun v D hv => ?_)
    generalize hkk : slash r = kk at hv hk1
    subst hv
    conv => whnf
    refine XIf.no (by simp [iLt_eq, hk1]) ?_
    conv => whnf
    subst hk1
    refine XVal.of_read (XRead.strTake tabOk (t := 9) rfl rfl k (by rw [wrap_i64 (by omega)]; omega) (by omega) ?_)
    conv => whnf
    refine XVal.of_read (XRead.index tabOk (t := 23) rfl rfl rfl (by omega) (by omega) (fun h => by cases h) fun ad had => ?_)
    cases had
    conv => whnf
    refine XUnit.storeIn tabOk (t := 9) rfl (C := d.map strV ++ List.replicate (s.count 47 + 1 - d.length) (strV [])) (k := d.length) (r1 := []) (r2 := []) (by simp [Addr.add]; intro h; subst h; rfl) rfl (by simp [Value.cells, strV, oneCell]) (by simp; omega) ?_
    conv => whnf
    refine XVal.of_read (XRead.strDrop tabOk (t := 9) rfl rfl (k + 1) (by rw [mk_size, wrap_i64 (by simp; omega)]; simp) (by omega) ?_)
    conv => whnf
    refine ⟨(r.drop (k + 1), d ++ [r.take k]), ⟨⟨?_, by simp; omega, by simp; omega⟩, by dsimp only; omega⟩, ?_, ?_, ?_⟩
    · dsimp only
      rw [hsp, hk3]
      simp
    · conv => whnf
      refine ⟨?_, rfl⟩
      repeat (first | exact FLe.nil | refine FLe.any ?_ | refine FLe.cons ?_ | refine FLe.eq (by rw [wrap_i64 (by omega)]; rfl) ?_ | refine FLe.eq (by rw [wrap_i64 (by omega)]; simp) ?_)
    · conv => whnf
      exact trivial
    · have hl := laid_next d (r.take k) (strV []) (s.count 47 + 1) (by omega)
      refine Ent.of_le ⟨?_, fun w hw => hw⟩
      simp only [Value.cells, strV] at hl ⊢
      simp only [hl]
      exact List.Sublist.refl _
  · conv => whnf
    have hde : d.length = s.count 47 := by
      have := hlt
      simp only [iLt_eq, decide_eq_false_iff_not] at this
      omega
    have hr0 : r.count 47 = 0 := by omega
    rw [splitOn_none hr0] at hsp
    refine XVal.of_read (XRead.index tabOk (t := 23) rfl rfl rfl (by omega) (by omega) (fun h => by cases h) fun ad had => ?_)
    cases had
    conv => whnf
    refine XUnit.storeIn tabOk (t := 9) rfl (C := d.map strV ++ List.replicate (s.count 47 + 1 - d.length) (strV [])) (k := d.length) (r1 := []) (r2 := []) (by simp [Addr.add]; intro h; subst h; rfl) rfl (by simp [Value.cells, strV, oneCell]) (by simp; omega) ?_
    conv => whnf
    refine XVal.of_read (XRead.slice tabOk (t := 23) rfl rfl rfl (lo := none) (hi := some _) (mx := none) (k1 := .i64) (k3 := .i64) 0 (d.length + 1) (s.count 47 + 1) rfl (by show IntKind.i64.wrap ((d.length : Int) + 1) = ((d.length + 1 : Nat) : Int); rw [wrap_i64 (by omega)]; rfl) rfl (by omega) (by omega) (Nat.le_refl _) (by simp) ?_)
    conv => whnf
    rw [cutA_zero]
    refine ⟨⟨fun w => StrAt w ⟨some ⟨b, 0, none⟩, s.count 47 + 1⟩ (splitOn s), []⟩, (Ent.shareAll).trans (Ent.imp fun w h => ?_), ⟨some ⟨b, 0, none⟩, s.count 47 + 1⟩, ?_, ⟨fun h => (by cases h), by rw [splitOn_len]; exact Nat.le_refl _⟩, rfl⟩
    · have hl := laid_next d r (strV []) (s.count 47 + 1) (by omega)
      have he : (d ++ [r]).map strV ++ List.replicate (s.count 47 + 1 - (d ++ [r]).length) (strV []) = (splitOn s).map strV := by
        rw [hsp]
        simp [hde]
      rw [he] at hl
      have h2 := h.2.1
      simp only [Value.cells, strV] at hl h2
      rw [show ([Value.string ⟨⟨r⟩⟩] : List Value) = (#[Value.string ⟨⟨r⟩⟩] : Array Value).toList from rfl] at hl
      rw [hl] at h2
      exact h2
    · have : (splitOn s).length = s.count 47 + 1 := splitOn_len s
      simp only [this, hde]
      rfl

end Go.Proofs.YtbfpgfopppfhoaaGreatDoor
