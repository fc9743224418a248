/- Names, part E: Split of the reference. -/
import Derived.Test.YtbfpgfopppfhoaaGreatDoorNaD
namespace Go.Proofs.YtbfpgfopppfhoaaGreatDoor
open Go Go.Sx
set_option maxRecDepth 100000
set_option maxHeartbeats 4000000
set_option linter.unusedVariables false
set_option linter.unusedSimpArgs false

/-- One byte more. -/
def step (m : List (List UInt8)) (c : UInt8) : List (List UInt8) := if c = 47 then m ++ [[]] else m.dropLast ++ [(m.getLastD []) ++ [c]]

def glue (x : List UInt8) : List (List UInt8) → List (List UInt8)
  | [] => [x]
  | y :: ys => (x ++ y) :: ys

theorem step_snoc (a : List (List UInt8)) (x : List UInt8) (c : UInt8) : step (a ++ [x]) c = if c = 47 then (a ++ [x]) ++ [[]] else a ++ [x ++ [c]] := by
  unfold step
  split
  · rfl
  · simp

theorem foldl_step : ∀ (r : List UInt8) (a : List (List UInt8)) (x : List UInt8), r.foldl step (a ++ [x]) = a ++ glue x (splitOn r)
  | [], a, x => by simp [splitOn, glue]
  | c :: r, a, x => by
    rw [List.foldl_cons, step_snoc]
    by_cases hc : c = 47
    · rw [if_pos hc, foldl_step r]
      conv => rhs; unfold splitOn
      rw [if_pos hc]
      have := splitOn_ne r
      cases hs : splitOn r with
      | nil => exact absurd hs this
      | cons y ys => simp [glue]
    · rw [if_neg hc, foldl_step r]
      conv => rhs; unfold splitOn
      rw [if_neg hc]
      have := splitOn_ne r
      cases hs : splitOn r with
      | nil => exact absurd hs this
      | cons y ys => simp [glue]

theorem foldl_split (r : List UInt8) : r.foldl step [[]] = splitOn r := by
  have := foldl_step r [] []
  simp only [List.nil_append] at this
  rw [this]
  have h := splitOn_ne r
  cases hs : splitOn r with
  | nil => exact absurd hs h
  | cons y ys => simp [glue]

theorem step_len (m : List (List UInt8)) (c : UInt8) (hm : m ≠ []) : (step m c).length = if c = 47 then m.length + 1 else m.length := by
  have : 0 < m.length := List.length_pos_iff.2 hm
  unfold step
  split
  · simp
  · simp
    omega

theorem step_ne (m : List (List UInt8)) (c : UInt8) : step m c ≠ [] := by
  unfold step
  split <;> simp

theorem getLast_get {m : List (List UInt8)} (hm : m ≠ []) : m[m.length - 1]? = some (m.getLastD []) := by
  have h := List.getLast?_eq_some_getLast hm
  rw [← List.getLast?_eq_getElem?, List.getLastD_eq_getLast?, h]
  rfl

theorem Own.lay1 {n : Nat} {b c : Nat} {C : List Value} {m : List (List UInt8)} (h : Own 1 n (some ⟨b, 0, none⟩) c C (m.map strV)) (hn : n = m.length) (hm : m ≠ []) (x : List UInt8) :
    Own 1 n (some ⟨b, 0, none⟩) c (laid C (n - 1) [strV x]) ((m.dropLast ++ [x]).map strV) := by
  have hl : 0 < m.length := List.length_pos_iff.2 hm
  rcases h.alt with ⟨h1, _⟩ | ⟨b', h1, h2, h3⟩
  · cases h1
  · cases h1
    have hfit := h.fit
    have hCl : C.length = c := by rw [h2, Nat.mul_one]
    refine ⟨by simp; omega, h.fit, .inr ⟨b, rfl, by rw [laid_len (by simp; omega), h2], ?_⟩⟩
    rw [Nat.mul_one] at h3 ⊢
    have hp : (C.take (n - 1)).length = n - 1 := by simp; omega
    have e1 : C.take (n - 1) = m.dropLast.map strV := by
      have h4 : (C.take n).take (n - 1) = (m.map strV).take (n - 1) := by rw [h3]
      rw [List.take_take, Nat.min_eq_left (by omega)] at h4
      rw [h4, ← List.map_take, List.dropLast_eq_take, hn]
    unfold laid
    rw [List.append_assoc, List.take_append, List.take_of_length_le (by omega), hp, show n - (n - 1) = 1 from by omega, e1]
    simp

theorem own_take {sz n b c : Nat} {C L : List Value} (h : Own sz n (some ⟨b, 0, none⟩) c C L) : C.take (n * sz) = L := by
  rcases h.alt with ⟨h1, _⟩ | ⟨b', h1, _, h3⟩
  · cases h1
  · exact h3

theorem refSplit_spec (p : List UInt8) (hp : p.length ≤ 200) : PureSpec Tryz.prog 14 [strV p] (fun w => True) (RelP (splitR p)) := by
  have hsz : (ByteArray.mk ⟨p⟩).size = p.length := rfl
  refine PureSpec.of_xc tabOk Tryz.func14 rfl (by decide) (n := Tryz.f14.ntmps - 1) rfl rfl fun w0 av => ?_
  conv => whnf
  refine XVal.of_read (XRead.strEq (l := p) (m := [47]) ?_)
  conv => whnf
  refine XIf.split (fun h0 => ?_) (fun h0 => ?_)
  · conv => whnf
    have h0 : p = [47] := by simpa using h0
    refine relP_nil ?_
    subst h0
    rfl
  conv => whnf
  have h0 : p ≠ [47] := by simpa using h0
  repeat' (first
    | (refine XSame.of ?_; conv => whnf))
  generalize hc : (iLt _ 2 || iGt _ 60) = b
  have hc : (decide (p.length < 2) || decide (60 < p.length)) = b := by
    rw [← hc]
    simp only [iLt_eq, iGt_eq, hsz]
    congr 1 <;> rw [decide_eq_decide] <;> omega
  cases b
  rotate_left
  · conv => whnf
    repeat' (first
      | (refine XSame.of ?_; conv => whnf)
      | (refine XIf.yes rfl ?_; conv => whnf))
    refine relP_nil ?_
    unfold splitR
    by_cases h : pre p = true ∧ p.length ≤ 60
    · exfalso
      have h60 : ¬ 60 < p.length := by omega
      simp [h60] at hc
      obtain ⟨h1, h2⟩ := h
      unfold pre at h1
      cases p with
      | nil => cases h1
      | cons x p =>
        cases p with
        | nil => exact h0 (by simpa using h1)
        | cons y p => simp at hc; omega
    · rw [if_neg h]
  have h2 : 2 ≤ p.length := by
    have : ¬ p.length < 2 := by
      intro h
      simp [h] at hc
    omega
  have h60 : p.length ≤ 60 := by
    have : ¬ 60 < p.length := by
      intro h
      simp [h] at hc
    omega
  conv => whnf
  refine XVal.of_read (XRead.strIndex tabOk (t := 9) rfl rfl 0 rfl (by omega) ?_)
  conv => whnf
  repeat' (first
    | (refine XSame.of ?_; conv => whnf))
  refine XIf.split (fun h47 => ?_) (fun h47 => ?_)
  · conv => whnf
    refine relP_nil ?_
    unfold splitR
    rw [if_neg]
    rintro ⟨h1, -⟩
    unfold pre at h1
    cases p with
    | nil => simp at h2
    | cons x p =>
      simp at h1
      subst h1
      simp [iNe_eq] at h47
  conv => whnf
  have hpre : pre p = true := by
    unfold pre
    cases p with
    | nil => simp at h2
    | cons x p =>
      have : x = 47 := by
        have h := h47
        simp [iNe_eq] at h
        apply UInt8.toNat_inj.1
        have e : (47 : UInt8).toNat = 47 := rfl
        rw [e]
        omega
      subst this
      simp
  have hne : p.drop 1 ≠ [] := by
    intro h
    have := congrArg List.length h
    simp at this
    omega
  have hR : splitR p = (if (splitOn (p.drop 1)).all vname = true then (splitOn (p.drop 1), 0) else ([], 15)) := by
    unfold splitR
    rw [if_pos ⟨hpre, h60⟩, if_neg hne]
  refine XVal.build tabOk (t := 23) rfl rfl rfl [strV []] rfl rfl (by simp [Value.cells, strV]) (by decide) fun b0 => ?_
  conv => whnf
  refine XStop.loop tabOk (ι := Nat × List (List UInt8) × Option Addr × Nat × List Value) ([4, 5] ++ List.range' 23 26)
    (fun x => (1 ≤ x.1 ∧ x.1 ≤ p.length) ∧ x.2.1 ≠ [] ∧ x.2.1.length ≤ x.1 ∧ (p.drop x.1).foldl step x.2.1 = splitOn (p.drop 1) ∧ (∀ s ∈ x.2.1, s.length ≤ x.1) ∧ Own 1 x.2.1.length x.2.2.1 x.2.2.2.1 x.2.2.2.2 (x.2.1.map strV))
    (fun x => [(4, .v (.slice x.2.2.1 x.2.1.length x.2.2.2.1)), (5, .v (.int .i64 (x.1 : Int)))]) (fun _ => [])
    (fun x => ⟨fun w => True, orow x.2.2.1 x.2.2.2.2⟩)
    (fun x => p.length - x.1) (1, [[]], some ⟨b0, 0, none⟩, 1, [strV []]) ⟨⟨Nat.le_refl _, by omega⟩, by simp, Nat.le_refl _, foldl_split _, by simp, Own.full rfl⟩ ?_ rfl (Ent.of_le ⟨by simp [orow, Value.cells, strV], fun w hw => trivial⟩) fun x hx => ?_
  · conv => whnf
    repeat (first | exact FLe.nil | refine FLe.any ?_ | refine FLe.cons ?_)
  obtain ⟨i, m, a, c, C⟩ := x
  obtain ⟨⟨hi1, hi⟩, hm, hml, hfold, hmx, hO⟩ := hx
  dsimp only at hi1 hi hm hml hfold hmx hO ⊢
  have hmpos : 0 < m.length := List.length_pos_iff.2 hm
  obtain ⟨b, rfl⟩ := own_some hO hmpos
  conv => whnf
  refine XIf.split (fun hlt => ?_) (fun hlt => ?_)
  · conv => whnf
    have hlt' : i < p.length := by
      have h := hlt
      simp [iLt_eq, hsz] at h
      omega
    have hdrop : p.drop i = p[i] :: p.drop (i + 1) := List.drop_eq_getElem_cons hlt'
    rw [hdrop, List.foldl_cons] at hfold
    refine XVal.of_read (XRead.strIndex tabOk (t := 9) rfl rfl i rfl hlt' ?_)
    conv => whnf
    generalize hci : p[i] = ci at hfold
    refine XIf.split (fun hc47 => ?_) (fun hc47 => ?_)
    · have hc47' : ci = 47 := by
        have h := hc47
        simp [iEq_eq] at h
        apply UInt8.toNat_inj.1
        have e : (47 : UInt8).toNat = 47 := rfl
        rw [e]
        omega
      conv => whnf
      refine XVal.build tabOk (t := 23) rfl rfl rfl [strV []] rfl rfl (by simp [Value.cells, strV]) (by decide) fun b1 => ?_
      conv => whnf
      refine XVal.ent (F' := ⟨fun w => True, [] ++ orow (some ⟨b, 0, none⟩) C ++ [(b1, Row.c [strV []])]⟩) (Ent.of_le ⟨by simp [orow, Value.cells, strV], fun w hw => hw⟩) ?_
      refine XVal.append tabOk (t := 23) (xt := 23) rfl rfl rfl rfl rfl rfl (r1 := []) (r2 := [(b1, Row.c [strV []])]) (M := [strV []]) hO (Sees.row (by simp)) rfl (by simp [strV, oneCell]) (by omega) (by simp; omega) fun a' c' C' hO' => ?_
      conv => whnf
      refine ⟨(i + 1, m ++ [[]], a', c', C'), ⟨⟨⟨by omega, hlt'⟩, by simp, by simp; omega, ?_, ?_, by simpa using hO'⟩, by dsimp only; omega⟩, ?_, ?_, ?_⟩
      · rw [← hfold, hc47']
        rfl
      · intro s hs
        rcases List.mem_append.1 hs with hs | hs
        · have := hmx s hs
          omega
        · have : s = [] := by simpa using hs
          subst this
          simp
      · conv => whnf
        refine ⟨?_, rfl⟩
        repeat (first | exact FLe.nil | refine FLe.any ?_ | refine FLe.cons ?_ | refine FLe.eq (by rw [wrap_i64 (by omega)]; rfl) ?_ | refine FLe.eq (by simp) ?_)
      · conv => whnf
        exact trivial
      · refine Ent.of_le ⟨by simp, fun w hw => trivial⟩
    · have hc47' : ci ≠ 47 := by
        intro h
        subst h
        simp [iEq_eq] at hc47
      have hw : IntKind.i64.wrap ((m.length : Int) - 1) = ((m.length - 1 : Nat) : Int) := by
        rw [wrap_i64 (by omega)]
        omega
      have hlast : (m.getLastD []).length ≤ i := by
        refine hmx _ ?_
        exact List.mem_of_getElem? (getLast_get hm)
      refine XStop.draw tabOk mixed rfl rfl ?_
      conv => whnf
      repeat' (first
        | (refine And.intro ?_ ?_ <;> conv => whnf)
        | (refine XHeld.same rfl ?_; conv => whnf)
        | (refine XHeld.row rfl ?_; conv => whnf)
        | (refine XHeld.call rfl ?_; conv => whnf)
        | (refine XKeep.of ?_; conv => whnf)
        | (refine XSame.of ?_; conv => whnf)
        | (refine XRead.index tabOk (t := 23) rfl rfl rfl (by rw [hw]; omega) (by rw [hw]; omega) (fun h => by cases h) fun ad had => ?_; cases had; conv => whnf)
        | (refine XRead.load tabOk (t := 9) rfl rfl (ad := ⟨b, 0, none⟩) (k := m.length - 1) (L := m.map strV) (v := strV (m.getLastD [])) (((Sees.row (by simp [orow])).take (m.length * 1)).eq (own_take hO)) (by rw [hw]; simp) (by rw [List.getElem?_map, getLast_get hm]; rfl) ?_; conv => whnf)
        | (refine XRead.strCut tabOk (t := 9) rfl rfl i (i + 1) rfl (by rw [wrap_i64 (by omega)]; rfl) (by omega) hlt' ?_; conv => whnf)
        | (refine XRead.strAdd (l := m.getLastD []) (m := (p.drop i).take (i + 1 - i)) (by have htl : ((p.drop i).take (i + 1 - i)).length ≤ i + 1 - i := List.length_take_le _ _; omega) ?_; conv => whnf)
        | (refine XUnit.storeIn tabOk (t := 9) rfl (C := C) (k := m.length - 1) (r1 := []) (r2 := []) (by rw [hw]; simp [Addr.add]; intro h; omega) rfl (by simp [Value.cells, strV, oneCell]) (by have := hO.fit; have := own_take hO; have := congrArg List.length this; simp at this ⊢; omega) ?_; conv => whnf)
        | (refine XHeld.mk ?_ ?_ ?_; (focus ((conv => whnf); (first | exact trivial | exact ⟨⟨rfl, rfl⟩, trivial⟩ | exact ⟨⟨rfl, rfl⟩, ⟨rfl, rfl⟩, trivial⟩ | exact ⟨⟨rfl, rfl⟩, ⟨rfl, rfl⟩, ⟨rfl, rfl⟩, trivial⟩ | exact ⟨⟨rfl, rfl⟩, ⟨rfl, rfl⟩, ⟨rfl, rfl⟩, ⟨rfl, rfl⟩, trivial⟩ | exact ⟨⟨rfl, rfl⟩, ⟨rfl, rfl⟩, ⟨rfl, rfl⟩, ⟨rfl, rfl⟩, ⟨rfl, rfl⟩, trivial⟩ | exact ⟨⟨rfl, rfl⟩, ⟨rfl, rfl⟩, ⟨rfl, rfl⟩, ⟨rfl, rfl⟩, ⟨rfl, rfl⟩, ⟨rfl, rfl⟩, trivial⟩ | exact ⟨⟨rfl, rfl⟩, ⟨rfl, rfl⟩, ⟨rfl, rfl⟩, ⟨rfl, rfl⟩, ⟨rfl, rfl⟩, ⟨rfl, rfl⟩, ⟨rfl, rfl⟩, trivial⟩ | exact ⟨⟨rfl, rfl⟩, ⟨rfl, rfl⟩, ⟨rfl, rfl⟩, ⟨rfl, rfl⟩, ⟨rfl, rfl⟩, ⟨rfl, rfl⟩, ⟨rfl, rfl⟩, ⟨rfl, rfl⟩, trivial⟩))); (focus (first | exact Ent.refl _ | exact Ent.left _ _ | exact Ent.of_le ⟨List.sublist_append_left _ _, fun w h => h⟩ | exact Ent.of_le ⟨List.Sublist.refl _, fun w h => h.1⟩)); conv => whnf))
      have htk : (p.drop i).take (i + 1 - i) = [ci] := by
        rw [hdrop, show i + 1 - i = 1 from by omega, hci]
        rfl
      have hstep : step m ci = m.dropLast ++ [m.getLastD [] ++ [ci]] := by
        unfold step
        rw [if_neg hc47']
      have hlen : (m.dropLast ++ [m.getLastD [] ++ [ci]]).length = m.length := by
        simp
        omega
      refine ⟨(i + 1, m.dropLast ++ [m.getLastD [] ++ [ci]], some ⟨b, 0, none⟩, c, laid C (m.length - 1) [strV (m.getLastD [] ++ [ci])]), ⟨⟨⟨by omega, hlt'⟩, by simp, by rw [hlen]; omega, ?_, ?_, ?_⟩, by dsimp only; omega⟩, ?_, ?_, ?_⟩
      · dsimp only
        rw [← hfold, hstep]
      · intro s hs
        rcases List.mem_append.1 hs with hs | hs
        · have := hmx s (List.dropLast_subset _ hs)
          dsimp only
          omega
        · have : s = m.getLastD [] ++ [ci] := List.mem_singleton.1 hs
          subst this
          show (m.getLastD [] ++ [ci]).length ≤ i + 1
          rw [List.length_append]
          have : [ci].length = 1 := rfl
          omega
      · dsimp only
        rw [hlen]
        exact Own.lay1 hO rfl hm _
      · conv => whnf
        refine ⟨?_, rfl⟩
        repeat (first | exact FLe.nil | refine FLe.any ?_ | refine FLe.cons ?_ | refine FLe.eq (by rw [wrap_i64 (by omega)]; rfl) ?_ | refine FLe.eq (by rw [hlen]) ?_)
      · conv => whnf
        exact trivial
      · refine Ent.of_le ⟨?_, fun w hw => trivial⟩
        rw [htk]
        exact List.Sublist.refl _
  · conv => whnf
    have hie : i = p.length := by
      have h := hlt
      simp [iLt_eq, hsz] at h
      omega
    have hfin : m = splitOn (p.drop 1) := by
      rw [← hfold, hie]
      simp
    have hm1 : m.length ≤ 200 := by omega
    refine XStop.loop tabOk (ι := Nat) ([6] ++ List.range' 49 12) (fun x => x ≤ m.length ∧ (m.take x).all vname = true)
      (fun x => [(6, .v (.int .i64 (x : Int)))]) (fun _ => []) (fun x => ⟨fun w => True, orow (some ⟨b, 0, none⟩) C⟩)
      (fun x => m.length - x) 0 ⟨Nat.zero_le _, rfl⟩ ?_ rfl (Ent.refl _) fun j hj => ?_
    · conv => whnf
      repeat (first | exact FLe.nil | refine FLe.any ?_ | refine FLe.cons ?_)
    obtain ⟨hj, hall⟩ := hj
    conv => whnf
    refine XIf.split (fun hlt2 => ?_) (fun hlt2 => ?_)
    · conv => whnf
      have hlt2' : j < m.length := by
        have h := hlt2
        simp [iLt_eq] at h
        omega
      refine XVal.of_read (XRead.index tabOk (t := 23) rfl rfl rfl (by omega) (by omega) (fun h => by cases h) fun ad had => ?_)
      cases had
      conv => whnf
      refine XVal.of_read (XRead.load tabOk (t := 9) rfl rfl (ad := ⟨b, 0, none⟩) (k := j) (L := m.map strV) (v := strV m[j]) (((Sees.row (by simp [orow])).take (m.length * 1)).eq (own_take hO)) (by simp) (by simp [hlt2']) ?_)
      conv => whnf
      refine XCall.val (validR_spec m[j] (by have := hmx _ (List.getElem_mem hlt2'); omega)) (fun w hw => trivial) (fun v D hv => ?_)
      generalize hvb : vname m[j] = vb at hv
      subst hv
      conv => whnf
      cases vb
      · conv => whnf
        repeat' (first
          | (refine XIf.yes rfl ?_; conv => whnf))
        refine ⟨⟨fun w => StrAt w Hd.nil [], []⟩, (Ent.of_le ⟨List.nil_sublist _, fun w hw => trivial⟩ : Ent _ ⟨fun w => True, []⟩).trans (Ent.imp fun w _ => RowAt.nilA), ?_⟩
        have : splitR p = ([], 15) := by
          rw [hR, if_neg]
          intro h
          rw [← hfin, List.all_eq_true] at h
          have := h _ (List.getElem_mem hlt2')
          rw [hvb] at this
          cases this
        rw [this]
        exact ⟨Hd.nil, rfl, Hd.nil_ok, rfl⟩
      · conv => whnf
        repeat' (first
          | (refine XIf.no rfl ?_; conv => whnf))
        refine ⟨j + 1, ⟨⟨hlt2', ?_⟩, by dsimp only; omega⟩, ?_, ?_, Ent.refl _⟩
        · rw [List.take_succ_eq_append_getElem hlt2', List.all_append, hall]
          simp [hvb]
        · conv => whnf
          refine ⟨?_, rfl⟩
          repeat (first | exact FLe.nil | refine FLe.any ?_ | refine FLe.cons ?_ | refine FLe.eq (by rw [wrap_i64 (by omega)]; rfl) ?_)
        · conv => whnf
          exact trivial
    · conv => whnf
      have hje : j = m.length := by
        have h := hlt2
        simp [iLt_eq] at h
        omega
      subst hje
      rw [List.take_length] at hall
      have hS : splitR p = (m, 0) := by
        rw [hR, if_pos (by rw [← hfin]; exact hall), ← hfin]
      rw [hS]
      exact ⟨_, (Own.gives hO).trans (Ent.imp fun w h => h.2), ⟨some ⟨b, 0, none⟩, c⟩, rfl, ⟨fun h => (by cases h), hO.fit⟩, rfl⟩

end Go.Proofs.YtbfpgfopppfhoaaGreatDoor
