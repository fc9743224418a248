/- Parts of the proof: NyG, NyL, NyM, NyH, NyI, NyJ, NyK, NyN, NyO, NyP, NyQ. -/
import Derived.Test.YtbfpgfopppfhoaaGreatDoorQN
import Derived.Test.YtbfpgfopppfhoaaGreatDoorQK
import Derived.Test.YtbfpgfopppfhoaaGreatDoorQO
import Derived.Test.YtbfpgfopppfhoaaGreatDoorQM
import Derived.Test.YtbfpgfopppfhoaaGreatDoorQD
import Derived.Test.YtbfpgfopppfhoaaGreatDoorQR
namespace Go.Proofs.YtbfpgfopppfhoaaGreatDoor
open Go Go.Sx
set_option maxRecDepth 100000
set_option maxHeartbeats 4000000
set_option linter.unusedVariables false
set_option linter.unusedSimpArgs false

theorem pcheck38_spec (d : List UInt8) (h : Hd) (hh : h.Ok d.length) (hl : d.length ≤ 1000000) : PureSpec Tryz.prog 26 [h.v d.length] (fun w => By w h d) (fun v F => v = .int .i64 (chk38 d : Int)) := by
  have ho := openT_spec d h hh hl
  rw [openE_eq] at ho
  refine PureSpec.of_xc tabOk Tryz.func26 rfl (by decide) (n := Tryz.f26.ntmps - 1) rfl rfl fun w0 av => ?_
  generalize chk38 d = e at *
  conv => whnf
  repeat (refine XSame.of ?_; conv => whnf)
  refine XCall.val ho (fun w hw => hw) (fun v D hv => ?_)
  obtain ⟨p, rfl⟩ : ∃ p, v = .tuple #[.pointer p, .int .i64 (e : Int)] := by
    unfold RelTr at hv
    split at hv
    · obtain ⟨bt, bm, H, _, rfl, _⟩ := hv
      exact ⟨_, rfl⟩
    · obtain ⟨p, rfl, _⟩ := hv
      exact ⟨p, rfl⟩
  conv => whnf
  repeat (refine XSame.of ?_; conv => whnf)
  exact ⟨_, Ent.refl _, rfl⟩

theorem theTree_find (d : List UInt8) (H : Nat → Hd) (n : Nat) (s : List UInt8) : (theTree d H).find n s = (T0 d).find n s := rfl

theorem theTree_walk (d : List UInt8) (H : Nat → Hd) : ∀ (l : List (List UInt8)) (n : Nat), (theTree d H).walk l n = (T0 d).walk l n
  | [], n => rfl
  | s :: r, n => by
    unfold Tree.walk
    rw [theTree_find, theTree_walk d H r]

theorem walkR_P {d : List UInt8} (h38 : chk38 d = 0) (p : List UInt8) : walkR d p = if (splitR p).2 ≠ 0 then (0, 15) else (T0 d).walk (splitR p).1 0 := by
  obtain ⟨h0, hG, hE⟩ := tree_facts h38
  obtain ⟨hr1, hr2⟩ := mem_dl.1 (root_in h0)
  have hsn := splitR_names p
  unfold walkR
  rw [if_neg (show ¬ chk38 d ≠ 0 by rw [h38]; simp)]
  split
  · rfl
  · exact ((walk_follow h38 (splitR p).1 0 hr1 (by omega) fun s hs h => by
      have := hsn s hs
      rw [h] at this
      cases this).1).symm

theorem dwalk_spec (d : List UInt8) (h : Hd) (hh : h.Ok d.length) (hl : d.length ≤ 1000000) (p : List UInt8) (hp : p.length ≤ 200) :
    PureSpec Tryz.prog 28 [h.v d.length, strV p] (fun w => By w h d) (RelII (walkR d p).1 (walkR d p).2) := by
  obtain ⟨M, hM⟩ : ∃ x, x = walkR d p := ⟨_, rfl⟩
  rw [← hM]
  have hos := openT_spec d h hh hl
  rw [openE_eq] at hos
  refine PureSpec.of_xc tabOk Tryz.func28 rfl (by decide) (n := Tryz.f28.ntmps - 2) rfl rfl fun w0 av => ?_
  conv => whnf
  refine XCall.pure hos (fun w hw => hw) (fun v D hv => ?_)
  unfold RelTr at hv
  by_cases h0 : chk38 d = 0
  rotate_left
  · rw [if_neg h0] at hv
    obtain ⟨q, rfl, rfl⟩ := hv
    have : M = (0, chk38 d) := by
      rw [hM]
      unfold walkR
      rw [if_pos h0]
    rw [this]
    generalize chk38 d = e at *
    conv => whnf
    repeat (refine XSame.of ?_; conv => whnf)
    refine XIf.yes (by simp [iNe_eq]; omega) ?_
    conv => whnf
    repeat (refine XSame.of ?_; conv => whnf)
    exact ⟨_, Ent.refl _, rfl⟩
  rw [walkR_P h0] at hM
  rw [if_pos h0] at hv
  obtain ⟨bt, bm, H, hH, rfl, rfl⟩ := hv
  have hT := theTree_ok d hH
  have hwe := theTree_walk d H (splitR p).1 0
  rw [← hwe] at hM
  generalize theTree d H = T at *
  generalize chk38 d = e at *
  subst h0
  clear hos hwe
  conv => whnf
  repeat (refine XSame.of ?_; conv => whnf)
  refine XIf.no (by simp [iNe_eq]) ?_
  conv => whnf
  repeat (refine XSame.of ?_; conv => whnf)
  refine XCall.pure (dirsSplit_spec p hp) (fun w hw => trivial) (fun v D hv => ?_)
  obtain ⟨kn, rfl, hkn, rfl⟩ := hv
  have hsm := splitR_small p hp
  have hse := splitR_err p
  generalize splitR p = sp at *
  obtain ⟨names, se⟩ := sp
  dsimp only at hkn hM hsm hse ⊢
  conv => whnf
  repeat (refine XSame.of ?_; conv => whnf)
  refine XIf.split (fun hs => ?_) (fun hs => ?_)
  · have hs' : se ≠ 0 := by
      simp [iNe_eq] at hs
      omega
    rw [if_pos hs'] at hM
    have hs15 : se = 15 := by omega
    rw [hM]
    conv => whnf
    repeat (refine XSame.of ?_; conv => whnf)
    refine ⟨_, Ent.refl _, ?_⟩
    unfold RelII
    rw [hs15]
    rfl
  · have hs' : ¬ se ≠ 0 := by
      simp [iNe_eq] at hs
      omega
    rw [if_neg hs'] at hM
    have htw := twalk_spec T hT (h.v d.length) bt bm kn names hkn hsm
    rw [← hM] at htw
    conv => whnf
    repeat (refine XSame.of ?_; conv => whnf)
    refine XCall.val htw (fun w hw => ⟨hw.1.2, hw.2⟩) (fun v D hv => ?_)
    unfold RelII at hv
    subst hv
    conv => whnf
    repeat (refine XSame.of ?_; conv => whnf)
    exact ⟨_, Ent.refl _, rfl⟩

theorem sameG_spec (h k : Hd) (l m : List (List UInt8)) (hh : h.Ok l.length) (hk : k.Ok m.length) (hl : l.length ≤ 1000000) (hm : m.length ≤ 1000000) :
    PureSpec Tryz.prog 17 [h.v l.length, k.v m.length] (fun w => StrAt w h l ∧ StrAt w k m) (fun v F => v = .bool (l == m)) := by
  refine PureSpec.of_xc tabOk Tryz.func17 rfl (by decide) (n := Tryz.f17.ntmps - 2) rfl rfl fun w0 av => ?_
  conv => whnf
  refine XIf.split (fun hne => ?_) (fun hne => ?_)
  · have hne' : l.length ≠ m.length := by
      simp [iNe_eq] at hne
      omega
    conv => whnf
    refine ⟨_, Ent.refl _, ?_⟩
    have : (l == m) = false := by
      rw [beq_eq_false_iff_ne]
      exact fun e => hne' (by rw [e])
    rw [this]
  have heq : l.length = m.length := by
    simp [iNe_eq] at hne
    omega
  conv => whnf
  refine XStop.loop tabOk (ι := Nat) ([5] ++ List.range' 11 15) (fun x => x ≤ l.length ∧ l.take x = m.take x)
    (fun x => [(5, .v (.int .i64 (x : Int)))]) (fun _ => []) (fun _ => ⟨fun w => StrAt w h l ∧ StrAt w k m, []⟩)
    (fun x => l.length - x) 0 ⟨Nat.zero_le _, rfl⟩ ?_ rfl (Ent.refl _) fun i hi => ?_
  · conv => whnf
    repeat (first | exact FLe.nil | refine FLe.any ?_ | refine FLe.cons ?_)
  obtain ⟨hi, hall⟩ := hi
  conv => whnf
  refine XIf.split (fun hlt => ?_) (fun hlt => ?_)
  · conv => whnf
    have hlt' : i < l.length := by
      have h := hlt
      simp [iLt_eq] at h
      omega
    have hlm : i < m.length := by omega
    refine XStop.draw tabOk mixed rfl rfl ?_
    conv => whnf
    repeat' (first
      | (refine And.intro ?_ ?_ <;> conv => whnf)
      | (refine XHeld.same rfl ?_; conv => whnf)
      | (refine XHeld.row rfl ?_; conv => whnf)
      | (refine XHeld.call rfl ?_; conv => whnf)
      | (refine XKeep.of ?_; conv => whnf)
      | (refine XSame.of ?_; conv => whnf)
      | (refine XRead.index tabOk (t := 23) rfl rfl rfl (by omega) (by omega) hh.nil fun ad1 had1 => ?_; conv => whnf)
      | (refine XRead.index tabOk (t := 23) rfl rfl rfl (by omega) (by omega) hk.nil fun ad2 had2 => ?_; conv => whnf)
      | (refine XRead.load tabOk (t := 9) rfl rfl (ad := ad1) (k := i * 1) (L := l.map strV) (v := strV l[i]) (fun w hst => had1 ▸ hst.now.1) rfl (by simp [hlt']) ?_; conv => whnf)
      | (refine XRead.load tabOk (t := 9) rfl rfl (ad := ad2) (k := i * 1) (L := m.map strV) (v := strV m[i]) (fun w hst => had2 ▸ hst.now.2) rfl (by simp [hlm]) ?_; conv => whnf)
      | (refine XRead.strNe (l := l[i]) (m := m[i]) ?_; conv => whnf)
      | (refine XHeld.mk ?_ ?_; (focus (first | exact Ent.refl _ | exact Ent.left _ _ | exact Ent.of_le ⟨List.sublist_append_left _ _, fun w h => h⟩ | exact Ent.of_le ⟨List.Sublist.refl _, fun w h => h.1⟩)); conv => whnf))
    refine XIf.split (fun hq => ?_) (fun hq => ?_)
    · have hq' : l[i] ≠ m[i] := by simpa using hq
      conv => whnf
      refine ⟨_, Ent.refl _, ?_⟩
      have : (l == m) = false := by
        rw [beq_eq_false_iff_ne]
        intro e
        subst e
        exact hq' rfl
      rw [this]
    · have hq' : l[i] = m[i] := by simpa using hq
      conv => whnf
      refine ⟨i + 1, ⟨⟨hlt', ?_⟩, by dsimp only; omega⟩, ?_, ?_, Ent.refl _⟩
      · rw [List.take_succ_eq_append_getElem hlt', List.take_succ_eq_append_getElem hlm, hall, hq']
      · conv => whnf
        refine ⟨?_, rfl⟩
        repeat (first | exact FLe.nil | refine FLe.any ?_ | refine FLe.cons ?_ | refine FLe.eq (by rw [wrap_i64 (by omega)]; rfl) ?_)
      · conv => whnf
        exact trivial
  · have hie : i = l.length := by
      simp only [iLt_eq, decide_eq_false_iff_not] at hlt
      omega
    rw [hie, List.take_length, List.take_of_length_le (by omega)] at hall
    conv => whnf
    refine ⟨_, Ent.refl _, ?_⟩
    rw [hall]
    simp

theorem without_spec (h : Hd) (l : List (List UInt8)) (hh : h.Ok l.length) (hl : l.length ≤ 1000000) (s : List UInt8) :
    PureSpec Tryz.prog 31 [h.v l.length, strV s] (fun w => StrAt w h l) (RelS (l.filter fun x => !(x == s))) := by
  refine PureSpec.of_xc tabOk Tryz.func31 rfl (by decide) (n := Tryz.f31.ntmps - 2) rfl rfl fun w0 av => ?_
  conv => whnf
  refine XStop.loop tabOk (ι := Nat × Option Addr × Nat × List Value) ([5, 7, 10] ++ List.range' 11 11) (fun x => x.1 ≤ l.length ∧ Own 1 ((l.take x.1).filter fun x => !(x == s)).length x.2.1 x.2.2.1 x.2.2.2 (((l.take x.1).filter fun x => !(x == s)).map strV))
    (fun x => [(5, .v (.slice x.2.1 ((l.take x.1).filter fun x => !(x == s)).length x.2.2.1)), (10, .v (.int .i64 (x.1 : Int)))]) (fun _ => []) (fun x => ⟨fun w => StrAt w h l, orow x.2.1 x.2.2.2⟩)
    (fun x => l.length - x.1) (0, none, 0, []) ⟨Nat.zero_le _, Own.nil 1⟩ ?_ rfl (Ent.of_le ⟨by simp [orow], fun w hw => hw⟩) fun x hx => ?_
  · conv => whnf
    repeat (first | exact FLe.nil | refine FLe.any ?_ | refine FLe.cons ?_)
  obtain ⟨i, a, cap, C⟩ := x
  obtain ⟨hi, hO⟩ := hx
  dsimp only at hi hO ⊢
  have hfl : ((l.take i).filter fun x => !(x == s)).length ≤ 1000000 := Nat.le_trans (List.length_filter_le _ _) (by simp; omega)
  conv => whnf
  refine XIf.split (fun hlt => ?_) (fun hlt => ?_)
  · have hlt' : i < l.length := by
      simp only [iLt_eq, decide_eq_true_eq] at hlt
      omega
    have htk : (l.take (i + 1)).filter (fun x => !(x == s)) = (l.take i).filter (fun x => !(x == s)) ++ if l[i] == s then [] else [l[i]] := by
      rw [List.take_succ_eq_append_getElem hlt', List.filter_append]
      congr 1
      by_cases h : l[i] = s <;> simp [h]
    generalize (l.take i).filter (fun x => !(x == s)) = M at *
    conv => whnf
    refine XVal.of_read (XRead.index tabOk (t := 23) rfl rfl rfl (by omega) (by omega) hh.nil fun ad had => ?_)
    conv => whnf
    refine XVal.of_read (XRead.load tabOk (t := 9) rfl rfl (ad := ad) (k := i) (L := l.map strV) (v := strV l[i]) (.fact fun w hw => had ▸ hw) (by simp) (by simp [hlt']) ?_)
    conv => whnf
    refine XVal.of_read (XRead.strNe (l := l[i]) (m := s) ?_)
    conv => whnf
    refine XIf.split (fun hq => ?_) (fun hq => ?_)
    · have hq' : (l[i] == s) = false := by simpa using hq
      rw [hq'] at htk
      conv => whnf
      refine XVal.build tabOk (t := 23) rfl rfl rfl [strV l[i]] rfl rfl (by simp [Value.cells, strV]) (by decide) fun b0 => ?_
      conv => whnf
      refine XVal.ent (F' := ⟨fun w => StrAt w h l, [] ++ orow a C ++ [(b0, Row.c [strV l[i]])]⟩) (Ent.of_le ⟨by simp [Value.cells, strV], fun w hw => hw⟩) ?_
      refine XVal.append tabOk (t := 23) (xt := 23) rfl rfl rfl rfl rfl rfl (r1 := []) (r2 := [(b0, Row.c [strV l[i]])]) (M := [strV l[i]]) hO (Sees.row (by simp)) rfl (by simp [strV, oneCell]) (by omega) (by simp; omega) fun a' c' C' hO' => ?_
      conv => whnf
      refine ⟨(i + 1, a', c', C'), ⟨⟨hlt', ?_⟩, by dsimp only; omega⟩, ?_, ?_, ?_⟩
      · dsimp only
        rw [htk, if_neg (by simp), List.map_append, List.length_append]
        exact hO'
      · have hq2 : M.length + 1 = ((l.take (i + 1)).filter fun x => !(x == s)).length := by rw [htk]; simp
        conv => whnf
        refine ⟨?_, rfl⟩
        repeat (first | exact FLe.nil | refine FLe.any ?_ | refine FLe.cons ?_ | refine FLe.eq (by rw [wrap_i64 (by omega)]; rfl) ?_ | refine FLe.eq (congrArg (fun q => SV.v (Value.slice a' q c')) hq2) ?_)
      · conv => whnf
        exact trivial
      · exact Ent.of_le ⟨by simp, fun w hw => hw⟩
    · have hq' : (l[i] == s) = true := by simpa using hq
      rw [hq', if_pos rfl, List.append_nil] at htk
      conv => whnf
      refine ⟨(i + 1, a, cap, C), ⟨⟨hlt', ?_⟩, by dsimp only; omega⟩, ?_, ?_, Ent.refl _⟩
      · dsimp only
        rw [htk]
        exact hO
      · have hq2 : M.length = ((l.take (i + 1)).filter fun x => !(x == s)).length := by rw [htk]
        conv => whnf
        refine ⟨?_, rfl⟩
        repeat (first | exact FLe.nil | refine FLe.any ?_ | refine FLe.cons ?_ | refine FLe.eq (by rw [wrap_i64 (by omega)]; rfl) ?_ | refine FLe.eq (congrArg (fun q => SV.v (Value.slice a q cap)) hq2) ?_)
      · conv => whnf
        exact trivial
  · have hie : i = l.length := by
      simp only [iLt_eq, decide_eq_false_iff_not] at hlt
      omega
    subst hie
    rw [List.take_length] at hO
    rw [List.take_length]
    conv => whnf
    exact ⟨⟨fun w => StrAt w ⟨a, cap⟩ (l.filter fun x => !(x == s)), []⟩, (Own.gives hO).trans (Ent.imp fun w hw => hw.2), ⟨a, cap⟩, rfl, hO.hd, rfl⟩

end Go.Proofs.YtbfpgfopppfhoaaGreatDoor
namespace Go.Proofs.YtbfpgfopppfhoaaGreatDoor
open Go Go.Sx
set_option maxRecDepth 100000
set_option linter.unusedVariables false
set_option linter.unusedSimpArgs false

/-! ### names put together -/

def jn (l : List (List UInt8)) : List UInt8 := l.flatMap fun s => 47 :: s

theorem jn_cons (s : List UInt8) (l : List (List UInt8)) : jn (s :: l) = 47 :: (s ++ jn l) := by simp [jn]

theorem jn_snoc (l : List (List UInt8)) (s : List UInt8) : jn (l ++ [s]) = jn l ++ 47 :: s := by simp [jn]

theorem splitOn_jn : ∀ (l : List (List UInt8)) (s : List UInt8), 47 ∉ s → (∀ t ∈ l, 47 ∉ t) → splitOn (s ++ jn l) = s :: l := by
  intro l
  induction l with
  | nil =>
    intro s hs _
    induction s with
    | nil => rfl
    | cons c s ih =>
      have hc : c ≠ 47 := fun h => hs (h ▸ List.mem_cons_self ..)
      have := ih fun h => hs (List.mem_cons_of_mem _ h)
      rw [List.cons_append]
      unfold splitOn
      rw [if_neg hc, this]
  | cons t l ihl =>
    intro s hs hl
    induction s with
    | nil =>
      rw [List.nil_append, jn_cons]
      unfold splitOn
      rw [if_pos rfl, ihl t (hl t (List.mem_cons_self ..)) fun x hx => hl x (List.mem_cons_of_mem _ hx)]
    | cons c s ih =>
      have hc : c ≠ 47 := fun h => hs (h ▸ List.mem_cons_self ..)
      have := ih fun h => hs (List.mem_cons_of_mem _ h)
      rw [List.cons_append]
      unfold splitOn
      rw [if_neg hc, this]

theorem jn_splitOn : ∀ r : List UInt8, jn (splitOn r) = 47 :: r
  | [] => rfl
  | c :: r => by
    have ih := jn_splitOn r
    unfold splitOn
    by_cases hc : c = 47
    · rw [if_pos hc, jn_cons, List.nil_append, ih, hc]
    · rw [if_neg hc]
      cases hs : splitOn r with
      | nil => exact absurd hs (splitOn_ne r)
      | cons x xs =>
        rw [hs, jn_cons] at ih
        have ih : x ++ jn xs = r := List.cons.inj ih |>.2
        show jn ((c :: x) :: xs) = _
        rw [jn_cons, List.cons_append, ih]

theorem vname_47 {s : List UInt8} (h : vname s = true) : 47 ∉ s := fun hm => by
  unfold vname at h
  rw [Bool.and_eq_true, List.all_eq_true] at h
  have := h.1 47 hm
  revert this
  decide

theorem jn_inj {l m : List (List UInt8)} (hl : ∀ s ∈ l, vname s = true) (hm : ∀ s ∈ m, vname s = true) (h : jn l = jn m) : l = m := by
  cases l with
  | nil =>
    cases m with
    | nil => rfl
    | cons t m => rw [jn_cons] at h; cases h
  | cons s l =>
    cases m with
    | nil => rw [jn_cons] at h; cases h
    | cons t m =>
      rw [jn_cons, jn_cons] at h
      have h := (List.cons.inj h).2
      have e1 := splitOn_jn l s (vname_47 (hl s (List.mem_cons_self ..))) fun x hx => vname_47 (hl x (List.mem_cons_of_mem _ hx))
      have e2 := splitOn_jn m t (vname_47 (hm t (List.mem_cons_self ..))) fun x hx => vname_47 (hm x (List.mem_cons_of_mem _ hx))
      rw [← e1, ← e2, h]

theorem splitR_jn {l : List (List UInt8)} (h0 : l ≠ []) (hv : ∀ s ∈ l, vname s = true) (hl : (jn l).length ≤ 60) : splitR (jn l) = (l, 0) := by
  cases l with
  | nil => exact absurd rfl h0
  | cons s l =>
    have hs := hv s (List.mem_cons_self ..)
    have e1 := splitOn_jn l s (vname_47 hs) fun x hx => vname_47 (hv x (List.mem_cons_of_mem _ hx))
    have hne : s ++ jn l ≠ [] := fun h => by
      have := List.append_eq_nil_iff.1 h
      rw [this.1] at hs
      cases hs
    rw [jn_cons] at hl ⊢
    have hp : pre (47 :: (s ++ jn l)) = true := by simp [pre]
    unfold splitR
    rw [if_pos ⟨hp, hl⟩, List.drop_succ_cons, List.drop_zero, if_neg hne, e1, if_pos]
    rw [List.all_eq_true]
    exact hv

theorem splitR_inv {p : List UInt8} {l : List (List UInt8)} (h : splitR p = (l, 0)) : (l = [] ∧ p = [47]) ∨ (l ≠ [] ∧ p = jn l ∧ p.length ≤ 60) := by
  unfold splitR at h
  by_cases h1 : pre p = true ∧ p.length ≤ 60
  rotate_left
  · rw [if_neg h1] at h
    cases h
  rw [if_pos h1] at h
  have hp : p = 47 :: p.drop 1 := by
    cases p with
    | nil => exact absurd h1.1 (by decide)
    | cons c r =>
      have : c = 47 := by simpa [pre] using h1.1
      rw [this]
      rfl
  by_cases h2 : p.drop 1 = []
  · rw [if_pos h2] at h
    cases h
    exact .inl ⟨rfl, by rw [hp, h2]⟩
  · rw [if_neg h2] at h
    split at h
    · cases h
      exact .inr ⟨splitOn_ne _, by rw [jn_splitOn]; exact hp, h1.2⟩
    · cases h

/-! ### ways down -/

def dn (es : Nat → List En) : List (List UInt8) → Nat → Nat → Prop
  | [], n, m => m = n
  | s :: l, n, m => ∃ c, (s, c) ∈ es n ∧ s ≠ [] ∧ dn es l c m

theorem dn_snoc {es : Nat → List En} {s : List UInt8} {m : Nat} : ∀ {l : List (List UInt8)} {n : Nat}, dn es (l ++ [s]) n m ↔ ∃ c, dn es l n c ∧ (s, m) ∈ es c ∧ s ≠ []
  | [], n => by
    constructor
    · rintro ⟨c, h1, h2, h3⟩
      have h3 : m = c := h3
      exact ⟨n, rfl, h3 ▸ h1, h2⟩
    · rintro ⟨c, h1, h2, h3⟩
      have h1 : c = n := h1
      exact ⟨m, h1 ▸ h2, h3, rfl⟩
  | t :: l, n => by
    constructor
    · rintro ⟨c, h1, h2, h3⟩
      obtain ⟨c', g1, g2, g3⟩ := dn_snoc.1 h3
      exact ⟨c', ⟨c, h1, h2, g1⟩, g2, g3⟩
    · rintro ⟨c', ⟨c, h1, h2, g1⟩, g2, g3⟩
      exact ⟨c, h1, h2, dn_snoc.2 ⟨c', g1, g2, g3⟩⟩

theorem mem_V (T : Tree) : ∀ (f n : Nat) (p q : List UInt8) (m : Nat), (q, m) ∈ T.V f n p ↔ ∃ l : List (List UInt8), l.length < f ∧ q = p ++ jn l ∧ dn T.es l n m
  | 0, n, p, q, m => by simp [Tree.V]
  | f + 1, n, p, q, m => by
    have ih := mem_V T f
    constructor
    · intro h
      rcases List.mem_cons.1 h with h | h
      · cases h
        exact ⟨[], by simp, by simp [jn], rfl⟩
      · obtain ⟨e, he, h⟩ := List.mem_flatMap.1 h
        split at h
        · cases h
        · rename_i hne
          obtain ⟨l, h1, h2, h3⟩ := (ih _ _ _ _).1 h
          exact ⟨e.1 :: l, by simp; omega, by rw [h2, jn_cons]; simp, e.2, he, hne, h3⟩
    · rintro ⟨l, h1, h2, h3⟩
      cases l with
      | nil =>
        have h3 : m = n := h3
        have h2 : q = p := by simpa [jn] using h2
        rw [h2, h3]
        exact List.mem_cons_self ..
      | cons s l =>
        obtain ⟨c, g1, g2, g3⟩ := h3
        refine List.mem_cons_of_mem _ (List.mem_flatMap.2 ⟨(s, c), g1, ?_⟩)
        rw [if_neg g2]
        exact (ih _ _ _ _).2 ⟨l, by simpa using h1, by rw [h2, jn_cons]; simp, g3⟩

theorem mem_ch {T : Tree} {n c : Nat} {s : List UInt8} (h : (s, c) ∈ T.es n) (hs : s ≠ []) : c ∈ T.ch n :=
  List.mem_map.2 ⟨(s, c), List.mem_filter.2 ⟨h, by simpa using hs⟩, rfl⟩

theorem ch_mem {T : Tree} {n c : Nat} (h : c ∈ T.ch n) : ∃ s, (s, c) ∈ T.es n ∧ s ≠ [] := by
  obtain ⟨e, he, rfl⟩ := List.mem_map.1 h
  obtain ⟨h1, h2⟩ := List.mem_filter.1 he
  exact ⟨e.1, h1, by simpa using h2⟩

theorem dn_low {T : Tree} : ∀ {f : Nat} {l : List (List UInt8)} {n m : Nat}, Low T.ch f n → dn T.es l n m → l.length < f
  | 0, l, n, m, h, _ => h.elim
  | f + 1, [], n, m, h, _ => by simp
  | f + 1, s :: l, n, m, h, hd => by
    obtain ⟨c, h1, h2, h3⟩ := hd
    have := dn_low (h c (mem_ch h1 h2)) h3
    simp
    omega

/-- Names of entries differ, and are names. -/
structure Nm (es : Nat → List En) : Prop where
  one : ∀ n s c c', (s, c) ∈ es n → (s, c') ∈ es n → s ≠ [] → c = c'
  val : ∀ n s c, (s, c) ∈ es n → s ≠ [] → vname s = true

theorem T0_nm {d : List UInt8} (h : chk38 d = 0) : Nm (T0 d).es := by
  obtain ⟨h0, hG, hE⟩ := tree_facts h
  have key : ∀ n s c, (s, c) ∈ (T0 d).es n → n ∈ (T0 d).dl ∧ ∃ i, i < 8 ∧ enR (contentR d n) i = (s, c) := fun n s c hm => by
    unfold Tree.es at hm
    split at hm
    · rename_i hn
      obtain ⟨i, hi, he⟩ := List.mem_map.1 hm
      exact ⟨hn, i, List.mem_range.1 hi, he⟩
    · cases hm
  refine ⟨fun n s c c' h1 h2 hs => ?_, fun n s c h1 hs => ?_⟩
  · obtain ⟨hn, i, hi, he⟩ := key n s c h1
    obtain ⟨_, j, hj, he'⟩ := key n s c' h2
    have hok := entsOk_iff.1 (hE n hn)
    have ha := (hok i hi).only
    have hb := (hok j hj).only
    rw [he] at ha
    rw [he'] at hb
    rcases Nat.lt_trichotomy i j with h5 | h5 | h5
    · have := hb.resolve_left hs i h5
      rw [he] at this
      exact absurd rfl this
    · subst h5
      have := he.symm.trans he'
      exact (Prod.mk.inj this).2
    · have := ha.resolve_left hs j h5
      rw [he'] at this
      exact absurd rfl this
  · obtain ⟨hn, i, hi, he⟩ := key n s c h1
    have := (entsOk_iff.1 (hE n hn) i hi).name
    rw [he] at this
    rcases this with h5 | h5
    · exact absurd (Prod.mk.inj h5).1 hs
    · exact h5.1

theorem dn_fun {es : Nat → List En} (hN : Nm es) : ∀ {l : List (List UInt8)} {n m m' : Nat}, dn es l n m → dn es l n m' → m = m'
  | [], n, m, m', h, h' => by
    have h : m = n := h
    have h' : m' = n := h'
    rw [h, h']
  | s :: l, n, m, m', ⟨c, h1, h2, h3⟩, ⟨c', g1, g2, g3⟩ => by
    have := hN.one n s c c' h1 g1 h2
    subst this
    exact dn_fun hN h3 g3

theorem dn_val {es : Nat → List En} (hN : Nm es) : ∀ {l : List (List UInt8)} {n m : Nat}, dn es l n m → ∀ s ∈ l, vname s = true
  | [], n, m, _, s, hs => by cases hs
  | t :: l, n, m, ⟨c, h1, h2, h3⟩, s, hs => by
    rcases List.mem_cons.1 hs with h | h
    · rw [h]; exact hN.val n t c h1 h2
    · exact dn_val hN h3 s h

theorem nodes_inj : ∀ {l : List En} {s s' : List UInt8} {m : Nat}, (nodes l).Nodup → (s, m) ∈ l → (s', m) ∈ l → s ≠ [] → s' ≠ [] → s = s'
  | [], s, s', m, _, h, _, _, _ => by cases h
  | e :: l, s, s', m, hn, h, h', hs, hs' => by
    have hmem : ∀ {t : List UInt8}, (t, m) ∈ l → t ≠ [] → m ∈ nodes l := fun ht hne => List.mem_map.2 ⟨(_, m), List.mem_filter.2 ⟨ht, by simpa using hne⟩, rfl⟩
    rw [nodes_cons] at hn
    rcases List.mem_cons.1 h with h1 | h1
    · rcases List.mem_cons.1 h' with h2 | h2
      · have := h1.trans h2.symm
        exact (Prod.mk.inj this).1
      · rw [← h1, if_neg hs] at hn
        exact absurd (hmem h2 hs') (List.nodup_cons.1 hn).1
    · rcases List.mem_cons.1 h' with h2 | h2
      · rw [← h2, if_neg hs'] at hn
        exact absurd (hmem h1 hs) (List.nodup_cons.1 hn).1
      · refine nodes_inj ?_ h1 h2 hs hs'
        split at hn
        · exact hn
        · exact (List.nodup_cons.1 hn).2

theorem dn_one {T : Tree} (hu : Uniq T.ch) : ∀ (k : Nat) {l l' : List (List UInt8)} {m : Nat}, l.length = k → dn T.es l 0 m → dn T.es l' 0 m → l = l'
  | 0, l, l', m, hk, h, h' => by
    have hl : l = [] := List.eq_nil_of_length_eq_zero hk
    subst hl
    have h : m = 0 := h
    by_cases hl' : l' = []
    · exact hl'.symm
    · rw [dropLast_snoc hl'] at h'
      obtain ⟨c, h1, h2, h3⟩ := dn_snoc.1 h'
      have := mem_ch h2 h3
      rw [h] at this
      exact absurd this (hu.root c)
  | k + 1, l, l', m, hk, h, h' => by
    have hl : l ≠ [] := fun h => by rw [h] at hk; cases hk
    rw [dropLast_snoc hl] at h
    obtain ⟨c, h1, h2, h3⟩ := dn_snoc.1 h
    have hm := mem_ch h2 h3
    by_cases hl' : l' = []
    · subst hl'
      have h' : m = 0 := h'
      rw [h'] at hm
      exact absurd hm (hu.root c)
    · rw [dropLast_snoc hl'] at h'
      obtain ⟨c', g1, g2, g3⟩ := dn_snoc.1 h'
      have hcc : c = c' := hu.par c c' m hm (mem_ch g2 g3)
      subst hcc
      have e1 := dn_one hu k (by simp [hk]) h1 g1
      have e2 := nodes_inj (l := T.es c) (hu.nd c) h2 g2 h3 g3
      rw [dropLast_snoc hl, dropLast_snoc hl', e1, e2]

/-! ### paths of a disk -/

section
variable {d : List UInt8} (h38 : chk38 d = 0)
include h38

theorem uniqT : Uniq (T0 d).ch := (tree_facts h38).2.1.fine.uniq

theorem find_dn {n c : Nat} {s : List UInt8} (hs : s ≠ []) : (T0 d).find n s = (c, 0) ↔ (s, c) ∈ (T0 d).es n := by
  unfold Tree.find Tree.es
  by_cases hn : n ∈ (T0 d).dl
  · rw [if_pos hn, if_pos hn]
    constructor
    · intro h
      cases hf : fidx ((T0 d).E n) s with
      | none => rw [hf] at h; cases h
      | some k =>
        rw [hf] at h
        obtain ⟨hk, hks⟩ := fidx_some hf
        dsimp only at h
        rw [List.getElem?_eq_getElem hk] at h
        have hc : ((T0 d).E n)[k].2 = c := (Prod.mk.inj h).1
        have := List.getElem_mem hk
        rw [show ((T0 d).E n)[k] = (s, c) from Prod.ext hks hc] at this
        exact this
    · intro h
      cases hf : fidx ((T0 d).E n) s with
      | none => exact absurd rfl (fidx_none.1 hf _ h)
      | some k =>
        obtain ⟨hk, hks⟩ := fidx_some hf
        dsimp only
        rw [List.getElem?_eq_getElem hk]
        have hm : (s, ((T0 d).E n)[k].2) ∈ (T0 d).es n := by
          unfold Tree.es
          rw [if_pos hn]
          have := List.getElem_mem hk
          rwa [show ((T0 d).E n)[k] = (s, ((T0 d).E n)[k].2) from Prod.ext hks rfl] at this
        have hm' : (s, c) ∈ (T0 d).es n := by
          unfold Tree.es
          rw [if_pos hn]
          exact h
        have := (T0_nm h38).one n s _ _ hm hm' hs
        show (((T0 d).E n)[k].2, 0) = _
        rw [this]
  · rw [if_neg hn, if_neg hn]
    constructor
    · intro h; cases h
    · intro h; cases h

theorem walk_dn : ∀ {l : List (List UInt8)} {n m : Nat}, (∀ s ∈ l, s ≠ []) → ((T0 d).walk l n = (m, 0) ↔ dn (T0 d).es l n m)
  | [], n, m, _ => by
    show (n, 0) = (m, 0) ↔ m = n
    constructor
    · intro h; exact ((Prod.mk.inj h).1).symm
    · intro h; rw [h]
  | s :: l, n, m, hs => by
    have hs0 := hs s (List.mem_cons_self ..)
    have ih : ∀ {n' : Nat}, (T0 d).walk l n' = (m, 0) ↔ dn (T0 d).es l n' m := walk_dn fun t ht => hs t (List.mem_cons_of_mem _ ht)
    have hf : ∀ c, (T0 d).find n s = (c, 0) ↔ (s, c) ∈ (T0 d).es n := fun c => find_dn h38 hs0
    show (if ((T0 d).find n s).2 ≠ 0 then (0, ((T0 d).find n s).2) else (T0 d).walk l ((T0 d).find n s).1) = (m, 0) ↔ ∃ c, (s, c) ∈ (T0 d).es n ∧ s ≠ [] ∧ dn (T0 d).es l c m
    generalize (T0 d).find n s = r at *
    obtain ⟨c0, e⟩ := r
    dsimp only
    by_cases he : e = 0
    · subst he
      rw [if_neg (by decide), ih]
      constructor
      · intro h; exact ⟨c0, (hf c0).1 rfl, hs0, h⟩
      · rintro ⟨c, h1, _, h3⟩
        have := (Prod.mk.inj ((hf c).2 h1)).1
        rw [this]
        exact h3
    · rw [if_pos he]
      constructor
      · intro h; exact absurd (Prod.mk.inj h).2 he
      · rintro ⟨c, h1, _, _⟩
        exact absurd (Prod.mk.inj ((hf c).2 h1)).2 he

theorem dn_vname {l : List (List UInt8)} {n m : Nat} (h : dn (T0 d).es l n m) : ∀ s ∈ l, vname s = true := dn_val (T0_nm h38) h

omit h38 in
theorem vn_ne {l : List (List UInt8)} (h : ∀ s ∈ l, vname s = true) : ∀ s ∈ l, s ≠ [] := fun s hs he => by
  have := h s hs
  rw [he] at this
  cases this

theorem walkR_root : walkR d [47] = (0, 0) := by
  rw [walkR_P h38, show splitR [47] = ([], 0) by decide]
  rfl

theorem walkR_dn {l : List (List UInt8)} (h0 : l ≠ []) (hv : ∀ s ∈ l, vname s = true) (hl : (jn l).length ≤ 60) {m : Nat} : walkR d (jn l) = (m, 0) ↔ dn (T0 d).es l 0 m := by
  rw [walkR_P h38, splitR_jn h0 hv hl, if_neg (show ¬ ((0 : Int) ≠ 0) by decide)]
  exact walk_dn h38 (vn_ne hv)

theorem dn_node {l : List (List UInt8)} {m : Nat} (h : dn (T0 d).es l 0 m) : m < 32 ∧ rk d m ≠ 0 ∧ (l ≠ [] → m ≠ 0) := by
  obtain ⟨h0, hG, hE⟩ := tree_facts h38
  obtain ⟨hr1, hr2⟩ := mem_dl.1 (root_in h0)
  by_cases hl : l = []
  · subst hl
    have h : m = 0 := h
    rw [h]
    exact ⟨by decide, by omega, fun h => absurd rfl h⟩
  · rw [dropLast_snoc hl] at h
    obtain ⟨c, h1, h2, h3⟩ := dn_snoc.1 h
    have hm := mem_ch h2 h3
    have hc : c ∈ (T0 d).dl := Classical.byContradiction fun hc => by
      rw [(T0 d).ch_no hc] at hm
      cases hm
    obtain ⟨a, b, e⟩ := hG.fine.ok c hc m hm
    exact ⟨b, e, fun _ => a⟩

omit h38 in
theorem foldl_addP : ∀ (V : List (List UInt8 × Nat)) (acc : List (List UInt8)), V.foldl (fun l x => addP l x.1 x.2) acc = acc ++ (V.filter fun x => decide (x.2 ≠ 0 ∧ x.1.length ≤ 60)).map (·.1)
  | [], acc => by simp
  | x :: V, acc => by
    rw [List.foldl_cons, foldl_addP V]
    unfold addP
    by_cases h : x.2 ≠ 0 ∧ x.1.length ≤ 60
    · rw [if_pos h, List.filter_cons_of_pos (by simpa using h)]
      simp
    · rw [if_neg h, List.filter_cons_of_neg (by simpa using h)]

theorem mem_pathsL {q : List UInt8} : q ∈ pathsL d ↔ q = [47] ∨ ∃ l m, l ≠ [] ∧ q = jn l ∧ q.length ≤ 60 ∧ dn (T0 d).es l 0 m := by
  unfold pathsL
  rw [foldl_addP, List.mem_append, List.mem_singleton, List.mem_map]
  constructor
  · rintro (h | ⟨x, hx, rfl⟩)
    · exact .inl h
    · obtain ⟨h1, h2⟩ := List.mem_filter.1 hx
      have h2 : x.2 ≠ 0 ∧ x.1.length ≤ 60 := by simpa using h2
      obtain ⟨l, g1, g2, g3⟩ := (mem_V (T0 d) 33 0 [] x.1 x.2).1 h1
      rw [List.nil_append] at g2
      exact .inr ⟨l, x.2, fun hl => by subst hl; exact h2.1 g3, g2, h2.2, g3⟩
  · rintro (h | ⟨l, m, hl, rfl, hq, hd⟩)
    · exact .inl h
    · have hlow := dn_low (low_root (uniqT h38)) hd
      refine .inr ⟨(jn l, m), List.mem_filter.2 ⟨(mem_V (T0 d) 33 0 [] _ _).2 ⟨l, hlow, by simp, hd⟩, ?_⟩, rfl⟩
      have := (dn_node h38 hd).2.2 hl
      simpa using ⟨this, hq⟩

theorem nodup_pathsL : (pathsL d).Nodup := by
  have hu := uniqT h38
  have hN := T0_nm h38
  have hn : (((T0 d).V 33 0 []).map (·.2)).Nodup := by
    rw [V_nodes]
    exact pre_nodup hu 33 .root
  have hpw : ((T0 d).V 33 0 []).Pairwise fun a b => a.1 ≠ b.1 := by
    have h1 : ((T0 d).V 33 0 []).Pairwise fun a b => a.2 ≠ b.2 := List.pairwise_map.1 hn
    refine h1.imp_of_mem fun {a b} ha hb hne he => hne ?_
    obtain ⟨l, g1, g2, g3⟩ := (mem_V (T0 d) 33 0 [] a.1 a.2).1 ha
    obtain ⟨l', g1', g2', g3'⟩ := (mem_V (T0 d) 33 0 [] b.1 b.2).1 hb
    have hll : l = l' := jn_inj (dn_val hN g3) (dn_val hN g3') (by rw [List.nil_append] at g2 g2'; rw [← g2, ← g2', he])
    rw [← hll] at g3'
    exact dn_fun hN g3 g3'
  unfold pathsL
  rw [foldl_addP, List.singleton_append, List.nodup_cons]
  refine ⟨fun hm => ?_, List.pairwise_map.2 (hpw.sublist List.filter_sublist)⟩
  obtain ⟨x, hx, he⟩ := List.mem_map.1 hm
  obtain ⟨h1, h2⟩ := List.mem_filter.1 hx
  have h2 : x.2 ≠ 0 ∧ x.1.length ≤ 60 := by simpa using h2
  obtain ⟨l, g1, g2, g3⟩ := (mem_V (T0 d) 33 0 [] x.1 x.2).1 h1
  rw [List.nil_append, he] at g2
  cases l with
  | nil => cases g2
  | cons s l =>
    have hv := dn_val hN g3 s (List.mem_cons_self ..)
    rw [jn_cons] at g2
    have := (List.cons.inj g2).2
    have := List.append_eq_nil_iff.1 this.symm
    rw [this.1] at hv
    cases hv
end

/-! ### sorted lists -/

theorem sortL_perm (l : List (List UInt8)) : (sortL l).Perm l := List.mergeSort_perm l _

theorem sortL_pw (l : List (List UInt8)) : (sortL l).Pairwise fun x y => decide (x ≤ y) = true :=
  List.pairwise_mergeSort (le := fun x y => decide (x ≤ y)) (fun a b c h1 h2 => decide_eq_true (List.le_trans (of_decide_eq_true h1) (of_decide_eq_true h2)))
    (fun a b => by
      rcases List.le_total a b with h | h
      · rw [decide_eq_true h]; rfl
      · rw [decide_eq_true h, Bool.or_true]) l

theorem sorted_eq {l m : List (List UInt8)} (hl : l.Pairwise fun x y => decide (x ≤ y) = true) (hm : m.Pairwise fun x y => decide (x ≤ y) = true) (h : l.Perm m) : l = m :=
  List.Perm.eq_of_pairwise (fun a b _ _ h1 h2 => List.le_antisymm (of_decide_eq_true h1) (of_decide_eq_true h2)) hl hm h

theorem sortL_congr {l m : List (List UInt8)} (h : l.Perm m) : sortL l = sortL m := sorted_eq (sortL_pw l) (sortL_pw m) ((sortL_perm l).trans (h.trans (sortL_perm m).symm))

/-- One path more. -/
theorem sortL_without {L M : List (List UInt8)} {p : List UInt8} (hL : L.Nodup) (hM : M.Nodup) (h : ∀ a, a ∈ L ↔ a ∈ M ∧ a ≠ p) (hp : p ∈ M) : ((sortL M).filter fun x => !(x == p)) = sortL L ∧ (sortL M).length = (sortL L).length + 1 := by
  have hpm : (M.filter fun x => !(x == p)).Perm L := by
    refine (List.perm_ext_iff_of_nodup (hM.sublist List.filter_sublist) hL).2 fun a => ?_
    rw [List.mem_filter, h a]
    simp
  refine ⟨sorted_eq ((sortL_pw M).sublist List.filter_sublist) (sortL_pw L) (((sortL_perm M).filter _).trans (hpm.trans (sortL_perm L).symm)), ?_⟩
  have h2 : M.Perm (p :: L) := by
    refine (List.perm_ext_iff_of_nodup hM (List.nodup_cons.2 ⟨fun hq => ((h p).1 hq).2 rfl, hL⟩)).2 fun a => ?_
    rw [List.mem_cons, h a]
    constructor
    · intro ha
      by_cases e : a = p
      · exact .inl e
      · exact .inr ⟨ha, e⟩
    · rintro (e | ⟨ha, _⟩)
      · rw [e]; exact hp
      · exact ha
  rw [sortL_len, sortL_len, h2.length_eq, List.length_cons]

end Go.Proofs.YtbfpgfopppfhoaaGreatDoor
namespace Go.Proofs.YtbfpgfopppfhoaaGreatDoor
open Go Go.Sx
set_option maxRecDepth 100000
set_option linter.unusedVariables false
set_option linter.unusedSimpArgs false

theorem getB_bitsAll {B : List UInt8} (hB : B.length = 12) {b : Nat → Nat} (j : Nat) : ∀ {i : Nat}, (∀ q, q < i → b q < 96) → (getB (bitsAll B b i) j = true ↔ getB B j = true ∧ ∀ q, q < i → b q ≠ 0 → b q ≠ j)
  | 0, _ => ⟨fun h => ⟨h, fun q hq => by omega⟩, fun h => h.1⟩
  | i + 1, hb => by
    have ih := getB_bitsAll hB (b := b) j (i := i) fun q hq => hb q (by omega)
    have hl := bitsAll_len hB b i
    have hbi := hb i (by omega)
    unfold bitsAll
    by_cases h : b i = 0
    · rw [if_pos h, ih]
      constructor
      · rintro ⟨h1, h2⟩
        refine ⟨h1, fun q hq h0 => ?_⟩
        rcases Nat.lt_or_eq_of_le (Nat.lt_succ_iff.1 hq) with h5 | h5
        · exact h2 q h5 h0
        · rw [h5] at h0; exact absurd h h0
      · rintro ⟨h1, h2⟩
        exact ⟨h1, fun q hq => h2 q (by omega)⟩
    · rw [if_neg h, getB_put false (by rw [hl]; omega)]
      by_cases hj : j = b i
      · rw [if_pos hj]
        constructor
        · intro h; cases h
        · rintro ⟨_, h2⟩
          exact absurd hj.symm (h2 i (by omega) h)
      · rw [if_neg hj, ih]
        constructor
        · rintro ⟨h1, h2⟩
          refine ⟨h1, fun q hq h0 => ?_⟩
          rcases Nat.lt_or_eq_of_le (Nat.lt_succ_iff.1 hq) with h5 | h5
          · exact h2 q h5 h0
          · rw [h5]; exact Ne.symm hj
        · rintro ⟨h1, h2⟩
          exact ⟨h1, fun q hq => h2 q (by omega)⟩

/-- What Free leaves. -/
theorem free_ok {d : List UInt8} (h0 : chk d = 0) {n : Nat} (hn : n < 32) (hn0 : n ≠ 0) (hk : rk d n ≠ 0) :
    (freeR d n).2 = 0 ∧ chk (freeR d n).1 = 0 ∧ rk (freeR d n).1 n = 0 ∧ (∀ m, m < 32 → m ≠ n → SameIno d (freeR d n).1 m) ∧ (∀ i, i / 128 ≠ 13 → i / 128 ≠ 14 + n / 8 → byt (freeR d n).1 i = byt d i) ∧
      part (freeR d n).1 n 12 = [] := by
  obtain ⟨hd, hok⟩ := chk_zero h0
  obtain ⟨p1, p2⟩ := ok_parts hok
  have hg : gete d n = 0 := (gete_iff h0).2 ⟨hn, hk⟩
  have hbl := bmp_len hd
  have hb96 : ∀ q, q < 12 → rb d n q < 96 := fun q hq => ok_blocks hok hn hq
  have hra := relAll_bits hd (rb d n) 12
  have hBl := bitsAll_len hbl (rb d n) 12
  have hgb := fun j => getB_bitsAll hbl (b := rb d n) j (i := 12) hb96
  have hfr : freeR d n = (putI (relAll d (rb d n) 12) n 0 0 (fun _ => 0), 0) := by
    unfold freeR
    rw [if_neg (by rw [hg]; simp), if_neg hn0]
  rw [hfr, hra]
  dsimp only
  have hsl := setBmp_len hd hBl
  have hsb := byt_setBmp hd hBl
  generalize bitsAll (bmp d) (rb d n) 12 = B at *
  have hpl := putI_len hsl hn 0 0 (fun _ => 0)
  obtain ⟨f1, f2, f3, f4⟩ := putI_fields hsl hn 0 0 (fun _ => 0) (by decide) (by decide) (fun i _ => by decide)
  have hpb := byt_putI hsl hn 0 0 (fun _ => 0)
  generalize putI (setBmp d B) n 0 0 (fun _ => 0) = e at *
  have hby : ∀ m, ¬ (1792 + 16 * n ≤ m ∧ m < 1792 + 16 * n + 16) → ¬ (1664 ≤ m ∧ m < 1676) → byt e m = byt d m := fun m a b => by rw [hpb, if_neg a, hsb, if_neg b]
  have hbe : bmp e = B := by
    refine byt_ext (by rw [bmp_len hpl, hBl]) fun i hi => ?_
    rw [bmp_len hpl] at hi
    unfold bmp
    rw [byt_cut (by omega) hi, hpb, if_neg (by omega), hsb, if_pos (by omega)]
    congr 1
    omega
  have hslot : ∀ m, m < 32 → m ≠ n → SlotSame d e m := fun m hm hmn r hr => hby _ (by omega) (by omega)
  have hblk : ∀ m, m < 32 → m ≠ n → ∀ y ∈ part d m 12, ∀ i, 128 * y ≤ i → i < 128 * y + 128 → byt e i = byt d i := fun m hm hmn y hy i a b => by
    have := (part_rng hok hm hy).1
    exact hby _ (by omega) (by omega)
  have hpe : part e n 12 = [] := by
    rw [List.eq_nil_iff_forall_not_mem]
    intro y hy
    obtain ⟨h0, i, hi, rfl⟩ := mem_part.1 hy
    exact h0 (f3 i hi)
  have hgb2 : ∀ j, getB B j = true ↔ getB (bmp d) j = true ∧ j ∉ part d n 12 := fun j => by
    rw [hgb j]
    constructor
    · rintro ⟨a, b⟩
      refine ⟨a, fun hj => ?_⟩
      obtain ⟨h5, i, hi, h6⟩ := mem_part.1 hj
      exact b i hi (by rw [h6]; exact h5) h6
    · rintro ⟨a, b⟩
      exact ⟨a, fun q hq h5 h6 => b (mem_part.2 ⟨by rw [← h6]; exact h5, q, hq, h6⟩)⟩
  have hOk : Ok37 e := by
    refine ok_change hok hd hpl hn (fun m hm => hby _ (by omega) (by omega)) (fun m a b => hby _ (by omega) (by omega)) hslot ?_ hblk (by rw [hpe]; simp) (fun m hm hmn y hy => by rw [hpe] at hy; cases hy) (fun j hj => ?_)
    · unfold formB
      rw [f4, if_pos (inoZ_iff.2 ⟨f1, f2, f3⟩)]
      simp [hn0]
    · rw [hbe, hgb2, hpe, ok_bit hok j]
      constructor
      · rintro ⟨h | ⟨m, hm, h⟩, h2⟩
        · exact .inl h
        · exact .inr (.inr ⟨m, hm, fun e => h2 (e ▸ h), h⟩)
      · rintro (h | h | ⟨m, hm, hmn, h⟩)
        · exact ⟨.inl h, fun h2 => by have := (part_rng hok hn h2).1; omega⟩
        · cases h
        · exact ⟨.inr ⟨m, hm, h⟩, fun h2 => p2 m n hm hn hmn j h h2⟩
  exact ⟨rfl, chk_ok hpl hOk, f1, fun m hm hmn => ⟨hslot m hm hmn, hblk m hm hmn⟩, fun i a b => hby i (by omega) (by omega), hpe⟩

structure Gone (d e : List UInt8) (at0 k m : Nat) (last : List UInt8) : Prop where
  ok : chk38 e = 0
  dir : at0 ∈ (T0 d).dl
  k8 : k < 8
  ent : (last, m) ∈ (T0 d).es at0
  name : last ≠ []
  m32 : m < 32
  m0 : m ≠ 0
  kd : rk d m ≠ 0
  free : rk e m = 0
  kinds : ∀ x, x < 32 → x ≠ m → rk e x = rk d x
  slots : ∀ x, x < 32 → x ≠ m → SlotSame d e x
  ents : ∀ a s x, ((s, x) ∈ (T0 e).es a ∧ s ≠ []) ↔ ((s, x) ∈ (T0 d).es a ∧ s ≠ [] ∧ x ≠ m)
  cont : ∀ x, x < 32 → rk d x ≠ 0 → x ≠ at0 → x ≠ m → contentR e x = contentR d x
  diff : ∃ x, ∀ i, i / 128 ≠ 13 → i / 128 ≠ 14 + m / 8 → i / 128 ≠ x → byt e i = byt d i
  part : part e m 12 = []
  leaf : (T0 d).ch m = []

theorem mem_set_empty {l : List En} {k : Nat} (hk : k < l.length) {s : List UInt8} {x : Nat} (hs : s ≠ []) (hnd : (nodes l).Nodup) (hne : l[k].1 ≠ []) : (s, x) ∈ l.set k ([], 0) ↔ (s, x) ∈ l ∧ x ≠ l[k].2 := by
  have hp := nodes_del hk hne
  have hn2 := hp.nodup_iff.1 hnd
  have hno := (List.nodup_cons.1 hn2).1
  constructor
  · intro h
    rcases List.mem_or_eq_of_mem_set h with h5 | h5
    · refine ⟨h5, fun hx => hno ?_⟩
      rw [← hx]
      exact List.mem_map.2 ⟨(s, x), List.mem_filter.2 ⟨h, by simpa using hs⟩, rfl⟩
    · exact absurd (Prod.mk.inj h5).1 hs
  · rintro ⟨h, hx⟩
    obtain ⟨i, hi, he⟩ := List.getElem_of_mem h
    have hik : k ≠ i := fun e => by subst e; rw [he] at hx; exact hx rfl
    have : (l.set k ([], 0))[i]'(by simpa using hi) = (s, x) := by rw [List.getElem_set_ne hik, he]
    rw [← this]
    exact List.getElem_mem _

theorem gone_of {d : List UInt8} (h38 : chk38 d = 0) {at0 k m : Nat} {last : List UInt8} (hdl : at0 ∈ (T0 d).dl) (hk8 : k < 8) (hent : ∀ h : k < ((T0 d).E at0).length, ((T0 d).E at0)[k] = (last, m)) (hlast : last ≠ []) (hnone : (T0 d).ch m = []) :
    (freeR (wr16 d at0 k (enB ([], 0))) m).2 = 0 ∧ Gone d (freeR (wr16 d at0 k (enB ([], 0))) m).1 at0 k m last := by
  obtain ⟨h0, hG, hE⟩ := tree_facts h38
  have hu := hG.fine.uniq
  obtain ⟨hat1, hat2⟩ := mem_dl.1 hdl
  have hEl : k < ((T0 d).E at0).length := by rw [(T0_ok d).len]; exact hk8
  have hent := hent hEl
  have hme : (last, m) ∈ (T0 d).es at0 := by
    unfold Tree.es
    rw [if_pos hdl, ← hent]
    exact List.getElem_mem _
  have hmch := mem_ch hme hlast
  obtain ⟨m0, m32, mk⟩ := hG.fine.ok at0 hdl m hmch
  have mk : rk d m ≠ 0 := mk
  have hma : m ≠ at0 := fun e => by
    rw [e] at hnone hmch
    rw [hnone] at hmch
    cases hmch
  obtain ⟨w1, w2, w3, w4, w5, w6⟩ := wr16_ok h0 hat1 hat2 hk8 (x := ([], 0)) (by decide) (fun j hj => absurd hj (by simp)) (by decide)
  have hw6 := w6 (hE at0 hdl) (.inl rfl) (.inl rfl)
  have hrk1 : ∀ x, x < 32 → rk (wr16 d at0 k (enB ([], 0))) x = rk d x := fun x hx => (slot_all (w2 x hx)).1
  obtain ⟨f1, f2, f3, f4, f5, f6⟩ := free_ok w1 m32 m0 (by rw [hrk1 m m32]; exact mk)
  refine ⟨f1, ?_⟩
  generalize (freeR (wr16 d at0 k (enB ([], 0))) m).1 = e at *
  generalize wr16 d at0 k (enB ([], 0)) = d1 at *
  have hkinds : ∀ x, x < 32 → x ≠ m → rk e x = rk d x := fun x hx hxm => by rw [(slot_all (f4 x hx hxm).slot).1, hrk1 x hx]
  have hca : contentR e at0 = contentR d1 at0 := content_same w1 f2 hat1 (by rw [hrk1 at0 hat1]; omega) (f4 at0 hat1 (Ne.symm hma))
  have hcont : ∀ x, x < 32 → rk d x ≠ 0 → x ≠ at0 → x ≠ m → contentR e x = contentR d x := fun x hx hxk hxa hxm => by
    rw [content_same w1 f2 hx (by rw [hrk1 x hx]; exact hxk) (f4 x hx hxm), content_same h0 w1 hx hxk (w3 x hx hxa)]
  have hdle : ∀ x, x ∈ (T0 e).dl ↔ x ∈ (T0 d).dl ∧ x ≠ m := fun x => by
    rw [mem_dl, mem_dl]
    by_cases hx : x = m
    · rw [hx, f3]
      constructor
      · rintro ⟨_, h⟩; cases h
      · rintro ⟨_, h⟩; exact absurd rfl h
    · constructor
      · rintro ⟨a, b⟩; exact ⟨⟨a, by rw [← hkinds x a hx]; exact b⟩, hx⟩
      · rintro ⟨⟨a, b⟩, _⟩; exact ⟨a, by rw [hkinds x a hx]; exact b⟩
  have hnd : (nodes ((T0 d).E at0)).Nodup := by rw [← (T0 d).ch_es hdl]; exact hu.nd at0
  have hEe : (T0 e).E at0 = ((T0 d).E at0).set k ([], 0) := by rw [T0_E, hca, w5, ← T0_E]
  have hents : ∀ a s x, ((s, x) ∈ (T0 e).es a ∧ s ≠ []) ↔ ((s, x) ∈ (T0 d).es a ∧ s ≠ [] ∧ x ≠ m) := fun a s x => by
    by_cases ha : a ∈ (T0 d).dl
    rotate_left
    · have e1 : (T0 d).es a = [] := if_neg ha
      have e2 : (T0 e).es a = [] := if_neg fun h => ha ((hdle a).1 h).1
      rw [e1, e2]
      simp
    by_cases ham : a = m
    · have e2 : (T0 e).es a = [] := if_neg fun h => ((hdle a).1 h).2 ham
      rw [e2]
      constructor
      · rintro ⟨h, _⟩; cases h
      · rintro ⟨h, hs, _⟩
        have := mem_ch h hs
        rw [ham, hnone] at this
        cases this
    have e1 : (T0 d).es a = (T0 d).E a := if_pos ha
    have e2 : (T0 e).es a = (T0 e).E a := if_pos ((hdle a).2 ⟨ha, ham⟩)
    by_cases haa : a = at0
    · subst haa
      rw [e1, e2, hEe]
      constructor
      · rintro ⟨h, hs⟩
        have := (mem_set_empty hEl hs hnd (by rw [hent]; exact hlast)).1 h
        rw [hent] at this
        exact ⟨this.1, hs, this.2⟩
      · rintro ⟨h, hs, hx⟩
        exact ⟨(mem_set_empty hEl hs hnd (by rw [hent]; exact hlast)).2 ⟨h, by rw [hent]; exact hx⟩, hs⟩
    · obtain ⟨a1, a2⟩ := mem_dl.1 ha
      rw [e1, e2, T0_E, T0_E, hcont a a1 (by omega) haa ham]
      constructor
      · rintro ⟨h, hs⟩
        refine ⟨h, hs, fun hx => haa (hu.par a at0 m ?_ hmch)⟩
        rw [hx] at h
        exact mem_ch (T := T0 d) (by rw [e1]; exact h) hs
      · rintro ⟨h, hs, _⟩; exact ⟨h, hs⟩
  have hch : ∀ a x, x ∈ (T0 e).ch a ↔ x ∈ (T0 d).ch a ∧ x ≠ m := fun a x => by
    constructor
    · intro h
      obtain ⟨s, h1, h2⟩ := ch_mem h
      have := (hents a s x).1 ⟨h1, h2⟩
      exact ⟨mem_ch this.1 h2, this.2.2⟩
    · rintro ⟨h, hx⟩
      obtain ⟨s, h1, h2⟩ := ch_mem h
      exact mem_ch ((hents a s x).2 ⟨h1, h2, hx⟩).1 h2
  have hchnd : ∀ a, ((T0 e).ch a).Nodup := fun a => by
    by_cases ha : a ∈ (T0 e).dl
    · obtain ⟨b1, b2⟩ := (hdle a).1 ha
      by_cases haa : a = at0
      · subst haa
        rw [(T0 e).ch_es ha, hEe]
        exact (List.nodup_cons.1 ((nodes_del hEl (by rw [hent]; exact hlast)).nodup_iff.1 hnd)).2
      · obtain ⟨a1, a2⟩ := mem_dl.1 b1
        rw [(T0 e).ch_es ha, T0_E, hcont a a1 (by omega) haa b2, ← T0_E, ← (T0 d).ch_es b1]
        exact hu.nd a
    · rw [(T0 e).ch_no ha]
      exact List.nodup_nil
  have hfine : (T0 e).Fine := by
    refine ⟨fun a ha x hx => ?_, fun a ha => hchnd a, fun a ha a' ha' x hx hx' => hu.par a a' x ((hch a x).1 hx).1 ((hch a' x).1 hx').1⟩
    obtain ⟨h1, h2⟩ := (hch a x).1 hx
    obtain ⟨q1, q2, q3⟩ := hG.fine.ok a ((hdle a).1 ha).1 x h1
    exact ⟨q1, q2, by show rk e x ≠ 0; rw [hkinds x q2 h2]; exact q3⟩
  have hrch : ∀ x, Rch (T0 d).ch x → x ≠ m → Rch (T0 e).ch x := fun x h => by
    induction h with
    | root => exact fun _ => .root
    | step hn hx ih =>
      rename_i a x
      intro hxm
      have ham : a ≠ m := fun h => by
        rw [h, hnone] at hx
        cases hx
      exact .step (ih ham) ((hch a x).2 ⟨hx, hxm⟩)
  have hok : chk38 e = 0 := by
    refine chk38_of f2 (fun a ha => ?_) hfine fun x hx hxk => ?_
    · obtain ⟨b1, b2⟩ := (hdle a).1 ha
      by_cases haa : a = at0
      · rw [haa, hca]; exact hw6
      · obtain ⟨a1, a2⟩ := mem_dl.1 b1
        rw [hcont a a1 (by omega) haa b2]
        exact hE a b1
    · have hxm : x ≠ m := fun h => by rw [h] at hxk; exact hxk f3
      exact hrch x (tree_rch h38 hx (by rw [← hkinds x hx hxm]; exact hxk)) hxm
  exact ⟨hok, hdl, hk8, hme, hlast, m32, m0, mk, f3, hkinds, fun x hx hxm r hr => by rw [(f4 x hx hxm).slot r hr, w2 x hx r hr], hents, hcont, ⟨rb d at0 0, fun i a b c => by rw [f5 i a b, w4 i c]⟩, f6, hnone⟩

/-- Unlink of a path that leads to an inode with nothing below it. -/
theorem unlink_ok {d p : List UInt8} (h38 : chk38 d = 0) {names : List (List UInt8)} {m : Nat} (hsp : splitR p = (names, 0)) (hn : names ≠ []) (hfo : followR d names 0 = (m, 0)) (hnone : (T0 d).ch m = []) :
    (unlinkR d p).2 = 0 ∧ ∃ at0 k, followR d names.dropLast 0 = (at0, 0) ∧ Gone d (unlinkR d p).1 at0 k m (names.getLastD []) := by
  have hsn := splitR_names p
  rw [hsp] at hsn
  dsimp only at hsn
  obtain ⟨at0, k, g1, g2, g3, g4, g5, g6, g7⟩ := unlink_facts h38 hn hsn hfo
  have hb : ¬ ((dirR d m).2 = 0 ∧ ∃ e ∈ (dirR d m).1, e.1 ≠ []) := by
    rintro ⟨h1, x, h2, h3⟩
    by_cases hm : m ∈ (T0 d).dl
    · rw [dirR_dir h38 hm] at h2
      have : x.2 ∈ (T0 d).ch m := mem_ch (s := x.1) (by unfold Tree.es; rw [if_pos hm]; exact h2) h3
      rw [hnone] at this
      cases this
    · rw [dirR_file h38 g5 g6 hm] at h1
      cases h1
  have hlast := getLast_eq hn
  have hlv : names.getLastD [] ≠ [] := fun e => by
    have := hsn _ (List.mem_of_getElem? hlast)
    rw [e] at this
    cases this
  obtain ⟨hk, hks⟩ := fidx_some g3
  have hdn := dropLast_snoc hn
  have hroot := mem_dl.1 (root_in (tree_facts h38).1)
  have hvn : ∀ s ∈ names, s ≠ [] := fun s hs h => by
    have := hsn s hs
    rw [h] at this
    cases this
  have hw := (walk_follow h38 names 0 hroot.1 (by omega) hvn).1
  rw [hfo] at hw
  have hd1 := (walk_dn h38 hvn).1 hw
  rw [hdn] at hd1
  obtain ⟨c, q1, q2, q3⟩ := dn_snoc.1 hd1
  have hd2 := (walk_dn h38 fun s hs => hvn s (List.dropLast_subset _ hs)).1 g1
  have hc : c = at0 := dn_fun (T0_nm h38) q1 hd2
  subst hc
  have hment : ((T0 d).E c)[k] = (names.getLastD [], m) := by
    have hm2 : (names.getLastD [], ((T0 d).E c)[k].2) ∈ (T0 d).es c := by
      unfold Tree.es
      rw [if_pos g2]
      have := List.getElem_mem hk
      rwa [show ((T0 d).E c)[k] = (names.getLastD [], ((T0 d).E c)[k].2) from Prod.ext hks rfl] at this
    have := (T0_nm h38).one c _ _ _ hm2 q2 q3
    exact Prod.ext hks this
  obtain ⟨r1, r2⟩ := gone_of h38 g2 g4 (fun _ => hment) hlv hnone
  have hu : unlinkR d p = freeR (wr16 d c k (enB ([], 0))) m := by
    unfold unlinkR
    rw [if_neg (show ¬ chk38 d ≠ 0 by rw [h38]; simp), hsp]
    dsimp only
    rw [if_neg (by decide), if_neg hn, hfo]
    dsimp only
    rw [if_neg (by decide), if_neg hb, g7]
    dsimp only
    rw [dirR_dir h38 g2]
    dsimp only
    rw [g3, Option.getD_some, unlinkR_eq h38 g2 g4]
  rw [hu]
  exact ⟨r1, c, k, g7, r2⟩

/-- When Unlink answers OK, and what it leaves then. -/
theorem unlink_gone {d p : List UInt8} (h : (unlinkR d p).2 = 0) : chk38 d = 0 ∧ ∃ names at0 k m, splitR p = (names, 0) ∧ names ≠ [] ∧ followR d names 0 = (m, 0) ∧ followR d names.dropLast 0 = (at0, 0) ∧
    Gone d (unlinkR d p).1 at0 k m (names.getLastD []) := by
  have hsn := splitR_names p
  have h' := h
  unfold unlinkR at h
  by_cases h38 : chk38 d = 0
  rotate_left
  · rw [if_pos h38] at h
    exact absurd h h38
  rw [if_neg (show ¬ chk38 d ≠ 0 by rw [h38]; simp)] at h
  generalize hsp : splitR p = sp at *
  obtain ⟨names, se⟩ := sp
  dsimp only at hsn h
  by_cases hs : se ≠ 0
  · rw [if_pos hs] at h; cases h
  rw [if_neg hs] at h
  by_cases hn : names = []
  · rw [if_pos hn] at h; cases h
  rw [if_neg hn] at h
  generalize hfo : followR d names 0 = fr at *
  obtain ⟨m, fe⟩ := fr
  dsimp only at h
  by_cases hf : fe ≠ 0
  · rw [if_pos hf] at h; exact absurd h hf
  rw [if_neg hf] at h
  have hf0 : fe = 0 := by omega
  subst hf0
  by_cases hb : (dirR d m).2 = 0 ∧ ∃ e ∈ (dirR d m).1, e.1 ≠ []
  · rw [if_pos hb] at h; cases h
  have hs0 : se = 0 := by omega
  subst hs0
  have hnone : (T0 d).ch m = [] := by
    by_cases hm : m ∈ (T0 d).dl
    · rw [dirR_dir h38 hm] at hb
      rw [List.eq_nil_iff_forall_not_mem]
      intro x hx
      obtain ⟨s, h1, h2⟩ := ch_mem hx
      refine hb ⟨rfl, (s, x), ?_, h2⟩
      unfold Tree.es at h1
      rwa [if_pos hm] at h1
    · exact (T0 d).ch_no hm
  obtain ⟨-, at0, k, a, b⟩ := unlink_ok h38 hsp hn hfo hnone
  exact ⟨h38, names, at0, k, m, rfl, hn, hfo, a, b⟩

end Go.Proofs.YtbfpgfopppfhoaaGreatDoor
set_option maxRecDepth 100000
set_option maxHeartbeats 4000000
set_option linter.unusedVariables false
set_option linter.unusedSimpArgs false
namespace Go.Sx
open Go
variable {P : Program} {tab : Sx.Tab} {w0 : World} {R : Nat → Nat → Prop} {av : Nat → Prop} {bs : List (Nat × Nat)} {cs : List (List Value)} {F : Fx}
/-- make([]T, 0) -/
theorem XVal.makeRow0 (hT : TabOk P tab) {t : TypeId} {ti te : TI} {e : TypeId} (ht : Sx.look tab t = some ti) (hk : ti.k = .slice e) (he : Sx.look tab e = some te) {k k' : IntKind} {m m' : Int} {K : KV} (hm : m = 0) (hm' : m' = 0)
    (h : ∀ b, K (.slice (some ⟨b, 0, none⟩) 0 0) bs cs ⟨F.D, F.rs ++ [(b, Row.c [])]⟩) : XVal P w0 R av (Instr.makeSlice t (.int k m) (.int k' m')) bs cs F K := by
  subst hm hm'
  refine XVal_iff.2 fun w hst => ?_
  obtain ⟨i1, d1, z1, p1, p2, p3, p4, p5, p6, p7, p8⟩ := mkTI_parts (hT _ _ ht)
  obtain ⟨i2, d2, z2, q1, q2, q3, q4, q5, q6, q7, q8⟩ := mkTI_parts (hT _ _ he)
  rw [p4] at hk
  obtain rfl := slice_of hk
  refine ⟨_, _, [], cs, _, ?_, by rw [List.append_nil]; exact hst.newRow [] e, by rw [List.append_nil]; exact h _⟩
  unfold Instr.makeSlice
  rw [run_bind_ok (run_underlying' p2 w)]
  simp only
  rw [run_bind_ok (m := asInt _) (a := (0 : Int)) (w' := w) rfl, run_bind_ok (m := asInt _) (a := (0 : Int)) (w' := w) rfl, run_bind_ok (run_typeInfo q1 w)]
  have w1 : IntKind.i64.wrap (0 : Int) = 0 := wrap_i64 (by omega)
  simp only [w1]
  have ht1 : (decide ((0 : Int) < 0) || decide ((i2.bytes : Int) * (0 : Int) > 2 ^ 48)) = false := by
    rw [Int.mul_zero]
    decide
  simp only [ht1, Bool.false_or]
  rw [if_neg (by decide)]
  rw [run_bind_ok (run_askRoom _ _), run_bind_ok (run_sizeOf q1 w)]
  simp only [Int.toNat_zero, Nat.zero_mul]
  rw [if_pos trivial, run_bind_ok (run_pure P _ w)]
  have e0 : Array.map (fun x => (#[] : Array Value)[x % (#[] : Array Value).size]!) (Array.range 0) = #[] := by simp
  rw [e0]
  rw [run_bind_ok (run_newRow w e _)]
  rfl

end Go.Sx

namespace Go.Proofs.YtbfpgfopppfhoaaGreatDoor
open Go Go.Sx
section
variable {P : Program} {tab : Sx.Tab} {w0 : World} {R : Nat → Nat → Prop} {av : Nat → Prop} {bs : List (Nat × Nat)} {cs : List (List Value)} {F : Fx}
theorem XVal.makeBytesZ (hT : TabOk P tab) {t : TypeId} {ti te : TI} {e : TypeId} (ht : Sx.look tab t = some ti) (hk : ti.k = .slice e) (he : Sx.look tab e = some te) (hz : te.zero = [.int .u8 0]) (hs : te.size = 1) (hby : te.bytes = 1) {k k' : IntKind} {m m' : Int} {K : KV} (n : Nat) (hm : m = (n : Int)) (hm' : m' = (n : Int))
    (hsmall : n ≤ 1000000) (h : ∀ b, K (.slice (some ⟨b, 0, none⟩) n n) bs cs ⟨F.D, F.rs ++ [(b, Row.c ((List.replicate n (0 : UInt8)).map byteV ++ []))]⟩) : XVal P w0 R av (Instr.makeSlice t (.int k m) (.int k' m')) bs cs F K := by
  by_cases hn : n = 0
  · subst hn
    exact XVal.makeRow0 hT ht hk he hm hm' h
  · exact XVal.makeBytes hT ht hk he hz hs hby n hm hm' (by omega) hsmall h
end

def outB (d : List UInt8) (b : Nat → Nat) (p : Nat) : Nat → List UInt8
  | 0 => List.replicate (128 * p) 0
  | i + 1 => if b i = 0 then outB d b p i else lay (outB d b p i) (128 * i) (cut d (128 * b i) 128)

section
variable {d : List UInt8} (hd : d.length = 12288) {b : Nat → Nat} {p : Nat} (hb : ∀ i, i < 12 → b i < 96) (hp : ∀ i, i < 12 → b i ≠ 0 → i < p)
include hd hb hp

theorem outB_len : ∀ i, i ≤ 12 → (outB d b p i).length = 128 * p
  | 0, _ => List.length_replicate
  | i + 1, hi => by
    have ih := outB_len i (by omega)
    have h1 := hb i (by omega)
    unfold outB
    split
    · exact ih
    · rename_i h
      have h2 := hp i (by omega) h
      rw [lay_len (by rw [cut_len (by omega)]; omega), ih]

theorem byt_outB : ∀ i, i ≤ 12 → ∀ m, byt (outB d b p i) m = if m / 128 < i ∧ b (m / 128) ≠ 0 then byt d (128 * b (m / 128) + m % 128) else 0
  | 0, _, m => by
    rw [if_neg (by omega)]
    show byt (List.replicate (128 * p) 0) m = 0
    unfold byt
    rw [List.getD_eq_getElem?_getD, List.getElem?_replicate]
    split <;> rfl
  | i + 1, hi, m => by
    have ih := byt_outB i (by omega) m
    have h1 := hb i (by omega)
    unfold outB
    by_cases h : b i = 0
    · rw [if_pos h, ih]
      by_cases hm : m / 128 = i
      · rw [hm, if_neg (by omega), if_neg (by omega)]
      · by_cases h5 : m / 128 < i ∧ b (m / 128) ≠ 0
        · rw [if_pos h5, if_pos ⟨by omega, h5.2⟩]
        · rw [if_neg h5, if_neg (by omega)]
    · have h2 := hp i (by omega) h
      have hcl : (cut d (128 * b i) 128).length = 128 := cut_len (by omega)
      rw [if_neg h, byt_lay (by rw [hcl, outB_len hd hb hp i (by omega)]; omega), hcl]
      by_cases hm : 128 * i ≤ m ∧ m < 128 * i + 128
      · have hmi : m / 128 = i := by omega
        rw [if_pos hm, hmi, if_pos ⟨by omega, h⟩, byt_cut (by omega) (by omega)]
        congr 1
        omega
      · rw [if_neg hm, ih]
        by_cases h5 : m / 128 < i ∧ b (m / 128) ≠ 0
        · rw [if_pos h5, if_pos ⟨by omega, h5.2⟩]
        · rw [if_neg h5, if_neg (by omega)]

omit hp in
theorem byt_contB : ∀ i, i ≤ 12 → ∀ m, byt (contB d b i) m = if m / 128 < i ∧ b (m / 128) ≠ 0 then byt d (128 * b (m / 128) + m % 128) else 0
  | 0, _, m => by
    rw [if_neg (by omega)]
    show byt [] m = 0
    unfold byt
    simp
  | i + 1, hi, m => by
    have ih := byt_contB i (by omega)
    have hl := contB_len hd (b := b) (i := i) fun j hj => hb j (by omega)
    have h1 := hb i (by omega)
    show byt (contB d b i ++ blockOf d (b i)) m = _
    by_cases hm : m < 128 * i
    · have e : byt (contB d b i ++ blockOf d (b i)) m = byt (contB d b i) m := by
        unfold byt
        rw [List.getD_eq_getElem?_getD, List.getD_eq_getElem?_getD, List.getElem?_append_left (by omega)]
      rw [e, ih]
      by_cases h5 : m / 128 < i ∧ b (m / 128) ≠ 0
      · rw [if_pos h5, if_pos ⟨by omega, h5.2⟩]
      · rw [if_neg h5, if_neg (by omega)]
    · have e : byt (contB d b i ++ blockOf d (b i)) m = byt (blockOf d (b i)) (m - 128 * i) := by
        unfold byt
        rw [List.getD_eq_getElem?_getD, List.getD_eq_getElem?_getD, List.getElem?_append_right (by omega), hl]
      rw [e]
      unfold blockOf
      by_cases hq : m < 128 * i + 128
      · have hmi : m / 128 = i := by omega
        rw [hmi]
        by_cases h : b i = 0
        · rw [if_pos h, if_neg (by omega)]
          unfold byt
          rw [List.getD_eq_getElem?_getD, List.getElem?_replicate]
          split <;> rfl
        · rw [if_neg h, if_pos ⟨by omega, h⟩, byt_cut (by omega) (by omega)]
          congr 1
          omega
      · have hr : ¬ (m / 128 < i + 1 ∧ b (m / 128) ≠ 0) := by omega
        rw [if_neg hr]
        have hlen : (if b i = 0 then List.replicate 128 0 else cut d (128 * b i) 128).length = 128 := by
          split
          · exact List.length_replicate
          · exact cut_len (by omega)
        unfold byt
        rw [List.getD_eq_getElem?_getD, List.getElem?_eq_none (by omega)]
        rfl

theorem outB_cont {s : Nat} (hs : s ≤ 128 * p) (hs2 : s ≤ 1536) : (outB d b p 12).take s = (contB d b 12).take s := by
  have h1 := outB_len hd hb hp 12 (by omega)
  have h2 := contB_len hd (b := b) (i := 12) hb
  refine byt_ext (by simp [h1, h2]; omega) fun m hm => ?_
  have hm' : m < s := by
    rw [List.length_take] at hm
    omega
  have e : ∀ l : List UInt8, byt (l.take s) m = byt l m := fun l => by
    unfold byt
    rw [List.getD_eq_getElem?_getD, List.getD_eq_getElem?_getD, List.getElem?_take, if_pos hm']
  rw [e, e, byt_outB hd hb hp 12 (by omega), byt_contB hd hb 12 (by omega)]
end

theorem vcontent_spec (bv : Nat) (V : List Value) (h : Hd) (d : List UInt8) (hV : V[0]? = some (h.v d.length)) (hh : h.Ok d.length) (hd : d.length = 12288) (k s : Nat) (b : Nat → Nat) (hs : s ≤ 1536) (hb : ∀ i, i < 12 → b i < 96) (hbs : ∀ i, i < 12 → b i ≠ 0 → i * 128 < s) :
    PureSpec Tryz.prog 111 [.pointer (some ⟨bv, 0, none⟩), .agg ⟨inoL k s b⟩] (fun w => RowAt w (some ⟨bv, 0, none⟩) V ∧ By w h d) (RelB ((contB d b 12).take s)) := by
  have hp : ∀ i, i < 12 → b i ≠ 0 → i < (s + 127) / 128 := fun i hi h0 => by have := hbs i hi h0; omega
  have hps : (s + 127) / 128 ≤ 12 := by omega
  have hsp : s ≤ 128 * ((s + 127) / 128) := by omega
  have hps0 := parts_spec s (by omega)
  have hfin := outB_cont hd hb hp hsp hs
  have hlen := outB_len hd hb hp
  refine PureSpec.of_xc tabOk Tryz.func111 rfl (by decide) (n := Tryz.f111.ntmps - 2) rfl rfl fun w0 av => ?_
  generalize (s + 127) / 128 = p at *
  conv => whnf
  intro b3
  conv => whnf
  repeat (refine XSame.of ?_; conv => whnf)
  refine XCall.val hps0 (fun w hw => trivial) (fun v D hv => ?_)
  subst hv
  have hw : IntKind.i64.wrap ((p : Int) * 128) = ((128 * p : Nat) : Int) := by rw [wrap_i64 (by omega)]; omega
  conv => whnf
  repeat (refine XSame.of ?_; conv => whnf)
  refine XVal.makeBytesZ tabOk (t := 31) rfl rfl rfl rfl rfl rfl (128 * p) hw hw (by omega) fun bo => ?_
  conv => whnf
  repeat (refine XSame.of ?_; conv => whnf)
  refine XStop.loop tabOk (ι := Nat) ([6, 7] ++ List.range' 15 15) (fun x => x ≤ 12)
    (fun x => [(15, .v (.int .i64 (x : Int)))]) (fun _ => [inoL k s b]) (fun x => ⟨fun w => RowAt w (some ⟨bv, 0, none⟩) V ∧ By w h d, [(bo, Row.c ((outB d b p x).map byteV ++ []))]⟩)
    (fun x => 12 - x) 0 (Nat.zero_le _) ?_ rfl (Ent.of_le ⟨by simp [outB], fun w hw => hw⟩) fun i hi => ?_
  · conv => whnf
    repeat (first | exact FLe.nil | refine FLe.any ?_ | refine FLe.cons ?_)
  conv => whnf
  refine XIf.split (fun hlt => ?_) (fun hlt => ?_)
  · have hlt' : i < 12 := by
      simp only [iLt_eq, decide_eq_true_eq] at hlt
      omega
    have hol := hlen i (by omega)
    have hbi := hb i hlt'
    conv => whnf
    refine XVal.of_read (XRead.indexAgg tabOk (t := 47) rfl rfl rfl rfl rfl i rfl hlt' (arr_get hlt') ?_)
    conv => whnf
    repeat (refine XSame.of ?_; conv => whnf)
    refine XIf.split (fun hz => ?_) (fun hz => ?_)
    · have hz' : b i ≠ 0 := by
        simp [iNe_eq] at hz
        omega
      have hpi := hp i hlt' hz'
      have hob : outB d b p (i + 1) = lay (outB d b p i) (128 * i) (cut d (128 * b i) 128) := by
        show (if b i = 0 then _ else _) = _
        rw [if_neg hz']
      have hcl : (cut d (128 * b i) 128).length = 128 := cut_len (by omega)
      have hwi : IntKind.i64.wrap ((i : Int) * 128) = ((128 * i : Nat) : Int) := by rw [wrap_i64 (by omega)]; omega
      have hc := hh.cap
      have hvb := vblock_spec bv V h d.length hV hh hd (b i) hbi
      generalize outB d b p i = O at *
      refine XStop.draw tabOk mixed rfl rfl ?_
      conv => whnf
      repeat' (first
        | (refine And.intro ?_ ?_ <;> conv => whnf)
        | (refine XHeld.same rfl ?_; conv => whnf)
        | (refine XHeld.row rfl ?_; conv => whnf)
        | (refine XHeld.call rfl ?_; conv => whnf)
        | (refine XKeep.of ?_; conv => whnf)
        | (refine XSame.of ?_; conv => whnf)
        | (refine XRead.subFrom tabOk (t := 31) rfl rfl rfl (h := ⟨some ⟨bo, 0, none⟩, 128 * p⟩) rfl (128 * i) hwi (by omega) (by dsimp only; omega) ?_; conv => whnf)
        | (refine XCall.val hvb (fun w hw => hw.1) (fun v D hv => ?_); subst hv; conv => whnf)
        | (rw [sub_row (by omega)]; refine XVal.copyB tabOk (t := 31) rfl rfl rfl rfl (r1 := []) (r2 := []) (b := bo) (k := 128 * i) (l := O) (m := cut d (128 * b i) 128) (Z := []) rfl (.fact fun w hw => By.sub hw.2 (by omega)) (by omega) (by omega) (by omega) ?_; conv => whnf)
        | (refine XHeld.mk ?_ ?_; (focus (first | exact Ent.refl _ | exact Ent.left _ _ | exact Ent.of_le ⟨List.sublist_append_left _ _, fun w h => h⟩ | exact Ent.of_le ⟨List.Sublist.refl _, fun w h => h.1⟩)); conv => whnf))
      all_goals
        refine ⟨i + 1, ⟨hlt', by dsimp only; omega⟩, ?_, ?_, by
          show Ent _ ⟨fun w => RowAt w (some ⟨bv, 0, none⟩) V ∧ By w h d, [(bo, Row.c ((outB d b p (i + 1)).map byteV ++ []))]⟩
          rw [hob]
          exact Ent.of_le ⟨by simp, fun w hw => hw⟩⟩
        · conv => whnf
          refine ⟨?_, rfl⟩
          repeat (first | exact FLe.nil | refine FLe.any ?_ | refine FLe.cons ?_ | refine FLe.eq (by rw [wrap_i64 (by omega)]; rfl) ?_)
        · conv => whnf
          exact ⟨⟨rfl, rfl⟩, trivial⟩
    · have hz' : b i = 0 := by
        simp [iNe_eq] at hz
        omega
      have hob : outB d b p (i + 1) = outB d b p i := by
        show (if b i = 0 then _ else _) = _
        rw [if_pos hz']
      conv => whnf
      repeat (refine XSame.of ?_; conv => whnf)
      refine ⟨i + 1, ⟨hlt', by dsimp only; omega⟩, ?_, ?_, by
        show Ent _ ⟨fun w => RowAt w (some ⟨bv, 0, none⟩) V ∧ By w h d, [(bo, Row.c ((outB d b p (i + 1)).map byteV ++ []))]⟩
        rw [hob]
        exact Ent.refl _⟩
      · conv => whnf
        refine ⟨?_, rfl⟩
        repeat (first | exact FLe.nil | refine FLe.any ?_ | refine FLe.cons ?_ | refine FLe.eq (by rw [wrap_i64 (by omega)]; rfl) ?_)
      · conv => whnf
        exact ⟨⟨rfl, rfl⟩, trivial⟩
  · have hie : i = 12 := by
      simp only [iLt_eq, decide_eq_false_iff_not] at hlt
      omega
    subst hie
    have hol := hlen 12 (by omega)
    generalize outB d b p 12 = O at *
    conv => whnf
    repeat (refine XSame.of ?_; conv => whnf)
    refine XVal.of_read (XRead.subTo tabOk (t := 31) rfl rfl rfl (h := ⟨some ⟨bo, 0, none⟩, 128 * p⟩) s rfl (by dsimp only; omega) ?_)
    conv => whnf
    repeat (refine XSame.of ?_; conv => whnf)
    have hsl : (O.take s).length = s := by
      rw [List.length_take]
      omega
    rw [← hfin]
    refine ⟨⟨fun w => By w ⟨some ⟨bo, 0, none⟩, 128 * p⟩ (O.take s), []⟩, (Ent.giveB (r1 := []) (r2 := [])).trans (Ent.imp fun w hw => ?_), ⟨some ⟨bo, 0, none⟩, 128 * p⟩, ?_, ?_, rfl⟩
    · have := RowAt.take hw s
      unfold By
      rw [List.map_take]
      exact this
    · rw [hsl]
    · rw [hsl]
      exact ⟨fun h => (by cases h), by dsimp only; omega⟩

end Go.Proofs.YtbfpgfopppfhoaaGreatDoor
namespace Go.Proofs.YtbfpgfopppfhoaaGreatDoor
open Go Go.Sx
set_option maxRecDepth 100000
set_option maxHeartbeats 4000000
set_option linter.unusedVariables false
set_option linter.unusedSimpArgs false

theorem contentR_bad {d : List UInt8} {n : Nat} (h : gete d n ≠ 0) : contentR d n = [] := by
  unfold contentR
  rw [if_pos h]

theorem cut_all (l : List UInt8) : cut l 0 l.length = l := by simp [cut]

theorem pread_spec (d : List UInt8) (h : Hd) (hh : h.Ok d.length) (hl : d.length ≤ 1000000) (n : Nat) (off cnt : Int) (ho : off = 0) (hc : cnt = 1536) :
    PureSpec Tryz.prog 73 [h.v d.length, .int .i64 (n : Int), .int .i64 off, .int .i64 cnt] (fun w => By w h d) (RelDE (contentR d n) (gete d n)) := by
  have hge := pgete d n
  have hgi := getGi_ok (d := d) (m := n)
  have hbad := contentR_bad (d := d) (n := n)
  refine PureSpec.of_xc tabOk Tryz.func73 rfl (by decide) (n := Tryz.f73.ntmps - 4) rfl rfl fun w0 av => ?_
  conv => whnf
  refine XCall.pure (with_spec d h hh hl n) (fun w hw => hw) (fun v D hv => ?_)
  unfold RelW at hv
  by_cases h0 : chk d = 0
  rotate_left
  · rw [if_neg h0] at hv
    obtain ⟨rfl, rfl⟩ := hv
    have he : gete d n = chk d := by
      unfold gete
      rw [if_pos h0]
    rw [hbad (by rw [he]; exact h0), he]
    generalize chk d = e at *
    conv => whnf
    repeat (refine XSame.of ?_; conv => whnf)
    intro b11
    conv => whnf
    repeat (refine XSame.of ?_; conv => whnf)
    refine XIf.yes (by simp [iNe_eq]; omega) ?_
    conv => whnf
    repeat (refine XSame.of ?_; conv => whnf)
    exact relDE_nil
  rw [if_pos h0] at hv
  obtain ⟨bd, bv, cap, Z, k, rfl, hcap, hk, rfl⟩ := hv
  have hge := hge h0
  obtain ⟨hd, hok⟩ := chk_zero h0
  by_cases hg : gete d n = 0
  rotate_left
  · rw [hbad hg]
    rw [← hge] at hg ⊢
    generalize getGe (dIno d) n = ge at *
    generalize getGi (dIno d) n = gi at *
    conv => whnf
    repeat (refine XSame.of ?_; conv => whnf)
    intro b11
    conv => whnf
    repeat (refine XSame.of ?_; conv => whnf)
    refine XIf.yes (by simp [iNe_eq]; omega) ?_
    conv => whnf
    repeat (refine XSame.of ?_; conv => whnf)
    exact relDE_nil
  obtain ⟨hn, hkn⟩ := (gete_iff h0).1 hg
  obtain ⟨g1, g2⟩ := hgi hn hkn
  rw [g2, show inoV (rk d n, rs d n, rb d n) = inoL (rk d n) (rs d n) (rb d n) from rfl]
  have hcr : contentR d n = (contB d (rb d n) 12).take (rs d n) := by
    unfold contentR
    rw [if_neg (by rw [hg]; simp)]
  have hf := hok.form n hn
  have hsz := form_size hf
  have hvc := vcontent_spec bv (vwG (.slice (some ⟨bd, 0, none⟩) d.length cap) (dIno d) (k.v 12)) ⟨some ⟨bd, 0, none⟩, cap⟩ d rfl ⟨fun h => (by cases h), hcap⟩ hd (rk d n) (rs d n) (rb d n) hsz (fun i hi => ok_blocks hok hn hi) (fun i hi h0 => (form_blocks hf i hi h0).2.2)
  rw [← hcr] at hvc
  have hcl : (contentR d n).length ≤ 1536 := by
    rw [hcr, List.length_take]
    omega
  generalize vwG (.slice (some ⟨bd, 0, none⟩) d.length cap) (dIno d) (k.v 12) = V at *
  generalize contentR d n = c at *
  rw [← hge]
  generalize rk d n = kk at *
  generalize rs d n = ss at *
  generalize rb d n = bb at *
  generalize getGe (dIno d) n = e at *
  have he : e = 0 := g1
  conv => whnf
  repeat (refine XSame.of ?_; conv => whnf)
  intro b11
  conv => whnf
  repeat (refine XSame.of ?_; conv => whnf)
  refine XIf.no (by simp [iNe_eq, he]) ?_
  conv => whnf
  repeat (refine XSame.of ?_; conv => whnf)
  refine XIf.no (by simp [iLt_eq, ho, hc]) ?_
  conv => whnf
  repeat (refine XSame.of ?_; conv => whnf)
  refine XCall.ent (F' := ⟨fun w => RowAt w (some ⟨bv, 0, none⟩) V ∧ By w ⟨some ⟨bd, 0, none⟩, cap⟩ d, []⟩) (Ent.shareAll.trans (Ent.imp fun w hw => ?_)) ?_
  · obtain ⟨-, h1, h2, -⟩ := hw
    refine ⟨h2, ?_⟩
    have h3 := RowAt.take h1 d.length
    rw [List.take_append_of_le_length (by simp), List.take_of_length_le (by simp)] at h3
    exact h3
  refine XCall.pure hvc (fun w hw => hw) (fun v D hv => ?_)
  obtain ⟨kc, rfl, hkc, rfl⟩ := hv
  conv => whnf
  repeat (refine XSame.of ?_; conv => whnf)
  have hlo : (if (c.length : Int) < off then (c.length : Int) else off) = ((0 : Nat) : Int) := by rw [ho, if_neg (by omega)]; rfl
  have hcc := hkc.cap
  refine XVal.of_read (XRead.sub2 tabOk (t := 31) rfl rfl rfl rfl 0 c.length hlo ?_ (by omega) ?_)
  · rw [hlo, hc, Int.sub_eq_add_neg]
    rw [wrap_i64 (n := (c.length : Int) + -((0 : Nat) : Int)) (by omega)]
    rw [wrap_i64 (by split <;> omega)]
    split <;> omega
  conv => whnf
  repeat (refine XSame.of ?_; conv => whnf)
  refine ⟨⟨fun w => By w (Hd.sub kc 0) c, []⟩, Ent.of_le ⟨by simp [Fx.and], fun w hw => ?_⟩, Hd.sub kc 0, by rw [he]; rfl, Hd.sub_ok hkc (by omega), rfl⟩
  have h5 := By.sub hw.2 (l := 0) (k := c.length) (by omega)
  rw [cut_all] at h5
  exact h5

end Go.Proofs.YtbfpgfopppfhoaaGreatDoor
namespace Go.Proofs.YtbfpgfopppfhoaaGreatDoor
open Go Go.Sx
set_option maxRecDepth 100000
set_option maxHeartbeats 4000000
set_option linter.unusedVariables false
set_option linter.unusedSimpArgs false

def differs (d e : List UInt8) (n : Nat) : Bool := (decide (n < 1) || decide (12 < n)) && !(cut d (128 * n) 128 == cut e (128 * n) 128)

def changedN (d e : List UInt8) (k : Nat) : Nat := ((List.range k).filter (differs d e)).length

theorem changedN_next (d e : List UInt8) (k : Nat) : changedN d e (k + 1) = changedN d e k + if differs d e k then 1 else 0 := by
  unfold changedN
  rw [List.range_succ, List.filter_append, List.length_append]
  congr 1
  by_cases h : differs d e k = true
  · rw [List.filter_cons_of_pos h, if_pos h]
    rfl
  · rw [List.filter_cons_of_neg h, if_neg h]
    rfl

theorem changes_spec (d e : List UInt8) (h k : Hd) (hh : h.Ok d.length) (hk : k.Ok e.length) (hd : d.length = 12288) (he : e.length = 12288) :
    PureSpec Tryz.prog 30 [h.v d.length, k.v e.length] (fun w => By w h d ∧ By w k e) (fun v F => ∃ a cap, v = .tuple #[.slice a (changedN d e 96) cap, .int .i64 0]) := by
  have hch := hh.cap
  have hck := hk.cap
  rw [hd, he]
  refine PureSpec.of_xc tabOk Tryz.func30 rfl (by decide) (n := Tryz.f30.ntmps - 2) rfl rfl fun w0 av => ?_
  obtain ⟨nn, hnn⟩ : ∃ n : Nat, n = 12288 := ⟨_, rfl⟩
  rw [← hnn]
  conv => whnf
  repeat (refine XSame.of ?_; conv => whnf)
  refine XIf.no (by simp [iNe_eq, hnn]) ?_
  conv => whnf
  repeat (refine XSame.of ?_; conv => whnf)
  refine XStop.loop tabOk (ι := Nat × Option Addr × Nat × List Value × List Value) ([6, 7, 8] ++ List.range' 17 36) (fun x => x.1 ≤ 96 ∧ Own 2 (changedN d e x.1) x.2.1 x.2.2.1 x.2.2.2.1 x.2.2.2.2)
    (fun x => [(6, .v (.slice x.2.1 (changedN d e x.1) x.2.2.1)), (17, .v (.int .i64 (x.1 : Int)))]) (fun _ => []) (fun x => ⟨fun w => By w h d ∧ By w k e, orow x.2.1 x.2.2.2.1⟩)
    (fun x => 96 - x.1) (0, none, 0, [], []) ⟨Nat.zero_le _, Own.nil 2⟩ ?_ rfl (Ent.of_le ⟨by simp [orow], fun w hw => hw⟩) fun x hx => ?_
  · conv => whnf
    repeat (first | exact FLe.nil | refine FLe.any ?_ | refine FLe.cons ?_)
  obtain ⟨i, a, cap, C, L⟩ := x
  obtain ⟨hi, hO⟩ := hx
  dsimp only at hi hO ⊢
  have hcn : changedN d e i ≤ 96 := by
    unfold changedN
    have := List.length_filter_le (differs d e) (List.range i)
    rw [List.length_range] at this
    omega
  conv => whnf
  refine XIf.split (fun hlt => ?_) (fun hlt => ?_)
  · have hlt' : i < 96 := by
      simp only [iLt_eq, decide_eq_true_eq] at hlt
      omega
    have hnx := changedN_next d e i
    have hdf : differs d e i = ((decide (i < 1) || decide (12 < i)) && !(cut d (128 * i) 128 == cut e (128 * i) 128)) := rfl
    generalize changedN d e i = m at *
    have hw1 : IntKind.i64.wrap ((i : Int) * 128) = ((128 * i : Nat) : Int) := by rw [wrap_i64 (by omega)]; omega
    have hw2 : IntKind.i64.wrap (IntKind.i64.wrap ((i : Int) + 1) * 128) = ((128 * i + 128 : Nat) : Int) := by
      rw [wrap_i64 (n := (i : Int) + 1) (by omega), wrap_i64 (by omega)]
      omega
    conv => whnf
    repeat (refine XSame.of ?_; conv => whnf)
    refine XVal.of_read (XRead.sub2 tabOk (t := 31) rfl rfl rfl rfl (128 * i) 128 hw1 hw2 (by omega) ?_)
    conv => whnf
    repeat (refine XSame.of ?_; conv => whnf)
    have hc1 : (iLt (i : Int) 1 || iGt (i : Int) 12) = (decide (i < 1) || decide (12 < i)) := by
      rw [iLt_eq, iGt_eq, Bool.eq_iff_iff]
      simp only [Bool.or_eq_true, decide_eq_true_eq]
      omega
    rw [← hc1] at hdf
    generalize hcc : (iLt (i : Int) 1 || iGt (i : Int) 12) = c1 at *
    cases c1
    · rw [Bool.false_and] at hdf
      rw [hdf, if_neg (by simp)] at hnx
      conv => whnf
      repeat (refine XSame.of ?_; conv => whnf)
      refine ⟨(i + 1, a, cap, C, L), ⟨⟨hlt', ?_⟩, by dsimp only; omega⟩, ?_, ?_, Ent.refl _⟩
      · dsimp only
        rw [hnx]
        exact hO
      · conv => whnf
        refine ⟨?_, rfl⟩
        repeat (first | exact FLe.nil | refine FLe.any ?_ | refine FLe.cons ?_ | refine FLe.eq (by rw [wrap_i64 (by omega)]; rfl) ?_ | refine FLe.eq (congrArg (fun q => SV.v (Value.slice a q cap)) hnx.symm) ?_)
      · conv => whnf
        exact trivial
    · rw [Bool.true_and] at hdf
      have hcl1 : (cut d (128 * i) 128).length = 128 := cut_len (by omega)
      have hcl2 : (cut e (128 * i) 128).length = 128 := cut_len (by omega)
      have heq := equal_spec (cut d (128 * i) 128) (cut e (128 * i) 128) (Hd.sub h (128 * i)) (Hd.sub k (128 * i)) (by rw [hcl1]; exact Hd.sub_ok hh (by omega)) (by rw [hcl2]; exact Hd.sub_ok hk (by omega))
      have hcs := clone_spec (cut e (128 * i) 128) (Hd.sub k (128 * i)) (by rw [hcl2]; exact Hd.sub_ok hk (by omega)) (by omega) (by omega)
      rw [hcl1, hcl2] at heq
      rw [hcl2] at hcs
      conv => whnf
      repeat (refine XSame.of ?_; conv => whnf)
      refine XVal.of_read (XRead.sub2 tabOk (t := 31) rfl rfl rfl rfl (128 * i) 128 hw1 hw2 (by omega) ?_)
      conv => whnf
      repeat (refine XSame.of ?_; conv => whnf)
      refine XCall.val heq (fun w hw => ⟨By.sub hw.1 (by omega), By.sub hw.2 (by omega)⟩) (fun v D hv => ?_)
      generalize (cut d (128 * i) 128 == cut e (128 * i) 128) = q at *
      subst hv
      conv => whnf
      repeat (refine XSame.of ?_; conv => whnf)
      refine XIf.split (fun hq => ?_) (fun hq => ?_)
      · have hq' : q = false := by simpa using hq
        rw [hdf, hq', if_pos (by rfl)] at hnx
        conv => whnf
        repeat (refine XSame.of ?_; conv => whnf)
        refine XCall.pure hcs (fun w hw => By.sub hw.2 (by omega)) (fun v D hv => ?_)
        obtain ⟨bq, cq, Zq, rfl, hcq, rfl⟩ := hv
        rw [hcl2]
        conv => whnf
        repeat (refine XSame.of ?_; conv => whnf)
        obtain ⟨vs, hvs⟩ : ∃ vs : List Value, vs = [intV i, .slice (some ⟨bq, 0, none⟩) 128 cq] := ⟨_, rfl⟩
        refine XVal.build tabOk (t := 52) rfl rfl rfl [.agg ⟨[intV i, .slice (some ⟨bq, 0, none⟩) 128 cq]⟩] rfl rfl (by simp [Value.cells, intV]) (by decide) fun b0 => ?_
        rw [show ([.agg ⟨[intV i, .slice (some ⟨bq, 0, none⟩) 128 cq]⟩] : List Value).flatMap (fun v => v.cells.toList) = vs by rw [hvs]; rfl]
        conv => whnf
        repeat (refine XSame.of ?_; conv => whnf)
        refine XVal.ent (F' := ⟨fun w => By w h d ∧ By w k e, [] ++ orow a C ++ [(b0, Row.c vs)]⟩) (Ent.of_le ⟨by simp [Fx.and], fun w hw => hw.1⟩) ?_
        refine XVal.append tabOk (t := 52) (xt := 52) rfl rfl rfl rfl rfl rfl (r1 := []) (r2 := [(b0, Row.c vs)]) (M := vs) hO (Sees.row (by simp)) (by rw [hvs]; rfl) (by rw [hvs]; simp [intV, oneCell]) (by omega) (by simp; omega) fun a' c' C' hO' => ?_
        conv => whnf
        repeat (refine XSame.of ?_; conv => whnf)
        refine ⟨(i + 1, a', c', C', L ++ vs), ⟨⟨hlt', ?_⟩, by dsimp only; omega⟩, ?_, ?_, Ent.of_le ⟨by simp, fun w hw => hw⟩⟩
        · dsimp only
          rw [hnx]
          exact hO'
        · conv => whnf
          refine ⟨?_, rfl⟩
          repeat (first | exact FLe.nil | refine FLe.any ?_ | refine FLe.cons ?_ | refine FLe.eq (by rw [wrap_i64 (by omega)]; rfl) ?_ | refine FLe.eq (congrArg (fun q => SV.v (Value.slice a' q c')) hnx.symm) ?_)
        · conv => whnf
          exact trivial
      · have hq' : q = true := by simpa using hq
        rw [hdf, hq', if_neg (by simp)] at hnx
        conv => whnf
        repeat (refine XSame.of ?_; conv => whnf)
        refine ⟨(i + 1, a, cap, C, L), ⟨⟨hlt', ?_⟩, by dsimp only; omega⟩, ?_, ?_, Ent.refl _⟩
        · dsimp only
          rw [hnx]
          exact hO
        · conv => whnf
          refine ⟨?_, rfl⟩
          repeat (first | exact FLe.nil | refine FLe.any ?_ | refine FLe.cons ?_ | refine FLe.eq (by rw [wrap_i64 (by omega)]; rfl) ?_ | refine FLe.eq (congrArg (fun q => SV.v (Value.slice a q cap)) hnx.symm) ?_)
        · conv => whnf
          exact trivial
  · have hie : i = 96 := by
      simp only [iLt_eq, decide_eq_false_iff_not] at hlt
      omega
    subst hie
    conv => whnf
    repeat (refine XSame.of ?_; conv => whnf)
    exact ⟨_, Ent.refl _, a, cap, rfl⟩

end Go.Proofs.YtbfpgfopppfhoaaGreatDoor
namespace Go.Proofs.YtbfpgfopppfhoaaGreatDoor
open Go Go.Sx
set_option maxRecDepth 100000
set_option maxHeartbeats 4000000
set_option linter.unusedVariables false
set_option linter.unusedSimpArgs false

/-- A path leads to the same inode with the same content on two disks. -/
def SameAt (a b : List UInt8) (p : List UInt8) : Prop := ∃ n : Nat, walkR a p = (n, 0) ∧ walkR b p = (n, 0) ∧ gete a n = 0 ∧ gete b n = 0 ∧ rk a n = rk b n ∧ (rk a n = 1 → contentR a n = contentR b n)

theorem kept_spec (a b : List UInt8) (h k q : Hd) (l : List (List UInt8)) (but : List UInt8) (hh : h.Ok a.length) (hk : k.Ok b.length) (hq : q.Ok l.length) (ha : a.length ≤ 1000000) (hb : b.length ≤ 1000000) (hl : l.length ≤ 1000000)
    (hlen : ∀ p ∈ l, p.length ≤ 200) (hs : ∀ p ∈ l, p ≠ but → SameAt a b p) :
    PureSpec Tryz.prog 32 [h.v a.length, k.v b.length, q.v l.length, strV but] (fun w => (By w h a ∧ By w k b) ∧ StrAt w q l) (fun v F => v = .bool true) := by
  refine PureSpec.of_xc tabOk Tryz.func32 rfl (by decide) (n := Tryz.f32.ntmps - 4) rfl rfl fun w0 av => ?_
  conv => whnf
  refine XStop.loop tabOk (ι := Nat) ([10, 11, 12, 13, 14, 15, 16, 17, 18, 19, 20, 21, 22] ++ List.range' 25 88) (fun x => x ≤ l.length)
    (fun x => [(25, .v (.int .i64 (x : Int)))]) (fun _ => []) (fun x => ⟨fun w => (By w h a ∧ By w k b) ∧ StrAt w q l, []⟩)
    (fun x => l.length - x) 0 (Nat.zero_le _) ?_ rfl (Ent.refl _) fun i hi => ?_
  · conv => whnf
    repeat (first | exact FLe.nil | refine FLe.any ?_ | refine FLe.cons ?_)
  conv => whnf
  refine XIf.split (fun hlt => ?_) (fun hlt => ?_)
  · have hlt' : i < l.length := by
      simp only [iLt_eq, decide_eq_true_eq] at hlt
      omega
    have hp1 := hlen _ (List.getElem_mem hlt')
    have hp2 := hs _ (List.getElem_mem hlt')
    conv => whnf
    refine XVal.of_read (XRead.index tabOk (t := 23) rfl rfl rfl (by omega) (by omega) hq.nil fun ad had => ?_)
    conv => whnf
    refine XVal.of_read (XRead.load tabOk (t := 9) rfl rfl (ad := ad) (k := i) (L := l.map strV) (v := strV l[i]) (.fact fun w hw => had ▸ hw.2) (by simp) (by simp [hlt']) ?_)
    generalize l[i] = p at *
    conv => whnf
    refine XVal.of_read (XRead.strEq (l := p) (m := but) ?_)
    conv => whnf
    refine XIf.split (fun hpb => ?_) (fun hpb => ?_)
    · conv => whnf
      repeat (refine XSame.of ?_; conv => whnf)
      refine ⟨i + 1, ⟨hlt', by dsimp only; omega⟩, ?_, ?_, Ent.refl _⟩
      · conv => whnf
        refine ⟨?_, rfl⟩
        repeat (first | exact FLe.nil | refine FLe.any ?_ | refine FLe.cons ?_ | refine FLe.eq (by rw [wrap_i64 (by omega)]; rfl) ?_)
      · conv => whnf
        exact trivial
    have hpb' : p ≠ but := by simpa using hpb
    obtain ⟨n, w1, w2, g1, g2, hkk, hcc⟩ := hp2 hpb'
    have hd1 := dwalk_spec a h hh ha p hp1
    have hd2 := dwalk_spec b k hk hb p hp1
    rw [w1] at hd1
    rw [w2] at hd2
    have hG1 := pGet_spec a h hh ha n
    have hG2 := pGet_spec b k hk hb n
    have hR1 := pread_spec a h hh ha n 0 1536 rfl rfl
    have hR2 := pread_spec b k hk hb n 0 1536 rfl rfl
    have hL1 : getL a n = inoL (rk a n) (rs a n) (rb a n) := by
      unfold getL
      rw [if_pos g1]
      rfl
    have hL2 : getL b n = inoL (rk a n) (rs b n) (rb b n) := by
      unfold getL
      rw [if_pos g2]
      show inoL (rk b n) _ _ = _
      rw [hkk]
      rfl
    rw [hL1, g1] at hG1
    rw [hL2, g2] at hG2
    rw [g1] at hR1
    rw [g2] at hR2
    generalize contentR a n = ca at *
    generalize contentR b n = cb at *
    generalize rk a n = kd at *
    generalize rs a n = s1 at *
    generalize rs b n = s2 at *
    generalize rb a n = b1 at *
    generalize rb b n = b2 at *
    clear w1 w2 g1 g2 hkk hL1 hL2 hp2 hpb hpb'
    obtain ⟨e, he⟩ : ∃ e : Nat, e = 0 := ⟨_, rfl⟩
    dsimp only at hd1 hd2
    rw [← he] at hd1 hd2 hG1 hG2 hR1 hR2
    conv => whnf
    repeat (refine XSame.of ?_; conv => whnf)
    refine XCall.val hd1 (fun w hw => hw.1.1) (fun v D hv => ?_)
    unfold RelII at hv
    subst hv
    conv => whnf
    repeat (refine XSame.of ?_; conv => whnf)
    refine XCall.val hd2 (fun w hw => hw.1.2) (fun v D hv => ?_)
    unfold RelII at hv
    subst hv
    conv => whnf
    repeat (refine XSame.of ?_; conv => whnf)
    refine XCall.val hG1 (fun w hw => hw.1.1) (fun v D hv => ?_)
    subst hv
    conv => whnf
    repeat (refine XSame.of ?_; conv => whnf)
    intro b15
    conv => whnf
    repeat (refine XSame.of ?_; conv => whnf)
    refine XCall.val hG2 (fun w hw => hw.1.2) (fun v D hv => ?_)
    subst hv
    conv => whnf
    repeat (refine XSame.of ?_; conv => whnf)
    intro b17
    conv => whnf
    repeat (refine XSame.of ?_; conv => whnf)
    have hno : ∀ x y : Int, x = y → iNe x y = false := fun x y h => by rw [iNe_eq, h]; simp
    have hz : iNe (e : Int) 0 = false := hno _ _ (by rw [he]; rfl)
    have hnn := hno (n : Int) n rfl
    have hkd := hno (kd : Int) kd rfl
    refine XIf.no (by simp [hz, hnn, hkd]) ?_
    conv => whnf
    repeat (refine XSame.of ?_; conv => whnf)
    refine XCall.pure hR1 (fun w hw => hw.1.1) (fun v D hv => ?_)
    obtain ⟨k1, rfl, hk1, rfl⟩ := hv
    conv => whnf
    repeat (refine XSame.of ?_; conv => whnf)
    refine XCall.pure hR2 (fun w hw => hw.1.1.2) (fun v D hv => ?_)
    obtain ⟨k2, rfl, hk2, rfl⟩ := hv
    conv => whnf
    repeat (refine XSame.of ?_; conv => whnf)
    have hzz : (iNe (e : Int) 0 || iNe (e : Int) 0) = false := by simp [hz]
    generalize hcq : (iNe (e : Int) 0 || iNe (e : Int) 0) = c
    cases c
    rotate_left
    · rw [hzz] at hcq
      cases hcq
    clear hcq hzz
    conv => whnf
    repeat (refine XSame.of ?_; conv => whnf)
    generalize hc1 : iEq (kd : Int) 1 = c1
    cases c1
    · conv => whnf
      repeat (refine XSame.of ?_; conv => whnf)
      refine ⟨i + 1, ⟨hlt', by dsimp only; omega⟩, ?_, ?_, Ent.of_le ⟨by simp [Fx.and], fun w hw => hw.1.1⟩⟩
      · conv => whnf
        refine ⟨?_, rfl⟩
        repeat (first | exact FLe.nil | refine FLe.any ?_ | refine FLe.cons ?_ | refine FLe.eq (by rw [wrap_i64 (by omega)]; rfl) ?_)
      · conv => whnf
        exact trivial
    · have hcc := hcc (by simp [iEq_eq] at hc1; omega)
      subst hcc
      conv => whnf
      repeat (refine XSame.of ?_; conv => whnf)
      refine XVal.of_read (XRead.bytes tabOk (t := 31) (u := 9) rfl rfl rfl rfl rfl rfl (l := ca) (.fact fun w hw => hw.1.2) rfl ?_)
      conv => whnf
      repeat (refine XSame.of ?_; conv => whnf)
      refine XVal.of_read (XRead.bytes tabOk (t := 31) (u := 9) rfl rfl rfl rfl rfl rfl (l := ca) (.fact fun w hw => hw.2) rfl ?_)
      conv => whnf
      repeat (refine XSame.of ?_; conv => whnf)
      refine XVal.of_read (XRead.strNe (l := ca) (m := ca) ?_)
      conv => whnf
      repeat (refine XSame.of ?_; conv => whnf)
      refine XIf.no (by simp) ?_
      conv => whnf
      repeat (refine XSame.of ?_; conv => whnf)
      refine ⟨i + 1, ⟨hlt', by dsimp only; omega⟩, ?_, ?_, Ent.of_le ⟨by simp [Fx.and], fun w hw => hw.1.1⟩⟩
      · conv => whnf
        refine ⟨?_, rfl⟩
        repeat (first | exact FLe.nil | refine FLe.any ?_ | refine FLe.cons ?_ | refine FLe.eq (by rw [wrap_i64 (by omega)]; rfl) ?_)
      · conv => whnf
        exact trivial
  · conv => whnf
    repeat (refine XSame.of ?_; conv => whnf)
    exact ⟨_, Ent.refl _, rfl⟩

end Go.Proofs.YtbfpgfopppfhoaaGreatDoor
namespace Go.Proofs.YtbfpgfopppfhoaaGreatDoor
open Go Go.Sx
set_option maxRecDepth 100000
set_option linter.unusedVariables false
set_option linter.unusedSimpArgs false

section
variable {d e : List UInt8} {at0 k n kind : Nat} {last : List UInt8} (M : Made d e at0 k n kind last) (hk : kind = 1 ∨ kind = 2)
include M hk

theorem made_ents (a : Nat) (s : List UInt8) (x : Nat) : ((s, x) ∈ (T0 e).es a ∧ s ≠ []) ↔ ((s, x) ∈ (T0 d).es a ∧ s ≠ []) ∨ (a = at0 ∧ s = last ∧ x = n) := by
  have _hk := hk
  have hlast : last ≠ [] := fun h => by have := M.name; rw [h] at this; cases this
  have hEl : k < ((T0 d).E at0).length := by rw [(T0_ok d).len]; exact M.k8
  obtain ⟨at1, at2⟩ := mem_dl.1 M.dir
  have hane : at0 ≠ n := fun h => by rw [h, M.free] at at2; cases at2
  by_cases ha : a ∈ (T0 d).dl
  · obtain ⟨a1, a2⟩ := mem_dl.1 ha
    have han : a ≠ n := fun h => by rw [h, M.free] at a2; cases a2
    have hae : a ∈ (T0 e).dl := mem_dl.2 ⟨a1, by rw [M.kinds a a1 han]; exact a2⟩
    have e1 : (T0 d).es a = (T0 d).E a := if_pos ha
    have e2 : (T0 e).es a = (T0 e).E a := if_pos hae
    rw [e1, e2]
    by_cases haa : a = at0
    · subst haa
      rw [M.esAt]
      constructor
      · rintro ⟨h, hs⟩
        rcases List.mem_or_eq_of_mem_set h with h5 | h5
        · exact .inl ⟨h5, hs⟩
        · exact .inr ⟨rfl, (Prod.mk.inj h5).1, (Prod.mk.inj h5).2⟩
      · rintro (⟨h, hs⟩ | ⟨_, rfl, rfl⟩)
        · obtain ⟨i, hi, he⟩ := List.getElem_of_mem h
          have hik : k ≠ i := fun h => by
            subst h
            have := M.was hi
            rw [he] at this
            exact hs this
          have : (((T0 d).E a).set k (last, n))[i]'(by simpa using hi) = (s, x) := by rw [List.getElem_set_ne hik, he]
          rw [← this]
          exact ⟨List.getElem_mem _, hs⟩
        · exact ⟨List.mem_set hEl _, hlast⟩
    · rw [M.es a ha haa]
      constructor
      · exact .inl
      · rintro (h | ⟨h, _⟩)
        · exact h
        · exact absurd h haa
  · have e1 : (T0 d).es a = [] := if_neg ha
    have hno : ¬ ((s, x) ∈ (T0 e).es a ∧ s ≠ []) := by
      rintro ⟨h, hs⟩
      by_cases hae : a ∈ (T0 e).dl
      · have e2 : (T0 e).es a = (T0 e).E a := if_pos hae
        rw [e2] at h
        obtain ⟨a1, a2⟩ := mem_dl.1 hae
        have han : a = n := Classical.byContradiction fun han => ha (mem_dl.2 ⟨a1, by rw [← M.kinds a a1 han]; exact a2⟩)
        rw [han, M.esN (by rw [← M.kd, ← han]; exact a2)] at h
        exact hs (Prod.mk.inj (List.eq_of_mem_replicate h)).1
      · have e2 : (T0 e).es a = [] := if_neg hae
        rw [e2] at h
        cases h
    rw [e1]
    constructor
    · intro h; exact absurd h hno
    · rintro (⟨h, _⟩ | ⟨h, _⟩)
      · cases h
      · rw [h] at ha; exact absurd M.dir ha

variable (h38 : chk38 d = 0) {names : List (List UInt8)} (hn : names ≠ []) (hl : names.getLastD [] = last) (hdn : dn (T0 d).es names.dropLast 0 at0)
include h38 hn hl hdn

theorem made_dn : ∀ (q : Nat) {l : List (List UInt8)} {x : Nat}, l.length = q → (dn (T0 e).es l 0 x ↔ dn (T0 d).es l 0 x ∨ (l = names ∧ x = n))
  | 0, l, x, hq => by
    have : l = [] := List.eq_nil_of_length_eq_zero hq
    subst this
    constructor
    · intro h; exact .inl h
    · rintro (h | ⟨h, _⟩)
      · exact h
      · exact absurd h.symm hn
  | q + 1, l, x, hq => by
    have hl0 : l ≠ [] := fun h => by rw [h] at hq; cases hq
    have hsn := dropLast_snoc hl0
    have ih := fun c => made_dn q (l := l.dropLast) (x := c) (by simp [hq])
    have hents := made_ents M hk
    have hu := uniqT h38
    rw [hsn, dn_snoc, dn_snoc]
    constructor
    · rintro ⟨c, h1, h2⟩
      rcases (hents c _ x).1 h2 with h3 | ⟨rfl, h4, h5⟩
      · rcases (ih c).1 h1 with h6 | ⟨h6, h7⟩
        · exact .inl ⟨c, h6, h3.1, h3.2⟩
        · have := mem_ch h3.1 h3.2
          rw [h7] at this
          have hnd : n ∉ (T0 d).dl := fun h => by
            have := (mem_dl.1 h).2
            rw [M.free] at this
            cases this
          rw [(T0 d).ch_no hnd] at this
          cases this
      · refine .inr ⟨?_, h5⟩
        rcases (ih c).1 h1 with h6 | ⟨h6, h7⟩
        · have := dn_one hu _ rfl h6 hdn
          rw [this, h4, ← hl]
          exact (dropLast_snoc hn).symm
        · have h2 := (mem_dl.1 M.dir).2
          rw [h7, M.free] at h2
          cases h2
    · rintro (⟨c, h1, h2⟩ | ⟨h1, h2⟩)
      · exact ⟨c, (ih c).2 (.inl h1), (hents c _ x).2 (.inl h2)⟩
      · have e1 : l.dropLast = names.dropLast := by
          rw [← hsn] at h1
          rw [h1]
        have e2 : l.getLastD [] = last := by
          rw [← hsn] at h1
          rw [h1]
          exact hl
        refine ⟨at0, (ih at0).2 (.inl (by rw [e1]; exact hdn)), (hents at0 _ x).2 (.inr ⟨rfl, e2, h2⟩)⟩

theorem made_new : dn (T0 e).es names 0 n := (made_dn M hk h38 hn hl hdn _ rfl).2 (.inr ⟨rfl, rfl⟩)

theorem made_old {l : List (List UInt8)} {x : Nat} (h : dn (T0 d).es l 0 x) : dn (T0 e).es l 0 x := (made_dn M hk h38 hn hl hdn _ rfl).2 (.inl h)

/-- The paths behind Make. -/
theorem made_paths (hp : (jn names).length ≤ 60) (a : List UInt8) : a ∈ pathsL d ↔ a ∈ pathsL e ∧ a ≠ jn names := by
  rw [mem_pathsL h38, mem_pathsL M.ok]
  have hvn := dn_vname M.ok (made_new M hk h38 hn hl hdn)
  constructor
  · rintro (h | ⟨l, m, h1, h2, h3, h4⟩)
    · refine ⟨.inl h, fun h5 => ?_⟩
      rw [h] at h5
      cases names with
      | nil => exact hn rfl
      | cons s t =>
        rw [jn_cons] at h5
        have := List.append_eq_nil_iff.1 (List.cons.inj h5).2.symm
        have hs := hvn s (List.mem_cons_self ..)
        rw [this.1] at hs
        cases hs
    · refine ⟨.inr ⟨l, m, h1, h2, h3, made_old M hk h38 hn hl hdn h4⟩, fun h5 => ?_⟩
      have : l = names := jn_inj (dn_vname h38 h4) hvn (by rw [← h2, h5])
      have h6 := made_old M hk h38 hn hl hdn h4
      rw [this] at h6 h4
      have h7 := dn_fun (T0_nm M.ok) h6 (made_new M hk h38 hn hl hdn)
      rw [h7] at h4
      exact (dn_node h38 h4).2.1 M.free
  · rintro ⟨h | ⟨l, m, h1, h2, h3, h4⟩, h5⟩
    · exact .inl h
    · rcases (made_dn M hk h38 hn hl hdn _ rfl).1 h4 with h6 | ⟨h6, _⟩
      · exact .inr ⟨l, m, h1, h2, h3, h6⟩
      · rw [h6] at h2
        exact absurd h2 h5

theorem made_same {a : List UInt8} (ha : a ∈ pathsL d) : SameAt d e a := by
  obtain ⟨hr1, hr2⟩ := mem_dl.1 (root_in (tree_facts h38).1)
  have hk0 : rk e 0 = rk d 0 := M.kinds 0 (by decide) (fun h => M.n0 h.symm)
  rcases (mem_pathsL h38).1 ha with rfl | ⟨l, m, h1, h2, h3, h4⟩
  · exact ⟨0, walkR_root h38, walkR_root M.ok, (gete_iff (tree_facts h38).1).2 ⟨by decide, by omega⟩, (gete_iff (tree_facts M.ok).1).2 ⟨by decide, by omega⟩, hk0.symm, fun h => by omega⟩
  · subst h2
    obtain ⟨m1, m2, m3⟩ := dn_node h38 h4
    have hmn : m ≠ n := fun h => by rw [h] at m2; exact m2 M.free
    have hv := dn_vname h38 h4
    refine ⟨m, (walkR_dn h38 h1 hv h3).2 h4, (walkR_dn M.ok h1 hv h3).2 (made_old M hk h38 hn hl hdn h4), (gete_iff (tree_facts h38).1).2 ⟨m1, m2⟩, (gete_iff (tree_facts M.ok).1).2 ⟨m1, by rw [M.kinds m m1 hmn]; exact m2⟩, (M.kinds m m1 hmn).symm, fun hf => ?_⟩
    refine (M.cont m m1 m2 fun h => ?_).symm
    have := (mem_dl.1 M.dir).2
    rw [← h] at this
    omega
end

section
variable {d e : List UInt8} {at0 k m : Nat} {last : List UInt8} (G : Gone d e at0 k m last) (h38 : chk38 d = 0)
include G h38

theorem gone_dn (hnone : (T0 d).ch m = []) : ∀ (q : Nat) {l : List (List UInt8)} {x : Nat}, l.length = q → (dn (T0 e).es l 0 x ↔ dn (T0 d).es l 0 x ∧ x ≠ m)
  | 0, l, x, hq => by
    have : l = [] := List.eq_nil_of_length_eq_zero hq
    subst this
    constructor
    · intro h
      have _h := h38
      have h : x = 0 := h
      exact ⟨h, fun hx => G.m0 (by omega)⟩
    · rintro ⟨h, _⟩; exact h
  | q + 1, l, x, hq => by
    have hl0 : l ≠ [] := fun h => by rw [h] at hq; cases hq
    have hsn := dropLast_snoc hl0
    have ih := fun c => gone_dn hnone q (l := l.dropLast) (x := c) (by simp [hq])
    rw [hsn, dn_snoc, dn_snoc]
    constructor
    · rintro ⟨c, h1, h2⟩
      obtain ⟨g1, g2, g3⟩ := (G.ents c _ x).1 h2
      exact ⟨⟨c, ((ih c).1 h1).1, g1, g2⟩, g3⟩
    · rintro ⟨⟨c, h1, h2, h3⟩, h4⟩
      have hcm : c ≠ m := fun h => by
        have := mem_ch h2 h3
        rw [h, hnone] at this
        cases this
      exact ⟨c, (ih c).2 ⟨h1, hcm⟩, (G.ents c _ x).2 ⟨h2, h3, h4⟩⟩

variable (hnone : (T0 d).ch m = []) {names : List (List UInt8)} (hn : names ≠ []) (hdn : dn (T0 d).es names 0 m)
include hnone hn hdn

/-- The paths behind Unlink. -/
theorem gone_paths (a : List UInt8) : a ∈ pathsL e ↔ a ∈ pathsL d ∧ a ≠ jn names := by
  rw [mem_pathsL h38, mem_pathsL G.ok]
  have hvn := dn_vname h38 hdn
  constructor
  · rintro (h | ⟨l, x, h1, h2, h3, h4⟩)
    · refine ⟨.inl h, fun h5 => ?_⟩
      rw [h] at h5
      cases names with
      | nil => exact hn rfl
      | cons s t =>
        rw [jn_cons] at h5
        have := List.append_eq_nil_iff.1 (List.cons.inj h5).2.symm
        have hs := hvn s (List.mem_cons_self ..)
        rw [this.1] at hs
        cases hs
    · obtain ⟨g1, g2⟩ := (gone_dn G h38 hnone _ rfl).1 h4
      refine ⟨.inr ⟨l, x, h1, h2, h3, g1⟩, fun h5 => g2 ?_⟩
      have : l = names := jn_inj (dn_vname h38 g1) hvn (by rw [← h2, h5])
      rw [this] at g1
      exact dn_fun (T0_nm h38) g1 hdn
  · rintro ⟨h | ⟨l, x, h1, h2, h3, h4⟩, h5⟩
    · exact .inl h
    · refine .inr ⟨l, x, h1, h2, h3, (gone_dn G h38 hnone _ rfl).2 ⟨h4, fun hx => h5 ?_⟩⟩
      rw [hx] at h4
      rw [h2, dn_one (uniqT h38) _ rfl h4 hdn]

omit hn in
theorem gone_same {a : List UInt8} (ha : a ∈ pathsL e) : SameAt d e a := by
  have _h := hdn
  obtain ⟨hr1, hr2⟩ := mem_dl.1 (root_in (tree_facts h38).1)
  have hk0 : rk e 0 = rk d 0 := G.kinds 0 (by decide) (fun h => G.m0 h.symm)
  rcases (mem_pathsL G.ok).1 ha with rfl | ⟨l, x, h1, h2, h3, h4⟩
  · exact ⟨0, walkR_root h38, walkR_root G.ok, (gete_iff (tree_facts h38).1).2 ⟨by decide, by omega⟩, (gete_iff (tree_facts G.ok).1).2 ⟨by decide, by omega⟩, hk0.symm, fun h => by omega⟩
  · subst h2
    obtain ⟨g1, g2⟩ := (gone_dn G h38 hnone _ rfl).1 h4
    obtain ⟨m1, m2, m3⟩ := dn_node h38 g1
    have hv := dn_vname h38 g1
    refine ⟨x, (walkR_dn h38 h1 hv h3).2 g1, (walkR_dn G.ok h1 hv h3).2 h4, (gete_iff (tree_facts h38).1).2 ⟨m1, m2⟩, (gete_iff (tree_facts G.ok).1).2 ⟨m1, by rw [G.kinds x m1 g2]; exact m2⟩, (G.kinds x m1 g2).symm, fun hf => ?_⟩
    refine (G.cont x m1 m2 (fun h => ?_) g2).symm
    have := (mem_dl.1 G.dir).2
    rw [← h] at this
    omega
end

end Go.Proofs.YtbfpgfopppfhoaaGreatDoor
namespace Go.Proofs.YtbfpgfopppfhoaaGreatDoor
open Go Go.Sx
set_option maxRecDepth 100000
set_option maxHeartbeats 4000000
set_option linter.unusedVariables false
set_option linter.unusedSimpArgs false

def onesT : List UInt8 := [0, 1, 1, 2, 1, 2, 2, 3, 1, 2, 2, 3, 2, 3, 3, 4, 1, 2, 2, 3, 2, 3, 3, 4, 2, 3, 3, 4, 3, 4, 4, 5, 1, 2, 2, 3, 2, 3, 3, 4, 2, 3, 3, 4, 3, 4, 4, 5, 2, 3, 3, 4, 3, 4, 4, 5, 3, 4, 4, 5, 4, 5, 5, 6, 1, 2, 2, 3, 2, 3, 3, 4, 2, 3, 3, 4, 3, 4, 4, 5, 2, 3, 3, 4, 3, 4, 4, 5, 3, 4, 4, 5, 4, 5, 5, 6, 2, 3, 3, 4, 3, 4, 4, 5, 3, 4, 4, 5, 4, 5, 5, 6, 3, 4, 4, 5, 4, 5, 5, 6, 4, 5, 5, 6, 5, 6, 6, 7, 1, 2, 2, 3, 2, 3, 3, 4, 2, 3, 3, 4, 3, 4, 4, 5, 2, 3, 3, 4, 3, 4, 4, 5, 3, 4, 4, 5, 4, 5, 5, 6, 2, 3, 3, 4, 3, 4, 4, 5, 3, 4, 4, 5, 4, 5, 5, 6, 3, 4, 4, 5, 4, 5, 5, 6, 4, 5, 5, 6, 5, 6, 6, 7, 2, 3, 3, 4, 3, 4, 4, 5, 3, 4, 4, 5, 4, 5, 5, 6, 3, 4, 4, 5, 4, 5, 5, 6, 4, 5, 5, 6, 5, 6, 6, 7, 3, 4, 4, 5, 4, 5, 5, 6, 4, 5, 5, 6, 5, 6, 6, 7, 4, 5, 5, 6, 5, 6, 6, 7, 5, 6, 6, 7, 6, 7, 7, 8]

def onesI (x : Nat) : Int := IntKind.i64.wrap ((byt onesT x : Nat) : Int)

theorem ones_spec (x : Nat) (hx : x < 256) : PureSpec Tryz.prog 116 [.int .u8 (x : Int)] (fun _ => True) (fun v F => v = .int .i64 (onesI x)) := by
  have hl : onesT.length = 256 := by decide
  refine PureSpec.of_xc tabOk Tryz.func116 rfl (by decide) (n := Tryz.f116.ntmps - 1) rfl rfl fun w0 av => ?_
  conv => whnf
  refine XVal.of_read (XRead.strIndex tabOk (t := 9) rfl rfl (l := onesT) x rfl (by omega) ?_)
  rw [byteV_get]
  unfold onesI
  generalize byt onesT x = q
  conv => whnf
  repeat (refine XSame.of ?_; conv => whnf)
  exact ⟨_, Ent.refl _, rfl⟩

def cntZ (l : List UInt8) : Int := l.foldl (fun a x => IntKind.i64.wrap (a + onesI x.toNat)) 0

theorem cnt_spec (l : List UInt8) (h : Hd) (hh : h.Ok l.length) (hl : l.length ≤ 1000000) : PureSpec Tryz.prog 75 [h.v l.length] (fun w => By w h l) (fun v F => v = .int .i64 (cntZ l)) := by
  refine PureSpec.of_xc tabOk Tryz.func75 rfl (by decide) (n := Tryz.f75.ntmps - 1) rfl rfl fun w0 av => ?_
  conv => whnf
  refine XStop.loop tabOk (ι := Nat × Int) ([3, 5, 8] ++ List.range' 9 9) (fun x => x.1 ≤ l.length ∧ cntZ l = (l.drop x.1).foldl (fun a x => IntKind.i64.wrap (a + onesI x.toNat)) x.2)
    (fun x => [(3, .v (.int .i64 x.2)), (8, .v (.int .i64 (x.1 : Int)))]) (fun _ => []) (fun _ => ⟨fun w => By w h l, []⟩)
    (fun x => l.length - x.1) (0, 0) ⟨Nat.zero_le _, rfl⟩ ?_ rfl (Ent.refl _) fun x hx => ?_
  · conv => whnf
    repeat (first | exact FLe.nil | refine FLe.any ?_ | refine FLe.cons ?_)
  obtain ⟨i, a⟩ := x
  obtain ⟨hi, hf⟩ := hx
  dsimp only at hi hf ⊢
  conv => whnf
  refine XIf.split (fun hlt => ?_) (fun hlt => ?_)
  · have hlt' : i < l.length := by
      simp only [iLt_eq, decide_eq_true_eq] at hlt
      omega
    rw [List.drop_eq_getElem_cons hlt', List.foldl_cons] at hf
    have hbx : l[i].toNat = byt l i := (byt_get hlt').symm
    rw [hbx] at hf
    conv => whnf
    refine XVal.of_read (XRead.byteAt tabOk (t := 31) rfl rfl rfl rfl i rfl hlt' hh fun ad had => ?_)
    conv => whnf
    refine XVal.of_read (XRead.byteLd' tabOk (t := 5) rfl rfl had (.fact fun w h => h) rfl hlt' ?_)
    conv => whnf
    refine XCall.val (ones_spec (byt l i) (byt_lt _ _)) (fun w hw => trivial) (fun v D hv => ?_)
    subst hv
    conv => whnf
    refine ⟨(i + 1, IntKind.i64.wrap (a + onesI (byt l i))), ⟨⟨hlt', hf⟩, by dsimp only; omega⟩, ?_, ?_, Ent.refl _⟩
    · conv => whnf
      refine ⟨?_, rfl⟩
      repeat (first | exact FLe.nil | refine FLe.any ?_ | refine FLe.cons ?_ | refine FLe.eq (by rw [wrap_i64 (by omega)]; rfl) ?_)
    · conv => whnf
      exact trivial
  · have hie : i = l.length := by
      simp only [iLt_eq, decide_eq_false_iff_not] at hlt
      omega
    subst hie
    rw [List.drop_length, List.foldl_nil] at hf
    conv => whnf
    exact ⟨_, Ent.refl _, by rw [hf]⟩

def usedI (g : Nat → Ino) (n : Nat) : Nat := ((List.range n).filter fun m => decide ((g m).1 ≠ 0)).length

theorem usedI_next (g : Nat → Ino) (n : Nat) : usedI g (n + 1) = usedI g n + if (g n).1 ≠ 0 then 1 else 0 := by
  unfold usedI
  rw [List.range_succ, List.filter_append, List.length_append]
  congr 1
  by_cases h : (g n).1 ≠ 0
  · rw [List.filter_cons_of_pos (by simpa using h), if_pos h]
    rfl
  · rw [List.filter_cons_of_neg (by simpa using h), if_neg h]
    rfl

theorem usedI_le (g : Nat → Ino) (n : Nat) : usedI g n ≤ n := by
  unfold usedI
  have := List.length_filter_le (fun m => decide ((g m).1 ≠ 0)) (List.range n)
  rwa [List.length_range] at this

theorem usage_spec (d : List UInt8) (h : Hd) (hh : h.Ok d.length) (hl : d.length ≤ 1000000) (h0 : chk d = 0) :
    PureSpec Tryz.prog 33 [h.v d.length] (fun w => By w h d) (fun v F => v = .tuple #[.int .i64 (usedI (dIno d) 32 : Int), .int .i64 (IntKind.i64.wrap (cntZ (bmp d) - 18)), .int .i64 0]) := by
  have hof := openF_spec d h hh hl
  rw [h0] at hof
  have hbl := bmp_len (chk_zero h0).1
  refine PureSpec.of_xc tabOk Tryz.func33 rfl (by decide) (n := Tryz.f33.ntmps - 1) rfl rfl fun w0 av => ?_
  conv => whnf
  refine XCall.pure hof (fun w hw => hw) (fun v D hv => ?_)
  unfold RelVF at hv
  rw [if_pos rfl] at hv
  obtain ⟨bd, bv, cap, Z, k, rfl, hcap, hk, rfl⟩ := hv
  have hVl := vw_last (.slice (some ⟨bd, 0, none⟩) d.length cap) (dIno d) (k.v 12)
  have hall := inoG_all (.slice (some ⟨bd, 0, none⟩) d.length cap) (dIno d) (k.v 12)
  have hgl := inoG_len (dIno d) 32
  have hga := fun n (h : n < 32) => inoG_at (dIno d) [] h
  have hcs := cnt_spec (bmp d) k (by rw [hbl]; exact hk) (by omega)
  rw [hbl] at hcs
  generalize cntZ (bmp d) = cz at *
  generalize hge : dIno d = g at *
  generalize hVe : vwG (.slice (some ⟨bd, 0, none⟩) d.length cap) g (k.v 12) = V at *
  generalize hGe : inoG g 32 = G at *
  obtain ⟨e, he⟩ : ∃ e : Nat, e = 0 := ⟨_, rfl⟩
  have hz : (Value.int .i64 ((0 : Nat) : Int)) = .int .i64 (e : Int) := by rw [he]
  rw [hz]
  conv => whnf
  repeat (refine XSame.of ?_; conv => whnf)
  refine XIf.no (by simp [iNe_eq, he]) ?_
  conv => whnf
  repeat (refine XSame.of ?_; conv => whnf)
  refine XVal.of_read (XRead.loads tabOk (t := 118) rfl rfl (ad := ⟨bv, 0, none⟩) (k := 1) (L := V) (m := G) (Sees.row (by simp [Fx.and])) (by rfl) hall (by rw [hgl]) ?_)
  conv => whnf
  repeat (refine XSame.of ?_; conv => whnf)
  refine XStop.loop tabOk (ι := Nat) ([2, 7] ++ List.range' 20 9) (fun x => x ≤ 32)
    (fun x => [(2, .v (.int .i64 (usedI g x : Int))), (20, .v (.int .i64 (x : Int)))]) (fun _ => []) (fun x => ⟨fun w => By w k (bmp d), [(bd, Row.c (d.map byteV ++ Z)), (bv, Row.c V)]⟩)
    (fun x => 32 - x) 0 (Nat.zero_le _) ?_ rfl (Ent.of_le ⟨by simp [Fx.and], fun w hw => hw.2⟩) fun i hi => ?_
  · conv => whnf
    repeat (first | exact FLe.nil | refine FLe.any ?_ | refine FLe.cons ?_)
  have hnx := usedI_next g i
  have hle := usedI_le g i
  conv => whnf
  refine XIf.split (fun hlt => ?_) (fun hlt => ?_)
  · have hlt' : i < 32 := by
      simp only [iLt_eq, decide_eq_true_eq] at hlt
      omega
    have hgai := hga i hlt'
    rw [List.append_nil, Nat.mul_comm] at hgai
    conv => whnf
    repeat (refine XSame.of ?_; conv => whnf)
    refine XVal.of_read (XRead.indexAggs tabOk (t := 118) rfl rfl rfl rfl (m := inoV (g i)) i rfl hlt' hgai (by rw [hgl]; show i * 14 + 14 ≤ _; omega) ?_)
    generalize g i = gi at *
    generalize usedI g i = u at *
    conv => whnf
    repeat (refine XSame.of ?_; conv => whnf)
    intro b7
    conv => whnf
    repeat (refine XSame.of ?_; conv => whnf)
    refine XIf.split (fun hq => ?_) (fun hq => ?_)
    · have hq' : gi.1 ≠ 0 := by
        simp [iNe_eq] at hq
        omega
      rw [if_pos hq'] at hnx
      conv => whnf
      repeat (refine XSame.of ?_; conv => whnf)
      refine ⟨i + 1, ⟨hlt', by dsimp only; omega⟩, ?_, ?_, Ent.refl _⟩
      · have hw : IntKind.i64.wrap ((u : Int) + 1) = (usedI g (i + 1) : Int) := by rw [wrap_i64 (by omega), hnx]; rfl
        conv => whnf
        refine ⟨?_, rfl⟩
        repeat (first | exact FLe.nil | refine FLe.any ?_ | refine FLe.cons ?_ | refine FLe.eq (by rw [wrap_i64 (by omega)]; rfl) ?_ | refine FLe.eq (congrArg (fun q => SV.v (Value.int IntKind.i64 q)) hw) ?_)
      · conv => whnf
        exact trivial
    · have hq' : ¬ gi.1 ≠ 0 := by
        simp [iNe_eq] at hq
        omega
      rw [if_neg hq'] at hnx
      conv => whnf
      repeat (refine XSame.of ?_; conv => whnf)
      refine ⟨i + 1, ⟨hlt', by dsimp only; omega⟩, ?_, ?_, Ent.refl _⟩
      · have hw : (u : Int) = (usedI g (i + 1) : Int) := by rw [hnx]; rfl
        conv => whnf
        refine ⟨?_, rfl⟩
        repeat (first | exact FLe.nil | refine FLe.any ?_ | refine FLe.cons ?_ | refine FLe.eq (by rw [wrap_i64 (by omega)]; rfl) ?_ | refine FLe.eq (congrArg (fun q => SV.v (Value.int IntKind.i64 q)) hw) ?_)
      · conv => whnf
        exact trivial
  · have hie : i = 32 := by
      simp only [iLt_eq, decide_eq_false_iff_not] at hlt
      omega
    subst hie
    generalize usedI g 32 = u at *
    conv => whnf
    repeat (refine XSame.of ?_; conv => whnf)
    refine XVal.of_read (XRead.loadF tabOk (t := 31) rfl rfl (ad := ⟨bv, 0, none⟩) (k := 449) (L := V) (v := k.v 12) (Sees.row (by simp)) (fun _ => rfl) hVl ?_)
    conv => whnf
    repeat (refine XSame.of ?_; conv => whnf)
    refine XCall.val hcs (fun w hw => hw) (fun v D hv => ?_)
    subst hv
    conv => whnf
    repeat (refine XSame.of ?_; conv => whnf)
    exact ⟨_, Ent.refl _, rfl⟩

end Go.Proofs.YtbfpgfopppfhoaaGreatDoor
namespace Go.Proofs.YtbfpgfopppfhoaaGreatDoor
open Go Go.Sx
set_option maxRecDepth 100000
set_option linter.unusedVariables false
set_option linter.unusedSimpArgs false

theorem follow_dn {d : List UInt8} (h38 : chk38 d = 0) {l : List (List UInt8)} (hv : ∀ s ∈ l, vname s = true) {m : Nat} : followR d l 0 = (m, 0) ↔ dn (T0 d).es l 0 m := by
  obtain ⟨hr1, hr2⟩ := mem_dl.1 (root_in (tree_facts h38).1)
  rw [← (walk_follow h38 l 0 hr1 (by omega) (vn_ne hv)).1]
  exact walk_dn h38 (vn_ne hv)

theorem made_leaf {d e : List UInt8} {at0 k n kind : Nat} {last : List UInt8} (M : Made d e at0 k n kind last) (hk : kind = 1 ∨ kind = 2) : (T0 e).ch n = [] := by
  rw [List.eq_nil_iff_forall_not_mem]
  intro x hx
  obtain ⟨s, h1, h2⟩ := ch_mem hx
  rcases (made_ents M hk n s x).1 ⟨h1, h2⟩ with h | ⟨h, _⟩
  · have : (T0 d).es n = [] := if_neg fun h => by
      have := (mem_dl.1 h).2
      rw [M.free] at this
      cases this
    rw [this] at h
    cases h.1
  · have := (mem_dl.1 M.dir).2
    rw [← h, M.free] at this
    cases this

theorem back_all {d p : List UInt8} {kind : Int} (h : (makeR d p kind).2.2 = 0) : chk38 d = 0 ∧ chk38 (makeR d p kind).2.1 = 0 ∧ (unlinkR (makeR d p kind).2.1 p).2 = 0 ∧ chk38 (unlinkR (makeR d p kind).2.1 p).1 = 0 ∧
    pathsP (unlinkR (makeR d p kind).2.1 p).1 = pathsP d ∧ bmp (unlinkR (makeR d p kind).2.1 p).1 = bmp d ∧ (∀ m, m < 32 → rk (unlinkR (makeR d p kind).2.1 p).1 m = rk d m) ∧
    ∀ a ∈ pathsL d, SameAt d (unlinkR (makeR d p kind).2.1 p).1 a := by
  obtain ⟨h38, hk, names, at0, k, hs, hn, hfo, hfe, hfi, M⟩ := make_made h
  have hkk : kind.toNat = 1 ∨ kind.toNat = 2 := by omega
  have hsn := splitR_names p
  rw [hs] at hsn
  dsimp only at hsn
  have hdn := (follow_dn h38 fun s hs => hsn s (List.dropLast_subset _ hs)).1 hfo
  generalize (makeR d p kind).1 = n at *
  generalize (makeR d p kind).2.1 = e at *
  obtain ⟨-, hpj, hpl⟩ := (splitR_inv hs).resolve_left fun h => hn h.1
  have hnew := made_new M hkk h38 hn rfl hdn
  have hleaf := made_leaf M hkk
  obtain ⟨u0, at1, k1, hfo1, G⟩ := unlink_ok M.ok hs hn ((follow_dn M.ok hsn).2 hnew) hleaf
  generalize (unlinkR e p).1 = b at *
  have hmp := made_paths M hkk h38 hn rfl hdn (by rw [← hpj]; exact hpl)
  have hgp := gone_paths G M.ok hleaf hn hnew
  have hmem : ∀ a, a ∈ pathsL b ↔ a ∈ pathsL d := fun a => by rw [hgp, hmp]
  have hpar : ∀ x, x < 32 → part b x 12 = part d x 12 := fun x hx => by
    by_cases hxn : x = n
    · rw [hxn, G.part, (slot_free (chk_zero (tree_facts h38).1).2 M.n32 M.free).1]
    · rw [slot_part (G.slots x hx hxn), slot_part (M.slots x hx hxn)]
  refine ⟨h38, M.ok, u0, G.ok, ?_, ?_, fun m hm => ?_, fun a ha => ?_⟩
  · rw [pathsP_L, pathsP_L]
    exact sortL_congr ((List.perm_ext_iff_of_nodup (nodup_pathsL G.ok) (nodup_pathsL h38)).2 hmem)
  · obtain ⟨hdl, hok⟩ := chk_zero (tree_facts h38).1
    obtain ⟨hbl, hbk⟩ := chk_zero (tree_facts G.ok).1
    refine getB_ext (by rw [bmp_len hdl, bmp_len hbl]) fun j => ?_
    rw [Bool.eq_iff_iff, ok_bit hbk, ok_bit hok]
    constructor
    · rintro (h | ⟨x, hx, h⟩)
      · exact .inl h
      · exact .inr ⟨x, hx, by rw [← hpar x hx]; exact h⟩
    · rintro (h | ⟨x, hx, h⟩)
      · exact .inl h
      · exact .inr ⟨x, hx, by rw [hpar x hx]; exact h⟩
  · by_cases hmn : m = n
    · rw [hmn, G.free, M.free]
    · rw [G.kinds m hm hmn, M.kinds m hm hmn]
  · obtain ⟨x, a1, a2, a3, a4, a5, a6⟩ := made_same M hkk h38 hn rfl hdn ha
    obtain ⟨y, b1, b2, b3, b4, b5, b6⟩ := gone_same G M.ok hleaf hnew ((hmem a).2 ha)
    have hxy : x = y := by rw [a2] at b1; exact (Prod.mk.inj b1).1
    subst hxy
    exact ⟨x, a1, b2, a3, b4, a5.trans b5, fun hf => (a6 hf).trans (b6 (by rw [← a5]; exact hf))⟩

theorem makeR_err {d p : List UInt8} {kind : Int} (h : (makeR d p kind).2.2 ≠ 0) : (makeR d p kind).2.1 = [] := by
  unfold makeR at h ⊢
  by_cases h1 : chk38 d ≠ 0
  · rw [if_pos h1]
  rw [if_neg h1] at h ⊢
  by_cases h2 : (splitR p).2 ≠ 0
  · rw [if_pos h2]
  rw [if_neg h2] at h ⊢
  by_cases h3 : kind ≠ 1 ∧ kind ≠ 2
  · rw [if_pos h3]
  rw [if_neg h3] at h ⊢
  by_cases h4 : (splitR p).1 = []
  · rw [if_pos h4]
  rw [if_neg h4] at h ⊢
  by_cases h5 : (followR d (splitR p).1.dropLast 0).2 ≠ 0
  · rw [if_pos h5]
  rw [if_neg h5] at h ⊢
  by_cases h6 : (dirR d (followR d (splitR p).1.dropLast 0).1).2 ≠ 0
  · rw [if_pos h6]
  rw [if_neg h6] at h ⊢
  by_cases h7 : fidx (dirR d (followR d (splitR p).1.dropLast 0).1).1 ((splitR p).1.getLastD []) ≠ none
  · rw [if_pos h7]
  rw [if_neg h7] at h ⊢
  split
  · rfl
  · rename_i k hk
    rw [hk] at h
    dsimp only at h
    by_cases h8 : (allocR d kind.toNat).2.2 ≠ 0
    · rw [if_pos h8]
    · rw [if_neg h8] at h
      exact absurd rfl h

theorem pathsP_len {d : List UInt8} (h38 : chk38 d = 0) : (pathsP d).length ≤ 33 := by
  rw [pathsP_L, sortL_len]
  unfold pathsL
  rw [foldl_addP, List.length_append, List.length_map, List.length_singleton]
  have h1 := List.length_filter_le (fun x : List UInt8 × Nat => decide (x.2 ≠ 0 ∧ x.1.length ≤ 60)) ((T0 d).V 33 0 [])
  have h2 := V_len (tree_facts h38).2.1
  omega

theorem mem_pathsP {d : List UInt8} {a : List UInt8} : a ∈ pathsP d ↔ a ∈ pathsL d := by
  rw [pathsP_L]
  exact (sortL_perm _).mem_iff

theorem pathsP_short {d : List UInt8} (h38 : chk38 d = 0) {a : List UInt8} (ha : a ∈ pathsP d) : a.length ≤ 60 ∧ a ≠ [] := by
  rcases (mem_pathsL h38).1 (mem_pathsP.1 ha) with rfl | ⟨l, m, h1, h2, h3, h4⟩
  · decide
  · refine ⟨h3, fun h => ?_⟩
    rw [h] at h2
    cases l with
    | nil => exact h1 rfl
    | cons s l => rw [jn_cons] at h2; cases h2

end Go.Proofs.YtbfpgfopppfhoaaGreatDoor
namespace Go.Proofs.YtbfpgfopppfhoaaGreatDoor
open Go Go.Sx
set_option maxRecDepth 100000
set_option maxHeartbeats 4000000
set_option linter.unusedVariables false
set_option linter.unusedSimpArgs false

theorem relPaths_ok {d : List UInt8} (h38 : chk38 d = 0) {v : Value} {F : Fx} (h : RelPaths (openE d) (pathsP d) v F) :
    ∃ b cap C, Own 1 (pathsP d).length (some ⟨b, 0, none⟩) cap C ((pathsP d).map strV) ∧ v = .tuple #[.slice (some ⟨b, 0, none⟩) (pathsP d).length cap, .int .i64 0] ∧ F = ⟨fun _ => True, [(b, Row.c C)]⟩ := by
  rw [openE_eq, h38] at h
  unfold RelPaths at h
  rwa [if_pos rfl] at h

theorem usage_same {d b : List UInt8} (h1 : ∀ m, m < 32 → rk b m = rk d m) : usedI (dIno b) 32 = usedI (dIno d) 32 := by
  unfold usedI
  congr 1
  refine List.filter_congr fun m hm => ?_
  have := h1 m (List.mem_range.1 hm)
  show decide (rk b m ≠ 0) = decide (rk d m ≠ 0)
  rw [this]

theorem dirsBack_spec (l : List Opx) (k : Hd) (hk : k.Ok l.length) (hl : l.length ≤ 4000000000000000000) (hx : ∀ x ∈ l, x.h.Ok x.data.length) (p : List UInt8) (kind : Int) :
    PureSpec Tryz.prog 9 [k.v l.length, strV p, .int .i64 kind] (fun w => OpsAt w k.a l) (fun v F => v = .bool true) := by
  have hsz : (ByteArray.mk ⟨p⟩).size = p.length := rfl
  refine PureSpec.of_xc tabOk Tryz.func9 rfl (by decide) (n := Tryz.f9.ntmps - 3) rfl rfl fun w0 av => ?_
  conv => whnf
  refine XCall.val awake_spec (fun w hw => trivial) (fun v D hv => ?_)
  obtain ⟨tr, htr⟩ : ∃ tr, true = tr := ⟨_, rfl⟩
  rw [htr] at hv
  subst hv
  conv => whnf
  repeat (refine XSame.of ?_; conv => whnf)
  refine XIf.no (by rw [← htr]; rfl) ?_
  conv => whnf
  repeat (refine XSame.of ?_; conv => whnf)
  refine XCall.val (few_spec l k hk hl) (fun w hw => hw) (fun v D hv => ?_)
  generalize hfw : fewR l = fw at hv
  subst hv
  conv => whnf
  repeat (refine XSame.of ?_; conv => whnf)
  cases fw
  · conv => whnf
    repeat (refine XSame.of ?_; conv => whnf)
    repeat' (first
      | (refine XIf.yes rfl ?_; conv => whnf))
    exact ⟨_, Ent.refl _, rfl⟩
  obtain ⟨hl20, hall⟩ := few_all hfw
  conv => whnf
  repeat (refine XSame.of ?_; conv => whnf)
  repeat' (first
    | (refine XIf.no rfl ?_; conv => whnf))
  refine XIf.split (fun hlt => ?_) (fun hlt => ?_)
  · conv => whnf
    repeat (refine XSame.of ?_; conv => whnf)
    exact ⟨_, Ent.refl _, rfl⟩
  have hp : p.length ≤ 100 := by
    have h := hlt
    simp [iGt_eq, hsz] at h
    omega
  conv => whnf
  repeat (refine XSame.of ?_; conv => whnf)
  refine XCall.pure (disk_spec l k hk hl20 fun x hxm => ⟨by have := (hall x hxm).1; omega, by have := (hall x hxm).2; omega, hx x hxm⟩) (fun w hw => hw) (fun v D hv => ?_)
  obtain ⟨fd, hF, hd, rfl, hdo, rfl⟩ := hv
  have hle := diskR_le hF.len l
  generalize diskR fd l = d at *
  have hpm := pmake_spec d hd hdo hle p (by omega) kind
  rw [make_eq] at hpm
  have hback := back_all (d := d) (p := p) (kind := kind)
  have herr := makeR_err (d := d) (p := p) (kind := kind)
  generalize makeR d p kind = M at *
  obtain ⟨n, e, er⟩ := M
  dsimp only at hpm hback herr
  conv => whnf
  repeat (refine XSame.of ?_; conv => whnf)
  refine XCall.pure hpm (fun w hw => hw.2) (fun v D hv => ?_)
  obtain ⟨h1, rfl, ho1, rfl⟩ := hv
  conv => whnf
  repeat (refine XSame.of ?_; conv => whnf)
  refine XIf.split (fun hq => ?_) (fun hq => ?_)
  · have hq' : er ≠ 0 := by
      simp [iNe_eq] at hq
      omega
    rw [herr hq']
    conv => whnf
    repeat (refine XSame.of ?_; conv => whnf)
    exact ⟨_, Ent.refl _, by simp [iEq_eq]⟩
  have hq' : er = 0 := by
    simp [iNe_eq] at hq
    omega
  clear herr
  obtain ⟨b1, b2, b3, b4, b5, b6, b7, b8⟩ := hback hq'
  have hdl := chk38_len b1
  have hel := chk38_len b2
  have hbl := chk38_len b4
  have hpu := punlink_spec e h1 ho1 (by omega) p (by omega)
  generalize unlinkR e p = U at *
  obtain ⟨b, eu⟩ := U
  dsimp only at hpu b3 b4 b5 b6 b7 b8 hbl
  conv => whnf
  repeat (refine XSame.of ?_; conv => whnf)
  refine XCall.pure hpu (fun w hw => hw.2) (fun v D hv => ?_)
  obtain ⟨h2, rfl, ho2, rfl⟩ := hv
  dsimp only at ho2 ⊢
  have hpd := ppaths_spec d hd hdo hle
  have hpb := ppaths_spec b h2 ho2 (by omega)
  have hud := usage_spec d hd hdo hle (tree_facts b1).1
  have hub := usage_spec b h2 ho2 (by omega) (tree_facts b4).1
  rw [usage_same b7, b6] at hub
  generalize usedI (dIno d) 32 = un at *
  generalize IntKind.i64.wrap (cntZ (bmp d) - 18) = ub at *
  conv => whnf
  repeat (refine XSame.of ?_; conv => whnf)
  refine XCall.pure hpd (fun w hw => hw.1.1.2) (fun v D hv => ?_)
  obtain ⟨ba, ca, Ca, hOa, rfl, rfl⟩ := relPaths_ok b1 hv
  conv => whnf
  repeat (refine XSame.of ?_; conv => whnf)
  refine XCall.pure hpb (fun w hw => hw.1.2) (fun v D hv => ?_)
  obtain ⟨bb, cb, Cb, hOb, rfl, rfl⟩ := relPaths_ok b4 hv
  rw [b5] at hOb ⊢
  have hpl := pathsP_len b1
  have hpsh := fun a (ha : a ∈ pathsP d) => pathsP_short b1 ha
  have hkept : ∀ q ∈ pathsP d, q ≠ [] → SameAt d b q := fun q hq _ => b8 q (mem_pathsP.1 hq)
  generalize pathsP d = L at *
  conv => whnf
  repeat (refine XSame.of ?_; conv => whnf)
  refine XCall.val hud (fun w hw => hw.1.1.1.1.2) (fun v D hv => ?_)
  subst hv
  conv => whnf
  repeat (refine XSame.of ?_; conv => whnf)
  refine XCall.val hub (fun w hw => hw.1.1.2) (fun v D hv => ?_)
  subst hv
  conv => whnf
  repeat (refine XSame.of ?_; conv => whnf)
  have hc : (iEq (eu : Int) 0 && iEq 0 0 && iEq 0 0 && iEq 0 0 && iEq 0 0) = true := by simp [iEq_eq, b3]
  generalize hcc : (iEq (eu : Int) 0 && iEq 0 0 && iEq 0 0 && iEq 0 0 && iEq 0 0) = c
  cases c
  · rw [hcc] at hc
    cases hc
  clear hcc hc
  have hsame := sameG_spec ⟨some ⟨ba, 0, none⟩, ca⟩ ⟨some ⟨bb, 0, none⟩, cb⟩ L L ⟨fun h => (by cases h), hOa.fit⟩ ⟨fun h => (by cases h), hOb.fit⟩ (by omega) (by omega)
  obtain ⟨q, hq⟩ : ∃ q, q = (L == L) := ⟨_, rfl⟩
  rw [← hq] at hsame
  have hq : q = true := by rw [hq]; simp
  have hks := kept_spec d b hd h2 ⟨some ⟨ba, 0, none⟩, ca⟩ L [] hdo ho2 ⟨fun h => (by cases h), hOa.fit⟩ hle (by omega) (by omega) (fun a ha => by have := (hpsh a ha).1; omega) hkept
  conv => whnf
  repeat (refine XSame.of ?_; conv => whnf)
  refine XCall.ent (F' := ⟨fun w => (By w hd d ∧ By w h2 b) ∧ StrAt w ⟨some ⟨ba, 0, none⟩, ca⟩ L ∧ StrAt w ⟨some ⟨bb, 0, none⟩, cb⟩ L, []⟩) (Ent.shareAll.trans (Ent.imp fun w hw => ?_)) ?_
  · obtain ⟨hD, hr1, hr2, -⟩ := hw
    exact ⟨⟨hD.1.1.1.1.2, hD.1.1.2⟩, Own.row hOa hr1, Own.row hOb hr2⟩
  refine XCall.val hsame (fun w hw => hw.2) (fun v D hv => ?_)
  subst hv
  conv => whnf
  repeat (refine XSame.of ?_; conv => whnf)
  have hc2 : ((cond true q false) && iEq (un : Int) (un : Int) && iEq ub ub) = true := by simp [iEq_eq, hq]
  generalize hcc2 : ((cond true q false) && iEq (un : Int) (un : Int) && iEq ub ub) = c
  cases c
  · rw [hcc2] at hc2
    cases hc2
  clear hcc2 hc2
  conv => whnf
  repeat (refine XSame.of ?_; conv => whnf)
  refine XCall.val hks (fun w hw => ⟨hw.1, hw.2.1⟩) (fun v D hv => ?_)
  subst hv
  conv => whnf
  repeat (refine XSame.of ?_; conv => whnf)
  exact ⟨_, Ent.refl _, rfl⟩

end Go.Proofs.YtbfpgfopppfhoaaGreatDoor
