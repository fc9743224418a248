/- Parts of the proof: NxB, NyG, NyL, NyM, NyS, NxD, NzK, NzC, ShC, NzD, NzE, NzF, NzG, NzL, NzM. -/
import Derived.Test.YtbfpgfopppfhoaaGreatDoorQO
import Derived.Test.YtbfpgfopppfhoaaGreatDoorQP
import Derived.Test.YtbfpgfopppfhoaaGreatDoorRows
import Derived.SizedLaws
import Derived.Test.YtbfpgfopppfhoaaGreatDoorQN
import Derived.Test.YtbfpgfopppfhoaaGreatDoorQK
import Derived.Shelf.SlIter.Nil
import Derived.Test.YtbfpgfopppfhoaaGreatDoorProg
import Derived.Test.YtbfpgfopppfhoaaGreatDoorQF
namespace Go.Proofs.YtbfpgfopppfhoaaGreatDoor
open Go Go.Sx Go.ChangeShapes Go.WideShapes
set_option maxRecDepth 100000
set_option maxHeartbeats 2000000
set_option linter.unusedVariables false
set_option linter.unusedSimpArgs false

theorem OpsAt.agree {W w' : World} {a : Option Addr} {l : List Opx} (hs : OpsAt W a l) (hw : ∀ b, b < W.heap.size → w'.heap[b]? = W.heap[b]?) : OpsAt w' a l :=
  ⟨RowAt.agree hs.1 hw, fun p hp => Sx.By.agree (hs.2 p hp) hw⟩

section
variable {H : Type} {enc : TypeId × Value → H} {w : World} {base : Nat} {spare : Nat → Bool} {held : Bool} {r : Reach} {b0 : Nat}

theorem c3 : Tryz.prog.cellsOf 3 = 1 := cellsOf_tab tabOk (t := 3) rfl
theorem c5 : Tryz.prog.cellsOf 5 = 1 := cellsOf_tab tabOk (t := 5) rfl
theorem c9 : Tryz.prog.cellsOf 9 = 1 := cellsOf_tab tabOk (t := 9) rfl
theorem c31 : Tryz.prog.cellsOf 31 = 1 := cellsOf_tab tabOk (t := 31) rfl
theorem c70 : Tryz.prog.cellsOf 70 = 3 := cellsOf_tab tabOk (t := 70) rfl

theorem int_cell {n : Nat} {v : Value} {x : DataW H × List MemPlace} (h : DataW.trod enc Tryz.prog w base spare held n 3 [v] = some x) : ∃ z : Int, v = .int .i64 z ∧ -9223372036854775808 ≤ z ∧ z ≤ 9223372036854775807 := by
  obtain ⟨z, h1, _, hw⟩ := DataW.trod_int Tryz.underlying3 h
  cases h1
  exact ⟨z, rfl, bounds_i64 hw⟩

theorem str_cell {n : Nat} {v : Value} {x : DataW H × List MemPlace} (h : DataW.trod enc Tryz.prog w base spare held n 9 [v] = some x) : ∃ s : List UInt8, v = strV s := by
  obtain ⟨z, h1, _⟩ := DataW.trod_string Tryz.underlying9 h
  cases h1
  exact ⟨z.data.toList, rfl⟩

theorem op_cells {n : Nat} {cs : List Value} (hl : cs.length = 3) {x : DataW H × List MemPlace} (h : DataW.trod enc Tryz.prog w base spare held n 70 cs = some x) :
    ∃ p : Opx, cs = opC p ∧ p.h.Ok p.data.length ∧ By w p.h p.data := by
  obtain ⟨x0, x1, x2, rfl⟩ : ∃ a b c, cs = [a, b, c] := by
    rcases cs with _ | ⟨a, _ | ⟨b, _ | ⟨c, _ | ⟨d, l⟩⟩⟩⟩ <;> simp at hl
    exact ⟨a, b, c, rfl⟩
  obtain ⟨_, _, h0⟩ := trod_at Tryz.underlying70 h 0 (u := 3) (o := 0) rfl c3
  obtain ⟨_, _, h1⟩ := trod_at Tryz.underlying70 h 1 (u := 9) (o := 1) rfl c9
  obtain ⟨_, _, h2⟩ := trod_at Tryz.underlying70 h 2 (u := 31) (o := 2) rfl c31
  obtain ⟨t, rfl, _⟩ := int_cell h0
  obtain ⟨s, rfl⟩ := str_cell h1
  obtain ⟨k, l, rfl, hk, hb⟩ := bytes_open Tryz.underlying31 Tryz.underlying5 c5 h2
  exact ⟨⟨t, s, k, l⟩, rfl, hk, hb⟩

theorem one_of_slice {t e : TypeId} (ht : Tryz.prog.underlying t = some (.slice e)) {v : Value} (hv : Value.okWide Tryz.prog w r b0 t v) : v.cells.toList = [v] := by
  have hc : Cell.okWide Tryz.prog w r b0 t v := by simpa only [Value.okWide, ht] using hv
  cases v <;> first | rfl | (simp [Cell.okWide, Cell.ok, ht] at hc)

theorem open_ops {v : Value} {d : DataW H} {p : List MemPlace} (hv : Value.okWide Tryz.prog w r b0 29 v) (h : DataW.Trod enc Tryz.prog w base spare held 29 v d p) :
    ∃ (k : Hd) (l : List Opx), v = k.v l.length ∧ k.Ok l.length ∧ (∀ x ∈ l, x.h.Ok x.data.length) ∧ OpsAt w k.a l ∧ (l = [] ∨ ∃ el sp, d = .slice el sp ∧ el.length = l.length) := by
  obtain ⟨n, hn⟩ := h
  rw [one_of_slice Tryz.underlying29 hv] at hn
  obtain ⟨k, L, rfl, hk, hr, hc, hsz⟩ := slice_open Tryz.underlying29 c70 (by decide) hn
  obtain ⟨l, rfl, hg⟩ := each_of (f := opC) (good := fun p => p.h.Ok p.data.length ∧ By w p.h p.data) (L := L) fun c hcm => by
    obtain ⟨hl, m, y, hy⟩ := hc c hcm
    exact op_cells hl hy
  refine ⟨k, l, by simp, by simpa using hk, fun p hp => (hg p hp).1, ⟨?_, fun p hp => (hg p hp).2⟩, ?_⟩
  · show RowAt w k.a (opCs l)
    rw [opCs, List.flatMap_def]
    exact hr
  · rcases hsz with h | ⟨el, sp, h1, h2⟩
    · exact .inl (by simpa using h)
    · exact .inr ⟨el, sp, h1, by simpa using h2⟩

theorem ops_size {vars : List String} {ts : List TypeId} {ds gs : List (DataW H)} {j : Nat} {d : DataW H} (hz : (DataW.weightsEach Tryz.prog ts ds).all (· ≤ reachBytes) = true) (ht : ts[j]? = some 29) (hd : ds[j]? = some d)
    {l : List Opx} (h : l = [] ∨ ∃ el sp, d = .slice el sp ∧ el.length = l.length) : l.length ≤ 4000000000000000000 := by
  rcases h with rfl | ⟨el, sp, rfl, hl⟩
  · simp
  · have := sized_slice hz ht hd Tryz.underlying29
    have e : Tryz.prog.bytesOf 70 = 48 := by kernel_rfl
    rw [e] at this
    unfold reachBytes at this
    omega

end
end Go.Proofs.YtbfpgfopppfhoaaGreatDoor
namespace Go.Proofs.YtbfpgfopppfhoaaGreatDoor
open Go Go.Sx
set_option maxRecDepth 100000
set_option maxHeartbeats 4000000
set_option linter.unusedVariables false
set_option linter.unusedSimpArgs false

theorem pcheck38_spec (d : List UInt8) (h : Hd) (hh : h.Ok d.length) (hl : d.length ≤ 1000000) : PureSpec Tryz.prog 26 [h.v d.length] (fun w => By w h d) (fun v F => v = .int .i64 (chk38 d : Int)) := by
  have ho := openT_spec d h hh hl
  rw [openE_eq] at ho
  refine PureSpec.of_xc tabOk Tryz.func26 rfl (by decide) (n := Tryz.f26.ntmps - 1) rfl rfl fun w0 av => ?_
  generalize chk38 d = e at *
  conv => whnf
  repeat (refine XSame.of ?_; conv => whnf)
  refine XCall.val ho (fun w hw => hw) (fun v D hv => ?_)
  obtain ⟨p, rfl⟩ : ∃ p, v = .tuple #[.pointer p, .int .i64 (e : Int)] := by
    unfold RelTr at hv
    split at hv
    · obtain ⟨bt, bm, H, _, rfl, _⟩ := hv
      exact ⟨_, rfl⟩
    · obtain ⟨p, rfl, _⟩ := hv
      exact ⟨p, rfl⟩
  conv => whnf
  repeat (refine XSame.of ?_; conv => whnf)
  exact ⟨_, Ent.refl _, rfl⟩

theorem theTree_find (d : List UInt8) (H : Nat → Hd) (n : Nat) (s : List UInt8) : (theTree d H).find n s = (T0 d).find n s := rfl

theorem theTree_walk (d : List UInt8) (H : Nat → Hd) : ∀ (l : List (List UInt8)) (n : Nat), (theTree d H).walk l n = (T0 d).walk l n
  | [], n => rfl
  | s :: r, n => by
    unfold Tree.walk
    rw [theTree_find, theTree_walk d H r]

theorem walkR_P {d : List UInt8} (h38 : chk38 d = 0) (p : List UInt8) : walkR d p = if (splitR p).2 ≠ 0 then (0, 15) else (T0 d).walk (splitR p).1 0 := by
  obtain ⟨h0, hG, hE⟩ := tree_facts h38
  obtain ⟨hr1, hr2⟩ := mem_dl.1 (root_in h0)
  have hsn := splitR_names p
  unfold walkR
  rw [if_neg (show ¬ chk38 d ≠ 0 by rw [h38]; simp)]
  split
  · rfl
  · exact ((walk_follow h38 (splitR p).1 0 hr1 (by omega) fun s hs h => by
      have := hsn s hs
      rw [h] at this
      cases this).1).symm

theorem dwalk_spec (d : List UInt8) (h : Hd) (hh : h.Ok d.length) (hl : d.length ≤ 1000000) (p : List UInt8) (hp : p.length ≤ 200) :
    PureSpec Tryz.prog 28 [h.v d.length, strV p] (fun w => By w h d) (RelII (walkR d p).1 (walkR d p).2) := by
  obtain ⟨M, hM⟩ : ∃ x, x = walkR d p := ⟨_, rfl⟩
  rw [← hM]
  have hos := openT_spec d h hh hl
  rw [openE_eq] at hos
  refine PureSpec.of_xc tabOk Tryz.func28 rfl (by decide) (n := Tryz.f28.ntmps - 2) rfl rfl fun w0 av => ?_
  conv => whnf
  refine XCall.pure hos (fun w hw => hw) (fun v D hv => ?_)
  unfold RelTr at hv
  by_cases h0 : chk38 d = 0
  rotate_left
  · rw [if_neg h0] at hv
    obtain ⟨q, rfl, rfl⟩ := hv
    have : M = (0, chk38 d) := by
      rw [hM]
      unfold walkR
      rw [if_pos h0]
    rw [this]
    generalize chk38 d = e at *
    conv => whnf
    repeat (refine XSame.of ?_; conv => whnf)
    refine XIf.yes (by simp [iNe_eq]; omega) ?_
    conv => whnf
    repeat (refine XSame.of ?_; conv => whnf)
    exact ⟨_, Ent.refl _, rfl⟩
  rw [walkR_P h0] at hM
  rw [if_pos h0] at hv
  obtain ⟨bt, bm, H, hH, rfl, rfl⟩ := hv
  have hT := theTree_ok d hH
  have hwe := theTree_walk d H (splitR p).1 0
  rw [← hwe] at hM
  generalize theTree d H = T at *
  generalize chk38 d = e at *
  subst h0
  clear hos hwe
  conv => whnf
  repeat (refine XSame.of ?_; conv => whnf)
  refine XIf.no (by simp [iNe_eq]) ?_
  conv => whnf
  repeat (refine XSame.of ?_; conv => whnf)
  refine XCall.pure (dirsSplit_spec p hp) (fun w hw => trivial) (fun v D hv => ?_)
  obtain ⟨kn, rfl, hkn, rfl⟩ := hv
  have hsm := splitR_small p hp
  have hse := splitR_err p
  generalize splitR p = sp at *
  obtain ⟨names, se⟩ := sp
  dsimp only at hkn hM hsm hse ⊢
  conv => whnf
  repeat (refine XSame.of ?_; conv => whnf)
  refine XIf.split (fun hs => ?_) (fun hs => ?_)
  · have hs' : se ≠ 0 := by
      simp [iNe_eq] at hs
      omega
    rw [if_pos hs'] at hM
    have hs15 : se = 15 := by omega
    rw [hM]
    conv => whnf
    repeat (refine XSame.of ?_; conv => whnf)
    refine ⟨_, Ent.refl _, ?_⟩
    unfold RelII
    rw [hs15]
    rfl
  · have hs' : ¬ se ≠ 0 := by
      simp [iNe_eq] at hs
      omega
    rw [if_neg hs'] at hM
    have htw := twalk_spec T hT (h.v d.length) bt bm kn names hkn hsm
    rw [← hM] at htw
    conv => whnf
    repeat (refine XSame.of ?_; conv => whnf)
    refine XCall.val htw (fun w hw => ⟨hw.1.2, hw.2⟩) (fun v D hv => ?_)
    unfold RelII at hv
    subst hv
    conv => whnf
    repeat (refine XSame.of ?_; conv => whnf)
    exact ⟨_, Ent.refl _, rfl⟩

theorem sameG_spec (h k : Hd) (l m : List (List UInt8)) (hh : h.Ok l.length) (hk : k.Ok m.length) (hl : l.length ≤ 1000000) (hm : m.length ≤ 1000000) :
    PureSpec Tryz.prog 17 [h.v l.length, k.v m.length] (fun w => StrAt w h l ∧ StrAt w k m) (fun v F => v = .bool (l == m)) := by
  refine PureSpec.of_xc tabOk Tryz.func17 rfl (by decide) (n := Tryz.f17.ntmps - 2) rfl rfl fun w0 av => ?_
  conv => whnf
  refine XIf.split (fun hne => ?_) (fun hne => ?_)
  · have hne' : l.length ≠ m.length := by
      simp [iNe_eq] at hne
      omega
    conv => whnf
    refine ⟨_, Ent.refl _, ?_⟩
    have : (l == m) = false := by
      rw [beq_eq_false_iff_ne]
      exact fun e => hne' (by rw [e])
    rw [this]
  have heq : l.length = m.length := by
    simp [iNe_eq] at hne
    omega
  conv => whnf
  refine XStop.loop tabOk (ι := Nat) ([5] ++ List.range' 11 15) (fun x => x ≤ l.length ∧ l.take x = m.take x)
    (fun x => [(5, .v (.int .i64 (x : Int)))]) (fun _ => []) (fun _ => ⟨fun w => StrAt w h l ∧ StrAt w k m, []⟩)
    (fun x => l.length - x) 0 ⟨Nat.zero_le _, rfl⟩ ?_ rfl (Ent.refl _) fun i hi => ?_
  · conv => whnf
    repeat (first | exact FLe.nil | refine FLe.any ?_ | refine FLe.cons ?_)
  obtain ⟨hi, hall⟩ := hi
  conv => whnf
  refine XIf.split (fun hlt => ?_) (fun hlt => ?_)
  · conv => whnf
    have hlt' : i < l.length := by
      have h := hlt
      simp [iLt_eq] at h
      omega
    have hlm : i < m.length := by omega
    refine XStop.draw tabOk mixed rfl rfl ?_
    conv => whnf
    repeat' (first
      | (refine And.intro ?_ ?_ <;> conv => whnf)
      | (refine XHeld.same rfl ?_; conv => whnf)
      | (refine XHeld.row rfl ?_; conv => whnf)
      | (refine XHeld.call rfl ?_; conv => whnf)
      | (refine XKeep.of ?_; conv => whnf)
      | (refine XSame.of ?_; conv => whnf)
      | (refine XRead.index tabOk (t := 23) rfl rfl rfl (by omega) (by omega) hh.nil fun ad1 had1 => ?_; conv => whnf)
      | (refine XRead.index tabOk (t := 23) rfl rfl rfl (by omega) (by omega) hk.nil fun ad2 had2 => ?_; conv => whnf)
      | (refine XRead.load tabOk (t := 9) rfl rfl (ad := ad1) (k := i * 1) (L := l.map strV) (v := strV l[i]) (fun w hst => had1 ▸ hst.now.1) rfl (by simp [hlt']) ?_; conv => whnf)
      | (refine XRead.load tabOk (t := 9) rfl rfl (ad := ad2) (k := i * 1) (L := m.map strV) (v := strV m[i]) (fun w hst => had2 ▸ hst.now.2) rfl (by simp [hlm]) ?_; conv => whnf)
      | (refine XRead.strNe (l := l[i]) (m := m[i]) ?_; conv => whnf)
      | (refine XHeld.mk ?_ ?_; (focus (first | exact Ent.refl _ | exact Ent.left _ _ | exact Ent.of_le ⟨List.sublist_append_left _ _, fun w h => h⟩ | exact Ent.of_le ⟨List.Sublist.refl _, fun w h => h.1⟩)); conv => whnf))
    refine XIf.split (fun hq => ?_) (fun hq => ?_)
    · have hq' : l[i] ≠ m[i] := by simpa using hq
      conv => whnf
      refine ⟨_, Ent.refl _, ?_⟩
      have : (l == m) = false := by
        rw [beq_eq_false_iff_ne]
        intro e
        subst e
        exact hq' rfl
      rw [this]
    · have hq' : l[i] = m[i] := by simpa using hq
      conv => whnf
      refine ⟨i + 1, ⟨⟨hlt', ?_⟩, by dsimp only; omega⟩, ?_, ?_, Ent.refl _⟩
      · rw [List.take_succ_eq_append_getElem hlt', List.take_succ_eq_append_getElem hlm, hall, hq']
      · conv => whnf
        refine ⟨?_, rfl⟩
        repeat (first | exact FLe.nil | refine FLe.any ?_ | refine FLe.cons ?_ | refine FLe.eq (by rw [wrap_i64 (by omega)]; rfl) ?_)
      · conv => whnf
        exact trivial
  · have hie : i = l.length := by
      simp only [iLt_eq, decide_eq_false_iff_not] at hlt
      omega
    rw [hie, List.take_length, List.take_of_length_le (by omega)] at hall
    conv => whnf
    refine ⟨_, Ent.refl _, ?_⟩
    rw [hall]
    simp

theorem without_spec (h : Hd) (l : List (List UInt8)) (hh : h.Ok l.length) (hl : l.length ≤ 1000000) (s : List UInt8) :
    PureSpec Tryz.prog 31 [h.v l.length, strV s] (fun w => StrAt w h l) (RelS (l.filter fun x => !(x == s))) := by
  refine PureSpec.of_xc tabOk Tryz.func31 rfl (by decide) (n := Tryz.f31.ntmps - 2) rfl rfl fun w0 av => ?_
  conv => whnf
  refine XStop.loop tabOk (ι := Nat × Option Addr × Nat × List Value) ([5, 7, 10] ++ List.range' 11 11) (fun x => x.1 ≤ l.length ∧ Own 1 ((l.take x.1).filter fun x => !(x == s)).length x.2.1 x.2.2.1 x.2.2.2 (((l.take x.1).filter fun x => !(x == s)).map strV))
    (fun x => [(5, .v (.slice x.2.1 ((l.take x.1).filter fun x => !(x == s)).length x.2.2.1)), (10, .v (.int .i64 (x.1 : Int)))]) (fun _ => []) (fun x => ⟨fun w => StrAt w h l, orow x.2.1 x.2.2.2⟩)
    (fun x => l.length - x.1) (0, none, 0, []) ⟨Nat.zero_le _, Own.nil 1⟩ ?_ rfl (Ent.of_le ⟨by simp [orow], fun w hw => hw⟩) fun x hx => ?_
  · conv => whnf
    repeat (first | exact FLe.nil | refine FLe.any ?_ | refine FLe.cons ?_)
  obtain ⟨i, a, cap, C⟩ := x
  obtain ⟨hi, hO⟩ := hx
  dsimp only at hi hO ⊢
  have hfl : ((l.take i).filter fun x => !(x == s)).length ≤ 1000000 := Nat.le_trans (List.length_filter_le _ _) (by simp; omega)
  conv => whnf
  refine XIf.split (fun hlt => ?_) (fun hlt => ?_)
  · have hlt' : i < l.length := by
      simp only [iLt_eq, decide_eq_true_eq] at hlt
      omega
    have htk : (l.take (i + 1)).filter (fun x => !(x == s)) = (l.take i).filter (fun x => !(x == s)) ++ if l[i] == s then [] else [l[i]] := by
      rw [List.take_succ_eq_append_getElem hlt', List.filter_append]
      congr 1
      by_cases h : l[i] = s <;> simp [h]
    generalize (l.take i).filter (fun x => !(x == s)) = M at *
    conv => whnf
    refine XVal.of_read (XRead.index tabOk (t := 23) rfl rfl rfl (by omega) (by omega) hh.nil fun ad had => ?_)
    conv => whnf
    refine XVal.of_read (XRead.load tabOk (t := 9) rfl rfl (ad := ad) (k := i) (L := l.map strV) (v := strV l[i]) (.fact fun w hw => had ▸ hw) (by simp) (by simp [hlt']) ?_)
    conv => whnf
    refine XVal.of_read (XRead.strNe (l := l[i]) (m := s) ?_)
    conv => whnf
    refine XIf.split (fun hq => ?_) (fun hq => ?_)
    · have hq' : (l[i] == s) = false := by simpa using hq
      rw [hq'] at htk
      conv => whnf
      refine XVal.build tabOk (t := 23) rfl rfl rfl [strV l[i]] rfl rfl (by simp [Value.cells, strV]) (by decide) fun b0 => ?_
      conv => whnf
      refine XVal.ent (F' := ⟨fun w => StrAt w h l, [] ++ orow a C ++ [(b0, Row.c [strV l[i]])]⟩) (Ent.of_le ⟨by simp [Value.cells, strV], fun w hw => hw⟩) ?_
      refine XVal.append tabOk (t := 23) (xt := 23) rfl rfl rfl rfl rfl rfl (r1 := []) (r2 := [(b0, Row.c [strV l[i]])]) (M := [strV l[i]]) hO (Sees.row (by simp)) rfl (by simp [strV, oneCell]) (by omega) (by simp; omega) fun a' c' C' hO' => ?_
      conv => whnf
      refine ⟨(i + 1, a', c', C'), ⟨⟨hlt', ?_⟩, by dsimp only; omega⟩, ?_, ?_, ?_⟩
      · dsimp only
        rw [htk, if_neg (by simp), List.map_append, List.length_append]
        exact hO'
      · have hq2 : M.length + 1 = ((l.take (i + 1)).filter fun x => !(x == s)).length := by rw [htk]; simp
        conv => whnf
        refine ⟨?_, rfl⟩
        repeat (first | exact FLe.nil | refine FLe.any ?_ | refine FLe.cons ?_ | refine FLe.eq (by rw [wrap_i64 (by omega)]; rfl) ?_ | refine FLe.eq (congrArg (fun q => SV.v (Value.slice a' q c')) hq2) ?_)
      · conv => whnf
        exact trivial
      · exact Ent.of_le ⟨by simp, fun w hw => hw⟩
    · have hq' : (l[i] == s) = true := by simpa using hq
      rw [hq', if_pos rfl, List.append_nil] at htk
      conv => whnf
      refine ⟨(i + 1, a, cap, C), ⟨⟨hlt', ?_⟩, by dsimp only; omega⟩, ?_, ?_, Ent.refl _⟩
      · dsimp only
        rw [htk]
        exact hO
      · have hq2 : M.length = ((l.take (i + 1)).filter fun x => !(x == s)).length := by rw [htk]
        conv => whnf
        refine ⟨?_, rfl⟩
        repeat (first | exact FLe.nil | refine FLe.any ?_ | refine FLe.cons ?_ | refine FLe.eq (by rw [wrap_i64 (by omega)]; rfl) ?_ | refine FLe.eq (congrArg (fun q => SV.v (Value.slice a q cap)) hq2) ?_)
      · conv => whnf
        exact trivial
  · have hie : i = l.length := by
      simp only [iLt_eq, decide_eq_false_iff_not] at hlt
      omega
    subst hie
    rw [List.take_length] at hO
    rw [List.take_length]
    conv => whnf
    exact ⟨⟨fun w => StrAt w ⟨a, cap⟩ (l.filter fun x => !(x == s)), []⟩, (Own.gives hO).trans (Ent.imp fun w hw => hw.2), ⟨a, cap⟩, rfl, hO.hd, rfl⟩

end Go.Proofs.YtbfpgfopppfhoaaGreatDoor
namespace Go.Proofs.YtbfpgfopppfhoaaGreatDoor
open Go Go.Sx
set_option maxRecDepth 100000
set_option linter.unusedVariables false
set_option linter.unusedSimpArgs false

/-! ### names put together -/

def jn (l : List (List UInt8)) : List UInt8 := l.flatMap fun s => 47 :: s

theorem jn_cons (s : List UInt8) (l : List (List UInt8)) : jn (s :: l) = 47 :: (s ++ jn l) := by simp [jn]

theorem jn_snoc (l : List (List UInt8)) (s : List UInt8) : jn (l ++ [s]) = jn l ++ 47 :: s := by simp [jn]

theorem splitOn_jn : ∀ (l : List (List UInt8)) (s : List UInt8), 47 ∉ s → (∀ t ∈ l, 47 ∉ t) → splitOn (s ++ jn l) = s :: l := by
  intro l
  induction l with
  | nil =>
    intro s hs _
    induction s with
    | nil => rfl
    | cons c s ih =>
      have hc : c ≠ 47 := fun h => hs (h ▸ List.mem_cons_self ..)
      have := ih fun h => hs (List.mem_cons_of_mem _ h)
      rw [List.cons_append]
      unfold splitOn
      rw [if_neg hc, this]
  | cons t l ihl =>
    intro s hs hl
    induction s with
    | nil =>
      rw [List.nil_append, jn_cons]
      unfold splitOn
      rw [if_pos rfl, ihl t (hl t (List.mem_cons_self ..)) fun x hx => hl x (List.mem_cons_of_mem _ hx)]
    | cons c s ih =>
      have hc : c ≠ 47 := fun h => hs (h ▸ List.mem_cons_self ..)
      have := ih fun h => hs (List.mem_cons_of_mem _ h)
      rw [List.cons_append]
      unfold splitOn
      rw [if_neg hc, this]

theorem jn_splitOn : ∀ r : List UInt8, jn (splitOn r) = 47 :: r
  | [] => rfl
  | c :: r => by
    have ih := jn_splitOn r
    unfold splitOn
    by_cases hc : c = 47
    · rw [if_pos hc, jn_cons, List.nil_append, ih, hc]
    · rw [if_neg hc]
      cases hs : splitOn r with
      | nil => exact absurd hs (splitOn_ne r)
      | cons x xs =>
        rw [hs, jn_cons] at ih
        have ih : x ++ jn xs = r := List.cons.inj ih |>.2
        show jn ((c :: x) :: xs) = _
        rw [jn_cons, List.cons_append, ih]

theorem vname_47 {s : List UInt8} (h : vname s = true) : 47 ∉ s := fun hm => by
  unfold vname at h
  rw [Bool.and_eq_true, List.all_eq_true] at h
  have := h.1 47 hm
  revert this
  decide

theorem jn_inj {l m : List (List UInt8)} (hl : ∀ s ∈ l, vname s = true) (hm : ∀ s ∈ m, vname s = true) (h : jn l = jn m) : l = m := by
  cases l with
  | nil =>
    cases m with
    | nil => rfl
    | cons t m => rw [jn_cons] at h; cases h
  | cons s l =>
    cases m with
    | nil => rw [jn_cons] at h; cases h
    | cons t m =>
      rw [jn_cons, jn_cons] at h
      have h := (List.cons.inj h).2
      have e1 := splitOn_jn l s (vname_47 (hl s (List.mem_cons_self ..))) fun x hx => vname_47 (hl x (List.mem_cons_of_mem _ hx))
      have e2 := splitOn_jn m t (vname_47 (hm t (List.mem_cons_self ..))) fun x hx => vname_47 (hm x (List.mem_cons_of_mem _ hx))
      rw [← e1, ← e2, h]

theorem splitR_jn {l : List (List UInt8)} (h0 : l ≠ []) (hv : ∀ s ∈ l, vname s = true) (hl : (jn l).length ≤ 60) : splitR (jn l) = (l, 0) := by
  cases l with
  | nil => exact absurd rfl h0
  | cons s l =>
    have hs := hv s (List.mem_cons_self ..)
    have e1 := splitOn_jn l s (vname_47 hs) fun x hx => vname_47 (hv x (List.mem_cons_of_mem _ hx))
    have hne : s ++ jn l ≠ [] := fun h => by
      have := List.append_eq_nil_iff.1 h
      rw [this.1] at hs
      cases hs
    rw [jn_cons] at hl ⊢
    have hp : pre (47 :: (s ++ jn l)) = true := by simp [pre]
    unfold splitR
    rw [if_pos ⟨hp, hl⟩, List.drop_succ_cons, List.drop_zero, if_neg hne, e1, if_pos]
    rw [List.all_eq_true]
    exact hv

theorem splitR_inv {p : List UInt8} {l : List (List UInt8)} (h : splitR p = (l, 0)) : (l = [] ∧ p = [47]) ∨ (l ≠ [] ∧ p = jn l ∧ p.length ≤ 60) := by
  unfold splitR at h
  by_cases h1 : pre p = true ∧ p.length ≤ 60
  rotate_left
  · rw [if_neg h1] at h
    cases h
  rw [if_pos h1] at h
  have hp : p = 47 :: p.drop 1 := by
    cases p with
    | nil => exact absurd h1.1 (by decide)
    | cons c r =>
      have : c = 47 := by simpa [pre] using h1.1
      rw [this]
      rfl
  by_cases h2 : p.drop 1 = []
  · rw [if_pos h2] at h
    cases h
    exact .inl ⟨rfl, by rw [hp, h2]⟩
  · rw [if_neg h2] at h
    split at h
    · cases h
      exact .inr ⟨splitOn_ne _, by rw [jn_splitOn]; exact hp, h1.2⟩
    · cases h

/-! ### ways down -/

def dn (es : Nat → List En) : List (List UInt8) → Nat → Nat → Prop
  | [], n, m => m = n
  | s :: l, n, m => ∃ c, (s, c) ∈ es n ∧ s ≠ [] ∧ dn es l c m

theorem dn_snoc {es : Nat → List En} {s : List UInt8} {m : Nat} : ∀ {l : List (List UInt8)} {n : Nat}, dn es (l ++ [s]) n m ↔ ∃ c, dn es l n c ∧ (s, m) ∈ es c ∧ s ≠ []
  | [], n => by
    constructor
    · rintro ⟨c, h1, h2, h3⟩
      have h3 : m = c := h3
      exact ⟨n, rfl, h3 ▸ h1, h2⟩
    · rintro ⟨c, h1, h2, h3⟩
      have h1 : c = n := h1
      exact ⟨m, h1 ▸ h2, h3, rfl⟩
  | t :: l, n => by
    constructor
    · rintro ⟨c, h1, h2, h3⟩
      obtain ⟨c', g1, g2, g3⟩ := dn_snoc.1 h3
      exact ⟨c', ⟨c, h1, h2, g1⟩, g2, g3⟩
    · rintro ⟨c', ⟨c, h1, h2, g1⟩, g2, g3⟩
      exact ⟨c, h1, h2, dn_snoc.2 ⟨c', g1, g2, g3⟩⟩

theorem mem_V (T : Tree) : ∀ (f n : Nat) (p q : List UInt8) (m : Nat), (q, m) ∈ T.V f n p ↔ ∃ l : List (List UInt8), l.length < f ∧ q = p ++ jn l ∧ dn T.es l n m
  | 0, n, p, q, m => by simp [Tree.V]
  | f + 1, n, p, q, m => by
    have ih := mem_V T f
    constructor
    · intro h
      rcases List.mem_cons.1 h with h | h
      · cases h
        exact ⟨[], by simp, by simp [jn], rfl⟩
      · obtain ⟨e, he, h⟩ := List.mem_flatMap.1 h
        split at h
        · cases h
        · rename_i hne
          obtain ⟨l, h1, h2, h3⟩ := (ih _ _ _ _).1 h
          exact ⟨e.1 :: l, by simp; omega, by rw [h2, jn_cons]; simp, e.2, he, hne, h3⟩
    · rintro ⟨l, h1, h2, h3⟩
      cases l with
      | nil =>
        have h3 : m = n := h3
        have h2 : q = p := by simpa [jn] using h2
        rw [h2, h3]
        exact List.mem_cons_self ..
      | cons s l =>
        obtain ⟨c, g1, g2, g3⟩ := h3
        refine List.mem_cons_of_mem _ (List.mem_flatMap.2 ⟨(s, c), g1, ?_⟩)
        rw [if_neg g2]
        exact (ih _ _ _ _).2 ⟨l, by simpa using h1, by rw [h2, jn_cons]; simp, g3⟩

theorem mem_ch {T : Tree} {n c : Nat} {s : List UInt8} (h : (s, c) ∈ T.es n) (hs : s ≠ []) : c ∈ T.ch n :=
  List.mem_map.2 ⟨(s, c), List.mem_filter.2 ⟨h, by simpa using hs⟩, rfl⟩

theorem ch_mem {T : Tree} {n c : Nat} (h : c ∈ T.ch n) : ∃ s, (s, c) ∈ T.es n ∧ s ≠ [] := by
  obtain ⟨e, he, rfl⟩ := List.mem_map.1 h
  obtain ⟨h1, h2⟩ := List.mem_filter.1 he
  exact ⟨e.1, h1, by simpa using h2⟩

theorem dn_low {T : Tree} : ∀ {f : Nat} {l : List (List UInt8)} {n m : Nat}, Low T.ch f n → dn T.es l n m → l.length < f
  | 0, l, n, m, h, _ => h.elim
  | f + 1, [], n, m, h, _ => by simp
  | f + 1, s :: l, n, m, h, hd => by
    obtain ⟨c, h1, h2, h3⟩ := hd
    have := dn_low (h c (mem_ch h1 h2)) h3
    simp
    omega

/-- Names of entries differ, and are names. -/
structure Nm (es : Nat → List En) : Prop where
  one : ∀ n s c c', (s, c) ∈ es n → (s, c') ∈ es n → s ≠ [] → c = c'
  val : ∀ n s c, (s, c) ∈ es n → s ≠ [] → vname s = true

theorem T0_nm {d : List UInt8} (h : chk38 d = 0) : Nm (T0 d).es := by
  obtain ⟨h0, hG, hE⟩ := tree_facts h
  have key : ∀ n s c, (s, c) ∈ (T0 d).es n → n ∈ (T0 d).dl ∧ ∃ i, i < 8 ∧ enR (contentR d n) i = (s, c) := fun n s c hm => by
    unfold Tree.es at hm
    split at hm
    · rename_i hn
      obtain ⟨i, hi, he⟩ := List.mem_map.1 hm
      exact ⟨hn, i, List.mem_range.1 hi, he⟩
    · cases hm
  refine ⟨fun n s c c' h1 h2 hs => ?_, fun n s c h1 hs => ?_⟩
  · obtain ⟨hn, i, hi, he⟩ := key n s c h1
    obtain ⟨_, j, hj, he'⟩ := key n s c' h2
    have hok := entsOk_iff.1 (hE n hn)
    have ha := (hok i hi).only
    have hb := (hok j hj).only
    rw [he] at ha
    rw [he'] at hb
    rcases Nat.lt_trichotomy i j with h5 | h5 | h5
    · have := hb.resolve_left hs i h5
      rw [he] at this
      exact absurd rfl this
    · subst h5
      have := he.symm.trans he'
      exact (Prod.mk.inj this).2
    · have := ha.resolve_left hs j h5
      rw [he'] at this
      exact absurd rfl this
  · obtain ⟨hn, i, hi, he⟩ := key n s c h1
    have := (entsOk_iff.1 (hE n hn) i hi).name
    rw [he] at this
    rcases this with h5 | h5
    · exact absurd (Prod.mk.inj h5).1 hs
    · exact h5.1

theorem dn_fun {es : Nat → List En} (hN : Nm es) : ∀ {l : List (List UInt8)} {n m m' : Nat}, dn es l n m → dn es l n m' → m = m'
  | [], n, m, m', h, h' => by
    have h : m = n := h
    have h' : m' = n := h'
    rw [h, h']
  | s :: l, n, m, m', ⟨c, h1, h2, h3⟩, ⟨c', g1, g2, g3⟩ => by
    have := hN.one n s c c' h1 g1 h2
    subst this
    exact dn_fun hN h3 g3

theorem dn_val {es : Nat → List En} (hN : Nm es) : ∀ {l : List (List UInt8)} {n m : Nat}, dn es l n m → ∀ s ∈ l, vname s = true
  | [], n, m, _, s, hs => by cases hs
  | t :: l, n, m, ⟨c, h1, h2, h3⟩, s, hs => by
    rcases List.mem_cons.1 hs with h | h
    · rw [h]; exact hN.val n t c h1 h2
    · exact dn_val hN h3 s h

theorem nodes_inj : ∀ {l : List En} {s s' : List UInt8} {m : Nat}, (nodes l).Nodup → (s, m) ∈ l → (s', m) ∈ l → s ≠ [] → s' ≠ [] → s = s'
  | [], s, s', m, _, h, _, _, _ => by cases h
  | e :: l, s, s', m, hn, h, h', hs, hs' => by
    have hmem : ∀ {t : List UInt8}, (t, m) ∈ l → t ≠ [] → m ∈ nodes l := fun ht hne => List.mem_map.2 ⟨(_, m), List.mem_filter.2 ⟨ht, by simpa using hne⟩, rfl⟩
    rw [nodes_cons] at hn
    rcases List.mem_cons.1 h with h1 | h1
    · rcases List.mem_cons.1 h' with h2 | h2
      · have := h1.trans h2.symm
        exact (Prod.mk.inj this).1
      · rw [← h1, if_neg hs] at hn
        exact absurd (hmem h2 hs') (List.nodup_cons.1 hn).1
    · rcases List.mem_cons.1 h' with h2 | h2
      · rw [← h2, if_neg hs'] at hn
        exact absurd (hmem h1 hs) (List.nodup_cons.1 hn).1
      · refine nodes_inj ?_ h1 h2 hs hs'
        split at hn
        · exact hn
        · exact (List.nodup_cons.1 hn).2

theorem dn_one {T : Tree} (hu : Uniq T.ch) : ∀ (k : Nat) {l l' : List (List UInt8)} {m : Nat}, l.length = k → dn T.es l 0 m → dn T.es l' 0 m → l = l'
  | 0, l, l', m, hk, h, h' => by
    have hl : l = [] := List.eq_nil_of_length_eq_zero hk
    subst hl
    have h : m = 0 := h
    by_cases hl' : l' = []
    · exact hl'.symm
    · rw [dropLast_snoc hl'] at h'
      obtain ⟨c, h1, h2, h3⟩ := dn_snoc.1 h'
      have := mem_ch h2 h3
      rw [h] at this
      exact absurd this (hu.root c)
  | k + 1, l, l', m, hk, h, h' => by
    have hl : l ≠ [] := fun h => by rw [h] at hk; cases hk
    rw [dropLast_snoc hl] at h
    obtain ⟨c, h1, h2, h3⟩ := dn_snoc.1 h
    have hm := mem_ch h2 h3
    by_cases hl' : l' = []
    · subst hl'
      have h' : m = 0 := h'
      rw [h'] at hm
      exact absurd hm (hu.root c)
    · rw [dropLast_snoc hl'] at h'
      obtain ⟨c', g1, g2, g3⟩ := dn_snoc.1 h'
      have hcc : c = c' := hu.par c c' m hm (mem_ch g2 g3)
      subst hcc
      have e1 := dn_one hu k (by simp [hk]) h1 g1
      have e2 := nodes_inj (l := T.es c) (hu.nd c) h2 g2 h3 g3
      rw [dropLast_snoc hl, dropLast_snoc hl', e1, e2]

/-! ### paths of a disk -/

section
variable {d : List UInt8} (h38 : chk38 d = 0)
include h38

theorem uniqT : Uniq (T0 d).ch := (tree_facts h38).2.1.fine.uniq

theorem find_dn {n c : Nat} {s : List UInt8} (hs : s ≠ []) : (T0 d).find n s = (c, 0) ↔ (s, c) ∈ (T0 d).es n := by
  unfold Tree.find Tree.es
  by_cases hn : n ∈ (T0 d).dl
  · rw [if_pos hn, if_pos hn]
    constructor
    · intro h
      cases hf : fidx ((T0 d).E n) s with
      | none => rw [hf] at h; cases h
      | some k =>
        rw [hf] at h
        obtain ⟨hk, hks⟩ := fidx_some hf
        dsimp only at h
        rw [List.getElem?_eq_getElem hk] at h
        have hc : ((T0 d).E n)[k].2 = c := (Prod.mk.inj h).1
        have := List.getElem_mem hk
        rw [show ((T0 d).E n)[k] = (s, c) from Prod.ext hks hc] at this
        exact this
    · intro h
      cases hf : fidx ((T0 d).E n) s with
      | none => exact absurd rfl (fidx_none.1 hf _ h)
      | some k =>
        obtain ⟨hk, hks⟩ := fidx_some hf
        dsimp only
        rw [List.getElem?_eq_getElem hk]
        have hm : (s, ((T0 d).E n)[k].2) ∈ (T0 d).es n := by
          unfold Tree.es
          rw [if_pos hn]
          have := List.getElem_mem hk
          rwa [show ((T0 d).E n)[k] = (s, ((T0 d).E n)[k].2) from Prod.ext hks rfl] at this
        have hm' : (s, c) ∈ (T0 d).es n := by
          unfold Tree.es
          rw [if_pos hn]
          exact h
        have := (T0_nm h38).one n s _ _ hm hm' hs
        show (((T0 d).E n)[k].2, 0) = _
        rw [this]
  · rw [if_neg hn, if_neg hn]
    constructor
    · intro h; cases h
    · intro h; cases h

theorem walk_dn : ∀ {l : List (List UInt8)} {n m : Nat}, (∀ s ∈ l, s ≠ []) → ((T0 d).walk l n = (m, 0) ↔ dn (T0 d).es l n m)
  | [], n, m, _ => by
    show (n, 0) = (m, 0) ↔ m = n
    constructor
    · intro h; exact ((Prod.mk.inj h).1).symm
    · intro h; rw [h]
  | s :: l, n, m, hs => by
    have hs0 := hs s (List.mem_cons_self ..)
    have ih : ∀ {n' : Nat}, (T0 d).walk l n' = (m, 0) ↔ dn (T0 d).es l n' m := walk_dn fun t ht => hs t (List.mem_cons_of_mem _ ht)
    have hf : ∀ c, (T0 d).find n s = (c, 0) ↔ (s, c) ∈ (T0 d).es n := fun c => find_dn h38 hs0
    show (if ((T0 d).find n s).2 ≠ 0 then (0, ((T0 d).find n s).2) else (T0 d).walk l ((T0 d).find n s).1) = (m, 0) ↔ ∃ c, (s, c) ∈ (T0 d).es n ∧ s ≠ [] ∧ dn (T0 d).es l c m
    generalize (T0 d).find n s = r at *
    obtain ⟨c0, e⟩ := r
    dsimp only
    by_cases he : e = 0
    · subst he
      rw [if_neg (by decide), ih]
      constructor
      · intro h; exact ⟨c0, (hf c0).1 rfl, hs0, h⟩
      · rintro ⟨c, h1, _, h3⟩
        have := (Prod.mk.inj ((hf c).2 h1)).1
        rw [this]
        exact h3
    · rw [if_pos he]
      constructor
      · intro h; exact absurd (Prod.mk.inj h).2 he
      · rintro ⟨c, h1, _, _⟩
        exact absurd (Prod.mk.inj ((hf c).2 h1)).2 he

theorem dn_vname {l : List (List UInt8)} {n m : Nat} (h : dn (T0 d).es l n m) : ∀ s ∈ l, vname s = true := dn_val (T0_nm h38) h

omit h38 in
theorem vn_ne {l : List (List UInt8)} (h : ∀ s ∈ l, vname s = true) : ∀ s ∈ l, s ≠ [] := fun s hs he => by
  have := h s hs
  rw [he] at this
  cases this

theorem walkR_root : walkR d [47] = (0, 0) := by
  rw [walkR_P h38, show splitR [47] = ([], 0) by decide]
  rfl

theorem walkR_dn {l : List (List UInt8)} (h0 : l ≠ []) (hv : ∀ s ∈ l, vname s = true) (hl : (jn l).length ≤ 60) {m : Nat} : walkR d (jn l) = (m, 0) ↔ dn (T0 d).es l 0 m := by
  rw [walkR_P h38, splitR_jn h0 hv hl, if_neg (show ¬ ((0 : Int) ≠ 0) by decide)]
  exact walk_dn h38 (vn_ne hv)

theorem dn_node {l : List (List UInt8)} {m : Nat} (h : dn (T0 d).es l 0 m) : m < 32 ∧ rk d m ≠ 0 ∧ (l ≠ [] → m ≠ 0) := by
  obtain ⟨h0, hG, hE⟩ := tree_facts h38
  obtain ⟨hr1, hr2⟩ := mem_dl.1 (root_in h0)
  by_cases hl : l = []
  · subst hl
    have h : m = 0 := h
    rw [h]
    exact ⟨by decide, by omega, fun h => absurd rfl h⟩
  · rw [dropLast_snoc hl] at h
    obtain ⟨c, h1, h2, h3⟩ := dn_snoc.1 h
    have hm := mem_ch h2 h3
    have hc : c ∈ (T0 d).dl := Classical.byContradiction fun hc => by
      rw [(T0 d).ch_no hc] at hm
      cases hm
    obtain ⟨a, b, e⟩ := hG.fine.ok c hc m hm
    exact ⟨b, e, fun _ => a⟩

omit h38 in
theorem foldl_addP : ∀ (V : List (List UInt8 × Nat)) (acc : List (List UInt8)), V.foldl (fun l x => addP l x.1 x.2) acc = acc ++ (V.filter fun x => decide (x.2 ≠ 0 ∧ x.1.length ≤ 60)).map (·.1)
  | [], acc => by simp
  | x :: V, acc => by
    rw [List.foldl_cons, foldl_addP V]
    unfold addP
    by_cases h : x.2 ≠ 0 ∧ x.1.length ≤ 60
    · rw [if_pos h, List.filter_cons_of_pos (by simpa using h)]
      simp
    · rw [if_neg h, List.filter_cons_of_neg (by simpa using h)]

theorem mem_pathsL {q : List UInt8} : q ∈ pathsL d ↔ q = [47] ∨ ∃ l m, l ≠ [] ∧ q = jn l ∧ q.length ≤ 60 ∧ dn (T0 d).es l 0 m := by
  unfold pathsL
  rw [foldl_addP, List.mem_append, List.mem_singleton, List.mem_map]
  constructor
  · rintro (h | ⟨x, hx, rfl⟩)
    · exact .inl h
    · obtain ⟨h1, h2⟩ := List.mem_filter.1 hx
      have h2 : x.2 ≠ 0 ∧ x.1.length ≤ 60 := by simpa using h2
      obtain ⟨l, g1, g2, g3⟩ := (mem_V (T0 d) 33 0 [] x.1 x.2).1 h1
      rw [List.nil_append] at g2
      exact .inr ⟨l, x.2, fun hl => by subst hl; exact h2.1 g3, g2, h2.2, g3⟩
  · rintro (h | ⟨l, m, hl, rfl, hq, hd⟩)
    · exact .inl h
    · have hlow := dn_low (low_root (uniqT h38)) hd
      refine .inr ⟨(jn l, m), List.mem_filter.2 ⟨(mem_V (T0 d) 33 0 [] _ _).2 ⟨l, hlow, by simp, hd⟩, ?_⟩, rfl⟩
      have := (dn_node h38 hd).2.2 hl
      simpa using ⟨this, hq⟩

theorem nodup_pathsL : (pathsL d).Nodup := by
  have hu := uniqT h38
  have hN := T0_nm h38
  have hn : (((T0 d).V 33 0 []).map (·.2)).Nodup := by
    rw [V_nodes]
    exact pre_nodup hu 33 .root
  have hpw : ((T0 d).V 33 0 []).Pairwise fun a b => a.1 ≠ b.1 := by
    have h1 : ((T0 d).V 33 0 []).Pairwise fun a b => a.2 ≠ b.2 := List.pairwise_map.1 hn
    refine h1.imp_of_mem fun {a b} ha hb hne he => hne ?_
    obtain ⟨l, g1, g2, g3⟩ := (mem_V (T0 d) 33 0 [] a.1 a.2).1 ha
    obtain ⟨l', g1', g2', g3'⟩ := (mem_V (T0 d) 33 0 [] b.1 b.2).1 hb
    have hll : l = l' := jn_inj (dn_val hN g3) (dn_val hN g3') (by rw [List.nil_append] at g2 g2'; rw [← g2, ← g2', he])
    rw [← hll] at g3'
    exact dn_fun hN g3 g3'
  unfold pathsL
  rw [foldl_addP, List.singleton_append, List.nodup_cons]
  refine ⟨fun hm => ?_, List.pairwise_map.2 (hpw.sublist List.filter_sublist)⟩
  obtain ⟨x, hx, he⟩ := List.mem_map.1 hm
  obtain ⟨h1, h2⟩ := List.mem_filter.1 hx
  have h2 : x.2 ≠ 0 ∧ x.1.length ≤ 60 := by simpa using h2
  obtain ⟨l, g1, g2, g3⟩ := (mem_V (T0 d) 33 0 [] x.1 x.2).1 h1
  rw [List.nil_append, he] at g2
  cases l with
  | nil => cases g2
  | cons s l =>
    have hv := dn_val hN g3 s (List.mem_cons_self ..)
    rw [jn_cons] at g2
    have := (List.cons.inj g2).2
    have := List.append_eq_nil_iff.1 this.symm
    rw [this.1] at hv
    cases hv
end

/-! ### sorted lists -/

theorem sortL_perm (l : List (List UInt8)) : (sortL l).Perm l := List.mergeSort_perm l _

theorem sortL_pw (l : List (List UInt8)) : (sortL l).Pairwise fun x y => decide (x ≤ y) = true :=
  List.pairwise_mergeSort (le := fun x y => decide (x ≤ y)) (fun a b c h1 h2 => decide_eq_true (List.le_trans (of_decide_eq_true h1) (of_decide_eq_true h2)))
    (fun a b => by
      rcases List.le_total a b with h | h
      · rw [decide_eq_true h]; rfl
      · rw [decide_eq_true h, Bool.or_true]) l

theorem sorted_eq {l m : List (List UInt8)} (hl : l.Pairwise fun x y => decide (x ≤ y) = true) (hm : m.Pairwise fun x y => decide (x ≤ y) = true) (h : l.Perm m) : l = m :=
  List.Perm.eq_of_pairwise (fun a b _ _ h1 h2 => List.le_antisymm (of_decide_eq_true h1) (of_decide_eq_true h2)) hl hm h

theorem sortL_congr {l m : List (List UInt8)} (h : l.Perm m) : sortL l = sortL m := sorted_eq (sortL_pw l) (sortL_pw m) ((sortL_perm l).trans (h.trans (sortL_perm m).symm))

/-- One path more. -/
theorem sortL_without {L M : List (List UInt8)} {p : List UInt8} (hL : L.Nodup) (hM : M.Nodup) (h : ∀ a, a ∈ L ↔ a ∈ M ∧ a ≠ p) (hp : p ∈ M) : ((sortL M).filter fun x => !(x == p)) = sortL L ∧ (sortL M).length = (sortL L).length + 1 := by
  have hpm : (M.filter fun x => !(x == p)).Perm L := by
    refine (List.perm_ext_iff_of_nodup (hM.sublist List.filter_sublist) hL).2 fun a => ?_
    rw [List.mem_filter, h a]
    simp
  refine ⟨sorted_eq ((sortL_pw M).sublist List.filter_sublist) (sortL_pw L) (((sortL_perm M).filter _).trans (hpm.trans (sortL_perm L).symm)), ?_⟩
  have h2 : M.Perm (p :: L) := by
    refine (List.perm_ext_iff_of_nodup hM (List.nodup_cons.2 ⟨fun hq => ((h p).1 hq).2 rfl, hL⟩)).2 fun a => ?_
    rw [List.mem_cons, h a]
    constructor
    · intro ha
      by_cases e : a = p
      · exact .inl e
      · exact .inr ⟨ha, e⟩
    · rintro (e | ⟨ha, _⟩)
      · rw [e]; exact hp
      · exact ha
  rw [sortL_len, sortL_len, h2.length_eq, List.length_cons]

end Go.Proofs.YtbfpgfopppfhoaaGreatDoor
namespace Go.Proofs.YtbfpgfopppfhoaaGreatDoor
open Go Go.Sx
set_option maxRecDepth 100000
set_option linter.unusedVariables false
set_option linter.unusedSimpArgs false

theorem getB_bitsAll {B : List UInt8} (hB : B.length = 12) {b : Nat → Nat} (j : Nat) : ∀ {i : Nat}, (∀ q, q < i → b q < 96) → (getB (bitsAll B b i) j = true ↔ getB B j = true ∧ ∀ q, q < i → b q ≠ 0 → b q ≠ j)
  | 0, _ => ⟨fun h => ⟨h, fun q hq => by omega⟩, fun h => h.1⟩
  | i + 1, hb => by
    have ih := getB_bitsAll hB (b := b) j (i := i) fun q hq => hb q (by omega)
    have hl := bitsAll_len hB b i
    have hbi := hb i (by omega)
    unfold bitsAll
    by_cases h : b i = 0
    · rw [if_pos h, ih]
      constructor
      · rintro ⟨h1, h2⟩
        refine ⟨h1, fun q hq h0 => ?_⟩
        rcases Nat.lt_or_eq_of_le (Nat.lt_succ_iff.1 hq) with h5 | h5
        · exact h2 q h5 h0
        · rw [h5] at h0; exact absurd h h0
      · rintro ⟨h1, h2⟩
        exact ⟨h1, fun q hq => h2 q (by omega)⟩
    · rw [if_neg h, getB_put false (by rw [hl]; omega)]
      by_cases hj : j = b i
      · rw [if_pos hj]
        constructor
        · intro h; cases h
        · rintro ⟨_, h2⟩
          exact absurd hj.symm (h2 i (by omega) h)
      · rw [if_neg hj, ih]
        constructor
        · rintro ⟨h1, h2⟩
          refine ⟨h1, fun q hq h0 => ?_⟩
          rcases Nat.lt_or_eq_of_le (Nat.lt_succ_iff.1 hq) with h5 | h5
          · exact h2 q h5 h0
          · rw [h5]; exact Ne.symm hj
        · rintro ⟨h1, h2⟩
          exact ⟨h1, fun q hq => h2 q (by omega)⟩

/-- What Free leaves. -/
theorem free_ok {d : List UInt8} (h0 : chk d = 0) {n : Nat} (hn : n < 32) (hn0 : n ≠ 0) (hk : rk d n ≠ 0) :
    (freeR d n).2 = 0 ∧ chk (freeR d n).1 = 0 ∧ rk (freeR d n).1 n = 0 ∧ (∀ m, m < 32 → m ≠ n → SameIno d (freeR d n).1 m) ∧ (∀ i, i / 128 ≠ 13 → i / 128 ≠ 14 + n / 8 → byt (freeR d n).1 i = byt d i) ∧
      part (freeR d n).1 n 12 = [] := by
  obtain ⟨hd, hok⟩ := chk_zero h0
  obtain ⟨p1, p2⟩ := ok_parts hok
  have hg : gete d n = 0 := (gete_iff h0).2 ⟨hn, hk⟩
  have hbl := bmp_len hd
  have hb96 : ∀ q, q < 12 → rb d n q < 96 := fun q hq => ok_blocks hok hn hq
  have hra := relAll_bits hd (rb d n) 12
  have hBl := bitsAll_len hbl (rb d n) 12
  have hgb := fun j => getB_bitsAll hbl (b := rb d n) j (i := 12) hb96
  have hfr : freeR d n = (putI (relAll d (rb d n) 12) n 0 0 (fun _ => 0), 0) := by
    unfold freeR
    rw [if_neg (by rw [hg]; simp), if_neg hn0]
  rw [hfr, hra]
  dsimp only
  have hsl := setBmp_len hd hBl
  have hsb := byt_setBmp hd hBl
  generalize bitsAll (bmp d) (rb d n) 12 = B at *
  have hpl := putI_len hsl hn 0 0 (fun _ => 0)
  obtain ⟨f1, f2, f3, f4⟩ := putI_fields hsl hn 0 0 (fun _ => 0) (by decide) (by decide) (fun i _ => by decide)
  have hpb := byt_putI hsl hn 0 0 (fun _ => 0)
  generalize putI (setBmp d B) n 0 0 (fun _ => 0) = e at *
  have hby : ∀ m, ¬ (1792 + 16 * n ≤ m ∧ m < 1792 + 16 * n + 16) → ¬ (1664 ≤ m ∧ m < 1676) → byt e m = byt d m := fun m a b => by rw [hpb, if_neg a, hsb, if_neg b]
  have hbe : bmp e = B := by
    refine byt_ext (by rw [bmp_len hpl, hBl]) fun i hi => ?_
    rw [bmp_len hpl] at hi
    unfold bmp
    rw [byt_cut (by omega) hi, hpb, if_neg (by omega), hsb, if_pos (by omega)]
    congr 1
    omega
  have hslot : ∀ m, m < 32 → m ≠ n → SlotSame d e m := fun m hm hmn r hr => hby _ (by omega) (by omega)
  have hblk : ∀ m, m < 32 → m ≠ n → ∀ y ∈ part d m 12, ∀ i, 128 * y ≤ i → i < 128 * y + 128 → byt e i = byt d i := fun m hm hmn y hy i a b => by
    have := (part_rng hok hm hy).1
    exact hby _ (by omega) (by omega)
  have hpe : part e n 12 = [] := by
    rw [List.eq_nil_iff_forall_not_mem]
    intro y hy
    obtain ⟨h0, i, hi, rfl⟩ := mem_part.1 hy
    exact h0 (f3 i hi)
  have hgb2 : ∀ j, getB B j = true ↔ getB (bmp d) j = true ∧ j ∉ part d n 12 := fun j => by
    rw [hgb j]
    constructor
    · rintro ⟨a, b⟩
      refine ⟨a, fun hj => ?_⟩
      obtain ⟨h5, i, hi, h6⟩ := mem_part.1 hj
      exact b i hi (by rw [h6]; exact h5) h6
    · rintro ⟨a, b⟩
      exact ⟨a, fun q hq h5 h6 => b (mem_part.2 ⟨by rw [← h6]; exact h5, q, hq, h6⟩)⟩
  have hOk : Ok37 e := by
    refine ok_change hok hd hpl hn (fun m hm => hby _ (by omega) (by omega)) (fun m a b => hby _ (by omega) (by omega)) hslot ?_ hblk (by rw [hpe]; simp) (fun m hm hmn y hy => by rw [hpe] at hy; cases hy) (fun j hj => ?_)
    · unfold formB
      rw [f4, if_pos (inoZ_iff.2 ⟨f1, f2, f3⟩)]
      simp [hn0]
    · rw [hbe, hgb2, hpe, ok_bit hok j]
      constructor
      · rintro ⟨h | ⟨m, hm, h⟩, h2⟩
        · exact .inl h
        · exact .inr (.inr ⟨m, hm, fun e => h2 (e ▸ h), h⟩)
      · rintro (h | h | ⟨m, hm, hmn, h⟩)
        · exact ⟨.inl h, fun h2 => by have := (part_rng hok hn h2).1; omega⟩
        · cases h
        · exact ⟨.inr ⟨m, hm, h⟩, fun h2 => p2 m n hm hn hmn j h h2⟩
  exact ⟨rfl, chk_ok hpl hOk, f1, fun m hm hmn => ⟨hslot m hm hmn, hblk m hm hmn⟩, fun i a b => hby i (by omega) (by omega), hpe⟩

structure Gone (d e : List UInt8) (at0 k m : Nat) (last : List UInt8) : Prop where
  ok : chk38 e = 0
  dir : at0 ∈ (T0 d).dl
  k8 : k < 8
  ent : (last, m) ∈ (T0 d).es at0
  name : last ≠ []
  m32 : m < 32
  m0 : m ≠ 0
  kd : rk d m ≠ 0
  free : rk e m = 0
  kinds : ∀ x, x < 32 → x ≠ m → rk e x = rk d x
  slots : ∀ x, x < 32 → x ≠ m → SlotSame d e x
  ents : ∀ a s x, ((s, x) ∈ (T0 e).es a ∧ s ≠ []) ↔ ((s, x) ∈ (T0 d).es a ∧ s ≠ [] ∧ x ≠ m)
  cont : ∀ x, x < 32 → rk d x ≠ 0 → x ≠ at0 → x ≠ m → contentR e x = contentR d x
  diff : ∃ x, ∀ i, i / 128 ≠ 13 → i / 128 ≠ 14 + m / 8 → i / 128 ≠ x → byt e i = byt d i
  part : part e m 12 = []
  leaf : (T0 d).ch m = []

theorem mem_set_empty {l : List En} {k : Nat} (hk : k < l.length) {s : List UInt8} {x : Nat} (hs : s ≠ []) (hnd : (nodes l).Nodup) (hne : l[k].1 ≠ []) : (s, x) ∈ l.set k ([], 0) ↔ (s, x) ∈ l ∧ x ≠ l[k].2 := by
  have hp := nodes_del hk hne
  have hn2 := hp.nodup_iff.1 hnd
  have hno := (List.nodup_cons.1 hn2).1
  constructor
  · intro h
    rcases List.mem_or_eq_of_mem_set h with h5 | h5
    · refine ⟨h5, fun hx => hno ?_⟩
      rw [← hx]
      exact List.mem_map.2 ⟨(s, x), List.mem_filter.2 ⟨h, by simpa using hs⟩, rfl⟩
    · exact absurd (Prod.mk.inj h5).1 hs
  · rintro ⟨h, hx⟩
    obtain ⟨i, hi, he⟩ := List.getElem_of_mem h
    have hik : k ≠ i := fun e => by subst e; rw [he] at hx; exact hx rfl
    have : (l.set k ([], 0))[i]'(by simpa using hi) = (s, x) := by rw [List.getElem_set_ne hik, he]
    rw [← this]
    exact List.getElem_mem _

theorem gone_of {d : List UInt8} (h38 : chk38 d = 0) {at0 k m : Nat} {last : List UInt8} (hdl : at0 ∈ (T0 d).dl) (hk8 : k < 8) (hent : ∀ h : k < ((T0 d).E at0).length, ((T0 d).E at0)[k] = (last, m)) (hlast : last ≠ []) (hnone : (T0 d).ch m = []) :
    (freeR (wr16 d at0 k (enB ([], 0))) m).2 = 0 ∧ Gone d (freeR (wr16 d at0 k (enB ([], 0))) m).1 at0 k m last := by
  obtain ⟨h0, hG, hE⟩ := tree_facts h38
  have hu := hG.fine.uniq
  obtain ⟨hat1, hat2⟩ := mem_dl.1 hdl
  have hEl : k < ((T0 d).E at0).length := by rw [(T0_ok d).len]; exact hk8
  have hent := hent hEl
  have hme : (last, m) ∈ (T0 d).es at0 := by
    unfold Tree.es
    rw [if_pos hdl, ← hent]
    exact List.getElem_mem _
  have hmch := mem_ch hme hlast
  obtain ⟨m0, m32, mk⟩ := hG.fine.ok at0 hdl m hmch
  have mk : rk d m ≠ 0 := mk
  have hma : m ≠ at0 := fun e => by
    rw [e] at hnone hmch
    rw [hnone] at hmch
    cases hmch
  obtain ⟨w1, w2, w3, w4, w5, w6⟩ := wr16_ok h0 hat1 hat2 hk8 (x := ([], 0)) (by decide) (fun j hj => absurd hj (by simp)) (by decide)
  have hw6 := w6 (hE at0 hdl) (.inl rfl) (.inl rfl)
  have hrk1 : ∀ x, x < 32 → rk (wr16 d at0 k (enB ([], 0))) x = rk d x := fun x hx => (slot_all (w2 x hx)).1
  obtain ⟨f1, f2, f3, f4, f5, f6⟩ := free_ok w1 m32 m0 (by rw [hrk1 m m32]; exact mk)
  refine ⟨f1, ?_⟩
  generalize (freeR (wr16 d at0 k (enB ([], 0))) m).1 = e at *
  generalize wr16 d at0 k (enB ([], 0)) = d1 at *
  have hkinds : ∀ x, x < 32 → x ≠ m → rk e x = rk d x := fun x hx hxm => by rw [(slot_all (f4 x hx hxm).slot).1, hrk1 x hx]
  have hca : contentR e at0 = contentR d1 at0 := content_same w1 f2 hat1 (by rw [hrk1 at0 hat1]; omega) (f4 at0 hat1 (Ne.symm hma))
  have hcont : ∀ x, x < 32 → rk d x ≠ 0 → x ≠ at0 → x ≠ m → contentR e x = contentR d x := fun x hx hxk hxa hxm => by
    rw [content_same w1 f2 hx (by rw [hrk1 x hx]; exact hxk) (f4 x hx hxm), content_same h0 w1 hx hxk (w3 x hx hxa)]
  have hdle : ∀ x, x ∈ (T0 e).dl ↔ x ∈ (T0 d).dl ∧ x ≠ m := fun x => by
    rw [mem_dl, mem_dl]
    by_cases hx : x = m
    · rw [hx, f3]
      constructor
      · rintro ⟨_, h⟩; cases h
      · rintro ⟨_, h⟩; exact absurd rfl h
    · constructor
      · rintro ⟨a, b⟩; exact ⟨⟨a, by rw [← hkinds x a hx]; exact b⟩, hx⟩
      · rintro ⟨⟨a, b⟩, _⟩; exact ⟨a, by rw [hkinds x a hx]; exact b⟩
  have hnd : (nodes ((T0 d).E at0)).Nodup := by rw [← (T0 d).ch_es hdl]; exact hu.nd at0
  have hEe : (T0 e).E at0 = ((T0 d).E at0).set k ([], 0) := by rw [T0_E, hca, w5, ← T0_E]
  have hents : ∀ a s x, ((s, x) ∈ (T0 e).es a ∧ s ≠ []) ↔ ((s, x) ∈ (T0 d).es a ∧ s ≠ [] ∧ x ≠ m) := fun a s x => by
    by_cases ha : a ∈ (T0 d).dl
    rotate_left
    · have e1 : (T0 d).es a = [] := if_neg ha
      have e2 : (T0 e).es a = [] := if_neg fun h => ha ((hdle a).1 h).1
      rw [e1, e2]
      simp
    by_cases ham : a = m
    · have e2 : (T0 e).es a = [] := if_neg fun h => ((hdle a).1 h).2 ham
      rw [e2]
      constructor
      · rintro ⟨h, _⟩; cases h
      · rintro ⟨h, hs, _⟩
        have := mem_ch h hs
        rw [ham, hnone] at this
        cases this
    have e1 : (T0 d).es a = (T0 d).E a := if_pos ha
    have e2 : (T0 e).es a = (T0 e).E a := if_pos ((hdle a).2 ⟨ha, ham⟩)
    by_cases haa : a = at0
    · subst haa
      rw [e1, e2, hEe]
      constructor
      · rintro ⟨h, hs⟩
        have := (mem_set_empty hEl hs hnd (by rw [hent]; exact hlast)).1 h
        rw [hent] at this
        exact ⟨this.1, hs, this.2⟩
      · rintro ⟨h, hs, hx⟩
        exact ⟨(mem_set_empty hEl hs hnd (by rw [hent]; exact hlast)).2 ⟨h, by rw [hent]; exact hx⟩, hs⟩
    · obtain ⟨a1, a2⟩ := mem_dl.1 ha
      rw [e1, e2, T0_E, T0_E, hcont a a1 (by omega) haa ham]
      constructor
      · rintro ⟨h, hs⟩
        refine ⟨h, hs, fun hx => haa (hu.par a at0 m ?_ hmch)⟩
        rw [hx] at h
        exact mem_ch (T := T0 d) (by rw [e1]; exact h) hs
      · rintro ⟨h, hs, _⟩; exact ⟨h, hs⟩
  have hch : ∀ a x, x ∈ (T0 e).ch a ↔ x ∈ (T0 d).ch a ∧ x ≠ m := fun a x => by
    constructor
    · intro h
      obtain ⟨s, h1, h2⟩ := ch_mem h
      have := (hents a s x).1 ⟨h1, h2⟩
      exact ⟨mem_ch this.1 h2, this.2.2⟩
    · rintro ⟨h, hx⟩
      obtain ⟨s, h1, h2⟩ := ch_mem h
      exact mem_ch ((hents a s x).2 ⟨h1, h2, hx⟩).1 h2
  have hchnd : ∀ a, ((T0 e).ch a).Nodup := fun a => by
    by_cases ha : a ∈ (T0 e).dl
    · obtain ⟨b1, b2⟩ := (hdle a).1 ha
      by_cases haa : a = at0
      · subst haa
        rw [(T0 e).ch_es ha, hEe]
        exact (List.nodup_cons.1 ((nodes_del hEl (by rw [hent]; exact hlast)).nodup_iff.1 hnd)).2
      · obtain ⟨a1, a2⟩ := mem_dl.1 b1
        rw [(T0 e).ch_es ha, T0_E, hcont a a1 (by omega) haa b2, ← T0_E, ← (T0 d).ch_es b1]
        exact hu.nd a
    · rw [(T0 e).ch_no ha]
      exact List.nodup_nil
  have hfine : (T0 e).Fine := by
    refine ⟨fun a ha x hx => ?_, fun a ha => hchnd a, fun a ha a' ha' x hx hx' => hu.par a a' x ((hch a x).1 hx).1 ((hch a' x).1 hx').1⟩
    obtain ⟨h1, h2⟩ := (hch a x).1 hx
    obtain ⟨q1, q2, q3⟩ := hG.fine.ok a ((hdle a).1 ha).1 x h1
    exact ⟨q1, q2, by show rk e x ≠ 0; rw [hkinds x q2 h2]; exact q3⟩
  have hrch : ∀ x, Rch (T0 d).ch x → x ≠ m → Rch (T0 e).ch x := fun x h => by
    induction h with
    | root => exact fun _ => .root
    | step hn hx ih =>
      rename_i a x
      intro hxm
      have ham : a ≠ m := fun h => by
        rw [h, hnone] at hx
        cases hx
      exact .step (ih ham) ((hch a x).2 ⟨hx, hxm⟩)
  have hok : chk38 e = 0 := by
    refine chk38_of f2 (fun a ha => ?_) hfine fun x hx hxk => ?_
    · obtain ⟨b1, b2⟩ := (hdle a).1 ha
      by_cases haa : a = at0
      · rw [haa, hca]; exact hw6
      · obtain ⟨a1, a2⟩ := mem_dl.1 b1
        rw [hcont a a1 (by omega) haa b2]
        exact hE a b1
    · have hxm : x ≠ m := fun h => by rw [h] at hxk; exact hxk f3
      exact hrch x (tree_rch h38 hx (by rw [← hkinds x hx hxm]; exact hxk)) hxm
  exact ⟨hok, hdl, hk8, hme, hlast, m32, m0, mk, f3, hkinds, fun x hx hxm r hr => by rw [(f4 x hx hxm).slot r hr, w2 x hx r hr], hents, hcont, ⟨rb d at0 0, fun i a b c => by rw [f5 i a b, w4 i c]⟩, f6, hnone⟩

/-- Unlink of a path that leads to an inode with nothing below it. -/
theorem unlink_ok {d p : List UInt8} (h38 : chk38 d = 0) {names : List (List UInt8)} {m : Nat} (hsp : splitR p = (names, 0)) (hn : names ≠ []) (hfo : followR d names 0 = (m, 0)) (hnone : (T0 d).ch m = []) :
    (unlinkR d p).2 = 0 ∧ ∃ at0 k, followR d names.dropLast 0 = (at0, 0) ∧ Gone d (unlinkR d p).1 at0 k m (names.getLastD []) := by
  have hsn := splitR_names p
  rw [hsp] at hsn
  dsimp only at hsn
  obtain ⟨at0, k, g1, g2, g3, g4, g5, g6, g7⟩ := unlink_facts h38 hn hsn hfo
  have hb : ¬ ((dirR d m).2 = 0 ∧ ∃ e ∈ (dirR d m).1, e.1 ≠ []) := by
    rintro ⟨h1, x, h2, h3⟩
    by_cases hm : m ∈ (T0 d).dl
    · rw [dirR_dir h38 hm] at h2
      have : x.2 ∈ (T0 d).ch m := mem_ch (s := x.1) (by unfold Tree.es; rw [if_pos hm]; exact h2) h3
      rw [hnone] at this
      cases this
    · rw [dirR_file h38 g5 g6 hm] at h1
      cases h1
  have hlast := getLast_eq hn
  have hlv : names.getLastD [] ≠ [] := fun e => by
    have := hsn _ (List.mem_of_getElem? hlast)
    rw [e] at this
    cases this
  obtain ⟨hk, hks⟩ := fidx_some g3
  have hdn := dropLast_snoc hn
  have hroot := mem_dl.1 (root_in (tree_facts h38).1)
  have hvn : ∀ s ∈ names, s ≠ [] := fun s hs h => by
    have := hsn s hs
    rw [h] at this
    cases this
  have hw := (walk_follow h38 names 0 hroot.1 (by omega) hvn).1
  rw [hfo] at hw
  have hd1 := (walk_dn h38 hvn).1 hw
  rw [hdn] at hd1
  obtain ⟨c, q1, q2, q3⟩ := dn_snoc.1 hd1
  have hd2 := (walk_dn h38 fun s hs => hvn s (List.dropLast_subset _ hs)).1 g1
  have hc : c = at0 := dn_fun (T0_nm h38) q1 hd2
  subst hc
  have hment : ((T0 d).E c)[k] = (names.getLastD [], m) := by
    have hm2 : (names.getLastD [], ((T0 d).E c)[k].2) ∈ (T0 d).es c := by
      unfold Tree.es
      rw [if_pos g2]
      have := List.getElem_mem hk
      rwa [show ((T0 d).E c)[k] = (names.getLastD [], ((T0 d).E c)[k].2) from Prod.ext hks rfl] at this
    have := (T0_nm h38).one c _ _ _ hm2 q2 q3
    exact Prod.ext hks this
  obtain ⟨r1, r2⟩ := gone_of h38 g2 g4 (fun _ => hment) hlv hnone
  have hu : unlinkR d p = freeR (wr16 d c k (enB ([], 0))) m := by
    unfold unlinkR
    rw [if_neg (show ¬ chk38 d ≠ 0 by rw [h38]; simp), hsp]
    dsimp only
    rw [if_neg (by decide), if_neg hn, hfo]
    dsimp only
    rw [if_neg (by decide), if_neg hb, g7]
    dsimp only
    rw [dirR_dir h38 g2]
    dsimp only
    rw [g3, Option.getD_some, unlinkR_eq h38 g2 g4]
  rw [hu]
  exact ⟨r1, c, k, g7, r2⟩

/-- When Unlink answers OK, and what it leaves then. -/
theorem unlink_gone {d p : List UInt8} (h : (unlinkR d p).2 = 0) : chk38 d = 0 ∧ ∃ names at0 k m, splitR p = (names, 0) ∧ names ≠ [] ∧ followR d names 0 = (m, 0) ∧ followR d names.dropLast 0 = (at0, 0) ∧
    Gone d (unlinkR d p).1 at0 k m (names.getLastD []) := by
  have hsn := splitR_names p
  have h' := h
  unfold unlinkR at h
  by_cases h38 : chk38 d = 0
  rotate_left
  · rw [if_pos h38] at h
    exact absurd h h38
  rw [if_neg (show ¬ chk38 d ≠ 0 by rw [h38]; simp)] at h
  generalize hsp : splitR p = sp at *
  obtain ⟨names, se⟩ := sp
  dsimp only at hsn h
  by_cases hs : se ≠ 0
  · rw [if_pos hs] at h; cases h
  rw [if_neg hs] at h
  by_cases hn : names = []
  · rw [if_pos hn] at h; cases h
  rw [if_neg hn] at h
  generalize hfo : followR d names 0 = fr at *
  obtain ⟨m, fe⟩ := fr
  dsimp only at h
  by_cases hf : fe ≠ 0
  · rw [if_pos hf] at h; exact absurd h hf
  rw [if_neg hf] at h
  have hf0 : fe = 0 := by omega
  subst hf0
  by_cases hb : (dirR d m).2 = 0 ∧ ∃ e ∈ (dirR d m).1, e.1 ≠ []
  · rw [if_pos hb] at h; cases h
  have hs0 : se = 0 := by omega
  subst hs0
  have hnone : (T0 d).ch m = [] := by
    by_cases hm : m ∈ (T0 d).dl
    · rw [dirR_dir h38 hm] at hb
      rw [List.eq_nil_iff_forall_not_mem]
      intro x hx
      obtain ⟨s, h1, h2⟩ := ch_mem hx
      refine hb ⟨rfl, (s, x), ?_, h2⟩
      unfold Tree.es at h1
      rwa [if_pos hm] at h1
    · exact (T0 d).ch_no hm
  obtain ⟨-, at0, k, a, b⟩ := unlink_ok h38 hsp hn hfo hnone
  exact ⟨h38, names, at0, k, m, rfl, hn, hfo, a, b⟩

end Go.Proofs.YtbfpgfopppfhoaaGreatDoor
namespace Go.Proofs.YtbfpgfopppfhoaaGreatDoor
open Go Go.Sx
set_option maxRecDepth 100000
set_option linter.unusedVariables false
set_option linter.unusedSimpArgs false

/-- What has been taken for an inode. -/
structure Wt (d : List UInt8) (n : Nat) (i : Nat) (o : List UInt8) (b : Nat → Nat) : Prop where
  len : o.length = 12288
  has : ∀ q, q < i → b q ≠ 0
  old : ∀ q, rb d n q ≠ 0 → b q = rb d n q
  rest : ∀ q, i ≤ q → b q = rb d n q
  new : ∀ q, q < 12 → b q ≠ 0 → rb d n q = 0 → 18 ≤ b q ∧ b q < 96 ∧ getB (bmp d) (b q) = false ∧ ∀ r, r < 128 → byt o (128 * b q + r) = 0
  inj : ∀ q q', q < 12 → q' < 12 → b q ≠ 0 → b q = b q' → q = q'
  bits : ∀ j, getB (bmp o) j = true ↔ getB (bmp d) j = true ∨ ∃ q, q < 12 ∧ b q ≠ 0 ∧ b q = j
  byts : ∀ m, ¬ (1664 ≤ m ∧ m < 1676) → (∀ q, q < 12 → b q ≠ 0 → rb d n q = 0 → m / 128 ≠ b q) → byt o m = byt d m

theorem wt_inv {d : List UInt8} (hok : Ok37 d) (hd : d.length = 12288) {n : Nat} (hn : n < 32) : ∀ {i : Nat} {o : List UInt8} {b : Nat → Nat}, i ≤ 12 → wt d (rb d n) i = some (o, b) → Wt d n i o b
  | 0, o, b, _, h => by
    cases h
    refine ⟨hd, fun q hq => by omega, fun q _ => rfl, fun q _ => rfl, fun q hq h1 h2 => absurd h2 h1, fun q q' hq hq' h1 h2 => ?_, fun j => ?_, fun m _ _ => rfl⟩
    · have hnd := (ok_parts hok).1 n hn
      refine Classical.byContradiction fun hne => ?_
      have key : ∀ a c : Nat, a < c → c < 12 → rb d n a ≠ 0 → rb d n a = rb d n c → False := fun a c hac hc ha he => by
        unfold part at hnd
        have h3 : List.Pairwise (fun x y : Nat => x ≠ y) (((List.range 12).map (rb d n)).filter (· ≠ 0)) := hnd
        rw [List.filter_map] at h3
        have h4 := List.pairwise_map.1 h3
        have h5 : (List.range 12).Pairwise fun x y => rb d n x ≠ 0 → rb d n y ≠ 0 → rb d n x ≠ rb d n y := by
          have := List.pairwise_filter.1 h4
          refine this.imp fun {x y} hxy hx hy => hxy (by simpa using hx) (by simpa using hy)
        rw [List.pairwise_iff_getElem] at h5
        have := h5 a c (by simp; omega) (by simp; omega) hac
        simp only [List.getElem_range] at this
        exact this ha (by rw [← he]; exact ha) he
      rcases Nat.lt_or_gt_of_ne hne with h5 | h5
      · exact key q q' h5 hq' h1 h2
      · exact key q' q h5 hq (by rw [← h2]; exact h1) h2.symm
    · constructor
      · exact .inl
      · rintro (h | ⟨q, hq, h1, h2⟩)
        · exact h
        · exact (ok_bit hok j).2 (.inr ⟨n, hn, mem_part.2 ⟨by rw [← h2]; exact h1, q, hq, h2⟩⟩)
  | i + 1, o, b, hi, h => by
    unfold wt at h
    cases hw : wt d (rb d n) i with
    | none => rw [hw] at h; cases h
    | some r =>
      obtain ⟨o1, b1⟩ := r
      have W := wt_inv hok hd hn (by omega) hw
      rw [hw] at h
      try dsimp only at h
      by_cases hb : b1 i = 0
      · rw [if_pos hb] at h
        cases hx : freeB (bmp o1) with
        | none => rw [hx] at h; cases h
        | some x =>
          rw [hx] at h
          cases h
          obtain ⟨hx1, hx2⟩ := freeB_lt hx
          have hxc := freeB_clear hx
          have hbl := bmp_len W.len
          have hpb : (putB (bmp o1) x true).length = 12 := by rw [putB_len, hbl]
          have hz : (List.replicate 128 (0 : UInt8)).length = 128 := List.length_replicate
          have htl := takeD_len W.len hx2
          have hsl := setBmp_len W.len hpb
          have htb : ∀ m, byt (takeD o1 x) m = if 128 * x ≤ m ∧ m < 128 * x + 128 then byt (List.replicate 128 0) (m - 128 * x) else if 1664 ≤ m ∧ m < 1676 then byt (putB (bmp o1) x true) (m - 1664) else byt o1 m := fun m => by
            unfold takeD
            rw [byt_lay (by rw [hz]; omega), hz, byt_setBmp W.len hpb]
          have hzz : ∀ r, byt (List.replicate 128 (0 : UInt8)) r = 0 := fun r => by
            unfold byt
            rw [List.getD_eq_getElem?_getD, List.getElem?_replicate]
            split <;> rfl
          have hri : rb d n i = 0 := by rw [← W.rest i (Nat.le_refl _)]; exact hb
          have hxn : ∀ q, q < 12 → b1 q ≠ 0 → b1 q ≠ x := fun q hq h1 h2 => by
            have := (W.bits x).2 (.inr ⟨q, hq, h1, h2⟩)
            rw [hxc] at this
            cases this
          have hxd : getB (bmp d) x = false := by
            cases hg : getB (bmp d) x with
            | false => rfl
            | true =>
              have := (W.bits x).2 (.inl hg)
              rw [hxc] at this
              cases this
          have hbe : bmp (takeD o1 x) = putB (bmp o1) x true := by
            refine byt_ext (by rw [bmp_len htl, hpb]) fun r hr => ?_
            rw [bmp_len htl] at hr
            unfold bmp
            rw [byt_cut (by omega) hr, htb, if_neg (by omega), if_pos (by omega)]
            congr 1
            omega
          refine ⟨htl, fun q hq => ?_, fun q h1 => ?_, fun q hq => ?_, fun q hq h1 h2 => ?_, fun q q' hq hq' h1 h2 => ?_, fun j => ?_, fun m h1 h2 => ?_⟩
          · try dsimp only
            by_cases h5 : q = i
            · rw [if_pos h5]; omega
            · rw [if_neg h5]; exact W.has q (by omega)
          · try dsimp only
            rw [if_neg (fun h => by rw [h] at h1; exact h1 hri)]
            exact W.old q h1
          · try dsimp only
            rw [if_neg (by omega)]
            exact W.rest q (by omega)
          · try dsimp only at h1 ⊢
            by_cases h5 : q = i
            · rw [if_pos h5]
              exact ⟨hx1, hx2, hxd, fun r hr => by rw [htb, if_pos (by omega)]; exact hzz _⟩
            · rw [if_neg h5] at h1 ⊢
              obtain ⟨a1, a2, a3, a4⟩ := W.new q hq h1 h2
              have := hxn q hq h1
              exact ⟨a1, a2, a3, fun r hr => by rw [htb, if_neg (by omega), if_neg (by omega)]; exact a4 r hr⟩
          · try dsimp only at h1 h2
            by_cases h5 : q = i
            · rw [if_pos h5] at h1 h2
              by_cases h6 : q' = i
              · rw [h5, h6]
              · rw [if_neg h6] at h2
                exact absurd h2.symm (hxn q' hq' (by omega))
            · rw [if_neg h5] at h1 h2
              by_cases h6 : q' = i
              · rw [if_pos h6] at h2
                exact absurd h2 (hxn q hq h1)
              · rw [if_neg h6] at h2
                exact W.inj q q' hq hq' h1 h2
          · rw [hbe, getB_put true (by rw [hbl]; omega)]
            by_cases hj : j = x
            · rw [if_pos hj]
              exact ⟨fun _ => .inr ⟨i, by omega, by (try dsimp only); rw [if_pos rfl]; omega, by (try dsimp only); rw [if_pos rfl]; exact hj.symm⟩, fun _ => rfl⟩
            · rw [if_neg hj, W.bits]
              constructor
              · rintro (h | ⟨q, hq, h1, h2⟩)
                · exact .inl h
                · have : q ≠ i := fun h => by rw [h] at h1; exact h1 hb
                  exact .inr ⟨q, hq, by (try dsimp only); rw [if_neg this]; exact h1, by (try dsimp only); rw [if_neg this]; exact h2⟩
              · rintro (h | ⟨q, hq, h1, h2⟩)
                · exact .inl h
                · try dsimp only at h1 h2
                  by_cases h5 : q = i
                  · rw [if_pos h5] at h2
                    exact absurd h2.symm hj
                  · rw [if_neg h5] at h1 h2
                    exact .inr ⟨q, hq, h1, h2⟩
          · have hmx : m / 128 ≠ x := by
              have := h2 i (by omega) (by (try dsimp only); rw [if_pos rfl]; omega) hri
              try dsimp only at this
              rwa [if_pos rfl] at this
            rw [htb, if_neg (by omega), if_neg h1]
            refine W.byts m h1 fun q hq h3 h4 => ?_
            have h5 : q ≠ i := fun h => by rw [h] at h3; exact h3 hb
            have := h2 q hq (by (try dsimp only); rw [if_neg h5]; exact h3) h4
            try dsimp only at this
            rwa [if_neg h5] at this
      · rw [if_neg hb] at h
        cases h
        exact ⟨W.len, fun q hq => by
          by_cases h5 : q = i
          · rw [h5]; exact hb
          · exact W.has q (by omega), W.old, fun q hq => W.rest q (by omega), W.new, W.inj, W.bits, W.byts⟩

theorem wd_bytes {o data : List UInt8} {b : Nat → Nat} (ho : o.length = 12288) (hb : ∀ q, q < 12 → b q < 96) (hinj : ∀ q q', q < 12 → q' < 12 → b q ≠ 0 → b q = b q' → q = q') (hhas : ∀ q, 128 * q < data.length → b q ≠ 0) (hl : data.length ≤ 1536) : ∀ k, k ≤ data.length →
    (∀ q r, q < 12 → r < 128 → b q ≠ 0 → k ≤ 128 * q + r → byt (wd o b data k) (128 * b q + r) = byt o (128 * b q + r)) ∧ (∀ m, (∀ q, q < 12 → b q ≠ 0 → m / 128 ≠ b q) → byt (wd o b data k) m = byt o m)
  | 0, _ => ⟨fun q r _ _ _ _ => rfl, fun m _ => rfl⟩
  | k + 1, hk => by
    obtain ⟨ih1, ih2⟩ := wd_bytes ho hb hinj hhas hl k (by omega)
    have hkb := hb (k / 128) (by omega)
    have hk0 := hhas (k / 128) (by omega)
    have hput : ∀ m, byt (wd o b data (k + 1)) m = if m = 128 * b (k / 128) + k % 128 then byt data k else byt (wd o b data k) m := fun m => by
      show byt (bput (wd o b data k) _ _) m = _
      rw [byt_bput (by rw [wd_len]; omega) (byt_lt _ _)]
    refine ⟨fun q r hq hr h0 hkr => ?_, fun m hm => ?_⟩
    · rw [hput, if_neg fun h => ?_, ih1 q r hq hr h0 (by omega)]
      have h5 : b q = b (k / 128) := by omega
      have := hinj q (k / 128) hq (by omega) h0 h5
      omega
    · have := hm (k / 128) (by omega) hk0
      rw [hput, if_neg (by omega), ih2 m hm]

/-- Writing to a file leaves a tree. -/
theorem write_ok {d : List UInt8} (h38 : chk38 d = 0) {n : Nat} (hg : gete d n = 0) (hk : rk d n = 1) {data : List UInt8} (he : (writeR d n data).2 = 0) : chk38 (writeR d n data).1 = 0 := by
  obtain ⟨h0, hG, hE⟩ := tree_facts h38
  obtain ⟨hd, hok⟩ := chk_zero h0
  obtain ⟨hn, -⟩ := (gete_iff h0).1 hg
  obtain ⟨p1, p2⟩ := ok_parts hok
  have hn0 : n ≠ 0 := fun h => by
    have := (mem_dl.1 (root_in h0)).2
    rw [h] at hk
    omega
  unfold writeR at he ⊢
  rw [if_neg (by rw [hg]; simp)] at he ⊢
  by_cases hdl : data.length = 0
  · rw [if_pos hdl]
    exact h38
  rw [if_neg hdl, if_neg (show ¬ rk d n = 2 by omega)] at he ⊢
  by_cases hbig : 1536 < data.length
  · rw [if_pos hbig] at he; cases he
  rw [if_neg hbig] at he ⊢
  cases hw : wt d (rb d n) ((data.length + 127) / 128) with
  | none => rw [hw] at he; cases he
  | some r =>
    obtain ⟨o, b⟩ := r
    dsimp only
    have W := wt_inv hok hd hn (by omega) hw
    have hsz := form_size (hok.form n hn)
    have hb96 : ∀ q, q < 12 → b q < 96 := fun q hq => by
      by_cases h1 : b q = 0
      · omega
      · by_cases h2 : rb d n q = 0
        · exact (W.new q hq h1 h2).2.1
        · rw [W.old q h2]
          exact ok_blocks hok hn hq
    have hb18 : ∀ q, q < 12 → b q ≠ 0 → 18 ≤ b q := fun q hq h1 => by
      by_cases h2 : rb d n q = 0
      · exact (W.new q hq h1 h2).1
      · rw [W.old q h2]
        exact (form_blocks (hok.form n hn) q hq h2).1
    have hD := wd_bytes (data := data) W.len hb96 W.inj (fun q hq => W.has q (by omega)) (by omega) data.length (Nat.le_refl _)
    obtain ⟨D1, D2⟩ := hD
    have hwl : (wd o b data data.length).length = 12288 := by rw [wd_len, W.len]
    generalize wd o b data data.length = w at *
    obtain ⟨s, hs⟩ : ∃ s, s = max (rs d n) data.length := ⟨_, rfl⟩
    rw [← hs, hk]
    have hs1 : rs d n ≤ s ∧ data.length ≤ s ∧ s ≤ 1536 := by omega
    have hpl := putI_len hwl hn 1 s b
    obtain ⟨f1, f2, f3, f4⟩ := putI_fields hwl hn 1 s b (by decide) (by omega) (fun i hi => by have := hb96 i hi; omega)
    have hpb := byt_putI hwl hn 1 s b
    generalize putI w n 1 s b = e at *
    have hby : ∀ m, ¬ (1792 + 16 * n ≤ m ∧ m < 1792 + 16 * n + 16) → ¬ (1664 ≤ m ∧ m < 1676) → (∀ q, q < 12 → b q ≠ 0 → m / 128 ≠ b q) → byt e m = byt d m := fun m h1 h2 h3 => by
      rw [hpb, if_neg h1, D2 m h3, W.byts m h2 fun q hq h4 _ => h3 q hq h4]
    have hlow : ∀ m, m / 128 < 18 → ∀ q, q < 12 → b q ≠ 0 → m / 128 ≠ b q := fun m hm q hq h => by have := hb18 q hq h; omega
    have hbe : bmp e = bmp o := by
      refine byt_ext (by rw [bmp_len hpl, bmp_len W.len]) fun r hr => ?_
      rw [bmp_len hpl] at hr
      have hol := W.len
      unfold bmp
      rw [byt_cut (by omega) hr, byt_cut (by omega) hr, hpb, if_neg (by omega), D2 _ (hlow _ (by omega))]
    have hpe : ∀ x, x ∈ part e n 12 ↔ x ≠ 0 ∧ ∃ q, q < 12 ∧ b q = x := fun x => by
      rw [mem_part]
      constructor
      · rintro ⟨h1, q, hq, h2⟩; exact ⟨h1, q, hq, by rw [← f3 q hq]; exact h2⟩
      · rintro ⟨h1, q, hq, h2⟩; exact ⟨h1, q, hq, by rw [f3 q hq]; exact h2⟩
    have hoth : ∀ m, m < 32 → m ≠ n → ∀ y ∈ part d m 12, ∀ q, q < 12 → b q ≠ 0 → y ≠ b q := fun m hm hmn y hy q hq h1 h2 => by
      by_cases h3 : rb d n q = 0
      · have h4 := (W.new q hq h1 h3).2.2.1
        have := (ok_bit hok y).2 (.inr ⟨m, hm, hy⟩)
        rw [h2, h4] at this
        cases this
      · have h5 := W.old q h3
        exact p2 m n hm hn hmn y hy (mem_part.2 ⟨by rw [h2]; exact h1, q, hq, by rw [h2, h5]⟩)
    have hslot : ∀ m, m < 32 → m ≠ n → SlotSame d e m := fun m hm hmn r hr => hby _ (by omega) (by omega) (hlow _ (by omega))
    have hblk : ∀ m, m < 32 → m ≠ n → ∀ y ∈ part d m 12, ∀ i, 128 * y ≤ i → i < 128 * y + 128 → byt e i = byt d i := fun m hm hmn y hy i a c => by
      have := (part_rng hok hm hy).1
      have h5 : i / 128 = y := by omega
      exact hby i (by omega) (by omega) fun q hq h1 => by rw [h5]; exact hoth m hm hmn y hy q hq h1
    have hOk : Ok37 e := by
      refine ok_change hok hd hpl hn (fun m hm => hby m (by omega) (by omega) (hlow m (by omega))) (fun m a c => hby m (by omega) (by omega) (hlow m (by omega))) hslot ?_ hblk ?_ (fun m hm hmn x hx hx' => ?_) (fun j hj => ?_)
      · unfold formB
        rw [f4, Bool.and_eq_true]
        refine ⟨by simp, ?_⟩
        have hnz : ¬ inoZ (rk e n) (rs e n) (rb e n) = true := fun h => by
          have := (inoZ_iff.1 h).1
          omega
        rw [if_neg hnz, decide_eq_true_eq]
        refine ⟨.inl f1, by rw [f2]; exact hs1.2.2, fun h => absurd h hn0, fun i hi h => ?_, ?_, .inl f1⟩
        · rw [f3 i hi] at h ⊢
          rw [f2]
          refine ⟨hb18 i hi h, hb96 i hi, ?_⟩
          by_cases h2 : rb d n i = 0
          · by_cases h3 : i < (data.length + 127) / 128
            · omega
            · have := W.rest i (by omega)
              rw [this] at h
              exact absurd h2 h
          · have := (form_blocks (hok.form n hn) i hi h2).2.2
            omega
        · unfold tailZ
          rw [f2]
          by_cases q1 : s % 128 = 0
          · rw [decide_eq_true q1]; rfl
          have hq12 : s / 128 < 12 := by omega
          rw [decide_eq_false q1, Bool.false_or, f3 _ hq12]
          by_cases q2 : b (s / 128) = 0
          · rw [decide_eq_true q2]; rfl
          rw [decide_eq_false q2, Bool.false_or, allZ_iff]
          have h96 := hb96 _ hq12
          have h18 := hb18 _ hq12 q2
          intro r hr
          rw [cut_len (by omega)] at hr
          rw [byt_cut (by omega) hr, hpb, if_neg (by omega), Nat.add_assoc, D1 (s / 128) (s % 128 + r) hq12 (by omega) q2 (by omega)]
          by_cases h2 : rb d n (s / 128) = 0
          · exact (W.new _ hq12 q2 h2).2.2.2 _ (by omega)
          · have hro := W.old _ h2
            have hlt := (form_blocks (hok.form n hn) _ hq12 h2).2.2
            rw [W.byts _ (by omega) fun q hq h3 h4 h5 => ?_]
            · have hf := hok.form n hn
              unfold formB at hf
              rw [Bool.and_eq_true] at hf
              have hf2 := hf.2
              have hnz2 : ¬ inoZ (rk d n) (rs d n) (rb d n) = true := fun h => by
                have := (inoZ_iff.1 h).1
                omega
              rw [if_neg hnz2, decide_eq_true_eq] at hf2
              have ht := hf2.2.2.2.2.1
              unfold tailZ at ht
              have hrq : rs d n / 128 = s / 128 := by omega
              rw [decide_eq_false (by omega), Bool.false_or, hrq, decide_eq_false h2, Bool.false_or, allZ_iff] at ht
              have hro2 : rb d n (s / 128) = b (s / 128) := hro.symm
              rw [hro2] at ht
              have hcl : (cut d (128 * b (s / 128) + rs d n % 128) (128 - rs d n % 128)).length = 128 - rs d n % 128 := cut_len (by omega)
              have := ht (s % 128 + r - rs d n % 128) (by rw [hcl]; omega)
              rw [byt_cut (by omega) (by omega)] at this
              rw [← this]
              congr 1
              omega
            · have h6 : b (s / 128) = b q := by omega
              have := W.inj _ _ hq12 hq q2 h6
              rw [← this] at h4
              exact h2 h4
      · unfold part
        have hnd : List.Pairwise (fun x y : Nat => x ≠ y) (((List.range 12).map (rb e n)).filter (· ≠ 0)) := by
          rw [List.filter_map]
          refine List.pairwise_map.2 (List.pairwise_filter.2 ?_)
          have hr : (List.range 12).Pairwise fun x y => x ≠ y := List.nodup_range
          refine hr.imp_of_mem fun {x y} hx hy hxy hx0 hy0 he => hxy ?_
          have hx := List.mem_range.1 hx
          have hy := List.mem_range.1 hy
          rw [f3 x hx, f3 y hy] at he
          have hx0 : rb e n x ≠ 0 := by simpa using hx0
          rw [f3 x hx] at hx0
          exact W.inj x y hx hy hx0 he
        exact hnd
      · obtain ⟨h1, q, hq, h2⟩ := (hpe x).1 hx
        exact hoth m hm hmn x hx' q hq (by rw [h2]; exact h1) h2.symm
      · rw [hbe, W.bits, ok_bit hok]
        constructor
        · rintro ((h | ⟨m, hm, h⟩) | ⟨q, hq, h1, h2⟩)
          · exact .inl h
          · by_cases hmn : m = n
            · subst hmn
              obtain ⟨h3, q, hq, h4⟩ := mem_part.1 h
              exact .inr (.inl ((hpe j).2 ⟨h3, q, hq, by rw [W.old q (by rw [h4]; exact h3)]; exact h4⟩))
            · exact .inr (.inr ⟨m, hm, hmn, h⟩)
          · exact .inr (.inl ((hpe j).2 ⟨by rw [← h2]; exact h1, q, hq, h2⟩))
        · rintro (h | h | ⟨m, hm, _, h⟩)
          · exact .inl (.inl h)
          · obtain ⟨h1, q, hq, h2⟩ := (hpe j).1 h
            exact .inr ⟨q, hq, by rw [h2]; exact h1, h2⟩
          · exact .inl (.inr ⟨m, hm, h⟩)
    have g0 := chk_ok hpl hOk
    have hkinds : ∀ m, m < 32 → rk e m = rk d m := fun m hm => by
      by_cases hmn : m = n
      · rw [hmn, f1, hk]
      · exact (slot_all (hslot m hm hmn)).1
    have hdle : ∀ m, m ∈ (T0 e).dl ↔ m ∈ (T0 d).dl := fun m => by
      rw [mem_dl, mem_dl]
      constructor
      · rintro ⟨a, c⟩; exact ⟨a, by rw [← hkinds m a]; exact c⟩
      · rintro ⟨a, c⟩; exact ⟨a, by rw [hkinds m a]; exact c⟩
    have hcont : ∀ m ∈ (T0 d).dl, contentR e m = contentR d m := fun m hm => by
      obtain ⟨a, c⟩ := mem_dl.1 hm
      have hmn : m ≠ n := fun h => by rw [h] at c; omega
      exact content_same h0 g0 a (by omega) ⟨hslot m a hmn, hblk m a hmn⟩
    have hch : (T0 e).ch = (T0 d).ch := funext fun m => by
      by_cases hm : m ∈ (T0 d).dl
      · rw [(T0 e).ch_es ((hdle m).2 hm), (T0 d).ch_es hm, T0_E, T0_E, hcont m hm]
      · rw [(T0 e).ch_no fun h => hm ((hdle m).1 h), (T0 d).ch_no hm]
    refine chk38_of g0 (fun m hm => ?_) ⟨fun m hm x hx => ?_, fun m hm => ?_, fun m hm m' hm' x hx hx' => ?_⟩ fun m hm hmk => ?_
    · rw [hcont m ((hdle m).1 hm)]
      exact hE m ((hdle m).1 hm)
    · rw [hch] at hx
      obtain ⟨q1, q2, q3⟩ := hG.fine.ok m ((hdle m).1 hm) x hx
      exact ⟨q1, q2, by show rk e x ≠ 0; rw [hkinds x q2]; exact q3⟩
    · rw [hch]
      exact hG.fine.nd m ((hdle m).1 hm)
    · rw [hch] at hx hx'
      exact hG.fine.one m ((hdle m).1 hm) m' ((hdle m').1 hm') x hx hx'
    · rw [hch]
      exact tree_rch h38 hm (by rw [← hkinds m hm]; exact hmk)

theorem doR_ok {d : List UInt8} (h38 : chk38 d = 0) (kind : Int) (p data : List UInt8) : chk38 (doR d kind p data) = 0 := by
  unfold doR
  split
  · split
    · exact h38
    · exact (make_made (by omega)).2.2.choose_spec.choose_spec.choose_spec.2.2.2.2.2.ok
  · split
    · split
      · exact h38
      · exact (unlink_gone (by omega)).2.choose_spec.choose_spec.choose_spec.choose_spec.2.2.2.2.ok
    · split
      · split
        · rename_i hc
          split
          · exact h38
          · exact write_ok h38 hc.2.1 hc.2.2 (by omega)
        · exact h38
      · exact h38

theorem diskR_ok {fd : List UInt8} (hF : FmtBytes fd) (l : List Opx) : chk38 (diskR fd l) = 0 := by
  have : ∀ (l : List Opx) (d : List UInt8), chk38 d = 0 → chk38 (l.foldl (fun d x => doR d x.kind x.path x.data) d) = 0 := by
    intro l
    induction l with
    | nil => exact fun d h => h
    | cons x l ih => exact fun d h => ih _ (doR_ok h _ _ _)
  exact this l fd (fresh_of hF).ok

end Go.Proofs.YtbfpgfopppfhoaaGreatDoor
namespace Go.Proofs.YtbfpgfopppfhoaaGreatDoor
open Go Go.Sx
set_option maxRecDepth 100000
set_option maxHeartbeats 4000000
set_option linter.unusedVariables false
set_option linter.unusedSimpArgs false

theorem freeR_len {d : List UInt8} {n : Nat} (h : (freeR d n).2 = 0) : (freeR d n).1.length = 12288 := by
  unfold freeR at h ⊢
  by_cases hg : gete d n ≠ 0
  · rw [if_pos hg] at h
    exact absurd h hg
  rw [if_neg hg] at h ⊢
  obtain ⟨hd, hok, m, hm, hm32, hrk⟩ := gete_zero (show gete d n = 0 by omega)
  have hm : n = m := by omega
  subst hm
  by_cases h0 : n = 0
  · rw [if_pos h0] at h
    cases h
  · rw [if_neg h0]
    exact putI_len (relAll_len hd _ _) hm32 _ _ _

theorem wt_len {b : Nat → Nat} {d : List UInt8} (hd : d.length = 12288) : ∀ {i : Nat} {o : List UInt8} {b' : Nat → Nat}, wt d b i = some (o, b') → o.length = 12288
  | 0, o, b', h => by
    cases h
    exact hd
  | i + 1, o, b', h => by
    unfold wt at h
    cases hw : wt d b i with
    | none => rw [hw] at h; cases h
    | some r =>
      obtain ⟨o2, b2⟩ := r
      have hl := wt_len hd hw
      rw [hw] at h
      dsimp only at h
      split at h
      · cases hf : freeB (bmp o2) with
        | none => rw [hf] at h; cases h
        | some x =>
          rw [hf] at h
          cases h
          exact takeD_len hl (freeB_lt hf).2
      · cases h
        exact hl

theorem writeR_len2 {d : List UInt8} {n : Nat} {data : List UInt8} (h : (writeR d n data).2 = 0) : (writeR d n data).1.length = 12288 := by
  unfold writeR at h ⊢
  by_cases hg : gete d n ≠ 0
  · rw [if_pos hg] at h
    exact absurd h hg
  rw [if_neg hg] at h ⊢
  obtain ⟨hd, hok, m, hm, hm32, hrk⟩ := gete_zero (show gete d n = 0 by omega)
  have hm : n = m := by omega
  subst hm
  by_cases h1 : data.length = 0
  · rw [if_pos h1]
    exact hd
  rw [if_neg h1] at h ⊢
  by_cases h2 : (if rk d n = 2 then 128 else 1536) < data.length
  · rw [if_pos h2] at h
    cases h
  rw [if_neg h2] at h ⊢
  cases hw : wt d (rb d n) ((data.length + 127) / 128) with
  | none => rw [hw] at h; cases h
  | some r =>
    obtain ⟨o, b⟩ := r
    exact putI_len ((wd_len o b data data.length).trans (wt_len hd hw)) hm32 _ _ _

theorem makeR_len {d p : List UInt8} {kind : Int} (h : (makeR d p kind).2.2 = 0) : (makeR d p kind).2.1.length = 12288 := by
  rw [← make_eq] at h ⊢
  unfold pmakeR at h ⊢
  by_cases h38 : chk38 d ≠ 0
  · rw [if_pos h38] at h
    exact absurd h h38
  rw [if_neg h38] at h ⊢
  have h38 : chk38 d = 0 := by omega
  obtain ⟨h0, hG, hE⟩ := tree_facts h38
  by_cases h1 : (splitR p).2 ≠ 0
  · rw [if_pos h1] at h; cases h
  rw [if_neg h1] at h ⊢
  by_cases h2 : kind ≠ 1 ∧ kind ≠ 2
  · rw [if_pos h2] at h; cases h
  rw [if_neg h2] at h ⊢
  by_cases h3 : (splitR p).1 = []
  · rw [if_pos h3] at h; cases h
  rw [if_neg h3] at h ⊢
  by_cases h4 : ((T0 d).walk (splitR p).1.dropLast 0).2 ≠ 0
  · rw [if_pos h4] at h; exact absurd h h4
  rw [if_neg h4] at h ⊢
  generalize ((T0 d).walk (splitR p).1.dropLast 0).1 = at0 at *
  have hlv : vname ((splitR p).1.getLastD []) = true := splitR_names p _ (List.mem_of_getElem? (getLast_eq h3))
  generalize (splitR p).1.getLastD [] = last at *
  by_cases h5 : ((T0 d).find at0 last).2 = 0
  · rw [if_pos h5] at h; cases h
  rw [if_neg h5] at h ⊢
  by_cases h6 : at0 ∉ (T0 d).dl
  · rw [if_pos h6] at h; cases h
  rw [if_neg h6] at h ⊢
  have h6 : at0 ∈ (T0 d).dl := Classical.byContradiction h6
  cases h7 : fidx ((T0 d).E at0) [] with
  | none => rw [h7] at h; cases h
  | some k =>
    rw [h7] at h
    dsimp only at h ⊢
    have hk := fidx_lt h7
    rw [(T0_ok d).len] at hk
    by_cases h8 : (allocR d kind.toNat).2.2 ≠ 0
    · rw [if_pos h8] at h
      exact absurd h h8
    rw [if_neg h8] at h ⊢
    obtain ⟨g1, g2, n', x', g3, g4, g5, g6, g7, g8⟩ := alloc_ok h0 (kind := kind.toNat) (by omega) (by omega)
    obtain ⟨hat1, hat2⟩ := mem_dl.1 h6
    have hne2 : at0 ≠ n' := fun e => by
      rw [e, g6] at hat2
      cases hat2
    exact wr16_len g2 (chk_zero g1).2 hat1 (by rw [(slot_all (g8 at0 hat1 hne2).1).1]; exact hat2) hk (enB_len (vname_len hlv).2)

theorem unlinkR_len {d p : List UInt8} (h : (unlinkR d p).2 = 0) : (unlinkR d p).1.length = 12288 := by
  unfold unlinkR at h ⊢
  by_cases h1 : chk38 d ≠ 0
  · rw [if_pos h1] at h; exact absurd h h1
  rw [if_neg h1] at h ⊢
  by_cases h2 : (splitR p).2 ≠ 0
  · rw [if_pos h2] at h; cases h
  rw [if_neg h2] at h ⊢
  by_cases h3 : (splitR p).1 = []
  · rw [if_pos h3] at h; cases h
  rw [if_neg h3] at h ⊢
  by_cases h4 : (followR d (splitR p).1 0).2 ≠ 0
  · rw [if_pos h4] at h; exact absurd h h4
  rw [if_neg h4] at h ⊢
  by_cases h5 : (dirR d (followR d (splitR p).1 0).1).2 = 0 ∧ ∃ e ∈ (dirR d (followR d (splitR p).1 0).1).1, e.1 ≠ []
  · rw [if_pos h5] at h; cases h
  rw [if_neg h5] at h ⊢
  exact freeR_len h

theorem doR_len {d : List UInt8} (hd : d.length = 12288) (kind : Int) (p data : List UInt8) : (doR d kind p data).length = 12288 := by
  unfold doR
  split
  · split
    · exact hd
    · exact makeR_len (by omega)
  · split
    · split
      · exact hd
      · exact unlinkR_len (by omega)
    · split
      · split
        · split
          · exact hd
          · exact writeR_len2 (by omega)
        · exact hd
      · exact hd

theorem diskR_len {fd : List UInt8} (hfd : fd.length = 12288) (l : List Opx) : (diskR fd l).length = 12288 := by
  unfold diskR
  have : ∀ (l : List Opx) (d : List UInt8), d.length = 12288 → (l.foldl (fun d x => doR d x.kind x.path x.data) d).length = 12288 := by
    intro l
    induction l with
    | nil => exact fun d h => h
    | cons x l ih => exact fun d h => ih _ (doR_len h x.kind x.path x.data)
  exact this l fd hfd

theorem chk_short {d : List UInt8} (h : d.length ≠ 12288) : chk38 d = 1 := by
  have h1 : chk d = 1 := by
    unfold chk
    rw [if_neg h]
  unfold chk38
  rw [h1]
  rfl

theorem dirsUnlink_spec (l : List Opx) (k : Hd) (hk : k.Ok l.length) (hl : l.length ≤ 4000000000000000000) (hx : ∀ x ∈ l, x.h.Ok x.data.length) (p : List UInt8) :
    PureSpec Tryz.prog 5 [k.v l.length, strV p] (fun w => OpsAt w k.a l) (fun v F => v = .bool true) := by
  have hsz : (ByteArray.mk ⟨p⟩).size = p.length := rfl
  refine PureSpec.of_xc tabOk Tryz.func5 rfl (by decide) (n := Tryz.f5.ntmps - 2) rfl rfl fun w0 av => ?_
  conv => whnf
  refine XCall.val awake_spec (fun w hw => trivial) (fun v D hv => ?_)
  obtain ⟨tr, htr⟩ : ∃ tr, true = tr := ⟨_, rfl⟩
  rw [htr] at hv
  subst hv
  conv => whnf
  repeat (refine XSame.of ?_; conv => whnf)
  refine XIf.no (by rw [← htr]; rfl) ?_
  conv => whnf
  repeat (refine XSame.of ?_; conv => whnf)
  refine XCall.val (few_spec l k hk hl) (fun w hw => hw) (fun v D hv => ?_)
  generalize hfw : fewR l = fw at hv
  subst hv
  conv => whnf
  repeat (refine XSame.of ?_; conv => whnf)
  cases fw
  · conv => whnf
    repeat (refine XSame.of ?_; conv => whnf)
    repeat' (first
      | (refine XIf.yes rfl ?_; conv => whnf))
    exact ⟨_, Ent.refl _, rfl⟩
  obtain ⟨hl20, hall⟩ := few_all hfw
  conv => whnf
  repeat (refine XSame.of ?_; conv => whnf)
  repeat' (first
    | (refine XIf.no rfl ?_; conv => whnf))
  refine XIf.split (fun hlt => ?_) (fun hlt => ?_)
  · conv => whnf
    repeat (refine XSame.of ?_; conv => whnf)
    exact ⟨_, Ent.refl _, rfl⟩
  have hp : p.length ≤ 100 := by
    have h := hlt
    simp [iGt_eq, hsz] at h
    omega
  conv => whnf
  repeat (refine XSame.of ?_; conv => whnf)
  refine XCall.pure (disk_spec l k hk hl20 fun x hxm => ⟨by have := (hall x hxm).1; omega, by have := (hall x hxm).2; omega, hx x hxm⟩) (fun w hw => hw) (fun v D hv => ?_)
  obtain ⟨fd, hF, hd, rfl, hdo, rfl⟩ := hv
  have hle := diskR_len hF.len l
  generalize diskR fd l = d at *
  have hpm := punlink_spec d hd hdo (by omega) p (by omega)
  have hrm := unlink38_spec d hd hdo (by omega) p (by omega)
  generalize unlinkR d p = M at *
  obtain ⟨dd, e⟩ := M
  dsimp only at hpm hrm
  have hcl : (cut d 1 (d.length - 1)).length = d.length - 1 := cut_len (by omega)
  have hcs := hdo.cap
  have hp3 := punlink_spec (cut d 1 (d.length - 1)) (Hd.sub hd 1) (by rw [hcl]; exact Hd.sub_ok hdo (by omega)) (by omega) p (by omega)
  obtain ⟨e3, he3⟩ : ∃ e3 : Nat, e3 = 1 := ⟨_, rfl⟩
  obtain ⟨e4, he4⟩ : ∃ e4 : Nat, e4 = 1 := ⟨_, rfl⟩
  have hu3 : unlinkR (cut d 1 (d.length - 1)) p = ([], e3) := by
    unfold unlinkR
    rw [chk_short (by omega), he3]
    rfl
  rw [hu3, hcl] at hp3
  have hp4 := pmake_spec [] Hd.nil Hd.nil_ok (by decide) p (by omega) 1
  have hu4 : pmakeR [] p 1 = (0, [], e4) := by
    unfold pmakeR
    rw [chk_short (by decide), he4]
    rfl
  rw [hu4] at hp4
  conv => whnf
  repeat (refine XSame.of ?_; conv => whnf)
  refine XCall.pure hpm (fun w hw => hw.2) (fun v D hv => ?_)
  obtain ⟨h1, rfl, ho1, rfl⟩ := hv
  conv => whnf
  repeat (refine XSame.of ?_; conv => whnf)
  refine XCall.pure hrm (fun w hw => hw.1.2) (fun v D hv => ?_)
  obtain ⟨h2, rfl, ho2, rfl⟩ := hv
  conv => whnf
  repeat (refine XSame.of ?_; conv => whnf)
  refine XVal.of_read (XRead.subFrom tabOk (t := 31) rfl rfl rfl rfl 1 rfl (by omega) hcs ?_)
  conv => whnf
  repeat (refine XSame.of ?_; conv => whnf)
  refine XCall.pure hp3 (fun w hw => By.sub hw.1.1.2 (by omega)) (fun v D hv => ?_)
  obtain ⟨h3, rfl, ho3, rfl⟩ := hv
  conv => whnf
  repeat (refine XSame.of ?_; conv => whnf)
  refine XCall.pure hp4 (fun w hw => By.nil w) (fun v D hv => ?_)
  obtain ⟨h4, rfl, ho4, rfl⟩ := hv
  conv => whnf
  repeat (refine XSame.of ?_; conv => whnf)
  refine XVal.of_read (XRead.bytes tabOk (t := 31) (u := 9) rfl rfl rfl rfl rfl rfl (l := dd) (.fact fun w hw => hw.1.1.1.2) rfl ?_)
  conv => whnf
  repeat (refine XSame.of ?_; conv => whnf)
  refine XVal.of_read (XRead.bytes tabOk (t := 31) (u := 9) rfl rfl rfl rfl rfl rfl (l := dd) (.fact fun w hw => hw.1.1.2) rfl ?_)
  conv => whnf
  repeat (refine XSame.of ?_; conv => whnf)
  refine XVal.of_read (XRead.strEq (l := dd) (m := dd) ?_)
  obtain ⟨q, hq⟩ : ∃ q, q = (dd == dd) := ⟨_, rfl⟩
  rw [← hq]
  have hq : q = true := by rw [hq]; simp
  conv => whnf
  repeat (refine XSame.of ?_; conv => whnf)
  refine ⟨_, Ent.refl _, ?_⟩
  subst he3 he4
  simp [hq, iEq_eq]

end Go.Proofs.YtbfpgfopppfhoaaGreatDoor
namespace Go.Proofs.YtbfpgfopppfhoaaGreatDoor
open Go Go.Sx
set_option maxRecDepth 100000
set_option maxHeartbeats 4000000
set_option linter.unusedVariables false
set_option linter.unusedSimpArgs false

theorem row_by {w0 : World} {R : Nat → Nat → Prop} {av : Nat → Prop} {w : World} {bs : List (Nat × Nat)} {cs : List (List Value)} {F : Fx} {b cap : Nat} {l : List UInt8} {Z : List Value} (hm : (b, Row.c (l.map byteV ++ Z)) ∈ F.rs) (hst : St w0 R av w bs cs F) : By w ⟨some ⟨b, 0, none⟩, cap⟩ l := by
  have h := (Sees.row hm w hst).take l.length
  have e : l.length = (l.map byteV).length := by simp
  rw [e, List.take_left] at h
  exact h

theorem loc_by (h : Hd) (l : List UInt8) : Go.Sx.Loc fun w => By w h l := Loc.row _ _

theorem doO_spec (d : List UInt8) (hd : d.length = 12288) (b cap : Nat) (Z : List Value) (hc : d.length ≤ cap) (x : Opx) (hp : x.path.length ≤ 200) (hk : x.h.Ok x.data.length) (hdt : x.data.length ≤ 1000000) :
    RowsSpec Tryz.prog 44 [.slice (some ⟨b, 0, none⟩) d.length cap, .agg ⟨opC x⟩] [(b, Row.c (d.map byteV ++ Z))] (fun w => By w x.h x.data) (RelO (doR d x.kind x.path x.data)) := by
  obtain ⟨kind, p, kd, data⟩ := x
  dsimp only at hp hk hdt ⊢
  have hl : d.length ≤ 1000000 := by omega
  have hh : (⟨some ⟨b, 0, none⟩, cap⟩ : Hd).Ok d.length := ⟨fun h => (by cases h), hc⟩
  have hml := fun h => makeR_len (d := d) (p := p) (kind := kind) h
  obtain ⟨M, hM⟩ : ∃ y, y = doR d kind p data := ⟨_, rfl⟩
  rw [← hM]
  unfold doR at hM
  have hsame : ∀ (D : World → Prop) (rs : List (Nat × Row)), ∃ F', Ent ⟨D, [] ++ [(b, Row.c (d.map byteV ++ Z))] ++ rs⟩ F' ∧ RelO d (.slice (some ⟨b, 0, none⟩) d.length cap) F' := fun D rs => relO_row rfl hc
  refine RowsSpec.of_xc tabOk Tryz.func44 rfl (by decide) (n := Tryz.f44.ntmps - 2) rfl rfl (by simp) fun w0 av => ?_
  conv => whnf
  intro b0
  conv => whnf
  generalize q1 : iEq kind 1 = c1
  cases c1
  case' true =>
    have hk1 : kind = 1 := by simpa [iEq_eq] using q1
    rw [if_pos (.inl hk1)] at hM
    have hmk := make38W_spec d ⟨some ⟨b, 0, none⟩, cap⟩ hh hl p hp kind
    generalize makeR d p kind = mk at *
    obtain ⟨n, d2, e⟩ := mk
    dsimp only at hM hmk hml
    conv => whnf
    refine XCall.from hmk (loc_by _ _) (fun w hst => row_by (Z := Z) (by simp) hst) (fun v D hv => ?_)
    rcases hv with ⟨b4, c4, Z4, rfl, hc4, rfl⟩ | ⟨rfl, rfl, rfl⟩
    · refine ⟨fun w => trivial, ?_⟩
      conv => whnf
      refine XIf.split (fun he => ?_) (fun he => ?_)
      · have he' : e ≠ 0 := by
          simp [iNe_eq] at he
          omega
        rw [if_pos he'] at hM
        rw [hM]
        conv => whnf
        exact hsame _ _
      · have he' : e = 0 := by
          simp [iNe_eq] at he
          omega
        rw [if_neg (by omega)] at hM
        rw [hM]
        conv => whnf
        exact relO_row (r1 := [(b, Row.c (d.map byteV ++ Z))]) (r2 := []) rfl hc4
    · refine ⟨fun w => trivial, ?_⟩
      have he' : e ≠ 0 := fun h => by
        have := hml h
        simp at this
      rw [if_pos he'] at hM
      rw [hM]
      conv => whnf
      refine XIf.yes (by simp [iNe_eq]; omega) ?_
      conv => whnf
      exact hsame _ _
  conv => whnf
  generalize q2 : iEq kind 2 = c2
  cases c2
  case' true =>
    have hk1 : kind = 2 := by simpa [iEq_eq] using q2
    rw [if_pos (.inr hk1)] at hM
    have hmk := make38W_spec d ⟨some ⟨b, 0, none⟩, cap⟩ hh hl p hp kind
    generalize makeR d p kind = mk at *
    obtain ⟨n, d2, e⟩ := mk
    dsimp only at hM hmk hml
    conv => whnf
    refine XCall.from hmk (loc_by _ _) (fun w hst => row_by (Z := Z) (by simp) hst) (fun v D hv => ?_)
    rcases hv with ⟨b4, c4, Z4, rfl, hc4, rfl⟩ | ⟨rfl, rfl, rfl⟩
    · refine ⟨fun w => trivial, ?_⟩
      conv => whnf
      refine XIf.split (fun he => ?_) (fun he => ?_)
      · have he' : e ≠ 0 := by
          simp [iNe_eq] at he
          omega
        rw [if_pos he'] at hM
        rw [hM]
        conv => whnf
        exact hsame _ _
      · have he' : e = 0 := by
          simp [iNe_eq] at he
          omega
        rw [if_neg (by omega)] at hM
        rw [hM]
        conv => whnf
        exact relO_row (r1 := [(b, Row.c (d.map byteV ++ Z))]) (r2 := []) rfl hc4
    · refine ⟨fun w => trivial, ?_⟩
      have he' : e ≠ 0 := fun h => by
        have := hml h
        simp at this
      rw [if_pos he'] at hM
      rw [hM]
      conv => whnf
      refine XIf.yes (by simp [iNe_eq]; omega) ?_
      conv => whnf
      exact hsame _ _
  have hk12 : ¬ (kind = 1 ∨ kind = 2) := by
    simp [iEq_eq] at q1 q2
    omega
  rw [if_neg hk12] at hM
  conv => whnf
  generalize q3 : iEq kind 3 = c3
  cases c3
  case' true =>
    have hk3 : kind = 3 := by simpa [iEq_eq] using q3
    rw [if_pos hk3] at hM
    have hmk := unlink38W_spec d ⟨some ⟨b, 0, none⟩, cap⟩ hh hl p hp
    have hul := fun h => unlinkR_len (d := d) (p := p) h
    generalize unlinkR d p = mk at *
    obtain ⟨d2, e⟩ := mk
    dsimp only at hM hmk hul
    conv => whnf
    refine XCall.from hmk (loc_by _ _) (fun w hst => row_by (Z := Z) (by simp) hst) (fun v D hv => ?_)
    rcases hv with ⟨b4, c4, Z4, rfl, hc4, rfl⟩ | ⟨rfl, rfl, rfl⟩
    · refine ⟨fun w => trivial, ?_⟩
      conv => whnf
      refine XIf.split (fun he => ?_) (fun he => ?_)
      · have he' : e ≠ 0 := by
          simp [iNe_eq] at he
          omega
        rw [if_pos he'] at hM
        rw [hM]
        conv => whnf
        exact hsame _ _
      · have he' : e = 0 := by
          simp [iNe_eq] at he
          omega
        rw [if_neg (by omega)] at hM
        rw [hM]
        conv => whnf
        exact relO_row (r1 := [(b, Row.c (d.map byteV ++ Z))]) (r2 := []) rfl hc4
    · refine ⟨fun w => trivial, ?_⟩
      have he' : e ≠ 0 := fun h => by
        have := hul h
        simp at this
      rw [if_pos he'] at hM
      rw [hM]
      conv => whnf
      refine XIf.yes (by simp [iNe_eq]; omega) ?_
      conv => whnf
      exact hsame _ _
  have hk3 : ¬ kind = 3 := by simpa [iEq_eq] using q3
  rw [if_neg hk3] at hM
  conv => whnf
  generalize q4 : iEq kind 4 = c4
  cases c4
  case' false =>
    have hk4 : ¬ kind = 4 := by simpa [iEq_eq] using q4
    rw [if_neg hk4] at hM
    rw [hM]
    conv => whnf
    repeat' (first
      | (refine XIf.no rfl ?_; conv => whnf))
    refine XIf.yes (by simp [iNe_eq]) ?_
    conv => whnf
    exact hsame _ _
  have hk4 : kind = 4 := by simpa [iEq_eq] using q4
  rw [if_pos hk4] at hM
  have hwk := walk38_spec d ⟨some ⟨b, 0, none⟩, cap⟩ hh hl p hp
  generalize walkR d p = wk at *
  obtain ⟨n, f⟩ := wk
  dsimp only at hM hwk
  unfold RelII at hwk
  conv => whnf
  repeat' (first
    | (refine XIf.yes rfl ?_; conv => whnf))
  refine XCall.look hwk (loc_by _ _) (fun w hst => row_by (Z := Z) (by simp) hst) ?_
  conv => whnf
  obtain ⟨k, s, bl, hL, hE, hE0⟩ := getL_ino0 d n
  have hgt := get37_spec d ⟨some ⟨b, 0, none⟩, cap⟩ hh hl n
  rw [hL] at hgt
  generalize hg : gete d n = ge at hgt hM hE hE0
  refine XCall.look hgt (loc_by _ _) (fun w hst => row_by (Z := Z) (by simp) hst) ?_
  conv => whnf
  intro b1
  conv => whnf
  repeat (refine XSame.of ?_; conv => whnf)
  have hcond : (iEq (f : Int) 0 && iEq (k : Int) 1) = decide (f = 0 ∧ ge = 0 ∧ rk d n = 1) := by
    have e1 : iEq (f : Int) 0 = decide (f = 0) := iEq_nat f 0
    have e2 : iEq (k : Int) 1 = decide (k = 1) := iEq_nat k 1
    rw [e1, e2, Bool.eq_iff_iff]
    simp only [Bool.and_eq_true, decide_eq_true_eq]
    constructor
    · rintro ⟨h1, h2⟩
      by_cases hge : ge = 0
      · have := (hE hge).1
        rw [Int.toNat_natCast] at this
        exact ⟨h1, hge, by omega⟩
      · have := hE0 hge
        omega
    · rintro ⟨h1, h2, h3⟩
      have := (hE h2).1
      rw [Int.toNat_natCast] at this
      exact ⟨h1, by omega⟩
  rw [hcond]
  refine XIf.split (fun hq => ?_) (fun hq => ?_)
  · have hq' : f = 0 ∧ ge = 0 ∧ rk d n = 1 := of_decide_eq_true hq
    rw [if_pos hq'] at hM
    have hwr := write37W_spec d ⟨some ⟨b, 0, none⟩, cap⟩ hh hl n 0 rfl data kd hk hdt
    have hwl := fun h => writeR_len2 (d := d) (n := n) (data := data) h
    generalize writeR d n data = wr at *
    obtain ⟨d2, e⟩ := wr
    dsimp only at hM hwr hwl
    conv => whnf
    refine XCall.from hwr (Loc.and (loc_by _ _) (loc_by _ _)) (fun w hst => ⟨row_by (Z := Z) (by simp) hst, hst.now⟩) (fun v D hv => ?_)
    rcases hv with ⟨b4, c4, Z4, rfl, hc4, rfl⟩ | ⟨rfl, rfl, rfl⟩
    · refine ⟨fun w => trivial, ?_⟩
      conv => whnf
      refine XIf.split (fun he => ?_) (fun he => ?_)
      · have he' : e ≠ 0 := by
          simp [iNe_eq] at he
          omega
        rw [if_pos he'] at hM
        rw [hM]
        conv => whnf
        exact hsame _ _
      · have he' : e = 0 := by
          simp [iNe_eq] at he
          omega
        rw [if_neg (by omega)] at hM
        rw [hM]
        conv => whnf
        exact relO_row (r1 := [(b, Row.c (d.map byteV ++ Z))]) (r2 := []) rfl hc4
    · refine ⟨fun w => trivial, ?_⟩
      have he' : e ≠ 0 := fun h => by
        have := hwl h
        simp at this
      rw [if_pos he'] at hM
      rw [hM]
      conv => whnf
      refine XIf.yes (by simp [iNe_eq]; omega) ?_
      conv => whnf
      exact hsame _ _
  · have hq' : ¬ (f = 0 ∧ ge = 0 ∧ rk d n = 1) := of_decide_eq_false hq
    rw [if_neg hq'] at hM
    rw [hM]
    conv => whnf
    refine XIf.yes (by simp [iNe_eq]) ?_
    conv => whnf
    exact hsame _ _

theorem diskO_spec (l : List Opx) (k : Hd) (hk : k.Ok l.length) (hl : l.length ≤ 20) (hx : ∀ x ∈ l, x.path.length ≤ 200 ∧ x.data.length ≤ 1000000 ∧ x.h.Ok x.data.length) :
    PureSpec Tryz.prog 19 [k.v l.length] (fun w => OpsAt w k.a l) (fun v F => ∃ fd, FmtBytes fd ∧ RelO (diskR fd l) v F) := by
  refine PureSpec.of_xc tabOk Tryz.func19 rfl (by decide) (n := Tryz.f19.ntmps - 1) rfl rfl fun w0 av => ?_
  conv => whnf
  refine XCall.pure formatO_spec (fun w hw => trivial) (fun v D hv => ?_)
  obtain ⟨fd, hF, b0, c0, Z0, rfl, hc0, rfl⟩ := hv
  have hfl := hF.len
  conv => whnf
  refine XStop.loop tabOk (ι := Nat × List UInt8 × Nat × Nat × List Value) ([3, 4] ++ List.range' 6 16) (fun x => x.1 ≤ l.length ∧ l.foldl (fun d x => doR d x.kind x.path x.data) fd = (l.drop x.1).foldl (fun d x => doR d x.kind x.path x.data) x.2.1 ∧ x.2.1.length = 12288 ∧ x.2.1.length ≤ x.2.2.2.1)
    (fun x => [(3, .v (.slice (some ⟨x.2.2.1, 0, none⟩) x.2.1.length x.2.2.2.1)), (4, .v (.int .i64 (x.1 : Int)))]) (fun _ => []) (fun x => ⟨fun w => OpsAt w k.a l, [(x.2.2.1, Row.c (x.2.1.map byteV ++ x.2.2.2.2))]⟩)
    (fun x => l.length - x.1) (0, fd, b0, c0, Z0) ⟨Nat.zero_le _, rfl, hfl, hc0⟩ ?_ rfl (Ent.of_le ⟨by simp [Fx.and], fun w hw => hw.1⟩) fun x hx' => ?_
  · conv => whnf
    repeat (first | exact FLe.nil | refine FLe.any ?_ | refine FLe.cons ?_)
  obtain ⟨i, d, b, cap, Z⟩ := x
  obtain ⟨hi, hfo, hdl, hcap⟩ := hx'
  dsimp only at hi hfo hdl hcap ⊢
  conv => whnf
  repeat (refine XSame.of ?_; conv => whnf)
  refine XIf.split (fun hlt => ?_) (fun hlt => ?_)
  · have hlt' : i < l.length := by
      simp [iLt_eq] at hlt
      omega
    obtain ⟨x1, x2, x3⟩ := hx _ (List.getElem_mem hlt')
    rw [List.drop_eq_getElem_cons hlt', List.foldl_cons] at hfo
    have hds := doO_spec d hdl b cap Z hcap l[i] x1 x3 x2
    have hle := doR_len hdl l[i].kind l[i].path l[i].data
    generalize doR d l[i].kind l[i].path l[i].data = d2 at *
    conv => whnf
    refine XVal.of_read (XRead.index tabOk (t := 29) rfl rfl rfl (by omega) (by omega) hk.nil fun ad had => ?_)
    conv => whnf
    refine XVal.of_read (XRead.loads tabOk (t := 70) rfl rfl (ad := ad) (k := i * 3) (L := opCs l) (m := opC l[i]) (.fact fun w hw => had ▸ hw.1) (by simp) (opCs_get hlt') rfl ?_)
    conv => whnf
    refine XCall.ent (F' := ⟨fun w => OpsAt w k.a l, [] ++ [(b, Row.c (d.map byteV ++ Z))] ++ []⟩) (Ent.of_le ⟨by simp, fun w hw => hw⟩) ?_
    refine XCall.rows hds (fun w hw => hw.2 _ (List.getElem_mem hlt')) (fun v D hv => ?_)
    obtain ⟨b2, cap2, Z2, rfl, hc2, rfl⟩ := hv
    conv => whnf
    refine ⟨(i + 1, d2, b2, cap2, Z2), ⟨⟨hlt', hfo, hle, hc2⟩, by dsimp only; omega⟩, ?_, ?_, ?_⟩
    · conv => whnf
      refine ⟨?_, rfl⟩
      repeat (first | exact FLe.nil | refine FLe.any ?_ | refine FLe.cons ?_ | refine FLe.eq (by rw [wrap_i64 (by omega)]; rfl) ?_)
    · conv => whnf
      exact trivial
    · refine Ent.of_le ⟨by simp, fun w hw => hw.1⟩
  · have hie : i = l.length := by
      simp [iLt_eq] at hlt
      omega
    subst hie
    rw [List.drop_length] at hfo
    have hfo : diskR fd l = d := hfo
    conv => whnf
    exact ⟨⟨fun _ => True, [(b, Row.c (d.map byteV ++ Z))]⟩, Ent.of_le ⟨by simp, fun w hw => trivial⟩, fd, hF, b, cap, Z, by rw [hfo], by rw [hfo]; exact hcap, by rw [hfo]⟩

end Go.Proofs.YtbfpgfopppfhoaaGreatDoor
namespace Go.Sx
open Go
section
variable {P : Program} {tab : Tab} {w0 : World} {R : Nat → Nat → Prop} {av : Nat → Prop} {bs : List (Nat × Nat)} {cs : List (List Value)} {F : Fx}
theorem XRead.strLt {t : TypeId} {x y : Operand} {l m : List UInt8} {K : Value → Prop} (h : K (.bool (Op.bytesLess l m))) :
    XRead P w0 R av (do eqGuard .lss t x y (strV l) (strV m); binOp .lss t (strV l) (strV m)) bs cs F K := by
  refine (XRead_iff _ _ _ _).2 ⟨_, fun w _ => ?_, h⟩
  unfold strV
  rw [run_bind_ok (eqGuard_str _ _ _ _ _ _ w)]
  simp only [binOp, Op.stringOp, toList_mk]
  rfl

theorem XRead.strGe {t : TypeId} {x y : Operand} {l m : List UInt8} {K : Value → Prop} (h : K (.bool (!Op.bytesLess l m))) :
    XRead P w0 R av (do eqGuard .geq t x y (strV l) (strV m); binOp .geq t (strV l) (strV m)) bs cs F K := by
  refine (XRead_iff _ _ _ _).2 ⟨_, fun w _ => ?_, h⟩
  unfold strV
  rw [run_bind_ok (eqGuard_str _ _ _ _ _ _ w)]
  simp only [binOp, Op.stringOp, toList_mk]
  rfl
end
end Go.Sx

namespace Go.Proofs.YtbfpgfopppfhoaaGreatDoor
open Go Go.Sx
set_option maxRecDepth 100000
set_option maxHeartbeats 4000000
set_option linter.unusedVariables false
set_option linter.unusedSimpArgs false

/-- What directory says. -/
noncomputable def dirE (d : List UInt8) (n : Int) : Nat := if chk38 d ≠ 0 then chk38 d else (dirR d n).2

def RelDi (X : Value) (d : List UInt8) (e : Nat) (v : Value) (F : Fx) : Prop :=
  if e = 0 then ∃ bt bm H, (∀ n, (H n).Ok 8) ∧ v = .tuple #[.pointer (some ⟨bt, 0, none⟩), .int .i64 (e : Int)] ∧ F = ⟨TreeAt (theTree d H) X bt bm, []⟩
  else ∃ p, v = .tuple #[.pointer p, .int .i64 (e : Int)] ∧ F = ⟨fun _ => True, []⟩

theorem dirR_e (d : List UInt8) (n : Int) : (dirR d n).2 = if gete d n ≠ 0 then gete d n else if rk d n.toNat ≠ 2 then 14 else 0 := by
  unfold dirR
  split
  · rfl
  · split
    · rfl
    · rfl

theorem directory_spec (d : List UInt8) (h : Hd) (hh : h.Ok d.length) (hl : d.length ≤ 1000000) (n : Int) :
    PureSpec Tryz.prog 76 [h.v d.length, .int .i64 n] (fun w => By w h d) (RelDi (h.v d.length) d (dirE d n)) := by
  have hos := openT_spec d h hh hl
  rw [openE_eq] at hos
  obtain ⟨E, hE⟩ : ∃ e, e = dirE d n := ⟨_, rfl⟩
  rw [← hE]
  unfold dirE at hE
  refine PureSpec.of_xc tabOk Tryz.func76 rfl (by decide) (n := Tryz.f76.ntmps - 2) rfl rfl fun w0 av => ?_
  conv => whnf
  refine XCall.pure hos (fun w hw => hw) (fun v D hv => ?_)
  unfold RelTr at hv
  by_cases h0 : chk38 d = 0
  rotate_left
  · rw [if_neg h0] at hv
    rw [if_pos h0] at hE
    obtain ⟨q, rfl, rfl⟩ := hv
    rw [← hE] at h0 ⊢
    conv => whnf
    repeat (refine XSame.of ?_; conv => whnf)
    refine XIf.yes (by simp [iNe_eq]; omega) ?_
    conv => whnf
    repeat (refine XSame.of ?_; conv => whnf)
    refine ⟨⟨fun _ => True, []⟩, Ent.bare fun _ _ => trivial, ?_⟩
    unfold RelDi
    rw [if_neg h0]
    exact ⟨_, rfl, rfl⟩
  rw [if_pos h0] at hv
  rw [if_neg (by rw [h0]; simp), dirR_e] at hE
  obtain ⟨bt, bm, H, hH, rfl, rfl⟩ := hv
  have hG := pGet_spec d h hh hl n
  obtain ⟨k, s, b, hL, hE1, hE0⟩ := getL_ino0 d n
  rw [hL] at hG
  have hfin : ∀ D : World → Prop, (∀ w, D w → E = 0 → TreeAt (theTree d H) (h.v d.length) bt bm w) → ∃ F', Ent ⟨D, []⟩ F' ∧ RelDi (h.v d.length) d E (.tuple #[.pointer (some ⟨bt, 0, none⟩), .int .i64 (E : Int)]) F' := fun D hD => by
    by_cases hE5 : E = 0
    · refine ⟨⟨TreeAt (theTree d H) (h.v d.length) bt bm, []⟩, Ent.imp fun w hw => hD w hw hE5, ?_⟩
      unfold RelDi
      rw [if_pos hE5]
      exact ⟨bt, bm, H, hH, rfl, rfl⟩
    · refine ⟨⟨fun _ => True, []⟩, Ent.imp fun w hw => trivial, ?_⟩
      unfold RelDi
      rw [if_neg hE5]
      exact ⟨some ⟨bt, 0, none⟩, rfl, rfl⟩
  generalize gete d n = g at *
  generalize rk d n.toNat = kd at *
  generalize theTree d H = T at *
  generalize chk38 d = c at *
  subst h0
  conv => whnf
  repeat (refine XSame.of ?_; conv => whnf)
  refine XIf.no (by simp [iNe_eq]) ?_
  conv => whnf
  repeat (refine XSame.of ?_; conv => whnf)
  refine XCall.val hG (fun w hw => hw.1) (fun v D hv => ?_)
  subst hv
  conv => whnf
  repeat (refine XSame.of ?_; conv => whnf)
  intro b8
  conv => whnf
  repeat (refine XSame.of ?_; conv => whnf)
  have hcond : (iEq (g : Int) 0 && iNe (k : Int) 2) = decide (g = 0 ∧ kd ≠ 2) := by
    rw [iEq_eq, iNe_eq, Bool.eq_iff_iff]
    simp only [Bool.and_eq_true, decide_eq_true_eq, beq_iff_eq, bne_iff_ne, ne_eq]
    constructor
    · rintro ⟨h1, h2⟩
      have hg : g = 0 := by omega
      exact ⟨hg, by rw [← (hE1 hg).1]; omega⟩
    · rintro ⟨h1, h2⟩
      have := (hE1 h1).1
      exact ⟨by omega, by omega⟩
  rw [hcond]
  refine XIf.split (fun hq => ?_) (fun hq => ?_)
  · have hq' : g = 0 ∧ kd ≠ 2 := by simpa using hq
    have hEE : E = 14 := by rw [hE, if_neg (by omega), if_pos hq'.2]
    subst hEE
    conv => whnf
    repeat (refine XSame.of ?_; conv => whnf)
    exact hfin _ fun w hw h => by cases h
  · have hq' : ¬ (g = 0 ∧ kd ≠ 2) := by simpa using hq
    have hEE : E = g := by
      rw [hE]
      by_cases h1 : g = 0
      · rw [if_neg (by omega), if_neg (by omega), h1]
      · rw [if_pos h1]
    rw [hEE] at hfin ⊢
    conv => whnf
    repeat (refine XSame.of ?_; conv => whnf)
    exact hfin _ fun w hw h => hw.2

end Go.Proofs.YtbfpgfopppfhoaaGreatDoor
namespace Go.Proofs
open Go.Shelf
def Tryz.keys78_ren : Go.Shelf.Ren := ⟨fun | 7 => 78 | 10 => 118 | n => n, fun | 23 => 123 | 26 => 9 | 3 => 4 | 28 => 126 | 0 => 0 | 27 => 125 | 33 => 27 | 4 => 4 | n => n, fun | n => n⟩
theorem Tryz.keys78 : Go.Proofs.SlLaysZ.n7 Tryz.prog Tryz.keys78_ren := {
  mixed := by kernel_rfl
  f7 := ⟨Tryz.f78.name, by decide, Tryz.func78.trans (congrArg some (by kernel_rfl))⟩
  f10 := ⟨Tryz.f118.name, by decide, Tryz.func118.trans (congrArg some (by kernel_rfl))⟩
  t0 := Tryz.underlying0
  a0 := Tryz.isAgg0
  z0 := Tryz.sizeOf0
  v0 := Tryz.zeroValue0
  t4 := Tryz.underlying4
  a4 := Tryz.isAgg4
  z4 := Tryz.sizeOf4
  v4 := Tryz.zeroValue4
  t23 := Tryz.underlying123
  a23 := Tryz.isAgg123
  z23 := Tryz.sizeOf123
  v23 := Tryz.zeroValue123
  t26 := Tryz.underlying9
  a26 := Tryz.isAgg9
  z26 := Tryz.sizeOf9
  v26 := Tryz.zeroValue9
  t27 := Tryz.underlying125
  a27 := Tryz.isAgg125
  z27 := Tryz.sizeOf125
  v27 := Tryz.zeroValue125
  t28 := Tryz.underlying126
  a28 := Tryz.isAgg126
  z28 := Tryz.sizeOf126
  v28 := Tryz.zeroValue126
  t33 := Tryz.underlying27
  a33 := Tryz.isAgg27
  z33 := Tryz.sizeOf27
  v33 := Tryz.zeroValue27 }
def Tryz.sorted77_ren : Go.Shelf.Ren := ⟨fun | 6 => 77 | 8 => 117 | 9 => 65 | 11 => 149 | 13 => 106 | 12 => 105 | 23 => 144 | 24 => 145 | 14 => 135 | 15 => 136 | 16 => 137 | 17 => 138 | 18 => 139 | 19 => 140 | 20 => 141 | 21 => 142 | 22 => 143 | 25 => 164 | 26 => 165 | 27 => 166 | 28 => 167 | 29 => 168 | 30 => 169 | 31 => 181 | n => n, fun | 26 => 9 | 28 => 126 | 24 => 23 | 0 => 0 | 3 => 3 | 37 => 151 | 48 => 181 | 50 => 183 | 4 => 4 | 40 => 174 | 39 => 173 | 45 => 178 | 5 => 5 | 9 => 9 | 51 => 205 | 55 => 209 | 57 => 216 | 58 => 217 | 33 => 27 | n => n, fun | n => n⟩
theorem Tryz.sorted77 : Go.Proofs.SlLaysZ.n6 Tryz.prog Tryz.sorted77_ren := {
  mixed := by kernel_rfl
  f6 := ⟨Tryz.f77.name, by decide, Tryz.func77.trans (congrArg some (by kernel_rfl))⟩
  f8 := ⟨Tryz.f117.name, by decide, Tryz.func117.trans (congrArg some (by kernel_rfl))⟩
  f11 := ⟨Tryz.f149.name, by decide, Tryz.func149.trans (congrArg some (by kernel_rfl))⟩
  t0 := Tryz.underlying0
  a0 := Tryz.isAgg0
  z0 := Tryz.sizeOf0
  v0 := Tryz.zeroValue0
  t24 := Tryz.underlying23
  a24 := Tryz.isAgg23
  z24 := Tryz.sizeOf23
  v24 := Tryz.zeroValue23
  t26 := Tryz.underlying9
  a26 := Tryz.isAgg9
  z26 := Tryz.sizeOf9
  v26 := Tryz.zeroValue9
  t28 := Tryz.underlying126
  a28 := Tryz.isAgg126
  z28 := Tryz.sizeOf126
  v28 := Tryz.zeroValue126
  i26 := by kernel_rfl }
end Go.Proofs
namespace Go.Proofs.YtbfpgfopppfhoaaGreatDoor
open Go Go.Sx
set_option maxRecDepth 100000
set_option maxHeartbeats 4000000
set_option linter.unusedVariables false
set_option linter.unusedSimpArgs false

def setKV (ns : List (List UInt8)) : KVs := ns.map fun s => (strV s, .bool true)

/-- How an element of such a map reads. -/
def readB (v : Value) : Option (DataW Unit × List MemPlace) := match v with
  | .bool x => some (.lit (.bool x), [])
  | _ => none

def RelSO (l : List (List UInt8)) (v : Value) (F : Fx) : Prop := ∃ a cap C, Own 1 l.length a cap C (l.map strV) ∧ v = .slice a l.length cap ∧ F = ⟨fun _ => True, orow a C⟩

theorem mapG_key (l : KVs) : (mapG l).toList.map (·.key) = l.map (·.1) := by
  apply List.ext_getElem?
  intro i
  rw [List.getElem?_map, mapG_get, List.getElem?_map]
  cases l[i]? <;> rfl

theorem mapG_born (l : KVs) : (mapG l).toList.map (·.born) = List.range l.length := by
  apply List.ext_getElem?
  intro i
  rw [List.getElem?_map, mapG_get]
  by_cases h : i < l.length
  · rw [List.getElem?_eq_getElem h, List.getElem?_range h]
    rfl
  · rw [List.getElem?_eq_none (by omega), List.getElem?_eq_none (by simpa using h)]
    rfl

theorem strV_inj {s t : List UInt8} (h : strV s = strV t) : s = t := by
  unfold strV at h
  simp at h
  exact h

theorem List.Nodup.map_on_strV {ns : List (List UInt8)} (h : ns.Nodup) : (ns.map ((fun x => x.1) ∘ fun s : List UInt8 => (strV s, Value.bool true))).Nodup := by
  have h1 : List.Pairwise (fun a b : List UInt8 => a ≠ b) ns := h
  exact List.pairwise_map.2 (h1.imp fun {a b} hab he => hab (strV_inj he))

theorem sorts_spec (m : Nat) : Go.Proofs.AnyZ.SortsIn Tryz.prog Tryz.sorted77_ren Fence.wide m :=
  ⟨fun blk off cap ss W hH hblk hsz => callsIn_wide.2 (Tryz.slices_Sort_string blk off cap ss W hH hblk hsz), fun p cap W => callsIn_wide.2 (Tryz.slices_Sort_string_none p cap W)⟩

theorem sorted_spec (Bm b : Nat) (ns : List (List UInt8)) (hnd : ns.Nodup) (hlen : ∀ s ∈ ns, s.length ≤ 1000000) (hn : ns.length ≤ 1000000) :
    PureSpec Tryz.prog 77 [.func (.func 118) #[] #[.pointer (some ⟨Bm, 0, none⟩)]] (fun w => RowAt w (some ⟨Bm, 0, none⟩) [.map (some b)] ∧ MapAt w b (setKV ns)) (RelSO (sortL ns)) := by
  have hkl : (setKV ns).length = ns.length := by simp [setKV]
  unfold PureSpec
  refine ⟨⟨_, Tryz.func77, by decide, by decide⟩, fun av w hav hpre => ?_⟩
  obtain ⟨hrow, hmap⟩ := hpre.now
  obtain ⟨D0, hown, hsz, hks⟩ : ∃ D0 : DataW Unit, w.ownsMap Tryz.prog 9 readB b ns.length D0 ∧ Maps.size D0 = ns.length ∧ (strKeys D0).Perm ns := by
    have hget : ∀ x ∈ (mapG (setKV ns)).toList, ∃ s ∈ ns, x.key = strV s ∧ x.val = .bool true := fun x hx => by
      obtain ⟨i, hi⟩ := List.mem_iff_getElem?.1 hx
      rw [mapG_get] at hi
      cases hq : (setKV ns)[i]? with
      | none => rw [hq] at hi; cases hi
      | some p =>
        rw [hq] at hi
        have hp := List.mem_of_getElem? hq
        obtain ⟨s, hs, rfl⟩ := List.mem_map.1 hp
        cases hi
        exact ⟨s, hs, rfl, rfl⟩
    have hrd : ∀ x ∈ (mapG (setKV ns)).toList, ∀ s, x.key = strV s → s ∈ ns → x.val = .bool true → WideElems.rd Tryz.prog 9 readB x = some (Lit.string s, DataW.lit (.bool true)) := fun x hx s h1 h2 h3 => by
      have hs : s.length ≤ maxLen := Nat.le_trans (hlen s h2) (by decide)
      have hk : keyOf Tryz.prog 9 x.key = some (Lit.string s) := by
        have hsz : (ByteArray.mk ⟨s⟩).size ≤ maxLen := hs
        rw [h1]
        unfold keyOf strV
        simp only [Tryz.underlying9]
        unfold mapKey
        simp only [Tryz.underlying9]
        rw [if_pos hsz]
      unfold WideElems.rd
      rw [hk, h3]
      rfl
    have hrg : (mapG (setKV ns)).toList.map (WideElems.rg Tryz.prog 9 readB) = ns.map fun s => (Lit.string s, DataW.lit (.bool true)) := by
      apply List.ext_getElem?
      intro i
      rw [List.getElem?_map, mapG_get, List.getElem?_map]
      have hsk : (setKV ns)[i]? = ns[i]?.map fun s => (strV s, .bool true) := by simp [setKV]
      cases hq : ns[i]? with
      | none => rw [hsk, hq]; rfl
      | some s =>
        rw [hsk, hq]
        simp only [Option.map_some]
        congr 1
        have hx : (⟨strV s, .bool true, i⟩ : MapEntry) ∈ (mapG (setKV ns)).toList := List.mem_iff_getElem?.2 ⟨i, by rw [mapG_get, hsk, hq]; rfl⟩
        unfold WideElems.rg
        rw [hrd _ hx s rfl (List.mem_of_getElem? hq) rfl]
        rfl
    have hgl : (mapG (setKV ns)).toList.length = ns.length := by
      have := congrArg List.length (mapG_key (setKV ns))
      rw [List.length_map, List.length_map] at this
      omega
    refine ⟨_, ⟨mapG (setKV ns), (setKV ns).length, hmap, ⟨?_, ⟨fun x hx => ?_, ?_, ?_⟩, fun x hx => ?_⟩, ?_, rfl⟩, ?_, ?_⟩
    · have : (mapG (setKV ns)).size = ns.length := hgl
      rw [this]
      exact Nat.le_trans hn (by decide)
    · have : x.born ∈ (mapG (setKV ns)).toList.map (·.born) := List.mem_map.2 ⟨x, hx, rfl⟩
      rw [mapG_born] at this
      exact List.mem_range.1 this
    · rw [mapG_born]
      exact List.nodup_range
    · rw [mapG_key]
      unfold setKV
      rw [List.map_map]
      exact List.Nodup.map_on_strV hnd
    · obtain ⟨s, h1, h2, h3⟩ := hget x hx
      exact ⟨_, hrd x hx s h2 h1 h3⟩
    · have : (mapG (setKV ns)).size = ns.length := hgl
      rw [this]
      exact Nat.le_refl _
    · show List.length (List.foldr DataW.insert [] _) = _
      rw [(WideShapes.sorted_perm _).length_eq, hrg, List.length_map]
    · show (List.map (fun p : Lit × DataW Unit => strOf p.1) (List.foldr DataW.insert [] _)).Perm ns
      refine ((WideShapes.sorted_perm _).map _).trans ?_
      rw [hrg, List.map_map]
      have : ns.map ((fun p : Lit × DataW Unit => strOf p.1) ∘ fun s : List UInt8 => (Lit.string s, DataW.lit (.bool true))) = ns := by
        conv => rhs; rw [← List.map_id ns]
        rfl
      rw [this]
  obtain ⟨hs0, arr, e0, fz, hb0, hc0⟩ := hrow.there (by simp)
  have hBm : Bm < w.heap.size := lt_of_some hb0
  have hcell : w.cell? ⟨Bm, 0, none⟩ = some (.map (some b)) := by
    have := hrow.cell (j := 0) (by simp)
    rwa [Addr.add_none] at this
  have hseq : SeqGives Fence.wide 2 Tryz.prog 118 #[.pointer (some ⟨Bm, 0, none⟩)] Go.Proofs.encStr (fun ss => ss.Perm (strKeys D0)) (Maps.size D0) w :=
    Go.Proofs.AnyZ.keys_gives (ρ := Tryz.keys78_ren) { Tryz.keys78 with } Fence.wide _ trivial rfl (by omega) Bm b ns.length D0 w hBm hcell hown
  have hS := Go.Proofs.AnyZ.sorted_in Tryz.sorted77 Fence.wide 5 trivial trivial trivial trivial rfl (by omega) (sorts_spec _) (enters_of Tryz.func65 (by kernel_rfl) rfl) 118 #[.pointer (some ⟨Bm, 0, none⟩)] trivial (enters_of Tryz.func118 (by kernel_rfl) rfl) _ _
    (by rw [hsz]; exact Nat.le_trans hn (by decide)) (by rw [hsz]; omega) w hseq
  refine (callsIn_wide.1 hS).mono ?_
  rintro e w' ⟨v, ss, rfl, hp, ⟨hl, hcase⟩, hnil, hbw⟩
  have hpn : ss.Perm ns := hp.trans hks
  have hsl : ss.length = (sortL ns).length := by rw [sortL_len, hpn.length_eq]
  have hse : ss.mergeSort (fun x y => decide (x ≤ y)) = sortL ns := sortL_congr hpn
  rw [hse] at hl hcase
  rw [hsl] at hcase
  have hkeep : Keep w w' := keep_of_heap hbw.os hbw.tape hbw.output hbw.size hbw.block
  rcases hcase with ⟨rfl, hz⟩ | ⟨g, cap, cur, rfl, hg, hgb, c1, c2, c3, c4⟩
  · have hnil0 : sortL ns = [] := List.eq_nil_of_length_eq_zero hz
    exact ⟨_, ⟨fun _ => True, []⟩, rfl, hkeep, ⟨by simp, by simp, .pure trivial⟩, none, 0, [], by rw [hnil0]; exact Own.nil 1, by rw [hnil0]; rfl, rfl⟩
  · refine ⟨_, ⟨fun _ => True, [(g, Row.c cur.toList)]⟩, rfl, hkeep, ⟨fun r hr => ?_, by simp, .pure trivial⟩, some ⟨g, 0, none⟩, cap, cur.toList, ⟨?_, c1, .inr ⟨g, rfl, ?_, c4⟩⟩, rfl, rfl⟩
    · simp at hr
      subst hr
      exact ⟨⟨_, hgb⟩, hg⟩
    · simp
    · simpa using c3

end Go.Proofs.YtbfpgfopppfhoaaGreatDoor
namespace Go.Sx
open Go
section
variable {P : Program} {tab : Tab} {w0 : World} {R : Nat → Nat → Prop} {av : Nat → Prop} {bs : List (Nat × Nat)} {cs : List (List Value)} {F : Fx}
theorem XVal.boxMap {e : TypeId} {m : Option Nat} {K : KV} (h : ∀ b, K (.pointer (some ⟨b, 0, none⟩)) bs cs ⟨F.D, F.rs ++ [(b, Row.c [.map m])]⟩) :
    XVal P w0 R av (Instr.box e (.map m)) bs cs F K := by
  refine XVal_iff.2 fun w hst => ?_
  exact ⟨_, _, [], cs, _, rfl, by rw [List.append_nil]; exact hst.newRow [.map m] e, by rw [List.append_nil]; exact h _⟩
end
end Go.Sx

namespace Go.Proofs.YtbfpgfopppfhoaaGreatDoor
open Go Go.Sx
set_option maxRecDepth 100000
set_option maxHeartbeats 4000000
set_option linter.unusedVariables false
set_option linter.unusedSimpArgs false

theorem keys_spec (m : Option Nat) : PureSpec Tryz.prog 78 [.map m] (fun _ => True) (fun v F => ∃ b, v = .func (.func 118) #[] #[.pointer (some ⟨b, 0, none⟩)] ∧ F = ⟨fun _ => True, [(b, Row.c [.map m])]⟩) := by
  refine PureSpec.of_xc tabOk Tryz.func78 rfl (by decide) (n := Tryz.f78.ntmps - 1) rfl rfl fun w0 av => ?_
  conv => whnf
  repeat (refine XSame.of ?_; conv => whnf)
  refine XVal.boxMap fun b => ?_
  conv => whnf
  repeat (refine XSame.of ?_; conv => whnf)
  exact ⟨_, Ent.refl _, b, rfl, rfl⟩

/-- The names of entries, in their order, each once. -/
def addS (l : List (List UInt8)) (e : En) : List (List UInt8) := if e.1 = [] ∨ e.1 ∈ l then l else l ++ [e.1]
def nmsOf (E : List En) : List (List UInt8) := E.foldl addS []

theorem addS_ok {l : List (List UInt8)} {e : En} (hn : l.Nodup) (hl : ∀ s ∈ l, s.length ≤ 14) (he : e.1.length ≤ 14) : (addS l e).Nodup ∧ (∀ s ∈ addS l e, s.length ≤ 14) ∧ (addS l e).length ≤ l.length + 1 := by
  unfold addS
  split
  · exact ⟨hn, hl, by omega⟩
  · rename_i h
    refine ⟨?_, fun s hs => ?_, by simp⟩
    · rw [List.nodup_append]
      refine ⟨hn, by simp, fun a ha b hb e2 => ?_⟩
      have hb : b = e.1 := by simpa using hb
      exact h (.inr (by rw [← hb, ← e2]; exact ha))
    · rcases List.mem_append.1 hs with h1 | h1
      · exact hl s h1
      · rw [List.mem_singleton.1 h1]; exact he

theorem nms_ok : ∀ (E : List En) (l : List (List UInt8)), l.Nodup → (∀ s ∈ l, s.length ≤ 14) → (∀ e ∈ E, e.1.length ≤ 14) → (E.foldl addS l).Nodup ∧ (∀ s ∈ E.foldl addS l, s.length ≤ 14) ∧ (E.foldl addS l).length ≤ l.length + E.length
  | [], l, h1, h2, _ => ⟨h1, h2, by simp⟩
  | e :: E, l, h1, h2, h3 => by
    obtain ⟨a, b, c⟩ := addS_ok h1 h2 (h3 e (List.mem_cons_self ..))
    obtain ⟨p, q, r⟩ := nms_ok E (addS l e) a b fun x hx => h3 x (List.mem_cons_of_mem _ hx)
    exact ⟨p, q, by simp only [List.foldl_cons, List.length_cons]; omega⟩

theorem setKV_key (ns : List (List UInt8)) : ∀ p ∈ setKV ns, MapKept.IsKey .string p.1 := by
  intro p hp
  obtain ⟨s, _, rfl⟩ := List.mem_map.1 hp
  exact trivial

theorem setKV_no {ns : List (List UInt8)} {s : List UInt8} (h : s ∉ ns) : ∀ p ∈ setKV ns, p.1 ≠ strV s := by
  intro p hp he
  obtain ⟨t, ht, rfl⟩ := List.mem_map.1 hp
  exact h (strV_inj he ▸ ht)

theorem setKV_snoc (ns : List (List UInt8)) (s : List UInt8) : setKV (ns ++ [s]) = setKV ns ++ [(strV s, .bool true)] := by simp [setKV]

/-- What List answers. -/
noncomputable def plistR (d : List UInt8) (n : Int) : List (List UInt8) × Nat := if dirE d n = 0 then (sortL (nmsOf ((T0 d).E n.toNat)), 0) else ([], dirE d n)

def RelLO (l : List (List UInt8)) (e : Nat) (v : Value) (F : Fx) : Prop := ∃ a cap C, Own 1 l.length a cap C (l.map strV) ∧ v = .tuple #[.slice a l.length cap, .int .i64 (e : Int)] ∧ F = ⟨fun _ => True, orow a C⟩

theorem dirE_zero {d : List UInt8} {n : Int} (h : dirE d n = 0) : chk38 d = 0 ∧ ∃ m : Nat, n = (m : Int) ∧ m ∈ (T0 d).dl := by
  unfold dirE at h
  by_cases h0 : chk38 d = 0
  · rw [if_neg (show ¬ chk38 d ≠ 0 by rw [h0]; simp), dirR_e] at h
    by_cases h1 : gete d n = 0
    · rw [if_neg (show ¬ gete d n ≠ 0 by rw [h1]; simp)] at h
      obtain ⟨hd, hok, m, hm, hm32, hk⟩ := gete_zero h1
      refine ⟨h0, m, hm, mem_dl.2 ⟨hm32, ?_⟩⟩
      rw [hm] at h
      by_cases h2 : rk d m = 2
      · exact h2
      · rw [if_pos (by simpa using h2)] at h
        cases h
    · rw [if_pos h1] at h
      exact absurd h h1
  · rw [if_pos h0] at h
    exact absurd h h0

theorem plist_spec (d : List UInt8) (h : Hd) (hh : h.Ok d.length) (hl : d.length ≤ 1000000) (n : Int) :
    PureSpec Tryz.prog 36 [h.v d.length, .int .i64 n] (fun w => By w h d) (RelLO (plistR d n).1 (plistR d n).2) := by
  have hds := directory_spec d h hh hl n
  have hz := dirE_zero (d := d) (n := n)
  obtain ⟨M, hM⟩ : ∃ x, x = plistR d n := ⟨_, rfl⟩
  rw [← hM]
  unfold plistR at hM
  refine PureSpec.of_xc tabOk Tryz.func36 rfl (by decide) (n := Tryz.f36.ntmps - 2) rfl rfl fun w0 av => ?_
  conv => whnf
  refine XCall.pure hds (fun w hw => hw) (fun v D hv => ?_)
  unfold RelDi at hv
  by_cases h0 : dirE d n = 0
  rotate_left
  · rw [if_neg h0] at hv hM
    obtain ⟨q, rfl, rfl⟩ := hv
    rw [hM]
    generalize dirE d n = e at *
    conv => whnf
    repeat (refine XSame.of ?_; conv => whnf)
    refine XIf.yes (by simp [iNe_eq]; omega) ?_
    conv => whnf
    repeat (refine XSame.of ?_; conv => whnf)
    exact ⟨⟨fun _ => True, []⟩, Ent.bare fun _ _ => trivial, none, 0, [], Own.nil 1, rfl, rfl⟩
  rw [if_pos h0] at hv hM
  obtain ⟨bt, bm, H, hH, rfl, rfl⟩ := hv
  obtain ⟨h38, m, rfl, hm⟩ := hz h0
  have hT := theTree_ok d hH
  have hname := theTree_name d H m
  have hEe : (T0 d).E (m : Int).toNat = (theTree d H).E m := rfl
  rw [hEe] at hM
  have hm' : m ∈ (theTree d H).dl := hm
  generalize theTree d H = T at *
  generalize dirE d m = e at *
  subst h0
  rw [hM]
  clear hM
  have hm1 : (treeC (h.v d.length) bm T.K 32)[1]? = some (.map (some bm)) := rfl
  have hTr : ∀ w, TreeAt T (h.v d.length) bt bm w → RowAt w (some ⟨bt, 0, none⟩) (treeC (h.v d.length) bm T.K 32) := fun w hw => hw.1
  have hTE : ∀ w, TreeAt T (h.v d.length) bt bm w → RowAt w (T.H m).a (enCs (T.E m)) := fun w hw => hw.2.2 m hm'
  have hTm : ∀ w, TreeAt T (h.v d.length) bt bm w → MapAt w bm (T.kv T.dl) := fun w hw => hw.2.1
  generalize treeC (h.v d.length) bm T.K 32 = Ct at *
  have hlen := hT.len m
  have hhd := hT.hd m
  conv => whnf
  repeat (refine XSame.of ?_; conv => whnf)
  refine XIf.no (by simp [iNe_eq]) ?_
  conv => whnf
  repeat (refine XSame.of ?_; conv => whnf)
  refine XVal.makeMapG fun b8 => ?_
  conv => whnf
  repeat (refine XSame.of ?_; conv => whnf)
  refine XVal.of_read (XRead.loadF tabOk (t := 81) rfl rfl (ad := ⟨bt, 0, none⟩) (k := 1) (L := Ct) (v := .map (some bm)) (.fact fun w hw => hTr w hw.2) (fun _ => rfl) hm1 ?_)
  conv => whnf
  repeat (refine XSame.of ?_; conv => whnf)
  refine XVal.of_read (XRead.lookupIn tabOk (t := 81) rfl rfl rfl rfl (SeesM.fact fun w hw => hTm w hw.2) rfl (T.kv_key T.dl) (v := .slice (T.H m).a 8 (T.H m).c) T.kv_val (T.kv_in hm') ?_)
  generalize T.E m = E at *
  generalize hHH : T.H m = K at *
  have hnm : ∀ j, (nmsOf (E.take j)).Nodup ∧ (∀ s ∈ nmsOf (E.take j), s.length ≤ 14) ∧ (nmsOf (E.take j)).length ≤ 8 := fun j => by
    obtain ⟨a, b, c⟩ := nms_ok (E.take j) [] List.nodup_nil (by simp) fun e he => hname e (List.mem_of_mem_take he)
    refine ⟨a, b, Nat.le_trans c ?_⟩
    rw [List.length_nil, List.length_take]
    omega
  have hnext : ∀ j (hj : j < E.length), nmsOf (E.take (j + 1)) = addS (nmsOf (E.take j)) E[j] := fun j hj => by
    unfold nmsOf
    rw [List.take_succ_eq_append_getElem hj, List.foldl_append]
    rfl
  conv => whnf
  repeat (refine XSame.of ?_; conv => whnf)
  refine XStop.loop tabOk (ι := Nat) ([10] ++ List.range' 28 14) (fun x => x ≤ 8)
    (fun x => [(28, .v (.int .i64 (x : Int)))]) (fun _ => []) (fun x => ⟨TreeAt T (h.v d.length) bt bm, [] ++ [(b8, Row.m (mapG (setKV (nmsOf (E.take x)))) (setKV (nmsOf (E.take x))).length)] ++ []⟩)
    (fun x => 8 - x) 0 (Nat.zero_le _) ?_ rfl (Ent.of_le ⟨by simp [Fx.and, nmsOf, setKV], fun w hw => hw.2⟩) fun j hj => ?_
  · conv => whnf
    repeat (first | exact FLe.nil | refine FLe.any ?_ | refine FLe.cons ?_)
  conv => whnf
  refine XIf.split (fun hlt => ?_) (fun hlt => ?_)
  · have hj8 : j < 8 := by
      simp only [iLt_eq, decide_eq_true_eq] at hlt
      omega
    have hjE : j < E.length := by omega
    have hnx := hnext j hjE
    obtain ⟨hn1, hn2, hn3⟩ := hnm j
    have hnmj := hname _ (List.getElem_mem hjE)
    have hfin : ∀ ns' : List (List UInt8), ns' = nmsOf (E.take (j + 1)) → Ent ⟨TreeAt T (h.v d.length) bt bm, [] ++ [(b8, Row.m (mapG (setKV ns')) (setKV ns').length)] ++ []⟩ ((fun x => (⟨TreeAt T (h.v d.length) bt bm, [] ++ [(b8, Row.m (mapG (setKV (nmsOf (E.take x)))) (setKV (nmsOf (E.take x))).length)] ++ []⟩ : Fx)) (j + 1)) := fun ns' h => by
      subst h
      exact Ent.refl _
    generalize nmsOf (E.take j) = ns at *
    conv => whnf
    repeat (refine XSame.of ?_; conv => whnf)
    refine XVal.of_read (XRead.index tabOk (t := 78) rfl rfl rfl (by omega) (by omega) hhd.nil fun ad had => ?_)
    conv => whnf
    repeat (refine XSame.of ?_; conv => whnf)
    refine XVal.of_read (XRead.loads tabOk (t := 80) rfl rfl (ad := ad) (k := 2 * j) (L := enCs E) (m := enC E[j]) (.fact fun w hw => had ▸ hTE w hw) (by congr 1; show Int.toNat (j : Int) * 2 = _; rw [Int.toNat_natCast]; omega) (enCs_struct hjE) rfl ?_)
    generalize hej : E[j] = e at *
    obtain ⟨nm, nd⟩ := e
    dsimp only at hnmj
    conv => whnf
    repeat (refine XSame.of ?_; conv => whnf)
    intro b10
    conv => whnf
    repeat (refine XSame.of ?_; conv => whnf)
    refine XVal.of_read (XRead.strNe (l := nm) (m := []) ?_)
    conv => whnf
    repeat (refine XSame.of ?_; conv => whnf)
    refine XIf.split (fun hne => ?_) (fun hne => ?_)
    · have hne' : nm ≠ [] := by simpa using hne
      conv => whnf
      repeat (refine XSame.of ?_; conv => whnf)
      by_cases hin : nm ∈ ns
      · have ha : addS ns (nm, nd) = ns := if_pos (.inr hin)
        rw [ha] at hnx
        refine XUnit.mapOld tabOk (t := 123) rfl rfl rfl rfl (r1 := []) (r2 := []) (l := setKV ns) trivial (setKV_key ns) ⟨(strV nm, .bool true), List.mem_map.2 ⟨nm, hin, rfl⟩, rfl⟩ fun i u hi => ?_
        have hse : (setKV ns).set i (strV nm, .bool true) = setKV ns := by
          obtain ⟨hl, he⟩ := List.getElem?_eq_some_iff.1 hi
          have hu : u = .bool true := by
            have := List.mem_of_getElem? hi
            obtain ⟨s, _, hs⟩ := List.mem_map.1 this
            exact (Prod.mk.inj hs).2.symm
          rw [hu] at he
          rw [show (strV nm, Value.bool true) = (setKV ns)[i] from he.symm]
          exact List.set_getElem_self hl
        rw [hse]
        conv => whnf
        repeat (refine XSame.of ?_; conv => whnf)
        refine ⟨j + 1, ⟨hj8, by dsimp only; omega⟩, ?_, ?_, hfin ns hnx.symm⟩
        · conv => whnf
          refine ⟨?_, rfl⟩
          repeat (first | exact FLe.nil | refine FLe.any ?_ | refine FLe.cons ?_ | refine FLe.eq (by rw [wrap_i64 (by omega)]; rfl) ?_)
        · conv => whnf
          exact trivial
      · have ha : addS ns (nm, nd) = ns ++ [nm] := if_neg fun h => h.elim hne' hin
        rw [ha] at hnx
        refine XUnit.mapNew tabOk (t := 123) rfl rfl rfl rfl (r1 := []) (r2 := []) (l := setKV ns) trivial (setKV_key ns) (setKV_no hin) ?_
        rw [← setKV_snoc]
        conv => whnf
        repeat (refine XSame.of ?_; conv => whnf)
        refine ⟨j + 1, ⟨hj8, by dsimp only; omega⟩, ?_, ?_, hfin (ns ++ [nm]) hnx.symm⟩
        · conv => whnf
          refine ⟨?_, rfl⟩
          repeat (first | exact FLe.nil | refine FLe.any ?_ | refine FLe.cons ?_ | refine FLe.eq (by rw [wrap_i64 (by omega)]; rfl) ?_)
        · conv => whnf
          exact trivial
    · have hne' : nm = [] := by simpa using hne
      have ha : addS ns (nm, nd) = ns := if_pos (.inl hne')
      rw [ha] at hnx
      conv => whnf
      repeat (refine XSame.of ?_; conv => whnf)
      refine ⟨j + 1, ⟨hj8, by dsimp only; omega⟩, ?_, ?_, hfin ns hnx.symm⟩
      · conv => whnf
        refine ⟨?_, rfl⟩
        repeat (first | exact FLe.nil | refine FLe.any ?_ | refine FLe.cons ?_ | refine FLe.eq (by rw [wrap_i64 (by omega)]; rfl) ?_)
      · conv => whnf
        exact trivial
  · have hje : j = 8 := by
      simp only [iLt_eq, decide_eq_false_iff_not] at hlt
      omega
    subst hje
    have hE8 : E.take 8 = E := List.take_of_length_le (by omega)
    obtain ⟨hn1, hn2, hn3⟩ := hnm 8
    rw [hE8] at hn1 hn2 hn3 ⊢
    generalize nmsOf E = ns at *
    conv => whnf
    repeat (refine XSame.of ?_; conv => whnf)
    refine XCall.pure (keys_spec (some b8)) (fun w hw => trivial) (fun v D hv => ?_)
    obtain ⟨bk, rfl, rfl⟩ := hv
    conv => whnf
    repeat (refine XSame.of ?_; conv => whnf)
    refine XCall.ent (F' := ⟨fun w => RowAt w (some ⟨bk, 0, none⟩) [.map (some b8)] ∧ MapAt w b8 (setKV ns), []⟩) ?_ ?_
    · refine Ent.trans (G := ⟨fun w => (TreeAt T (h.v d.length) bt bm w ∧ True) ∧ MapAt w b8 (setKV ns), [] ++ [(bk, Row.c [.map (some b8)])]⟩) (Ent.shareM (r1 := []) (r2 := [(bk, Row.c [.map (some b8)])])) ?_
      exact Ent.share1.trans (Ent.imp fun w hw => ⟨hw.2, hw.1.2⟩)
    refine XCall.pure (sorted_spec bk b8 ns hn1 (fun s hs => by have := hn2 s hs; omega) (by omega)) (fun w hw => hw) (fun v D hv => ?_)
    obtain ⟨a, cap, C, hO, rfl, rfl⟩ := hv
    conv => whnf
    repeat (refine XSame.of ?_; conv => whnf)
    exact ⟨⟨fun _ => True, orow a C⟩, Ent.of_le ⟨by simp [Fx.and], fun w hw => trivial⟩, a, cap, C, hO, rfl, rfl⟩

end Go.Proofs.YtbfpgfopppfhoaaGreatDoor
namespace Go.Proofs.YtbfpgfopppfhoaaGreatDoor
open Go Go.Sx
set_option maxRecDepth 100000
set_option maxHeartbeats 4000000
set_option linter.unusedVariables false
set_option linter.unusedSimpArgs false

theorem plookup_spec (d : List UInt8) (h : Hd) (hh : h.Ok d.length) (hl : d.length ≤ 1000000) (n : Int) (s : List UInt8) (hs : s.length ≤ 1000000) :
    PureSpec Tryz.prog 34 [h.v d.length, .int .i64 n, strV s] (fun w => By w h d) (RelII (lookupR d n s).1 (lookupR d n s).2) := by
  have hds := directory_spec d h hh hl n
  have hz := dirE_zero (d := d) (n := n)
  have hde : dirE d n ≠ 0 → lookupR d n s = (0, dirE d n) := fun h => by
    unfold lookupR dirE at *
    by_cases h0 : chk38 d = 0
    · rw [if_neg (show ¬ chk38 d ≠ 0 by rw [h0]; simp)] at h ⊢
      rw [if_pos h, if_neg (show ¬ chk38 d ≠ 0 by rw [h0]; simp)]
    · rw [if_pos h0, if_pos h0]
  refine PureSpec.of_xc tabOk Tryz.func34 rfl (by decide) (n := Tryz.f34.ntmps - 3) rfl rfl fun w0 av => ?_
  conv => whnf
  refine XCall.pure hds (fun w hw => hw) (fun v D hv => ?_)
  unfold RelDi at hv
  by_cases h0 : dirE d n = 0
  rotate_left
  · rw [if_neg h0] at hv
    rw [hde h0]
    obtain ⟨q, rfl, rfl⟩ := hv
    generalize dirE d n = e at *
    conv => whnf
    repeat (refine XSame.of ?_; conv => whnf)
    refine XIf.yes (by simp [iNe_eq]; omega) ?_
    conv => whnf
    repeat (refine XSame.of ?_; conv => whnf)
    exact ⟨_, Ent.refl _, rfl⟩
  rw [if_pos h0] at hv
  obtain ⟨bt, bm, H, hH, rfl, rfl⟩ := hv
  obtain ⟨h38, m, rfl, hm⟩ := hz h0
  have hT := theTree_ok d hH
  have hlr : lookupR d m s = if vname s = false then (0, 15) else (theTree d H).find m s := by
    unfold lookupR
    rw [if_neg (show ¬ chk38 d ≠ 0 by rw [h38]; simp), dirR_dir h38 hm]
    dsimp only
    rw [if_neg (by decide)]
    split
    · rfl
    · rw [theTree_find]
      unfold Tree.find
      rw [if_pos hm]
      show _ = (match fidx ((T0 d).E m) s with
        | none => (0, 8)
        | some k => ((((T0 d).E m)[k]?.map fun x : En => x.2).getD 0, 0))
      cases fidx ((T0 d).E m) s <;> rfl
  have hm32 := (mem_dl.1 hm).1
  rw [hlr]
  generalize theTree d H = T at *
  generalize dirE d m = e at *
  subst h0
  clear hlr hde hz
  conv => whnf
  repeat (refine XSame.of ?_; conv => whnf)
  refine XIf.no (by simp [iNe_eq]) ?_
  conv => whnf
  repeat (refine XSame.of ?_; conv => whnf)
  refine XCall.val (valid_spec s hs) (fun w hw => trivial) (fun v D hv => ?_)
  generalize vname s = vn at *
  subst hv
  conv => whnf
  repeat (refine XSame.of ?_; conv => whnf)
  refine XIf.split (fun hq => ?_) (fun hq => ?_)
  · have hq' : vn = false := by simpa using hq
    rw [if_pos hq']
    conv => whnf
    repeat (refine XSame.of ?_; conv => whnf)
    exact ⟨_, Ent.refl _, rfl⟩
  · have hq' : vn = true := by simpa using hq
    rw [if_neg (by rw [hq']; simp)]
    have htf := tfind_spec T hT (h.v d.length) bt bm m (by omega) s
    generalize T.find m s = r at *
    obtain ⟨x, er⟩ := r
    dsimp only at htf ⊢
    conv => whnf
    repeat (refine XSame.of ?_; conv => whnf)
    refine XCall.val htf (fun w hw => hw.2) (fun v D hv => ?_)
    unfold RelII at hv
    subst hv
    conv => whnf
    repeat (refine XSame.of ?_; conv => whnf)
    exact ⟨_, Ent.refl _, rfl⟩

theorem bytesLess_lt : ∀ x y : List UInt8, Op.bytesLess x y = decide (x < y)
  | _, [] => by simp [Op.bytesLess]
  | [], _ :: _ => by simp [Op.bytesLess]
  | a :: x, b :: y => by
    rw [Op.bytesLess, bytesLess_lt x y]
    simp only [List.cons_lt_cons_iff]
    by_cases h1 : a < b <;> by_cases h2 : a = b <;> by_cases h3 : x < y <;> simp [h1, h2, h3]

def insI (l : List (List UInt8)) (s : List UInt8) : Nat := (l.takeWhile fun x => decide (x < s)).length
def insR (l : List (List UInt8)) (s : List UInt8) : List (List UInt8) := l.take (insI l s) ++ [s] ++ l.drop (insI l s)

theorem insI_le (l : List (List UInt8)) (s : List UInt8) : insI l s ≤ l.length := by
  unfold insI
  exact (List.takeWhile_prefix _).length_le

theorem insI_of {l : List (List UInt8)} {s : List UInt8} : ∀ {i : Nat}, i ≤ l.length → (∀ j (hj : j < l.length), j < i → l[j] < s) → (∀ h : i < l.length, ¬ l[i] < s) → insI l s = i := by
  induction l with
  | nil =>
    intro i hi _ _
    have : i = 0 := by simpa using hi
    rw [this]
    rfl
  | cons x l ih =>
    intro i hi h1 h2
    cases i with
    | zero =>
      have := h2 (by simp)
      unfold insI
      rw [List.takeWhile_cons_of_neg (by simpa using this)]
      rfl
    | succ i =>
      have h0 := h1 0 (by simp) (by omega)
      have := ih (i := i) (by simpa using hi) (fun j hj hji => h1 (j + 1) (by simpa using hj) (by omega)) (fun h => h2 (by simpa using h))
      unfold insI at this ⊢
      rw [List.takeWhile_cons_of_pos (by simpa using h0), List.length_cons, this]

theorem insR_len (l : List (List UInt8)) (s : List UInt8) : (insR l s).length = l.length + 1 := by
  have := insI_le l s
  unfold insR
  simp
  omega

/-- A row of strings of the caller's own. -/
def RelOut (l : List (List UInt8)) (v : Value) (F : Fx) : Prop := ∃ b cap C, v = .slice (some ⟨b, 0, none⟩) l.length cap ∧ Own 1 l.length (some ⟨b, 0, none⟩) cap C (l.map strV) ∧ F = ⟨fun _ => True, [(b, Row.c C)]⟩

theorem insO_spec (l : List (List UInt8)) (h : Hd) (hh : h.Ok l.length) (hl : l.length ≤ 1000) (s : List UInt8) :
    PureSpec Tryz.prog 79 [h.v l.length, strV s] (fun w => StrAt w h l) (RelOut (insR l s)) := by
  have hc := hh.cap
  have hil := insI_le l s
  have hof := fun {i : Nat} => insI_of (l := l) (s := s) (i := i)
  refine PureSpec.of_xc tabOk Tryz.func79 rfl (by decide) (n := Tryz.f79.ntmps - 2) rfl rfl fun w0 av => ?_
  conv => whnf
  refine XStop.loop tabOk (ι := Nat) ([5] ++ List.range' 6 14) (fun x => x ≤ l.length ∧ ∀ j (hj : j < l.length), j < x → l[j] < s)
    (fun x => [(5, .v (.int .i64 (x : Int)))]) (fun _ => []) (fun _ => ⟨fun w => StrAt w h l, []⟩)
    (fun x => l.length - x) 0 ⟨Nat.zero_le _, fun j _ hj => by omega⟩ ?_ rfl (Ent.refl _) fun i hi => ?_
  · conv => whnf
    repeat (first | exact FLe.nil | refine FLe.any ?_ | refine FLe.cons ?_)
  obtain ⟨hi, hall⟩ := hi
  conv => whnf
  have hone : ∀ v ∈ (l.take i).map strV, oneCell v = true := fun v hv => by
    obtain ⟨x, _, rfl⟩ := List.mem_map.1 hv
    rfl
  have hone2 : ∀ v ∈ (l.drop i).map strV, oneCell v = true := fun v hv => by
    obtain ⟨x, _, rfl⟩ := List.mem_map.1 hv
    rfl
  have htake : ∀ w, StrAt w h l → RowAt w h.a ((l.take i).map strV) := fun w hw => by
    rw [List.map_take]
    exact RowAt.take hw i
  have hdrop : ∀ w, StrAt w h l → RowAt w (Hd.sub h i).a ((l.drop i).map strV) := fun w hw => by
    have := RowAt.cut (l := i) (hi := l.length) (m := h.c) (size := 1) hw ⟨by omega, by omega⟩
    rw [Nat.mul_one, Nat.mul_one, List.take_of_length_le (by simp)] at this
    rw [List.map_drop]
    exact this
  have hend : insI l s = i → ∀ (a : Option Addr) (c : Nat) (C : List Value) (n : Nat), Own 1 n a c C (([] ++ (l.take i).map strV ++ [strV s]) ++ (l.drop i).map strV) → ∀ r1 r2 : List (Nat × Row), n = l.length + 1 → ∃ F', Ent ⟨fun w => StrAt w h l, r1 ++ orow a C ++ r2⟩ F' ∧ RelOut (insR l s) (.slice a n c) F' := fun hk a c C n hO r1 r2 hn => by
    have hL : ([] ++ (l.take i).map strV ++ [strV s]) ++ (l.drop i).map strV = (insR l s).map strV := by
      unfold insR
      rw [hk]
      simp
    rw [hL] at hO
    have hil := insR_len l s
    obtain ⟨b, rfl⟩ := own_some hO (by omega)
    refine ⟨⟨fun w => True, [(b, Row.c C)]⟩, Ent.of_le ⟨?_, fun w hw => trivial⟩, b, c, C, by rw [hil, hn], by rw [hil, ← hn]; exact hO, rfl⟩
    show [(b, Row.c C)].Sublist (r1 ++ [(b, Row.c C)] ++ r2)
    rw [List.append_assoc]
    exact (List.sublist_append_left _ _).trans (List.sublist_append_right _ _)
  generalize hlt : iLt (i : Int) (l.length : Int) = c
  cases c
  · have hie : i = l.length := by
      simp only [iLt_eq, decide_eq_false_iff_not] at hlt
      omega
    have hk := hof hi hall fun h => by omega
    conv => whnf
    repeat (refine XSame.of ?_; conv => whnf)
    refine XStop.draw tabOk mixed rfl rfl ?_
    conv => whnf
    refine XRead.subTo tabOk (t := 23) rfl rfl rfl (h := h) i rfl (by omega) ?_
    conv => whnf
    refine XRead.subFrom tabOk (t := 23) rfl rfl rfl rfl (h := h) i rfl (by omega) (by omega) ?_
    conv => whnf
    refine And.intro ?_ ?_ <;> conv => whnf
    · refine XVal.build tabOk (t := 23) rfl rfl rfl [] rfl rfl (by simp) (by decide) fun b0 => ?_
      conv => whnf
      refine And.intro ?_ ?_ <;> conv => whnf
      · refine XVal.ent (F' := ⟨fun w => StrAt w h l, [] ++ orow (some ⟨b0, 0, none⟩) [] ++ []⟩) (Ent.of_le ⟨by simp [orow], fun w hw => hw⟩) ?_
        refine XVal.append tabOk (t := 23) (xt := 23) rfl rfl rfl rfl rfl rfl (r1 := []) (r2 := []) (M := (l.take i).map strV) (L := []) (n := 0) (Own.full rfl) (.fact fun w hw => htake w hw) (by simp; omega) hone (by omega) (by simp; omega) fun a1 c1 C1 hO1 => ?_
        conv => whnf
        refine XVal.build tabOk (t := 23) rfl rfl rfl [strV s] rfl rfl (by simp [Value.cells, strV]) (by decide) fun b1 => ?_
        conv => whnf
        refine XVal.ent (F' := ⟨fun w => StrAt w h l, [] ++ orow a1 C1 ++ [(b1, Row.c [strV s])]⟩) (Ent.of_le ⟨by simp [Value.cells, strV], fun w hw => hw⟩) ?_
        refine XVal.append tabOk (t := 23) (xt := 23) rfl rfl rfl rfl rfl rfl (r1 := []) (r2 := [(b1, Row.c [strV s])]) (M := [strV s]) hO1 (Sees.row (by simp)) rfl (by simp [strV, oneCell]) (by omega) (by simp; omega) fun a2 c2 C2 hO2 => ?_
        conv => whnf
        refine XVal.append tabOk (t := 23) (xt := 23) rfl rfl rfl rfl rfl rfl (r1 := []) (r2 := [(b1, Row.c [strV s])]) (M := (l.drop i).map strV) hO2 (.fact fun w hw => hdrop w hw) (by simp; try omega) hone2 (by omega) (by simp; omega) fun a3 c3 C3 hO3 => ?_
        conv => whnf
        exact hend hk a3 c3 C3 _ hO3 _ _ (by omega)
      · refine XVal.build tabOk (t := 23) rfl rfl rfl [strV s] rfl rfl (by simp [Value.cells, strV]) (by decide) fun b1 => ?_
        conv => whnf
        refine XVal.ent (F' := ⟨fun w => StrAt w h l, [] ++ orow (some ⟨b0, 0, none⟩) [] ++ [(b1, Row.c [strV s])]⟩) (Ent.of_le ⟨by simp [orow, Value.cells, strV], fun w hw => hw⟩) ?_
        refine XVal.append tabOk (t := 23) (xt := 23) rfl rfl rfl rfl rfl rfl (r1 := []) (r2 := [(b1, Row.c [strV s])]) (M := (l.take i).map strV) (L := []) (n := 0) (Own.full rfl) (.fact fun w hw => htake w hw) (by simp; omega) hone (by omega) (by simp; omega) fun a1 c1 C1 hO1 => ?_
        conv => whnf
        refine XVal.append tabOk (t := 23) (xt := 23) rfl rfl rfl rfl rfl rfl (r1 := []) (r2 := [(b1, Row.c [strV s])]) (M := [strV s]) hO1 (Sees.row (by simp)) rfl (by simp [strV, oneCell]) (by omega) (by simp; omega) fun a2 c2 C2 hO2 => ?_
        conv => whnf
        refine XVal.append tabOk (t := 23) (xt := 23) rfl rfl rfl rfl rfl rfl (r1 := []) (r2 := [(b1, Row.c [strV s])]) (M := (l.drop i).map strV) hO2 (.fact fun w hw => hdrop w hw) (by simp; try omega) hone2 (by omega) (by simp; omega) fun a3 c3 C3 hO3 => ?_
        conv => whnf
        exact hend hk a3 c3 C3 _ hO3 _ _ (by omega)
    · refine XVal.build tabOk (t := 23) rfl rfl rfl [strV s] rfl rfl (by simp [Value.cells, strV]) (by decide) fun b1 => ?_
      conv => whnf
      refine XVal.build tabOk (t := 23) rfl rfl rfl [] rfl rfl (by simp) (by decide) fun b0 => ?_
      conv => whnf
      refine XVal.ent (F' := ⟨fun w => StrAt w h l, [(b1, Row.c [strV s])] ++ orow (some ⟨b0, 0, none⟩) [] ++ []⟩) (Ent.of_le ⟨by simp [orow, Value.cells, strV], fun w hw => hw⟩) ?_
      refine XVal.append tabOk (t := 23) (xt := 23) rfl rfl rfl rfl rfl rfl (r1 := [(b1, Row.c [strV s])]) (r2 := []) (M := (l.take i).map strV) (L := []) (n := 0) (Own.full rfl) (.fact fun w hw => htake w hw) (by simp; omega) hone (by omega) (by simp; omega) fun a1 c1 C1 hO1 => ?_
      conv => whnf
      refine XVal.append tabOk (t := 23) (xt := 23) rfl rfl rfl rfl rfl rfl (r1 := [(b1, Row.c [strV s])]) (r2 := []) (M := [strV s]) hO1 (Sees.row (by simp)) rfl (by simp [strV, oneCell]) (by omega) (by simp; omega) fun a2 c2 C2 hO2 => ?_
      conv => whnf
      refine XVal.append tabOk (t := 23) (xt := 23) rfl rfl rfl rfl rfl rfl (r1 := [(b1, Row.c [strV s])]) (r2 := []) (M := (l.drop i).map strV) hO2 (.fact fun w hw => hdrop w hw) (by simp; try omega) hone2 (by omega) (by simp; omega) fun a3 c3 C3 hO3 => ?_
      conv => whnf
      exact hend hk a3 c3 C3 _ hO3 _ _ (by omega)
  · have hlt' : i < l.length := by
      simp only [iLt_eq, decide_eq_true_eq] at hlt
      omega
    conv => whnf
    repeat (refine XSame.of ?_; conv => whnf)
    refine XVal.of_read (XRead.index tabOk (t := 23) rfl rfl rfl (by omega) (by omega) hh.nil fun ad had => ?_)
    conv => whnf
    repeat (refine XSame.of ?_; conv => whnf)
    refine XVal.of_read (XRead.load tabOk (t := 9) rfl rfl (ad := ad) (k := i) (L := l.map strV) (v := strV l[i]) (.fact fun w hw => had ▸ hw) (by simp) (by simp [hlt']) ?_)
    conv => whnf
    repeat (refine XSame.of ?_; conv => whnf)
    refine XVal.of_read (XRead.strLt (l := l[i]) (m := s) ?_)
    rw [bytesLess_lt]
    conv => whnf
    repeat (refine XSame.of ?_; conv => whnf)
    refine XIf.split (fun hq => ?_) (fun hq => ?_)
    · have hq' : l[i] < s := by simpa using hq
      conv => whnf
      repeat (refine XSame.of ?_; conv => whnf)
      refine ⟨i + 1, ⟨⟨hlt', fun j hj hji => ?_⟩, by dsimp only; omega⟩, ?_, ?_, Ent.refl _⟩
      · rcases Nat.lt_or_eq_of_le (Nat.lt_succ_iff.1 hji) with h5 | h5
        · exact hall j hj h5
        · subst h5; exact hq'
      · conv => whnf
        refine ⟨?_, rfl⟩
        repeat (first | exact FLe.nil | refine FLe.any ?_ | refine FLe.cons ?_ | refine FLe.eq (by rw [wrap_i64 (by omega)]; rfl) ?_)
      · conv => whnf
        exact trivial
    · have hq' : ¬ l[i] < s := by simpa using hq
      have hk := hof hi hall fun _ => hq'
      conv => whnf
      repeat (refine XSame.of ?_; conv => whnf)
      refine XStop.draw tabOk mixed rfl rfl ?_
      conv => whnf
      refine XRead.subTo tabOk (t := 23) rfl rfl rfl (h := h) i rfl (by omega) ?_
      conv => whnf
      refine XRead.subFrom tabOk (t := 23) rfl rfl rfl rfl (h := h) i rfl (by omega) (by omega) ?_
      conv => whnf
      refine And.intro ?_ ?_ <;> conv => whnf
      · refine XVal.build tabOk (t := 23) rfl rfl rfl [] rfl rfl (by simp) (by decide) fun b0 => ?_
        conv => whnf
        refine And.intro ?_ ?_ <;> conv => whnf
        · refine XVal.ent (F' := ⟨fun w => StrAt w h l, [] ++ orow (some ⟨b0, 0, none⟩) [] ++ []⟩) (Ent.of_le ⟨by simp [orow], fun w hw => hw⟩) ?_
          refine XVal.append tabOk (t := 23) (xt := 23) rfl rfl rfl rfl rfl rfl (r1 := []) (r2 := []) (M := (l.take i).map strV) (L := []) (n := 0) (Own.full rfl) (.fact fun w hw => htake w hw) (by simp; omega) hone (by omega) (by simp; omega) fun a1 c1 C1 hO1 => ?_
          conv => whnf
          refine XVal.build tabOk (t := 23) rfl rfl rfl [strV s] rfl rfl (by simp [Value.cells, strV]) (by decide) fun b1 => ?_
          conv => whnf
          refine XVal.ent (F' := ⟨fun w => StrAt w h l, [] ++ orow a1 C1 ++ [(b1, Row.c [strV s])]⟩) (Ent.of_le ⟨by simp [Value.cells, strV], fun w hw => hw⟩) ?_
          refine XVal.append tabOk (t := 23) (xt := 23) rfl rfl rfl rfl rfl rfl (r1 := []) (r2 := [(b1, Row.c [strV s])]) (M := [strV s]) hO1 (Sees.row (by simp)) rfl (by simp [strV, oneCell]) (by omega) (by simp; omega) fun a2 c2 C2 hO2 => ?_
          conv => whnf
          refine XVal.append tabOk (t := 23) (xt := 23) rfl rfl rfl rfl rfl rfl (r1 := []) (r2 := [(b1, Row.c [strV s])]) (M := (l.drop i).map strV) hO2 (.fact fun w hw => hdrop w hw) (by simp; try omega) hone2 (by omega) (by simp; omega) fun a3 c3 C3 hO3 => ?_
          conv => whnf
          exact hend hk a3 c3 C3 _ hO3 _ _ (by omega)
        · refine XVal.build tabOk (t := 23) rfl rfl rfl [strV s] rfl rfl (by simp [Value.cells, strV]) (by decide) fun b1 => ?_
          conv => whnf
          refine XVal.ent (F' := ⟨fun w => StrAt w h l, [] ++ orow (some ⟨b0, 0, none⟩) [] ++ [(b1, Row.c [strV s])]⟩) (Ent.of_le ⟨by simp [orow, Value.cells, strV], fun w hw => hw⟩) ?_
          refine XVal.append tabOk (t := 23) (xt := 23) rfl rfl rfl rfl rfl rfl (r1 := []) (r2 := [(b1, Row.c [strV s])]) (M := (l.take i).map strV) (L := []) (n := 0) (Own.full rfl) (.fact fun w hw => htake w hw) (by simp; omega) hone (by omega) (by simp; omega) fun a1 c1 C1 hO1 => ?_
          conv => whnf
          refine XVal.append tabOk (t := 23) (xt := 23) rfl rfl rfl rfl rfl rfl (r1 := []) (r2 := [(b1, Row.c [strV s])]) (M := [strV s]) hO1 (Sees.row (by simp)) rfl (by simp [strV, oneCell]) (by omega) (by simp; omega) fun a2 c2 C2 hO2 => ?_
          conv => whnf
          refine XVal.append tabOk (t := 23) (xt := 23) rfl rfl rfl rfl rfl rfl (r1 := []) (r2 := [(b1, Row.c [strV s])]) (M := (l.drop i).map strV) hO2 (.fact fun w hw => hdrop w hw) (by simp; try omega) hone2 (by omega) (by simp; omega) fun a3 c3 C3 hO3 => ?_
          conv => whnf
          exact hend hk a3 c3 C3 _ hO3 _ _ (by omega)
      · refine XVal.build tabOk (t := 23) rfl rfl rfl [strV s] rfl rfl (by simp [Value.cells, strV]) (by decide) fun b1 => ?_
        conv => whnf
        refine XVal.build tabOk (t := 23) rfl rfl rfl [] rfl rfl (by simp) (by decide) fun b0 => ?_
        conv => whnf
        refine XVal.ent (F' := ⟨fun w => StrAt w h l, [(b1, Row.c [strV s])] ++ orow (some ⟨b0, 0, none⟩) [] ++ []⟩) (Ent.of_le ⟨by simp [orow, Value.cells, strV], fun w hw => hw⟩) ?_
        refine XVal.append tabOk (t := 23) (xt := 23) rfl rfl rfl rfl rfl rfl (r1 := [(b1, Row.c [strV s])]) (r2 := []) (M := (l.take i).map strV) (L := []) (n := 0) (Own.full rfl) (.fact fun w hw => htake w hw) (by simp; omega) hone (by omega) (by simp; omega) fun a1 c1 C1 hO1 => ?_
        conv => whnf
        refine XVal.append tabOk (t := 23) (xt := 23) rfl rfl rfl rfl rfl rfl (r1 := [(b1, Row.c [strV s])]) (r2 := []) (M := [strV s]) hO1 (Sees.row (by simp)) rfl (by simp [strV, oneCell]) (by omega) (by simp; omega) fun a2 c2 C2 hO2 => ?_
        conv => whnf
        refine XVal.append tabOk (t := 23) (xt := 23) rfl rfl rfl rfl rfl rfl (r1 := [(b1, Row.c [strV s])]) (r2 := []) (M := (l.drop i).map strV) hO2 (.fact fun w hw => hdrop w hw) (by simp; try omega) hone2 (by omega) (by simp; omega) fun a3 c3 C3 hO3 => ?_
        conv => whnf
        exact hend hk a3 c3 C3 _ hO3 _ _ (by omega)

theorem ins_spec (l : List (List UInt8)) (h : Hd) (hh : h.Ok l.length) (hl : l.length ≤ 1000) (s : List UInt8) :
    PureSpec Tryz.prog 79 [h.v l.length, strV s] (fun w => StrAt w h l) (RelS (insR l s)) :=
  (insO_spec l h hh hl s).weaken fun v F hv => by
    obtain ⟨b, c, C, rfl, hO, rfl⟩ := hv
    exact ⟨⟨fun w => StrAt w ⟨some ⟨b, 0, none⟩, c⟩ (insR l s), []⟩, (Own.gives hO).trans (Ent.imp fun w hw => hw.2), ⟨some ⟨b, 0, none⟩, c⟩, rfl, hO.hd, rfl⟩

end Go.Proofs.YtbfpgfopppfhoaaGreatDoor
namespace Go.Proofs.YtbfpgfopppfhoaaGreatDoor
open Go Go.Sx
set_option maxRecDepth 100000
set_option maxHeartbeats 4000000
set_option linter.unusedVariables false
set_option linter.unusedSimpArgs false

def addI (l : List (List UInt8)) (e : En) : List (List UInt8) := if e.1 = [] then l else insR l e.1
def namesI (E : List En) : List (List UInt8) := E.foldl addI []

theorem addI_len (l : List (List UInt8)) (e : En) : (addI l e).length ≤ l.length + 1 := by
  unfold addI
  split
  · omega
  · rw [insR_len]; omega

theorem namesI_len : ∀ (E : List En) (l : List (List UInt8)), (E.foldl addI l).length ≤ l.length + E.length
  | [], l => by simp
  | e :: E, l => by
    have h1 := namesI_len E (addI l e)
    have h2 := addI_len l e
    simp only [List.foldl_cons, List.length_cons]
    omega

noncomputable def listR (d : List UInt8) (n : Int) : List (List UInt8) × Nat := if chk38 d ≠ 0 then ([], chk38 d) else (namesI (dirR d n).1, (dirR d n).2)

def RelLE (l : List (List UInt8)) (e : Nat) (v : Value) (F : Fx) : Prop := ∃ h : Hd, v = .tuple #[h.v l.length, .int .i64 (e : Int)] ∧ h.Ok l.length ∧ F = ⟨fun w => StrAt w h l, []⟩

theorem dirR_len (d : List UInt8) (n : Int) : (dirR d n).1.length ≤ 8 := by
  unfold dirR
  split
  · simp
  · split
    · simp
    · exact entsR_small _

theorem list38_spec (d : List UInt8) (h : Hd) (hh : h.Ok d.length) (hl : d.length ≤ 1000000) (n : Int) :
    PureSpec Tryz.prog 37 [h.v d.length, .int .i64 n] (fun w => By w h d) (RelLE (listR d n).1 (listR d n).2) := by
  obtain ⟨M, hM⟩ : ∃ x, x = listR d n := ⟨_, rfl⟩
  rw [← hM]
  unfold listR at hM
  have hdl := dirR_len d n
  refine PureSpec.of_xc tabOk Tryz.func37 rfl (by decide) (n := Tryz.f37.ntmps - 2) rfl rfl fun w0 av => ?_
  conv => whnf
  refine XCall.val (check38_spec d h hh hl) (fun w hw => hw) (fun v D hv => ?_)
  generalize chk38 d = c at *
  subst hv
  conv => whnf
  repeat (refine XSame.of ?_; conv => whnf)
  refine XIf.split (fun hq => ?_) (fun hq => ?_)
  · have hq' : c ≠ 0 := by
      simp [iNe_eq] at hq
      omega
    rw [if_pos hq'] at hM
    rw [hM]
    conv => whnf
    repeat (refine XSame.of ?_; conv => whnf)
    exact ⟨⟨fun w => StrAt w Hd.nil [], []⟩, Ent.bare fun w _ => RowAt.nilA, Hd.nil, rfl, Hd.nil_ok, rfl⟩
  have hq' : ¬ c ≠ 0 := by
    simp [iNe_eq] at hq
    omega
  rw [if_neg hq'] at hM
  rw [hM]
  have hds := dir_spec d h hh hl n
  generalize dirR d n = r at *
  obtain ⟨E, er⟩ := r
  dsimp only at hds hdl ⊢
  conv => whnf
  repeat (refine XSame.of ?_; conv => whnf)
  refine XCall.pure hds (fun w hw => hw) (fun v D hv => ?_)
  obtain ⟨ke, rfl, hke, rfl⟩ := hv
  have hnx : ∀ j (hj : j < E.length), namesI (E.take (j + 1)) = addI (namesI (E.take j)) E[j] := fun j hj => by
    unfold namesI
    rw [List.take_succ_eq_append_getElem hj, List.foldl_append]
    rfl
  have hnl : ∀ j, (namesI (E.take j)).length ≤ 8 := fun j => by
    have := namesI_len (E.take j) []
    rw [List.length_take] at this
    unfold namesI
    simp at this ⊢
    omega
  conv => whnf
  repeat (refine XSame.of ?_; conv => whnf)
  refine XStop.loop tabOk (ι := Nat × Hd) ([9, 10] ++ List.range' 22 19) (fun x => x.1 ≤ E.length ∧ x.2.Ok (namesI (E.take x.1)).length)
    (fun x => [(9, .v (x.2.v (namesI (E.take x.1)).length)), (10, .v (.int .i64 (x.1 : Int)))]) (fun _ => []) (fun x => ⟨fun w => RowAt w ke.a (enCs E) ∧ StrAt w x.2 (namesI (E.take x.1)), []⟩)
    (fun x => E.length - x.1) (0, Hd.nil) ⟨Nat.zero_le _, Hd.nil_ok⟩ ?_ rfl (Ent.of_le ⟨by simp [Fx.and], fun w hw => ⟨hw.2, RowAt.nilA⟩⟩) fun x hx => ?_
  · conv => whnf
    repeat (first | exact FLe.nil | refine FLe.any ?_ | refine FLe.cons ?_)
  obtain ⟨j, k⟩ := x
  obtain ⟨hj, hk⟩ := hx
  dsimp only at hj hk ⊢
  conv => whnf
  refine XIf.split (fun hlt => ?_) (fun hlt => ?_)
  · have hlt' : j < E.length := by
      simp only [iLt_eq, decide_eq_true_eq] at hlt
      omega
    have hn1 := hnx j hlt'
    have hn2 := hnl j
    have hfin : ∀ (k' : Hd) (l' : List (List UInt8)), l' = namesI (E.take (j + 1)) → Ent ⟨fun w => RowAt w ke.a (enCs E) ∧ StrAt w k' l', []⟩ ((fun x : Nat × Hd => (⟨fun w => RowAt w ke.a (enCs E) ∧ StrAt w x.2 (namesI (E.take x.1)), []⟩ : Fx)) (j + 1, k')) := fun k' l' h => by
      subst h
      exact Ent.refl _
    generalize namesI (E.take j) = ns at *
    have hcell := (enCs_get (l := E) (i := j) hlt').1
    generalize hej : E[j] = e at *
    obtain ⟨nm, nd⟩ := e
    dsimp only at hcell
    conv => whnf
    repeat (refine XSame.of ?_; conv => whnf)
    refine XVal.of_read (XRead.index tabOk (t := 89) rfl rfl rfl (by omega) (by omega) hke.nil fun ad had => ?_)
    conv => whnf
    repeat (refine XSame.of ?_; conv => whnf)
    refine XVal.of_read (XRead.loadF tabOk (t := 9) rfl rfl (ad := ad) (k := 2 * j) (L := enCs E) (v := strV nm) (.fact fun w hw => had ▸ hw.1) (fun hs => by rw [Addr.addAdd hs]; congr 1; simp; try omega) hcell ?_)
    conv => whnf
    repeat (refine XSame.of ?_; conv => whnf)
    refine XVal.of_read (XRead.strNe (l := nm) (m := []) ?_)
    conv => whnf
    repeat (refine XSame.of ?_; conv => whnf)
    refine XIf.split (fun hne => ?_) (fun hne => ?_)
    · have hne' : nm ≠ [] := by simpa using hne
      have ha : addI ns (nm, nd) = insR ns nm := if_neg hne'
      rw [ha] at hn1
      have hins := ins_spec ns k hk (by omega) nm
      conv => whnf
      repeat (refine XSame.of ?_; conv => whnf)
      refine XVal.of_read (XRead.index tabOk (t := 89) rfl rfl rfl (by omega) (by omega) hke.nil fun ad had => ?_)
      conv => whnf
      repeat (refine XSame.of ?_; conv => whnf)
      refine XVal.of_read (XRead.loadF tabOk (t := 9) rfl rfl (ad := ad) (k := 2 * j) (L := enCs E) (v := strV nm) (.fact fun w hw => had ▸ hw.1) (fun hs => by rw [Addr.addAdd hs]; congr 1; simp; try omega) hcell ?_)
      conv => whnf
      repeat (refine XSame.of ?_; conv => whnf)
      refine XCall.pure hins (fun w hw => hw.2) (fun v D hv => ?_)
      obtain ⟨k2, rfl, hk2, rfl⟩ := hv
      conv => whnf
      repeat (refine XSame.of ?_; conv => whnf)
      refine ⟨(j + 1, k2), ⟨⟨hlt', by dsimp only; rw [hn1]; exact hk2⟩, by dsimp only; omega⟩, ?_, ?_, Ent.trans (Ent.of_le (F' := ⟨fun w => RowAt w ke.a (enCs E) ∧ StrAt w k2 (insR ns nm), []⟩) ⟨by simp [Fx.and], fun w hw => ⟨hw.1.1, hw.2⟩⟩) (hfin k2 _ hn1.symm)⟩
      · conv => whnf
        refine ⟨?_, rfl⟩
        repeat (first | exact FLe.nil | refine FLe.any ?_ | refine FLe.cons ?_ | refine FLe.eq (by rw [wrap_i64 (by omega)]; rfl) ?_ | refine FLe.eq (congrArg (fun q : List (List UInt8) => SV.v (k2.v q.length)) hn1.symm) ?_)
      · conv => whnf
        exact trivial
    · have hne' : nm = [] := by simpa using hne
      have ha : addI ns (nm, nd) = ns := if_pos hne'
      rw [ha] at hn1
      conv => whnf
      repeat (refine XSame.of ?_; conv => whnf)
      refine ⟨(j + 1, k), ⟨⟨hlt', by dsimp only; rw [hn1]; exact hk⟩, by dsimp only; omega⟩, ?_, ?_, hfin k _ hn1.symm⟩
      · conv => whnf
        refine ⟨?_, rfl⟩
        repeat (first | exact FLe.nil | refine FLe.any ?_ | refine FLe.cons ?_ | refine FLe.eq (by rw [wrap_i64 (by omega)]; rfl) ?_ | refine FLe.eq (congrArg (fun q : List (List UInt8) => SV.v (k.v q.length)) hn1.symm) ?_)
      · conv => whnf
        exact trivial
  · have hje : j = E.length := by
      simp only [iLt_eq, decide_eq_false_iff_not] at hlt
      omega
    subst hje
    rw [List.take_length] at hk ⊢
    generalize namesI E = ns at *
    conv => whnf
    repeat (refine XSame.of ?_; conv => whnf)
    exact ⟨⟨fun w => StrAt w k ns, []⟩, Ent.imp fun w hw => hw.2, k, rfl, hk, rfl⟩

/-! ### plain -/

theorem insR_cons (x : List UInt8) (l : List (List UInt8)) (s : List UInt8) : insR (x :: l) s = if x < s then x :: insR l s else s :: x :: l := by
  unfold insR insI
  by_cases h : x < s
  · rw [if_pos h, List.takeWhile_cons_of_pos (by simpa using h)]
    simp
  · rw [if_neg h, List.takeWhile_cons_of_neg (by simpa using h)]
    simp

theorem insR_perm : ∀ (l : List (List UInt8)) (s : List UInt8), (insR l s).Perm (s :: l)
  | [], s => by simp [insR, insI]
  | x :: l, s => by
    rw [insR_cons]
    split
    · exact ((insR_perm l s).cons x).trans (List.Perm.swap s x l)
    · exact List.Perm.refl _

theorem insR_sorted : ∀ (l : List (List UInt8)) (s : List UInt8), (l.Pairwise fun x y => decide (x ≤ y) = true) → (insR l s).Pairwise fun x y => decide (x ≤ y) = true
  | [], s, _ => by simp [insR, insI]
  | x :: l, s, h => by
    rw [List.pairwise_cons] at h
    rw [insR_cons]
    split
    · rename_i hx
      rw [List.pairwise_cons]
      refine ⟨fun y hy => ?_, insR_sorted l s h.2⟩
      rcases List.mem_cons.1 ((insR_perm l s).mem_iff.1 hy) with h5 | h5
      · rw [h5]
        exact decide_eq_true (List.le_of_lt hx)
      · exact h.1 y h5
    · rename_i hx
      have hsx : s ≤ x := List.not_lt.1 hx
      rw [List.pairwise_cons]
      refine ⟨fun y hy => ?_, List.pairwise_cons.2 h⟩
      rcases List.mem_cons.1 hy with h5 | h5
      · rw [h5]
        exact decide_eq_true hsx
      · exact decide_eq_true (List.le_trans hsx (of_decide_eq_true (h.1 y h5)))

def nmL (E : List En) : List (List UInt8) := (E.filter fun e => e.1 ≠ []).map (·.1)

theorem namesI_ok : ∀ (E : List En) (l : List (List UInt8)), (l.Pairwise fun x y => decide (x ≤ y) = true) → ((E.foldl addI l).Pairwise fun x y => decide (x ≤ y) = true) ∧ (E.foldl addI l).Perm (l ++ nmL E)
  | [], l, h => ⟨h, by simp [nmL]⟩
  | e :: E, l, h => by
    by_cases he : e.1 = []
    · have ha : addI l e = l := if_pos he
      have hn : nmL (e :: E) = nmL E := by
        unfold nmL
        rw [List.filter_cons_of_neg (by simp [he])]
      rw [List.foldl_cons, ha, hn]
      exact namesI_ok E l h
    · have ha : addI l e = insR l e.1 := if_neg he
      have hn : nmL (e :: E) = e.1 :: nmL E := by
        unfold nmL
        rw [List.filter_cons_of_pos (by simp [he])]
        rfl
      rw [List.foldl_cons, ha, hn]
      obtain ⟨h1, h2⟩ := namesI_ok E (insR l e.1) (insR_sorted l e.1 h)
      refine ⟨h1, h2.trans (((insR_perm l e.1).append_right _).trans ?_)⟩
      rw [List.cons_append]
      exact List.perm_middle.symm

theorem nmsOf_eq : ∀ (E : List En) (l : List (List UInt8)), (l ++ nmL E).Nodup → E.foldl addS l = l ++ nmL E
  | [], l, _ => by simp [nmL]
  | e :: E, l, h => by
    by_cases he : e.1 = []
    · have ha : addS l e = l := if_pos (.inl he)
      have hn : nmL (e :: E) = nmL E := by
        unfold nmL
        rw [List.filter_cons_of_neg (by simp [he])]
      rw [hn] at h ⊢
      rw [List.foldl_cons, ha]
      exact nmsOf_eq E l h
    · have hn : nmL (e :: E) = e.1 :: nmL E := by
        unfold nmL
        rw [List.filter_cons_of_pos (by simp [he])]
        rfl
      rw [hn] at h ⊢
      have hnin : e.1 ∉ l := fun hm => by
        rw [List.nodup_append] at h
        exact h.2.2 _ hm _ (List.mem_cons_self ..) rfl
      have ha : addS l e = l ++ [e.1] := if_neg fun h => h.elim he hnin
      rw [List.foldl_cons, ha, nmsOf_eq E (l ++ [e.1]) (by simpa using h)]
      simp

theorem nmL_nodup {c : List UInt8} (h : entsOk c = true) : (nmL (ens c 8)).Nodup := by
  have hok := entsOk_iff.1 h
  unfold nmL ens
  have h1 : (List.range 8).Pairwise fun i j => (enR c i).1 ≠ [] → (enR c j).1 ≠ [] → (enR c i).1 ≠ (enR c j).1 := by
    have hr : (List.range 8).Pairwise fun i j => i < j := List.pairwise_lt_range
    refine hr.imp_of_mem fun {i j} hi hj hij h2 h3 => ?_
    exact (hok j (List.mem_range.1 hj)).only.resolve_left h3 i hij
  refine List.pairwise_map.2 (List.pairwise_filter.2 (List.pairwise_map.2 (h1.imp fun {i j} hij h2 h3 => hij (by simpa using h2) (by simpa using h3))))

theorem list_eq (d : List UInt8) (n : Int) : plistR d n = listR d n := by
  unfold plistR listR
  by_cases h0 : dirE d n = 0
  · obtain ⟨h38, m, rfl, hm⟩ := dirE_zero h0
    rw [if_pos h0, if_neg (show ¬ chk38 d ≠ 0 by rw [h38]; simp), dirR_dir h38 hm]
    have hE : (T0 d).E (m : Int).toNat = ens (contentR d m) 8 := rfl
    have hE2 : (T0 d).E m = ens (contentR d m) 8 := rfl
    rw [hE, hE2]
    have hnd := nmL_nodup ((tree_facts h38).2.2 m hm)
    have e1 : nmsOf (ens (contentR d m) 8) = nmL (ens (contentR d m) 8) := by
      have := nmsOf_eq (ens (contentR d m) 8) [] (by simpa using hnd)
      simpa [nmsOf] using this
    obtain ⟨h1, h2⟩ := namesI_ok (ens (contentR d m) 8) [] .nil
    rw [List.nil_append] at h2
    rw [e1]
    refine Prod.ext ?_ rfl
    exact sorted_eq (sortL_pw _) h1 ((sortL_perm _).trans h2.symm)
  · rw [if_neg h0]
    unfold dirE at h0 ⊢
    by_cases h38 : chk38 d = 0
    · rw [if_neg (show ¬ chk38 d ≠ 0 by rw [h38]; simp)] at h0 ⊢
      rw [if_neg (show ¬ chk38 d ≠ 0 by rw [h38]; simp)]
      have : (dirR d n).1 = [] := by
        unfold dirR at h0 ⊢
        split at h0
        · rename_i h; rw [if_pos h]
        · rename_i h
          rw [if_neg h]
          split at h0
          · rename_i h2; rw [if_pos h2]
          · exact absurd rfl h0
      rw [this]
      rfl
    · rw [if_pos h38, if_pos h38]

end Go.Proofs.YtbfpgfopppfhoaaGreatDoor
namespace Go.Proofs.YtbfpgfopppfhoaaGreatDoor
open Go Go.Sx
set_option maxRecDepth 100000
set_option maxHeartbeats 4000000
set_option linter.unusedVariables false
set_option linter.unusedSimpArgs false

def addQ (l : List (List UInt8)) (x : List UInt8 × Nat) : List (List UInt8) := if x.1.length ≤ 60 then insR l x.1 else l

theorem addQ_ok : ∀ (V : List (List UInt8 × Nat)) (l : List (List UInt8)), (l.Pairwise fun x y => decide (x ≤ y) = true) →
    ((V.foldl addQ l).Pairwise fun x y => decide (x ≤ y) = true) ∧ (V.foldl addQ l).Perm (l ++ (V.filter fun x => decide (x.1.length ≤ 60)).map (·.1))
  | [], l, h => ⟨h, by simp⟩
  | x :: V, l, h => by
    rw [List.foldl_cons]
    unfold addQ
    by_cases hx : x.1.length ≤ 60
    · rw [if_pos hx, List.filter_cons_of_pos (by simpa using hx)]
      obtain ⟨h1, h2⟩ := addQ_ok V (insR l x.1) (insR_sorted l x.1 h)
      refine ⟨h1, h2.trans ?_⟩
      rw [List.map_cons]
      exact ((insR_perm l x.1).append_right _).trans List.perm_middle.symm
    · rw [if_neg hx, List.filter_cons_of_neg (by simpa using hx)]
      exact addQ_ok V l h

theorem addQ_len (l : List (List UInt8)) (x : List UInt8 × Nat) : (addQ l x).length ≤ l.length + 1 := by
  unfold addQ
  split
  · rw [insR_len]; omega
  · omega

theorem foldQ_len : ∀ (V : List (List UInt8 × Nat)) (l : List (List UInt8)), (V.foldl addQ l).length ≤ l.length + V.length
  | [], l => by simp
  | x :: V, l => by
    rw [List.foldl_cons]
    have h1 := foldQ_len V (addQ l x)
    have h2 := addQ_len l x
    simp
    omega

/-- What stands below one entry. -/
noncomputable def belE (d : List UInt8) (f : Nat) (p : List UInt8) (e : En) : List (List UInt8 × Nat) := if e.1 = [] then [] else (T0 d).V f e.2 (p ++ [47] ++ e.1)

noncomputable def belV (d : List UInt8) (f n : Nat) (p : List UInt8) : List (List UInt8 × Nat) := ((T0 d).es n).flatMap (belE d f p)

theorem V_succ (d : List UInt8) (f n : Nat) (p : List UInt8) : (T0 d).V (f + 1) n p = (p, n) :: belV d f n p := rfl

noncomputable def pathsR (d : List UInt8) : List (List UInt8) := if chk38 d ≠ 0 then [] else (belV d 32 0 []).foldl addQ [[47]]

theorem paths_eq {d : List UInt8} (h38 : chk38 d = 0) : pathsR d = pathsP d := by
  unfold pathsR
  rw [if_neg (by rw [h38]; simp)]
  have hu := uniqT h38
  have hn : (((T0 d).V 33 0 []).map (·.2)).Nodup := by
    rw [V_nodes]
    exact pre_nodup hu 33 .root
  have hV := V_succ d 32 0 []
  obtain ⟨h1, h2⟩ := addQ_ok (belV d 32 0 []) [[47]] (List.pairwise_singleton ..)
  refine sorted_eq h1 (sortL_pw _) (h2.trans ((sortL_perm _).trans ?_).symm)
  rw [show (33 : Nat) = 32 + 1 from rfl] at *
  rw [hV] at hn ⊢
  rw [List.map_cons, List.nodup_cons] at hn
  rw [foldl_addP, List.filter_cons_of_neg (by simp)]
  refine List.Perm.of_eq ?_
  congr 2
  refine List.filter_congr fun x hx => ?_
  have : x.2 ≠ 0 := fun h => hn.1 (List.mem_map.2 ⟨x, hx, h⟩)
  rw [decide_eq_decide]
  exact ⟨fun h => h.2, fun h => ⟨this, h⟩⟩

theorem below_spec (d : List UInt8) (h : Hd) (hh : h.Ok d.length) (hl : d.length ≤ 1000000) (h38 : chk38 d = 0) : ∀ (f n : Nat) (p : List UInt8) (out : List (List UInt8)) (b cap : Nat) (C : List Value),
    Low (T0 d).ch (f + 1) n → n ∈ (T0 d).dl → p.length + 15 * f ≤ 900 → out.length + (belV d f n p).length ≤ 900 → Own 1 out.length (some ⟨b, 0, none⟩) cap C (out.map strV) →
    RowsSpec Tryz.prog 66 [h.v d.length, .int .i64 (n : Int), strV p, .slice (some ⟨b, 0, none⟩) out.length cap] [(b, Row.c C)] (fun w => By w h d) (RelOut ((belV d f n p).foldl addQ out)) := by
  intro f
  induction f using Nat.strongRecOn with
  | ind f ih =>
  intro n p out b cap C hlow hn hp hlen hO
  obtain ⟨h0, hG, hE⟩ := tree_facts h38
  have hdr := dirR_dir h38 hn
  have hes : (T0 d).es n = (T0 d).E n := if_pos hn
  obtain ⟨R, hR⟩ : ∃ R, R = (belV d f n p).foldl addQ out := ⟨_, rfl⟩
  rw [← hR]
  have hbv : belV d f n p = ((T0 d).E n).flatMap (belE d f p) := by unfold belV; rw [hes]
  have hnode : ∀ (e : En), e ∈ (T0 d).E n → e.1 ≠ [] → e.1.length ≤ 14 ∧ ∃ f', f = f' + 1 ∧ Low (T0 d).ch (f' + 1) e.2 ∧ e.2 < 32 ∧ gete d (e.2 : Nat) = 0 ∧ (rk d e.2 = 2 → e.2 ∈ (T0 d).dl) ∧
      (rk d e.2 ≠ 2 → ∀ q, belV d f' e.2 q = []) := by
    intro e he hne
    have hm : e.2 ∈ (T0 d).ch n := mem_ch (T := T0 d) (s := e.1) (by rw [hes]; exact he) hne
    obtain ⟨g1, g2, g3⟩ := hG.fine.ok n hn e.2 hm
    have hll := hlow e.2 hm
    have hv := (T0_nm h38).val n e.1 e.2 (by rw [hes]; exact he) hne
    refine ⟨(vname_len hv).2, ?_⟩
    cases f with
    | zero => exact absurd hll (by unfold Low; exact id)
    | succ f' =>
      refine ⟨f', rfl, hll, g2, ?_, fun h => mem_dl.2 ⟨g2, h⟩, fun h q => ?_⟩
      · unfold gete
        rw [h0, if_neg (by simp), if_neg (by omega), if_neg (by rw [Int.toNat_natCast]; exact g3)]
      · unfold belV
        rw [show (T0 d).es e.2 = [] from if_neg fun h2 => h (mem_dl.1 h2).2]
        rfl
  have hds := dir_spec d h hh hl n
  have hsml := dirR_small d n
  rw [hdr] at hds hsml
  rw [hbv] at hR hlen
  clear hbv hes hdr hE hlow
  generalize (T0 d).E n = E at *
  dsimp only at hds hsml
  refine RowsSpec.of_xc tabOk Tryz.func66 rfl (by decide) (n := Tryz.f66.ntmps - 4) rfl rfl (by simp) fun w0 av => ?_
  conv => whnf
  refine XCall.pure hds (fun w hw => hw) (fun v D hv => ?_)
  obtain ⟨ko, rfl, hko, rfl⟩ := hv
  conv => whnf
  refine XStop.loop tabOk (ι := Nat × List (List UInt8) × Nat × Nat × List Value) ([3, 11, 12, 13, 14] ++ List.range' 21 48) (fun x => x.1 ≤ E.length ∧ R = ((E.drop x.1).flatMap (belE d f p)).foldl addQ x.2.1 ∧
      x.2.1.length + ((E.drop x.1).flatMap (belE d f p)).length ≤ 900 ∧ Own 1 x.2.1.length (some ⟨x.2.2.1, 0, none⟩) x.2.2.2.1 x.2.2.2.2 (x.2.1.map strV))
    (fun x => [(3, .v (.slice (some ⟨x.2.2.1, 0, none⟩) x.2.1.length x.2.2.2.1)), (11, .v (.int .i64 (x.1 : Int)))]) (fun _ => []) (fun x => ⟨fun w => By w h d ∧ RowAt w ko.a (enCs E), [(x.2.2.1, Row.c x.2.2.2.2)]⟩)
    (fun x => E.length - x.1) (0, out, b, cap, C) ⟨Nat.zero_le _, hR, hlen, hO⟩ ?_ rfl (Ent.of_le ⟨by simp [Fx.and], fun w hw => hw⟩) fun x hx => ?_
  · conv => whnf
    repeat (first | exact FLe.nil | refine FLe.any ?_ | refine FLe.cons ?_)
  clear hR hlen hO
  obtain ⟨i, o, b, cap, C⟩ := x
  obtain ⟨hi, hR, hlen, hO⟩ := hx
  dsimp only at hi hR hlen hO ⊢
  conv => whnf
  refine XIf.split (fun hlt => ?_) (fun hlt => ?_)
  · have hlt' : i < E.length := by
      simp only [iLt_eq, decide_eq_true_eq] at hlt
      omega
    rw [List.drop_eq_getElem_cons hlt', List.flatMap_cons] at hR hlen
    rw [List.foldl_append] at hR
    rw [List.length_append] at hlen
    have hnd := hnode E[i] (List.getElem_mem hlt')
    obtain ⟨hc1', hc2'⟩ := enCs_get hlt'
    have hbe : belE d f p E[i] = if E[i].1 = [] then [] else (T0 d).V f E[i].2 (p ++ [47] ++ E[i].1) := rfl
    generalize belE d f p E[i] = bE at *
    generalize E[i].2 = m at *
    generalize E[i].1 = nm at *
    conv => whnf
    refine XVal.of_read (XRead.index tabOk (t := 89) rfl rfl rfl (by omega) (by omega) hko.nil fun ad had => ?_)
    conv => whnf
    refine XVal.of_read (XRead.loadF tabOk (t := 9) rfl rfl (ad := ad) (k := 2 * i) (L := enCs E) (v := strV nm) (.fact fun w hw => had ▸ hw.2) (fun hs => by rw [Addr.addAdd hs]; congr 1; simp; try omega) hc1' ?_)
    conv => whnf
    refine XVal.of_read (XRead.strEq (l := nm) (m := []) ?_)
    conv => whnf
    refine XIf.split (fun hq => ?_) (fun hq => ?_)
    · have hq' : nm = [] := by simpa using hq
      rw [if_pos hq'] at hbe
      subst hbe
      conv => whnf
      refine ⟨(i + 1, o, b, cap, C), ⟨⟨hlt', hR, by rw [List.length_nil, Nat.zero_add] at hlen; exact hlen, hO⟩, by dsimp only; omega⟩, ?_, ?_, Ent.refl _⟩
      · conv => whnf
        refine ⟨?_, rfl⟩
        repeat (first | exact FLe.nil | refine FLe.any ?_ | refine FLe.cons ?_ | refine FLe.eq (by rw [wrap_i64 (by omega)]; rfl) ?_)
      · conv => whnf
        exact trivial
    have hq' : nm ≠ [] := by simpa using hq
    rw [if_neg hq'] at hbe
    obtain ⟨hnl, f', hf', hlow', hm32, hge, hdl, hnot⟩ := hnd hq'
    subst hf'
    rw [V_succ] at hbe
    subst hbe
    rw [List.foldl_cons] at hR
    rw [List.length_cons] at hlen
    conv => whnf
    refine XVal.of_read (XRead.strAdd (l := p) (m := [47]) (by simp; omega) ?_)
    conv => whnf
    refine XVal.of_read (XRead.index tabOk (t := 89) rfl rfl rfl (by omega) (by omega) hko.nil fun ad had => ?_)
    conv => whnf
    refine XVal.of_read (XRead.loadF tabOk (t := 9) rfl rfl (ad := ad) (k := 2 * i) (L := enCs E) (v := strV nm) (.fact fun w hw => had ▸ hw.2) (fun hs => by rw [Addr.addAdd hs]; congr 1; simp; try omega) hc1' ?_)
    conv => whnf
    refine XVal.of_read (XRead.strAdd (l := p ++ [47]) (m := nm) (by simp; omega) ?_)
    have hql : (p ++ [47] ++ nm).length ≤ p.length + 15 := by simp; omega
    generalize p ++ [47] ++ nm = q at *
    have hsz : (ByteArray.mk ⟨q⟩).size = q.length := rfl
    obtain ⟨k, s, bb, hL, hEE⟩ := getL_ino d m
    have hkk : k = rk d m := by
      have := (hEE hge).1
      rwa [Int.toNat_natCast] at this
    have hgt := get37_spec d h hh hl m
    rw [hL] at hgt
    have hal : (addQ o (q, m)).length ≤ o.length + 1 := addQ_len _ _
    have haq : addQ o (q, m) = if q.length ≤ 60 then insR o q else o := rfl
    generalize addQ o (q, m) = o2 at *
    conv => whnf
    refine XIf.split (fun h60 => ?pA) (fun h60 => ?pB)
    case' pA =>
      rw [if_pos (by simp [iLe_eq, hsz] at h60; omega)] at haq
      conv => whnf
      refine XCall.from (insO_spec o ⟨some ⟨b, 0, none⟩, cap⟩ hO.hd (by omega) q) (Loc.row _ _) (fun w hst => hO.sees (r1 := []) (r2 := []) w (by simpa [orow] using hst)) (fun v D hv => ?_)
      rw [← haq] at hv
      obtain ⟨b2, c2, C2, rfl, hO2, rfl⟩ := hv
      refine ⟨fun w => trivial, ?_⟩
      conv => whnf
      refine XVal.ent (F' := ⟨fun w => By w h d ∧ RowAt w ko.a (enCs E), [(b2, Row.c C2)]⟩) (Ent.of_le ⟨by simp [Fx.and], fun w hw => hw.1⟩) ?_
    case' pB =>
      rw [if_neg (by simp [iLe_eq, hsz] at h60; omega)] at haq
      subst haq
      obtain ⟨b2, rfl⟩ : ∃ b2, b2 = b := ⟨_, rfl⟩
      obtain ⟨c2, rfl⟩ : ∃ c2, c2 = cap := ⟨_, rfl⟩
      obtain ⟨C2, rfl⟩ : ∃ C2, C2 = C := ⟨_, rfl⟩
      have hO2 := hO
      conv => whnf
    all_goals
      refine XVal.of_read (XRead.index tabOk (t := 89) rfl rfl rfl (by omega) (by omega) hko.nil fun ad had => ?_)
      conv => whnf
      refine XVal.of_read (XRead.loadF tabOk (t := 3) rfl rfl (ad := ad) (k := 2 * i + 1) (L := enCs E) (v := intV m) (.fact fun w hw => had ▸ hw.2) (fun hs => by rw [Addr.addAdd hs]; congr 1; simp; try omega) hc2' ?_)
      conv => whnf
      refine XCall.val hgt (fun w hw => hw.1) (fun v D hv => ?_)
      rw [hge] at hv
      subst hv
      conv => whnf
      intro b0
      conv => whnf
      repeat (refine XSame.of ?_; conv => whnf)
      refine XIf.split (fun hk2 => ?_) (fun hk2 => ?_)
      · have hk2' : rk d m = 2 := by
          simp [iEq_eq] at hk2
          omega
        have hdm := hdl hk2'
        conv => whnf
        repeat (refine XSame.of ?_; conv => whnf)
        refine XVal.of_read (XRead.index tabOk (t := 89) rfl rfl rfl (by omega) (by omega) hko.nil fun ad had => ?_)
        conv => whnf
        refine XVal.of_read (XRead.loadF tabOk (t := 3) rfl rfl (ad := ad) (k := 2 * i + 1) (L := enCs E) (v := intV m) (.fact fun w hw => had ▸ hw.2) (fun hs => by rw [Addr.addAdd hs]; congr 1; simp; try omega) hc2' ?_)
        have hrs := ih f' (by omega) m q o2 b2 c2 C2 hlow' hdm (by omega) (by omega) hO2
        have hfl := foldQ_len (belV d f' m q) o2
        generalize (belV d f' m q).foldl addQ o2 = o3 at *
        conv => whnf
        refine XCall.ent (F' := ⟨fun w => By w h d ∧ RowAt w ko.a (enCs E), [] ++ [(b2, Row.c C2)] ++ []⟩) (Ent.of_le ⟨by simp, fun w hw => hw⟩) ?_
        refine XCall.rows hrs (fun w hw => hw.1) (fun v D hv => ?_)
        obtain ⟨b3, c3, C3, rfl, hO3, rfl⟩ := hv
        conv => whnf
        repeat (refine XSame.of ?_; conv => whnf)
        refine ⟨(i + 1, o3, b3, c3, C3), ⟨⟨hlt', hR, by dsimp only; omega, hO3⟩, by dsimp only; omega⟩, ?_, ?_, ?_⟩
        · conv => whnf
          refine ⟨?_, rfl⟩
          repeat (first | exact FLe.nil | refine FLe.any ?_ | refine FLe.cons ?_ | refine FLe.eq (by rw [wrap_i64 (by omega)]; rfl) ?_)
        · conv => whnf
          exact trivial
        · exact Ent.of_le ⟨by simp, fun w hw => hw.1⟩
      · have hk2' : rk d m ≠ 2 := by
          simp [iEq_eq] at hk2
          omega
        rw [hnot hk2' q] at hR hlen
        conv => whnf
        repeat (refine XSame.of ?_; conv => whnf)
        refine ⟨(i + 1, o2, b2, c2, C2), ⟨⟨hlt', hR, by rw [List.length_nil] at hlen; dsimp only; omega, hO2⟩, by dsimp only; omega⟩, ?_, ?_, ?_⟩
        · conv => whnf
          refine ⟨?_, rfl⟩
          repeat (first | exact FLe.nil | refine FLe.any ?_ | refine FLe.cons ?_ | refine FLe.eq (by rw [wrap_i64 (by omega)]; rfl) ?_)
        · conv => whnf
          exact trivial
        · exact Ent.of_le ⟨by simp, fun w hw => hw⟩
  · have hie : i = E.length := by
      simp only [iLt_eq, decide_eq_false_iff_not] at hlt
      omega
    subst hie
    rw [List.drop_length] at hR
    have hR : R = o := hR
    rw [hR]
    conv => whnf
    exact ⟨⟨fun _ => True, [(b, Row.c C)]⟩, Ent.of_le ⟨List.Sublist.refl _, fun w _ => trivial⟩, b, cap, C, rfl, hO, rfl⟩

theorem paths38_spec (d : List UInt8) (h : Hd) (hh : h.Ok d.length) (hl : d.length ≤ 1000000) : PureSpec Tryz.prog 25 [h.v d.length] (fun w => By w h d) (RelPaths (chk38 d) (pathsR d)) := by
  have hch := check38_spec d h hh hl
  by_cases h38 : chk38 d = 0
  rotate_left
  · have hR : RelPaths (chk38 d) (pathsR d) (.tuple #[.slice none 0 0, .int .i64 (chk38 d : Int)]) ⟨fun _ => True, []⟩ := by
      unfold RelPaths
      rw [if_neg h38]
      exact ⟨rfl, rfl⟩
    generalize chk38 d = e at *
    refine PureSpec.of_xc tabOk Tryz.func25 rfl (by decide) (n := Tryz.f25.ntmps - 1) rfl rfl fun w0 av => ?_
    conv => whnf
    repeat (refine XSame.of ?_; conv => whnf)
    refine XCall.val hch (fun w hw => hw) (fun v D hv => ?_)
    subst hv
    conv => whnf
    repeat (refine XSame.of ?_; conv => whnf)
    refine XIf.yes (by simp [iNe_eq]; omega) ?_
    conv => whnf
    repeat (refine XSame.of ?_; conv => whnf)
    exact ⟨_, Ent.bare fun _ _ => trivial, hR⟩
  obtain ⟨-, hG, -⟩ := tree_facts h38
  have hVl := V_len hG
  rw [show (33 : Nat) = 32 + 1 from rfl, V_succ, List.length_cons] at hVl
  have hlow : Low (T0 d).ch (32 + 1) 0 := low_root (uniqT h38)
  have hroot : 0 ∈ (T0 d).dl := by
    obtain ⟨hd, hok⟩ := chk_zero (tree_facts h38).1
    exact mem_dl.2 ⟨by decide, (root_dir hd hok).1⟩
  have hbs := fun b => below_spec d h hh hl h38 32 0 [] [[47]] b 1 [strV [47]] hlow hroot (by decide) (by simp; omega) (Own.full rfl)
  have hpr : (belV d 32 0 []).foldl addQ [[47]] = pathsR d := by
    unfold pathsR
    rw [if_neg (by rw [h38]; simp)]
  rw [hpr] at hbs
  have hR : ∀ b cap C, Own 1 (pathsR d).length (some ⟨b, 0, none⟩) cap C ((pathsR d).map strV) → RelPaths (chk38 d) (pathsR d) (.tuple #[.slice (some ⟨b, 0, none⟩) (pathsR d).length cap, .int .i64 0]) ⟨fun _ => True, [(b, Row.c C)]⟩ := fun b cap C hO => by
    unfold RelPaths
    rw [if_pos h38]
    exact ⟨b, cap, C, hO, rfl, rfl⟩
  generalize pathsR d = L at *
  generalize chk38 d = e at *
  subst h38
  refine PureSpec.of_xc tabOk Tryz.func25 rfl (by decide) (n := Tryz.f25.ntmps - 1) rfl rfl fun w0 av => ?_
  conv => whnf
  repeat (refine XSame.of ?_; conv => whnf)
  refine XCall.val hch (fun w hw => hw) (fun v D hv => ?_)
  subst hv
  conv => whnf
  repeat (refine XSame.of ?_; conv => whnf)
  refine XIf.no (by simp [iNe_eq]) ?_
  conv => whnf
  repeat (refine XSame.of ?_; conv => whnf)
  refine XVal.build tabOk (t := 23) rfl rfl rfl [strV [47]] rfl rfl (by simp [Value.cells, strV]) (by decide) fun b0 => ?_
  conv => whnf
  repeat (refine XSame.of ?_; conv => whnf)
  refine XCall.ent (F' := ⟨fun w => By w h d, [] ++ [(b0, Row.c [strV [47]])] ++ []⟩) (Ent.of_le ⟨by simp [Value.cells, strV], fun w hw => hw⟩) ?_
  refine XCall.rows (hbs b0) (fun w hw => hw) (fun v D hv => ?_)
  obtain ⟨b, cap, C, rfl, hO, rfl⟩ := hv
  conv => whnf
  repeat (refine XSame.of ?_; conv => whnf)
  exact ⟨_, Ent.of_le ⟨by simp, fun w hw => trivial⟩, hR b cap C hO⟩

end Go.Proofs.YtbfpgfopppfhoaaGreatDoor
namespace Go.Proofs.YtbfpgfopppfhoaaGreatDoor
open Go Go.Sx
set_option maxRecDepth 100000
set_option maxHeartbeats 4000000
set_option linter.unusedVariables false
set_option linter.unusedSimpArgs false

theorem own_at {w0 : World} {R : Nat → Nat → Prop} {av : Nat → Prop} {w : World} {bs : List (Nat × Nat)} {cs : List (List Value)} {F : Fx} {n b cap : Nat} {C L : List Value} (hO : Own 1 n (some ⟨b, 0, none⟩) cap C L) (hm : (b, Row.c C) ∈ F.rs) (hst : St w0 R av w bs cs F) : RowAt w (some ⟨b, 0, none⟩) L := by
  have h := (Sees.row hm w hst).take (n * 1)
  rcases hO.alt with ⟨h1, _⟩ | ⟨b', _, _, h3⟩
  · cases h1
  · rw [h3] at h
    exact h

theorem pathsR_len {d : List UInt8} : (pathsR d).length ≤ 1000 := by
  unfold pathsR
  by_cases h38 : chk38 d = 0
  · rw [if_neg (by rw [h38]; simp)]
    have hVl := V_len (tree_facts h38).2.1
    rw [show (33 : Nat) = 32 + 1 from rfl, V_succ, List.length_cons] at hVl
    have := foldQ_len (belV d 32 0 []) [[47]]
    simp at this
    omega
  · rw [if_pos h38]
    simp

theorem dirsCheck_spec (l : List Opx) (k : Hd) (hk : k.Ok l.length) (hl : l.length ≤ 4000000000000000000) (hx : ∀ x ∈ l, x.h.Ok x.data.length) (at0 : Nat) (hat : at0 < 65536) (to : Nat) (hto : to < 256) :
    PureSpec Tryz.prog 6 [k.v l.length, .agg ⟨[.int .u16 (at0 : Int), .int .u8 (to : Int)]⟩] (fun w => OpsAt w k.a l) (fun v F => v = .bool true) := by
  refine PureSpec.of_xc tabOk Tryz.func6 rfl (by decide) (n := Tryz.f6.ntmps - 2) rfl rfl fun w0 av => ?_
  conv => whnf
  intro b3
  conv => whnf
  refine XCall.val awake_spec (fun w hw => trivial) (fun v D hv => ?_)
  obtain ⟨tr, htr⟩ : ∃ tr, true = tr := ⟨_, rfl⟩
  rw [htr] at hv
  subst hv
  conv => whnf
  repeat (refine XSame.of ?_; conv => whnf)
  refine XIf.no (by rw [← htr]; rfl) ?_
  conv => whnf
  repeat (refine XSame.of ?_; conv => whnf)
  refine XCall.val (few_spec l k hk hl) (fun w hw => hw) (fun v D hv => ?_)
  generalize hfw : fewR l = fw at hv
  subst hv
  conv => whnf
  repeat (refine XSame.of ?_; conv => whnf)
  cases fw
  · conv => whnf
    repeat (refine XSame.of ?_; conv => whnf)
    exact ⟨_, Ent.refl _, rfl⟩
  obtain ⟨hl20, hall⟩ := few_all hfw
  conv => whnf
  repeat (refine XSame.of ?_; conv => whnf)
  refine XCall.pure (diskO_spec l k hk hl20 fun x hxm => ⟨by have := (hall x hxm).1; omega, by have := (hall x hxm).2; omega, hx x hxm⟩) (fun w hw => hw) (fun v D hv => ?_)
  obtain ⟨fd, hF, b, cap, Z, rfl, hcap, rfl⟩ := hv
  have h38 := diskR_ok hF l
  have hd := diskR_len hF.len l
  generalize diskR fd l = d at *
  conv => whnf
  repeat (refine XSame.of ?_; conv => whnf)
  refine XCall.ent (F' := ⟨fun w => True, [(b, Row.c (d.map byteV ++ Z))]⟩) (Ent.of_le ⟨by simp [Fx.and], fun w hw => trivial⟩) ?_
  have hh : (⟨some ⟨b, 0, none⟩, cap⟩ : Hd).Ok d.length := ⟨fun h => (by cases h), hcap⟩
  have hdl : d.length ≤ 1000000 := by omega
  have hpp := ppaths_spec d ⟨some ⟨b, 0, none⟩, cap⟩ hh hdl
  have hrp := paths38_spec d ⟨some ⟨b, 0, none⟩, cap⟩ hh hdl
  have hpc := pcheck38_spec d ⟨some ⟨b, 0, none⟩, cap⟩ hh hdl
  have hrc := check38_spec d ⟨some ⟨b, 0, none⟩, cap⟩ hh hdl
  have hLl := pathsR_len (d := d)
  rw [openE_eq, ← paths_eq h38] at hpp
  generalize pathsR d = L at *
  generalize chk38 d = e at *
  refine XCall.from hpp (loc_by _ _) (fun w hst => row_by (Z := Z) (by simp) hst) (fun v D hv => ?_)
  unfold RelPaths at hv
  rw [if_pos h38] at hv
  obtain ⟨b1, c1, C1, hO1, hv, rfl⟩ := hv
  obtain ⟨z1, hz1⟩ : ∃ z : Int, z = 0 := ⟨_, rfl⟩
  rw [← hz1] at hv
  subst hv
  refine ⟨fun w => trivial, ?_⟩
  conv => whnf
  repeat (refine XSame.of ?_; conv => whnf)
  refine XCall.from hrp (loc_by _ _) (fun w hst => row_by (Z := Z) (by simp [Fx.and]) hst) (fun v D hv => ?_)
  unfold RelPaths at hv
  rw [if_pos h38] at hv
  obtain ⟨b2, c2, C2, hO2, hv, rfl⟩ := hv
  obtain ⟨z2, hz2⟩ : ∃ z : Int, z = 0 := ⟨_, rfl⟩
  rw [← hz2] at hv
  subst hv
  refine ⟨fun w => trivial, ?_⟩
  conv => whnf
  repeat (refine XSame.of ?_; conv => whnf)
  refine XCall.look hpc (loc_by _ _) (fun w hst => row_by (Z := Z) (by simp [Fx.and]) hst) ?_
  conv => whnf
  repeat (refine XSame.of ?_; conv => whnf)
  refine XCall.look hrc (loc_by _ _) (fun w hst => row_by (Z := Z) (by simp [Fx.and]) hst) ?_
  conv => whnf
  repeat (refine XSame.of ?_; conv => whnf)
  generalize hq1 : iNe (e : Int) (e : Int) = q1
  have hq1' : q1 = false := by rw [← hq1]; simp [iNe_eq]
  clear hq1
  subst hq1'
  have hsame := sameG_spec ⟨some ⟨b1, 0, none⟩, c1⟩ ⟨some ⟨b2, 0, none⟩, c2⟩ L L hO1.hd hO2.hd (by omega) (by omega)
  obtain ⟨q, hq⟩ : ∃ q, q = (L == L) := ⟨_, rfl⟩
  rw [← hq] at hsame
  have hq : q = true := by rw [hq]; simp
  conv => whnf
  repeat (refine XSame.of ?_; conv => whnf)
  refine XCall.look hsame (Loc.and (Loc.row _ _) (Loc.row _ _)) (fun w hst => ⟨own_at hO1 (by simp [Fx.and]) hst, own_at hO2 (by simp [Fx.and]) hst⟩) ?_
  subst hq
  conv => whnf
  repeat (refine XSame.of ?_; conv => whnf)
  generalize hq2 : iNe z1 z2 = q2
  have hq2' : q2 = false := by rw [← hq2]; simp [iNe_eq, hz1, hz2]
  clear hq2
  subst hq2'
  conv => whnf
  repeat (refine XSame.of ?_; conv => whnf)
  refine XCall.look hpc (loc_by _ _) (fun w hst => row_by (Z := Z) (by simp [Fx.and]) hst) ?_
  conv => whnf
  repeat (refine XSame.of ?_; conv => whnf)
  generalize hq3 : iNe (e : Int) 0 = q3
  have hq3' : q3 = false := by rw [← hq3]; simp [iNe_eq, h38]
  clear hq3
  subst hq3'
  conv => whnf
  repeat (refine XSame.of ?_; conv => whnf)
  refine XStop.ent (F' := ⟨fun w => True, [] ++ [(b, Row.c (d.map byteV ++ Z))] ++ []⟩) (Ent.of_le ⟨by simp [Fx.and], fun w hw => trivial⟩) ?_
  clear hpp hrp hpc hrc hO1 hO2 hsame
  refine XStop.draw tabOk mixed rfl rfl ?_
  conv => whnf
  have hw1 : IntKind.i64.wrap ((d.length : Int) - 1792) = 10496 := by rw [wrap_i64 (by omega)]; omega
  have hw2 : IntKind.i64.wrap (at0 : Int) = (at0 : Int) := wrap_i64 (by omega)
  have hw3 : Int.tmod (at0 : Int) 10496 = ((at0 % 10496 : Nat) : Int) := tmod_nat at0 10496
  rw [hw1, hw2, hw3]
  have hix : at0 % 10496 < 10496 := Nat.mod_lt _ (by decide)
  generalize at0 % 10496 = ix at *
  refine XDiv.mk (by decide) ?_
  have hw4 : IntKind.i64.wrap (1792 + (ix : Int)) = ((1792 + ix : Nat) : Int) := by rw [wrap_i64 (by omega)]; omega
  conv => whnf
  refine XRead.rowIxAt tabOk (t := 31) rfl rfl rfl rfl (1792 + ix) hw4 (by omega) ?_
  conv => whnf
  repeat (refine XSame.of ?_; conv => whnf)
  refine XUnit.storeByte tabOk (t := 5) rfl rfl (r1 := []) (r2 := []) (l := d) (Z := Z) to (by rw [Nat.zero_add]) rfl hto (by omega) ?_
  have hd2 : (bput d (1792 + ix) to).length = d.length := bput_len _ _ _
  rw [← hd2] at hcap hdl
  rw [← hd2]
  generalize bput d (1792 + ix) to = d2 at *
  clear hd2
  have hh2 : (⟨some ⟨b, 0, none⟩, cap⟩ : Hd).Ok d2.length := ⟨fun h => (by cases h), hcap⟩
  have hpp := ppaths_spec d2 ⟨some ⟨b, 0, none⟩, cap⟩ hh2 hdl
  have hrp := paths38_spec d2 ⟨some ⟨b, 0, none⟩, cap⟩ hh2 hdl
  have hpc := pcheck38_spec d2 ⟨some ⟨b, 0, none⟩, cap⟩ hh2 hdl
  have hrc := check38_spec d2 ⟨some ⟨b, 0, none⟩, cap⟩ hh2 hdl
  have hLl2 := pathsR_len (d := d2)
  rw [openE_eq] at hpp
  conv => whnf
  refine XCall.ent (F' := ⟨fun w => True, [(b, Row.c (d2.map byteV ++ Z))]⟩) (Ent.of_le ⟨by simp, fun w hw => trivial⟩) ?_
  by_cases h0 : chk38 d2 = 0
  · rw [← paths_eq h0] at hpp
    generalize pathsR d2 = L2 at *
    generalize chk38 d2 = e2 at *
    refine XCall.from hpp (loc_by _ _) (fun w hst => row_by (Z := Z) (by simp) hst) (fun v D hv => ?_)
    unfold RelPaths at hv
    rw [if_pos h0] at hv
    obtain ⟨b1, c1, C1, hO1, hv, rfl⟩ := hv
    obtain ⟨z1, hz1⟩ : ∃ z : Int, z = 0 := ⟨_, rfl⟩
    rw [← hz1] at hv
    subst hv
    refine ⟨fun w => trivial, ?_⟩
    conv => whnf
    repeat (refine XSame.of ?_; conv => whnf)
    refine XCall.from hrp (loc_by _ _) (fun w hst => row_by (Z := Z) (by simp [Fx.and]) hst) (fun v D hv => ?_)
    unfold RelPaths at hv
    rw [if_pos h0] at hv
    obtain ⟨b2, c2, C2, hO2, hv, rfl⟩ := hv
    obtain ⟨z2, hz2⟩ : ∃ z : Int, z = 0 := ⟨_, rfl⟩
    rw [← hz2] at hv
    subst hv
    refine ⟨fun w => trivial, ?_⟩
    conv => whnf
    repeat (refine XSame.of ?_; conv => whnf)
    refine XCall.look hpc (loc_by _ _) (fun w hst => row_by (Z := Z) (by simp [Fx.and]) hst) ?_
    conv => whnf
    repeat (refine XSame.of ?_; conv => whnf)
    refine XCall.look hrc (loc_by _ _) (fun w hst => row_by (Z := Z) (by simp [Fx.and]) hst) ?_
    conv => whnf
    repeat (refine XSame.of ?_; conv => whnf)
    generalize hq1 : iEq (e2 : Int) (e2 : Int) = q1
    have hq1' : q1 = true := by rw [← hq1]; simp [iEq_eq]
    clear hq1
    subst hq1'
    have hsame := sameG_spec ⟨some ⟨b1, 0, none⟩, c1⟩ ⟨some ⟨b2, 0, none⟩, c2⟩ L2 L2 hO1.hd hO2.hd (by omega) (by omega)
    obtain ⟨q, hq⟩ : ∃ q, q = (L2 == L2) := ⟨_, rfl⟩
    rw [← hq] at hsame
    have hq : q = true := by rw [hq]; simp
    conv => whnf
    repeat (refine XSame.of ?_; conv => whnf)
    refine XCall.look hsame (Loc.and (Loc.row _ _) (Loc.row _ _)) (fun w hst => ⟨own_at hO1 (by simp [Fx.and]) hst, own_at hO2 (by simp [Fx.and]) hst⟩) ?_
    subst hq
    conv => whnf
    repeat (refine XSame.of ?_; conv => whnf)
    refine ⟨⟨fun _ => True, []⟩, Ent.bare fun _ _ => trivial, ?_⟩
    rw [hz1, hz2]
    simp [iEq_eq]
  · generalize pathsR d2 = L2 at *
    generalize pathsP d2 = L3 at *
    generalize chk38 d2 = e2 at *
    refine XCall.from hpp (loc_by _ _) (fun w hst => row_by (Z := Z) (by simp) hst) (fun v D hv => ?_)
    unfold RelPaths at hv
    rw [if_neg h0] at hv
    obtain ⟨rfl, rfl⟩ := hv
    refine ⟨fun w => trivial, ?_⟩
    conv => whnf
    repeat (refine XSame.of ?_; conv => whnf)
    refine XCall.from hrp (loc_by _ _) (fun w hst => row_by (Z := Z) (by simp [Fx.and]) hst) (fun v D hv => ?_)
    unfold RelPaths at hv
    rw [if_neg h0] at hv
    obtain ⟨rfl, rfl⟩ := hv
    refine ⟨fun w => trivial, ?_⟩
    conv => whnf
    repeat (refine XSame.of ?_; conv => whnf)
    refine XCall.look hpc (loc_by _ _) (fun w hst => row_by (Z := Z) (by simp [Fx.and]) hst) ?_
    conv => whnf
    repeat (refine XSame.of ?_; conv => whnf)
    refine XCall.look hrc (loc_by _ _) (fun w hst => row_by (Z := Z) (by simp [Fx.and]) hst) ?_
    conv => whnf
    repeat (refine XSame.of ?_; conv => whnf)
    generalize hq1 : iEq (e2 : Int) (e2 : Int) = q1
    have hq1' : q1 = true := by rw [← hq1]; simp [iEq_eq]
    clear hq1
    subst hq1'
    have hsame := sameG_spec Hd.nil Hd.nil [] [] Hd.nil_ok Hd.nil_ok (by simp) (by simp)
    obtain ⟨q, hq⟩ : ∃ q, q = (([] : List (List UInt8)) == []) := ⟨_, rfl⟩
    rw [← hq] at hsame
    have hq : q = true := by rw [hq]; rfl
    conv => whnf
    repeat (refine XSame.of ?_; conv => whnf)
    refine XCall.look hsame (Loc.and (Loc.row _ _) (Loc.row _ _)) (fun w hst => ⟨By.nil w, By.nil w⟩) ?_
    subst hq
    conv => whnf
    repeat (refine XSame.of ?_; conv => whnf)
    refine ⟨⟨fun _ => True, []⟩, Ent.bare fun _ _ => trivial, ?_⟩
    simp [iEq_eq]

end Go.Proofs.YtbfpgfopppfhoaaGreatDoor
