/- Parts of the proof: NxB, NyG, NzC, ShC, NyL, NzD, NzE, NzF, NzG, NzH, NxD, NzJ. -/
import Derived.Test.YtbfpgfopppfhoaaGreatDoorQO
import Derived.Test.YtbfpgfopppfhoaaGreatDoorQP
import Derived.Test.YtbfpgfopppfhoaaGreatDoorRows
import Derived.SizedLaws
import Derived.Test.YtbfpgfopppfhoaaGreatDoorQN
import Derived.Test.YtbfpgfopppfhoaaGreatDoorQK
import Derived.Shelf.SlIter.Nil
import Derived.Test.YtbfpgfopppfhoaaGreatDoorProg
import Derived.Test.YtbfpgfopppfhoaaGreatDoorQF
namespace Go.Proofs.YtbfpgfopppfhoaaGreatDoor
open Go Go.Sx Go.ChangeShapes Go.WideShapes
set_option maxRecDepth 100000
set_option maxHeartbeats 2000000
set_option linter.unusedVariables false
set_option linter.unusedSimpArgs false

theorem OpsAt.agree {W w' : World} {a : Option Addr} {l : List Opx} (hs : OpsAt W a l) (hw : ∀ b, b < W.heap.size → w'.heap[b]? = W.heap[b]?) : OpsAt w' a l :=
  ⟨RowAt.agree hs.1 hw, fun p hp => Sx.By.agree (hs.2 p hp) hw⟩

section
variable {H : Type} {enc : TypeId × Value → H} {w : World} {base : Nat} {spare : Nat → Bool} {held : Bool} {r : Reach} {b0 : Nat}

theorem c3 : Tryz.prog.cellsOf 3 = 1 := cellsOf_tab tabOk (t := 3) rfl
theorem c5 : Tryz.prog.cellsOf 5 = 1 := cellsOf_tab tabOk (t := 5) rfl
theorem c9 : Tryz.prog.cellsOf 9 = 1 := cellsOf_tab tabOk (t := 9) rfl
theorem c31 : Tryz.prog.cellsOf 31 = 1 := cellsOf_tab tabOk (t := 31) rfl
theorem c70 : Tryz.prog.cellsOf 70 = 3 := cellsOf_tab tabOk (t := 70) rfl

theorem int_cell {n : Nat} {v : Value} {x : DataW H × List MemPlace} (h : DataW.trod enc Tryz.prog w base spare held n 3 [v] = some x) : ∃ z : Int, v = .int .i64 z ∧ -9223372036854775808 ≤ z ∧ z ≤ 9223372036854775807 := by
  obtain ⟨z, h1, _, hw⟩ := DataW.trod_int Tryz.underlying3 h
  cases h1
  exact ⟨z, rfl, bounds_i64 hw⟩

theorem str_cell {n : Nat} {v : Value} {x : DataW H × List MemPlace} (h : DataW.trod enc Tryz.prog w base spare held n 9 [v] = some x) : ∃ s : List UInt8, v = strV s := by
  obtain ⟨z, h1, _⟩ := DataW.trod_string Tryz.underlying9 h
  cases h1
  exact ⟨z.data.toList, rfl⟩

theorem op_cells {n : Nat} {cs : List Value} (hl : cs.length = 3) {x : DataW H × List MemPlace} (h : DataW.trod enc Tryz.prog w base spare held n 70 cs = some x) :
    ∃ p : Opx, cs = opC p ∧ p.h.Ok p.data.length ∧ By w p.h p.data := by
  obtain ⟨x0, x1, x2, rfl⟩ : ∃ a b c, cs = [a, b, c] := by
    rcases cs with _ | ⟨a, _ | ⟨b, _ | ⟨c, _ | ⟨d, l⟩⟩⟩⟩ <;> simp at hl
    exact ⟨a, b, c, rfl⟩
  obtain ⟨_, _, h0⟩ := trod_at Tryz.underlying70 h 0 (u := 3) (o := 0) rfl c3
  obtain ⟨_, _, h1⟩ := trod_at Tryz.underlying70 h 1 (u := 9) (o := 1) rfl c9
  obtain ⟨_, _, h2⟩ := trod_at Tryz.underlying70 h 2 (u := 31) (o := 2) rfl c31
  obtain ⟨t, rfl, _⟩ := int_cell h0
  obtain ⟨s, rfl⟩ := str_cell h1
  obtain ⟨k, l, rfl, hk, hb⟩ := bytes_open Tryz.underlying31 Tryz.underlying5 c5 h2
  exact ⟨⟨t, s, k, l⟩, rfl, hk, hb⟩

theorem one_of_slice {t e : TypeId} (ht : Tryz.prog.underlying t = some (.slice e)) {v : Value} (hv : Value.okWide Tryz.prog w r b0 t v) : v.cells.toList = [v] := by
  have hc : Cell.okWide Tryz.prog w r b0 t v := by simpa only [Value.okWide, ht] using hv
  cases v <;> first | rfl | (simp [Cell.okWide, Cell.ok, ht] at hc)

theorem open_ops {v : Value} {d : DataW H} {p : List MemPlace} (hv : Value.okWide Tryz.prog w r b0 29 v) (h : DataW.Trod enc Tryz.prog w base spare held 29 v d p) :
    ∃ (k : Hd) (l : List Opx), v = k.v l.length ∧ k.Ok l.length ∧ (∀ x ∈ l, x.h.Ok x.data.length) ∧ OpsAt w k.a l ∧ (l = [] ∨ ∃ el sp, d = .slice el sp ∧ el.length = l.length) := by
  obtain ⟨n, hn⟩ := h
  rw [one_of_slice Tryz.underlying29 hv] at hn
  obtain ⟨k, L, rfl, hk, hr, hc, hsz⟩ := slice_open Tryz.underlying29 c70 (by decide) hn
  obtain ⟨l, rfl, hg⟩ := each_of (f := opC) (good := fun p => p.h.Ok p.data.length ∧ By w p.h p.data) (L := L) fun c hcm => by
    obtain ⟨hl, m, y, hy⟩ := hc c hcm
    exact op_cells hl hy
  refine ⟨k, l, by simp, by simpa using hk, fun p hp => (hg p hp).1, ⟨?_, fun p hp => (hg p hp).2⟩, ?_⟩
  · show RowAt w k.a (opCs l)
    rw [opCs, List.flatMap_def]
    exact hr
  · rcases hsz with h | ⟨el, sp, h1, h2⟩
    · exact .inl (by simpa using h)
    · exact .inr ⟨el, sp, h1, by simpa using h2⟩

theorem ops_size {vars : List String} {ts : List TypeId} {ds gs : List (DataW H)} {j : Nat} {d : DataW H} (hz : (DataW.weightsEach Tryz.prog ts ds).all (· ≤ reachBytes) = true) (ht : ts[j]? = some 29) (hd : ds[j]? = some d)
    {l : List Opx} (h : l = [] ∨ ∃ el sp, d = .slice el sp ∧ el.length = l.length) : l.length ≤ 4000000000000000000 := by
  rcases h with rfl | ⟨el, sp, rfl, hl⟩
  · simp
  · have := sized_slice hz ht hd Tryz.underlying29
    have e : Tryz.prog.bytesOf 70 = 48 := by kernel_rfl
    rw [e] at this
    unfold reachBytes at this
    omega

end
end Go.Proofs.YtbfpgfopppfhoaaGreatDoor
namespace Go.Proofs.YtbfpgfopppfhoaaGreatDoor
open Go Go.Sx
set_option maxRecDepth 100000
set_option maxHeartbeats 4000000
set_option linter.unusedVariables false
set_option linter.unusedSimpArgs false

theorem pcheck38_spec (d : List UInt8) (h : Hd) (hh : h.Ok d.length) (hl : d.length ≤ 1000000) : PureSpec Tryz.prog 26 [h.v d.length] (fun w => By w h d) (fun v F => v = .int .i64 (chk38 d : Int)) := by
  have ho := openT_spec d h hh hl
  rw [openE_eq] at ho
  refine PureSpec.of_xc tabOk Tryz.func26 rfl (by decide) (n := Tryz.f26.ntmps - 1) rfl rfl fun w0 av => ?_
  generalize chk38 d = e at *
  conv => whnf
  repeat (refine XSame.of ?_; conv => whnf)
  refine XCall.val ho (fun w hw => hw) (fun v D hv => ?_)
  obtain ⟨p, rfl⟩ : ∃ p, v = .tuple #[.pointer p, .int .i64 (e : Int)] := by
    unfold RelTr at hv
    split at hv
    · obtain ⟨bt, bm, H, _, rfl, _⟩ := hv
      exact ⟨_, rfl⟩
    · obtain ⟨p, rfl, _⟩ := hv
      exact ⟨p, rfl⟩
  conv => whnf
  repeat (refine XSame.of ?_; conv => whnf)
  exact ⟨_, Ent.refl _, rfl⟩

theorem theTree_find (d : List UInt8) (H : Nat → Hd) (n : Nat) (s : List UInt8) : (theTree d H).find n s = (T0 d).find n s := rfl

theorem theTree_walk (d : List UInt8) (H : Nat → Hd) : ∀ (l : List (List UInt8)) (n : Nat), (theTree d H).walk l n = (T0 d).walk l n
  | [], n => rfl
  | s :: r, n => by
    unfold Tree.walk
    rw [theTree_find, theTree_walk d H r]

theorem walkR_P {d : List UInt8} (h38 : chk38 d = 0) (p : List UInt8) : walkR d p = if (splitR p).2 ≠ 0 then (0, 15) else (T0 d).walk (splitR p).1 0 := by
  obtain ⟨h0, hG, hE⟩ := tree_facts h38
  obtain ⟨hr1, hr2⟩ := mem_dl.1 (root_in h0)
  have hsn := splitR_names p
  unfold walkR
  rw [if_neg (show ¬ chk38 d ≠ 0 by rw [h38]; simp)]
  split
  · rfl
  · exact ((walk_follow h38 (splitR p).1 0 hr1 (by omega) fun s hs h => by
      have := hsn s hs
      rw [h] at this
      cases this).1).symm

theorem dwalk_spec (d : List UInt8) (h : Hd) (hh : h.Ok d.length) (hl : d.length ≤ 1000000) (p : List UInt8) (hp : p.length ≤ 200) :
    PureSpec Tryz.prog 28 [h.v d.length, strV p] (fun w => By w h d) (RelII (walkR d p).1 (walkR d p).2) := by
  obtain ⟨M, hM⟩ : ∃ x, x = walkR d p := ⟨_, rfl⟩
  rw [← hM]
  have hos := openT_spec d h hh hl
  rw [openE_eq] at hos
  refine PureSpec.of_xc tabOk Tryz.func28 rfl (by decide) (n := Tryz.f28.ntmps - 2) rfl rfl fun w0 av => ?_
  conv => whnf
  refine XCall.pure hos (fun w hw => hw) (fun v D hv => ?_)
  unfold RelTr at hv
  by_cases h0 : chk38 d = 0
  rotate_left
  · rw [if_neg h0] at hv
    obtain ⟨q, rfl, rfl⟩ := hv
    have : M = (0, chk38 d) := by
      rw [hM]
      unfold walkR
      rw [if_pos h0]
    rw [this]
    generalize chk38 d = e at *
    conv => whnf
    repeat (refine XSame.of ?_; conv => whnf)
    refine XIf.yes (by simp [iNe_eq]; omega) ?_
    conv => whnf
    repeat (refine XSame.of ?_; conv => whnf)
    exact ⟨_, Ent.refl _, rfl⟩
  rw [walkR_P h0] at hM
  rw [if_pos h0] at hv
  obtain ⟨bt, bm, H, hH, rfl, rfl⟩ := hv
  have hT := theTree_ok d hH
  have hwe := theTree_walk d H (splitR p).1 0
  rw [← hwe] at hM
  generalize theTree d H = T at *
  generalize chk38 d = e at *
  subst h0
  clear hos hwe
  conv => whnf
  repeat (refine XSame.of ?_; conv => whnf)
  refine XIf.no (by simp [iNe_eq]) ?_
  conv => whnf
  repeat (refine XSame.of ?_; conv => whnf)
  refine XCall.pure (dirsSplit_spec p hp) (fun w hw => trivial) (fun v D hv => ?_)
  obtain ⟨kn, rfl, hkn, rfl⟩ := hv
  have hsm := splitR_small p hp
  have hse := splitR_err p
  generalize splitR p = sp at *
  obtain ⟨names, se⟩ := sp
  dsimp only at hkn hM hsm hse ⊢
  conv => whnf
  repeat (refine XSame.of ?_; conv => whnf)
  refine XIf.split (fun hs => ?_) (fun hs => ?_)
  · have hs' : se ≠ 0 := by
      simp [iNe_eq] at hs
      omega
    rw [if_pos hs'] at hM
    have hs15 : se = 15 := by omega
    rw [hM]
    conv => whnf
    repeat (refine XSame.of ?_; conv => whnf)
    refine ⟨_, Ent.refl _, ?_⟩
    unfold RelII
    rw [hs15]
    rfl
  · have hs' : ¬ se ≠ 0 := by
      simp [iNe_eq] at hs
      omega
    rw [if_neg hs'] at hM
    have htw := twalk_spec T hT (h.v d.length) bt bm kn names hkn hsm
    rw [← hM] at htw
    conv => whnf
    repeat (refine XSame.of ?_; conv => whnf)
    refine XCall.val htw (fun w hw => ⟨hw.1.2, hw.2⟩) (fun v D hv => ?_)
    unfold RelII at hv
    subst hv
    conv => whnf
    repeat (refine XSame.of ?_; conv => whnf)
    exact ⟨_, Ent.refl _, rfl⟩

theorem sameG_spec (h k : Hd) (l m : List (List UInt8)) (hh : h.Ok l.length) (hk : k.Ok m.length) (hl : l.length ≤ 1000000) (hm : m.length ≤ 1000000) :
    PureSpec Tryz.prog 17 [h.v l.length, k.v m.length] (fun w => StrAt w h l ∧ StrAt w k m) (fun v F => v = .bool (l == m)) := by
  refine PureSpec.of_xc tabOk Tryz.func17 rfl (by decide) (n := Tryz.f17.ntmps - 2) rfl rfl fun w0 av => ?_
  conv => whnf
  refine XIf.split (fun hne => ?_) (fun hne => ?_)
  · have hne' : l.length ≠ m.length := by
      simp [iNe_eq] at hne
      omega
    conv => whnf
    refine ⟨_, Ent.refl _, ?_⟩
    have : (l == m) = false := by
      rw [beq_eq_false_iff_ne]
      exact fun e => hne' (by rw [e])
    rw [this]
  have heq : l.length = m.length := by
    simp [iNe_eq] at hne
    omega
  conv => whnf
  refine XStop.loop tabOk (ι := Nat) ([5] ++ List.range' 11 15) (fun x => x ≤ l.length ∧ l.take x = m.take x)
    (fun x => [(5, .v (.int .i64 (x : Int)))]) (fun _ => []) (fun _ => ⟨fun w => StrAt w h l ∧ StrAt w k m, []⟩)
    (fun x => l.length - x) 0 ⟨Nat.zero_le _, rfl⟩ ?_ rfl (Ent.refl _) fun i hi => ?_
  · conv => whnf
    repeat (first | exact FLe.nil | refine FLe.any ?_ | refine FLe.cons ?_)
  obtain ⟨hi, hall⟩ := hi
  conv => whnf
  refine XIf.split (fun hlt => ?_) (fun hlt => ?_)
  · conv => whnf
    have hlt' : i < l.length := by
      have h := hlt
      simp [iLt_eq] at h
      omega
    have hlm : i < m.length := by omega
    refine XStop.draw tabOk mixed rfl rfl ?_
    conv => whnf
    repeat' (first
      | (refine And.intro ?_ ?_ <;> conv => whnf)
      | (refine XHeld.same rfl ?_; conv => whnf)
      | (refine XHeld.row rfl ?_; conv => whnf)
      | (refine XHeld.call rfl ?_; conv => whnf)
      | (refine XKeep.of ?_; conv => whnf)
      | (refine XSame.of ?_; conv => whnf)
      | (refine XRead.index tabOk (t := 23) rfl rfl rfl (by omega) (by omega) hh.nil fun ad1 had1 => ?_; conv => whnf)
      | (refine XRead.index tabOk (t := 23) rfl rfl rfl (by omega) (by omega) hk.nil fun ad2 had2 => ?_; conv => whnf)
      | (refine XRead.load tabOk (t := 9) rfl rfl (ad := ad1) (k := i * 1) (L := l.map strV) (v := strV l[i]) (fun w hst => had1 ▸ hst.now.1) rfl (by simp [hlt']) ?_; conv => whnf)
      | (refine XRead.load tabOk (t := 9) rfl rfl (ad := ad2) (k := i * 1) (L := m.map strV) (v := strV m[i]) (fun w hst => had2 ▸ hst.now.2) rfl (by simp [hlm]) ?_; conv => whnf)
      | (refine XRead.strNe (l := l[i]) (m := m[i]) ?_; conv => whnf)
      | (refine XHeld.mk ?_ ?_; (focus (first | exact Ent.refl _ | exact Ent.left _ _ | exact Ent.of_le ⟨List.sublist_append_left _ _, fun w h => h⟩ | exact Ent.of_le ⟨List.Sublist.refl _, fun w h => h.1⟩)); conv => whnf))
    refine XIf.split (fun hq => ?_) (fun hq => ?_)
    · have hq' : l[i] ≠ m[i] := by simpa using hq
      conv => whnf
      refine ⟨_, Ent.refl _, ?_⟩
      have : (l == m) = false := by
        rw [beq_eq_false_iff_ne]
        intro e
        subst e
        exact hq' rfl
      rw [this]
    · have hq' : l[i] = m[i] := by simpa using hq
      conv => whnf
      refine ⟨i + 1, ⟨⟨hlt', ?_⟩, by dsimp only; omega⟩, ?_, ?_, Ent.refl _⟩
      · rw [List.take_succ_eq_append_getElem hlt', List.take_succ_eq_append_getElem hlm, hall, hq']
      · conv => whnf
        refine ⟨?_, rfl⟩
        repeat (first | exact FLe.nil | refine FLe.any ?_ | refine FLe.cons ?_ | refine FLe.eq (by rw [wrap_i64 (by omega)]; rfl) ?_)
      · conv => whnf
        exact trivial
  · have hie : i = l.length := by
      simp only [iLt_eq, decide_eq_false_iff_not] at hlt
      omega
    rw [hie, List.take_length, List.take_of_length_le (by omega)] at hall
    conv => whnf
    refine ⟨_, Ent.refl _, ?_⟩
    rw [hall]
    simp

theorem without_spec (h : Hd) (l : List (List UInt8)) (hh : h.Ok l.length) (hl : l.length ≤ 1000000) (s : List UInt8) :
    PureSpec Tryz.prog 31 [h.v l.length, strV s] (fun w => StrAt w h l) (RelS (l.filter fun x => !(x == s))) := by
  refine PureSpec.of_xc tabOk Tryz.func31 rfl (by decide) (n := Tryz.f31.ntmps - 2) rfl rfl fun w0 av => ?_
  conv => whnf
  refine XStop.loop tabOk (ι := Nat × Option Addr × Nat × List Value) ([5, 7, 10] ++ List.range' 11 11) (fun x => x.1 ≤ l.length ∧ Own 1 ((l.take x.1).filter fun x => !(x == s)).length x.2.1 x.2.2.1 x.2.2.2 (((l.take x.1).filter fun x => !(x == s)).map strV))
    (fun x => [(5, .v (.slice x.2.1 ((l.take x.1).filter fun x => !(x == s)).length x.2.2.1)), (10, .v (.int .i64 (x.1 : Int)))]) (fun _ => []) (fun x => ⟨fun w => StrAt w h l, orow x.2.1 x.2.2.2⟩)
    (fun x => l.length - x.1) (0, none, 0, []) ⟨Nat.zero_le _, Own.nil 1⟩ ?_ rfl (Ent.of_le ⟨by simp [orow], fun w hw => hw⟩) fun x hx => ?_
  · conv => whnf
    repeat (first | exact FLe.nil | refine FLe.any ?_ | refine FLe.cons ?_)
  obtain ⟨i, a, cap, C⟩ := x
  obtain ⟨hi, hO⟩ := hx
  dsimp only at hi hO ⊢
  have hfl : ((l.take i).filter fun x => !(x == s)).length ≤ 1000000 := Nat.le_trans (List.length_filter_le _ _) (by simp; omega)
  conv => whnf
  refine XIf.split (fun hlt => ?_) (fun hlt => ?_)
  · have hlt' : i < l.length := by
      simp only [iLt_eq, decide_eq_true_eq] at hlt
      omega
    have htk : (l.take (i + 1)).filter (fun x => !(x == s)) = (l.take i).filter (fun x => !(x == s)) ++ if l[i] == s then [] else [l[i]] := by
      rw [List.take_succ_eq_append_getElem hlt', List.filter_append]
      congr 1
      by_cases h : l[i] = s <;> simp [h]
    generalize (l.take i).filter (fun x => !(x == s)) = M at *
    conv => whnf
    refine XVal.of_read (XRead.index tabOk (t := 23) rfl rfl rfl (by omega) (by omega) hh.nil fun ad had => ?_)
    conv => whnf
    refine XVal.of_read (XRead.load tabOk (t := 9) rfl rfl (ad := ad) (k := i) (L := l.map strV) (v := strV l[i]) (.fact fun w hw => had ▸ hw) (by simp) (by simp [hlt']) ?_)
    conv => whnf
    refine XVal.of_read (XRead.strNe (l := l[i]) (m := s) ?_)
    conv => whnf
    refine XIf.split (fun hq => ?_) (fun hq => ?_)
    · have hq' : (l[i] == s) = false := by simpa using hq
      rw [hq'] at htk
      conv => whnf
      refine XVal.build tabOk (t := 23) rfl rfl rfl [strV l[i]] rfl rfl (by simp [Value.cells, strV]) (by decide) fun b0 => ?_
      conv => whnf
      refine XVal.ent (F' := ⟨fun w => StrAt w h l, [] ++ orow a C ++ [(b0, Row.c [strV l[i]])]⟩) (Ent.of_le ⟨by simp [Value.cells, strV], fun w hw => hw⟩) ?_
      refine XVal.append tabOk (t := 23) (xt := 23) rfl rfl rfl rfl rfl rfl (r1 := []) (r2 := [(b0, Row.c [strV l[i]])]) (M := [strV l[i]]) hO (Sees.row (by simp)) rfl (by simp [strV, oneCell]) (by omega) (by simp; omega) fun a' c' C' hO' => ?_
      conv => whnf
      refine ⟨(i + 1, a', c', C'), ⟨⟨hlt', ?_⟩, by dsimp only; omega⟩, ?_, ?_, ?_⟩
      · dsimp only
        rw [htk, if_neg (by simp), List.map_append, List.length_append]
        exact hO'
      · have hq2 : M.length + 1 = ((l.take (i + 1)).filter fun x => !(x == s)).length := by rw [htk]; simp
        conv => whnf
        refine ⟨?_, rfl⟩
        repeat (first | exact FLe.nil | refine FLe.any ?_ | refine FLe.cons ?_ | refine FLe.eq (by rw [wrap_i64 (by omega)]; rfl) ?_ | refine FLe.eq (congrArg (fun q => SV.v (Value.slice a' q c')) hq2) ?_)
      · conv => whnf
        exact trivial
      · exact Ent.of_le ⟨by simp, fun w hw => hw⟩
    · have hq' : (l[i] == s) = true := by simpa using hq
      rw [hq', if_pos rfl, List.append_nil] at htk
      conv => whnf
      refine ⟨(i + 1, a, cap, C), ⟨⟨hlt', ?_⟩, by dsimp only; omega⟩, ?_, ?_, Ent.refl _⟩
      · dsimp only
        rw [htk]
        exact hO
      · have hq2 : M.length = ((l.take (i + 1)).filter fun x => !(x == s)).length := by rw [htk]
        conv => whnf
        refine ⟨?_, rfl⟩
        repeat (first | exact FLe.nil | refine FLe.any ?_ | refine FLe.cons ?_ | refine FLe.eq (by rw [wrap_i64 (by omega)]; rfl) ?_ | refine FLe.eq (congrArg (fun q => SV.v (Value.slice a q cap)) hq2) ?_)
      · conv => whnf
        exact trivial
  · have hie : i = l.length := by
      simp only [iLt_eq, decide_eq_false_iff_not] at hlt
      omega
    subst hie
    rw [List.take_length] at hO
    rw [List.take_length]
    conv => whnf
    exact ⟨⟨fun w => StrAt w ⟨a, cap⟩ (l.filter fun x => !(x == s)), []⟩, (Own.gives hO).trans (Ent.imp fun w hw => hw.2), ⟨a, cap⟩, rfl, hO.hd, rfl⟩

end Go.Proofs.YtbfpgfopppfhoaaGreatDoor
namespace Go.Sx
open Go
section
variable {P : Program} {tab : Tab} {w0 : World} {R : Nat → Nat → Prop} {av : Nat → Prop} {bs : List (Nat × Nat)} {cs : List (List Value)} {F : Fx}
theorem XRead.strLt {t : TypeId} {x y : Operand} {l m : List UInt8} {K : Value → Prop} (h : K (.bool (Op.bytesLess l m))) :
    XRead P w0 R av (do eqGuard .lss t x y (strV l) (strV m); binOp .lss t (strV l) (strV m)) bs cs F K := by
  refine (XRead_iff _ _ _ _).2 ⟨_, fun w _ => ?_, h⟩
  unfold strV
  rw [run_bind_ok (eqGuard_str _ _ _ _ _ _ w)]
  simp only [binOp, Op.stringOp, toList_mk]
  rfl

theorem XRead.strGe {t : TypeId} {x y : Operand} {l m : List UInt8} {K : Value → Prop} (h : K (.bool (!Op.bytesLess l m))) :
    XRead P w0 R av (do eqGuard .geq t x y (strV l) (strV m); binOp .geq t (strV l) (strV m)) bs cs F K := by
  refine (XRead_iff _ _ _ _).2 ⟨_, fun w _ => ?_, h⟩
  unfold strV
  rw [run_bind_ok (eqGuard_str _ _ _ _ _ _ w)]
  simp only [binOp, Op.stringOp, toList_mk]
  rfl
end
end Go.Sx

namespace Go.Proofs.YtbfpgfopppfhoaaGreatDoor
open Go Go.Sx
set_option maxRecDepth 100000
set_option maxHeartbeats 4000000
set_option linter.unusedVariables false
set_option linter.unusedSimpArgs false

/-- What directory says. -/
noncomputable def dirE (d : List UInt8) (n : Int) : Nat := if chk38 d ≠ 0 then chk38 d else (dirR d n).2

def RelDi (X : Value) (d : List UInt8) (e : Nat) (v : Value) (F : Fx) : Prop :=
  if e = 0 then ∃ bt bm H, (∀ n, (H n).Ok 8) ∧ v = .tuple #[.pointer (some ⟨bt, 0, none⟩), .int .i64 (e : Int)] ∧ F = ⟨TreeAt (theTree d H) X bt bm, []⟩
  else ∃ p, v = .tuple #[.pointer p, .int .i64 (e : Int)] ∧ F = ⟨fun _ => True, []⟩

theorem dirR_e (d : List UInt8) (n : Int) : (dirR d n).2 = if gete d n ≠ 0 then gete d n else if rk d n.toNat ≠ 2 then 14 else 0 := by
  unfold dirR
  split
  · rfl
  · split
    · rfl
    · rfl

theorem directory_spec (d : List UInt8) (h : Hd) (hh : h.Ok d.length) (hl : d.length ≤ 1000000) (n : Int) :
    PureSpec Tryz.prog 76 [h.v d.length, .int .i64 n] (fun w => By w h d) (RelDi (h.v d.length) d (dirE d n)) := by
  have hos := openT_spec d h hh hl
  rw [openE_eq] at hos
  obtain ⟨E, hE⟩ : ∃ e, e = dirE d n := ⟨_, rfl⟩
  rw [← hE]
  unfold dirE at hE
  refine PureSpec.of_xc tabOk Tryz.func76 rfl (by decide) (n := Tryz.f76.ntmps - 2) rfl rfl fun w0 av => ?_
  conv => whnf
  refine XCall.pure hos (fun w hw => hw) (fun v D hv => ?_)
  unfold RelTr at hv
  by_cases h0 : chk38 d = 0
  rotate_left
  · rw [if_neg h0] at hv
    rw [if_pos h0] at hE
    obtain ⟨q, rfl, rfl⟩ := hv
    rw [← hE] at h0 ⊢
    conv => whnf
    repeat (refine XSame.of ?_; conv => whnf)
    refine XIf.yes (by simp [iNe_eq]; omega) ?_
    conv => whnf
    repeat (refine XSame.of ?_; conv => whnf)
    refine ⟨⟨fun _ => True, []⟩, Ent.bare fun _ _ => trivial, ?_⟩
    unfold RelDi
    rw [if_neg h0]
    exact ⟨_, rfl, rfl⟩
  rw [if_pos h0] at hv
  rw [if_neg (by rw [h0]; simp), dirR_e] at hE
  obtain ⟨bt, bm, H, hH, rfl, rfl⟩ := hv
  have hG := pGet_spec d h hh hl n
  obtain ⟨k, s, b, hL, hE1, hE0⟩ := getL_ino0 d n
  rw [hL] at hG
  have hfin : ∀ D : World → Prop, (∀ w, D w → E = 0 → TreeAt (theTree d H) (h.v d.length) bt bm w) → ∃ F', Ent ⟨D, []⟩ F' ∧ RelDi (h.v d.length) d E (.tuple #[.pointer (some ⟨bt, 0, none⟩), .int .i64 (E : Int)]) F' := fun D hD => by
    by_cases hE5 : E = 0
    · refine ⟨⟨TreeAt (theTree d H) (h.v d.length) bt bm, []⟩, Ent.imp fun w hw => hD w hw hE5, ?_⟩
      unfold RelDi
      rw [if_pos hE5]
      exact ⟨bt, bm, H, hH, rfl, rfl⟩
    · refine ⟨⟨fun _ => True, []⟩, Ent.imp fun w hw => trivial, ?_⟩
      unfold RelDi
      rw [if_neg hE5]
      exact ⟨some ⟨bt, 0, none⟩, rfl, rfl⟩
  generalize gete d n = g at *
  generalize rk d n.toNat = kd at *
  generalize theTree d H = T at *
  generalize chk38 d = c at *
  subst h0
  conv => whnf
  repeat (refine XSame.of ?_; conv => whnf)
  refine XIf.no (by simp [iNe_eq]) ?_
  conv => whnf
  repeat (refine XSame.of ?_; conv => whnf)
  refine XCall.val hG (fun w hw => hw.1) (fun v D hv => ?_)
  subst hv
  conv => whnf
  repeat (refine XSame.of ?_; conv => whnf)
  intro b8
  conv => whnf
  repeat (refine XSame.of ?_; conv => whnf)
  have hcond : (iEq (g : Int) 0 && iNe (k : Int) 2) = decide (g = 0 ∧ kd ≠ 2) := by
    rw [iEq_eq, iNe_eq, Bool.eq_iff_iff]
    simp only [Bool.and_eq_true, decide_eq_true_eq, beq_iff_eq, bne_iff_ne, ne_eq]
    constructor
    · rintro ⟨h1, h2⟩
      have hg : g = 0 := by omega
      exact ⟨hg, by rw [← (hE1 hg).1]; omega⟩
    · rintro ⟨h1, h2⟩
      have := (hE1 h1).1
      exact ⟨by omega, by omega⟩
  rw [hcond]
  refine XIf.split (fun hq => ?_) (fun hq => ?_)
  · have hq' : g = 0 ∧ kd ≠ 2 := by simpa using hq
    have hEE : E = 14 := by rw [hE, if_neg (by omega), if_pos hq'.2]
    subst hEE
    conv => whnf
    repeat (refine XSame.of ?_; conv => whnf)
    exact hfin _ fun w hw h => by cases h
  · have hq' : ¬ (g = 0 ∧ kd ≠ 2) := by simpa using hq
    have hEE : E = g := by
      rw [hE]
      by_cases h1 : g = 0
      · rw [if_neg (by omega), if_neg (by omega), h1]
      · rw [if_pos h1]
    rw [hEE] at hfin ⊢
    conv => whnf
    repeat (refine XSame.of ?_; conv => whnf)
    exact hfin _ fun w hw h => hw.2

end Go.Proofs.YtbfpgfopppfhoaaGreatDoor
namespace Go.Proofs
open Go.Shelf
def Tryz.keys78_ren : Go.Shelf.Ren := ⟨fun | 7 => 78 | 10 => 118 | n => n, fun | 23 => 123 | 26 => 9 | 3 => 4 | 28 => 126 | 0 => 0 | 27 => 125 | 33 => 27 | 4 => 4 | n => n, fun | n => n⟩
theorem Tryz.keys78 : Go.Proofs.SlLaysZ.n7 Tryz.prog Tryz.keys78_ren := {
  mixed := by kernel_rfl
  f7 := ⟨Tryz.f78.name, by decide, Tryz.func78.trans (congrArg some (by kernel_rfl))⟩
  f10 := ⟨Tryz.f118.name, by decide, Tryz.func118.trans (congrArg some (by kernel_rfl))⟩
  t0 := Tryz.underlying0
  a0 := Tryz.isAgg0
  z0 := Tryz.sizeOf0
  v0 := Tryz.zeroValue0
  t4 := Tryz.underlying4
  a4 := Tryz.isAgg4
  z4 := Tryz.sizeOf4
  v4 := Tryz.zeroValue4
  t23 := Tryz.underlying123
  a23 := Tryz.isAgg123
  z23 := Tryz.sizeOf123
  v23 := Tryz.zeroValue123
  t26 := Tryz.underlying9
  a26 := Tryz.isAgg9
  z26 := Tryz.sizeOf9
  v26 := Tryz.zeroValue9
  t27 := Tryz.underlying125
  a27 := Tryz.isAgg125
  z27 := Tryz.sizeOf125
  v27 := Tryz.zeroValue125
  t28 := Tryz.underlying126
  a28 := Tryz.isAgg126
  z28 := Tryz.sizeOf126
  v28 := Tryz.zeroValue126
  t33 := Tryz.underlying27
  a33 := Tryz.isAgg27
  z33 := Tryz.sizeOf27
  v33 := Tryz.zeroValue27 }
def Tryz.sorted77_ren : Go.Shelf.Ren := ⟨fun | 6 => 77 | 8 => 117 | 9 => 65 | 11 => 149 | 13 => 106 | 12 => 105 | 23 => 144 | 24 => 145 | 14 => 135 | 15 => 136 | 16 => 137 | 17 => 138 | 18 => 139 | 19 => 140 | 20 => 141 | 21 => 142 | 22 => 143 | 25 => 164 | 26 => 165 | 27 => 166 | 28 => 167 | 29 => 168 | 30 => 169 | 31 => 181 | n => n, fun | 26 => 9 | 28 => 126 | 24 => 23 | 0 => 0 | 3 => 3 | 37 => 151 | 48 => 181 | 50 => 183 | 4 => 4 | 40 => 174 | 39 => 173 | 45 => 178 | 5 => 5 | 9 => 9 | 51 => 205 | 55 => 209 | 57 => 216 | 58 => 217 | 33 => 27 | n => n, fun | n => n⟩
theorem Tryz.sorted77 : Go.Proofs.SlLaysZ.n6 Tryz.prog Tryz.sorted77_ren := {
  mixed := by kernel_rfl
  f6 := ⟨Tryz.f77.name, by decide, Tryz.func77.trans (congrArg some (by kernel_rfl))⟩
  f8 := ⟨Tryz.f117.name, by decide, Tryz.func117.trans (congrArg some (by kernel_rfl))⟩
  f11 := ⟨Tryz.f149.name, by decide, Tryz.func149.trans (congrArg some (by kernel_rfl))⟩
  t0 := Tryz.underlying0
  a0 := Tryz.isAgg0
  z0 := Tryz.sizeOf0
  v0 := Tryz.zeroValue0
  t24 := Tryz.underlying23
  a24 := Tryz.isAgg23
  z24 := Tryz.sizeOf23
  v24 := Tryz.zeroValue23
  t26 := Tryz.underlying9
  a26 := Tryz.isAgg9
  z26 := Tryz.sizeOf9
  v26 := Tryz.zeroValue9
  t28 := Tryz.underlying126
  a28 := Tryz.isAgg126
  z28 := Tryz.sizeOf126
  v28 := Tryz.zeroValue126
  i26 := by kernel_rfl }
end Go.Proofs
namespace Go.Proofs.YtbfpgfopppfhoaaGreatDoor
open Go Go.Sx
set_option maxRecDepth 100000
set_option linter.unusedVariables false
set_option linter.unusedSimpArgs false

/-! ### names put together -/

def jn (l : List (List UInt8)) : List UInt8 := l.flatMap fun s => 47 :: s

theorem jn_cons (s : List UInt8) (l : List (List UInt8)) : jn (s :: l) = 47 :: (s ++ jn l) := by simp [jn]

theorem jn_snoc (l : List (List UInt8)) (s : List UInt8) : jn (l ++ [s]) = jn l ++ 47 :: s := by simp [jn]

theorem splitOn_jn : ∀ (l : List (List UInt8)) (s : List UInt8), 47 ∉ s → (∀ t ∈ l, 47 ∉ t) → splitOn (s ++ jn l) = s :: l := by
  intro l
  induction l with
  | nil =>
    intro s hs _
    induction s with
    | nil => rfl
    | cons c s ih =>
      have hc : c ≠ 47 := fun h => hs (h ▸ List.mem_cons_self ..)
      have := ih fun h => hs (List.mem_cons_of_mem _ h)
      rw [List.cons_append]
      unfold splitOn
      rw [if_neg hc, this]
  | cons t l ihl =>
    intro s hs hl
    induction s with
    | nil =>
      rw [List.nil_append, jn_cons]
      unfold splitOn
      rw [if_pos rfl, ihl t (hl t (List.mem_cons_self ..)) fun x hx => hl x (List.mem_cons_of_mem _ hx)]
    | cons c s ih =>
      have hc : c ≠ 47 := fun h => hs (h ▸ List.mem_cons_self ..)
      have := ih fun h => hs (List.mem_cons_of_mem _ h)
      rw [List.cons_append]
      unfold splitOn
      rw [if_neg hc, this]

theorem jn_splitOn : ∀ r : List UInt8, jn (splitOn r) = 47 :: r
  | [] => rfl
  | c :: r => by
    have ih := jn_splitOn r
    unfold splitOn
    by_cases hc : c = 47
    · rw [if_pos hc, jn_cons, List.nil_append, ih, hc]
    · rw [if_neg hc]
      cases hs : splitOn r with
      | nil => exact absurd hs (splitOn_ne r)
      | cons x xs =>
        rw [hs, jn_cons] at ih
        have ih : x ++ jn xs = r := List.cons.inj ih |>.2
        show jn ((c :: x) :: xs) = _
        rw [jn_cons, List.cons_append, ih]

theorem vname_47 {s : List UInt8} (h : vname s = true) : 47 ∉ s := fun hm => by
  unfold vname at h
  rw [Bool.and_eq_true, List.all_eq_true] at h
  have := h.1 47 hm
  revert this
  decide

theorem jn_inj {l m : List (List UInt8)} (hl : ∀ s ∈ l, vname s = true) (hm : ∀ s ∈ m, vname s = true) (h : jn l = jn m) : l = m := by
  cases l with
  | nil =>
    cases m with
    | nil => rfl
    | cons t m => rw [jn_cons] at h; cases h
  | cons s l =>
    cases m with
    | nil => rw [jn_cons] at h; cases h
    | cons t m =>
      rw [jn_cons, jn_cons] at h
      have h := (List.cons.inj h).2
      have e1 := splitOn_jn l s (vname_47 (hl s (List.mem_cons_self ..))) fun x hx => vname_47 (hl x (List.mem_cons_of_mem _ hx))
      have e2 := splitOn_jn m t (vname_47 (hm t (List.mem_cons_self ..))) fun x hx => vname_47 (hm x (List.mem_cons_of_mem _ hx))
      rw [← e1, ← e2, h]

theorem splitR_jn {l : List (List UInt8)} (h0 : l ≠ []) (hv : ∀ s ∈ l, vname s = true) (hl : (jn l).length ≤ 60) : splitR (jn l) = (l, 0) := by
  cases l with
  | nil => exact absurd rfl h0
  | cons s l =>
    have hs := hv s (List.mem_cons_self ..)
    have e1 := splitOn_jn l s (vname_47 hs) fun x hx => vname_47 (hv x (List.mem_cons_of_mem _ hx))
    have hne : s ++ jn l ≠ [] := fun h => by
      have := List.append_eq_nil_iff.1 h
      rw [this.1] at hs
      cases hs
    rw [jn_cons] at hl ⊢
    have hp : pre (47 :: (s ++ jn l)) = true := by simp [pre]
    unfold splitR
    rw [if_pos ⟨hp, hl⟩, List.drop_succ_cons, List.drop_zero, if_neg hne, e1, if_pos]
    rw [List.all_eq_true]
    exact hv

theorem splitR_inv {p : List UInt8} {l : List (List UInt8)} (h : splitR p = (l, 0)) : (l = [] ∧ p = [47]) ∨ (l ≠ [] ∧ p = jn l ∧ p.length ≤ 60) := by
  unfold splitR at h
  by_cases h1 : pre p = true ∧ p.length ≤ 60
  rotate_left
  · rw [if_neg h1] at h
    cases h
  rw [if_pos h1] at h
  have hp : p = 47 :: p.drop 1 := by
    cases p with
    | nil => exact absurd h1.1 (by decide)
    | cons c r =>
      have : c = 47 := by simpa [pre] using h1.1
      rw [this]
      rfl
  by_cases h2 : p.drop 1 = []
  · rw [if_pos h2] at h
    cases h
    exact .inl ⟨rfl, by rw [hp, h2]⟩
  · rw [if_neg h2] at h
    split at h
    · cases h
      exact .inr ⟨splitOn_ne _, by rw [jn_splitOn]; exact hp, h1.2⟩
    · cases h

/-! ### ways down -/

def dn (es : Nat → List En) : List (List UInt8) → Nat → Nat → Prop
  | [], n, m => m = n
  | s :: l, n, m => ∃ c, (s, c) ∈ es n ∧ s ≠ [] ∧ dn es l c m

theorem dn_snoc {es : Nat → List En} {s : List UInt8} {m : Nat} : ∀ {l : List (List UInt8)} {n : Nat}, dn es (l ++ [s]) n m ↔ ∃ c, dn es l n c ∧ (s, m) ∈ es c ∧ s ≠ []
  | [], n => by
    constructor
    · rintro ⟨c, h1, h2, h3⟩
      have h3 : m = c := h3
      exact ⟨n, rfl, h3 ▸ h1, h2⟩
    · rintro ⟨c, h1, h2, h3⟩
      have h1 : c = n := h1
      exact ⟨m, h1 ▸ h2, h3, rfl⟩
  | t :: l, n => by
    constructor
    · rintro ⟨c, h1, h2, h3⟩
      obtain ⟨c', g1, g2, g3⟩ := dn_snoc.1 h3
      exact ⟨c', ⟨c, h1, h2, g1⟩, g2, g3⟩
    · rintro ⟨c', ⟨c, h1, h2, g1⟩, g2, g3⟩
      exact ⟨c, h1, h2, dn_snoc.2 ⟨c', g1, g2, g3⟩⟩

theorem mem_V (T : Tree) : ∀ (f n : Nat) (p q : List UInt8) (m : Nat), (q, m) ∈ T.V f n p ↔ ∃ l : List (List UInt8), l.length < f ∧ q = p ++ jn l ∧ dn T.es l n m
  | 0, n, p, q, m => by simp [Tree.V]
  | f + 1, n, p, q, m => by
    have ih := mem_V T f
    constructor
    · intro h
      rcases List.mem_cons.1 h with h | h
      · cases h
        exact ⟨[], by simp, by simp [jn], rfl⟩
      · obtain ⟨e, he, h⟩ := List.mem_flatMap.1 h
        split at h
        · cases h
        · rename_i hne
          obtain ⟨l, h1, h2, h3⟩ := (ih _ _ _ _).1 h
          exact ⟨e.1 :: l, by simp; omega, by rw [h2, jn_cons]; simp, e.2, he, hne, h3⟩
    · rintro ⟨l, h1, h2, h3⟩
      cases l with
      | nil =>
        have h3 : m = n := h3
        have h2 : q = p := by simpa [jn] using h2
        rw [h2, h3]
        exact List.mem_cons_self ..
      | cons s l =>
        obtain ⟨c, g1, g2, g3⟩ := h3
        refine List.mem_cons_of_mem _ (List.mem_flatMap.2 ⟨(s, c), g1, ?_⟩)
        rw [if_neg g2]
        exact (ih _ _ _ _).2 ⟨l, by simpa using h1, by rw [h2, jn_cons]; simp, g3⟩

theorem mem_ch {T : Tree} {n c : Nat} {s : List UInt8} (h : (s, c) ∈ T.es n) (hs : s ≠ []) : c ∈ T.ch n :=
  List.mem_map.2 ⟨(s, c), List.mem_filter.2 ⟨h, by simpa using hs⟩, rfl⟩

theorem ch_mem {T : Tree} {n c : Nat} (h : c ∈ T.ch n) : ∃ s, (s, c) ∈ T.es n ∧ s ≠ [] := by
  obtain ⟨e, he, rfl⟩ := List.mem_map.1 h
  obtain ⟨h1, h2⟩ := List.mem_filter.1 he
  exact ⟨e.1, h1, by simpa using h2⟩

theorem dn_low {T : Tree} : ∀ {f : Nat} {l : List (List UInt8)} {n m : Nat}, Low T.ch f n → dn T.es l n m → l.length < f
  | 0, l, n, m, h, _ => h.elim
  | f + 1, [], n, m, h, _ => by simp
  | f + 1, s :: l, n, m, h, hd => by
    obtain ⟨c, h1, h2, h3⟩ := hd
    have := dn_low (h c (mem_ch h1 h2)) h3
    simp
    omega

/-- Names of entries differ, and are names. -/
structure Nm (es : Nat → List En) : Prop where
  one : ∀ n s c c', (s, c) ∈ es n → (s, c') ∈ es n → s ≠ [] → c = c'
  val : ∀ n s c, (s, c) ∈ es n → s ≠ [] → vname s = true

theorem T0_nm {d : List UInt8} (h : chk38 d = 0) : Nm (T0 d).es := by
  obtain ⟨h0, hG, hE⟩ := tree_facts h
  have key : ∀ n s c, (s, c) ∈ (T0 d).es n → n ∈ (T0 d).dl ∧ ∃ i, i < 8 ∧ enR (contentR d n) i = (s, c) := fun n s c hm => by
    unfold Tree.es at hm
    split at hm
    · rename_i hn
      obtain ⟨i, hi, he⟩ := List.mem_map.1 hm
      exact ⟨hn, i, List.mem_range.1 hi, he⟩
    · cases hm
  refine ⟨fun n s c c' h1 h2 hs => ?_, fun n s c h1 hs => ?_⟩
  · obtain ⟨hn, i, hi, he⟩ := key n s c h1
    obtain ⟨_, j, hj, he'⟩ := key n s c' h2
    have hok := entsOk_iff.1 (hE n hn)
    have ha := (hok i hi).only
    have hb := (hok j hj).only
    rw [he] at ha
    rw [he'] at hb
    rcases Nat.lt_trichotomy i j with h5 | h5 | h5
    · have := hb.resolve_left hs i h5
      rw [he] at this
      exact absurd rfl this
    · subst h5
      have := he.symm.trans he'
      exact (Prod.mk.inj this).2
    · have := ha.resolve_left hs j h5
      rw [he'] at this
      exact absurd rfl this
  · obtain ⟨hn, i, hi, he⟩ := key n s c h1
    have := (entsOk_iff.1 (hE n hn) i hi).name
    rw [he] at this
    rcases this with h5 | h5
    · exact absurd (Prod.mk.inj h5).1 hs
    · exact h5.1

theorem dn_fun {es : Nat → List En} (hN : Nm es) : ∀ {l : List (List UInt8)} {n m m' : Nat}, dn es l n m → dn es l n m' → m = m'
  | [], n, m, m', h, h' => by
    have h : m = n := h
    have h' : m' = n := h'
    rw [h, h']
  | s :: l, n, m, m', ⟨c, h1, h2, h3⟩, ⟨c', g1, g2, g3⟩ => by
    have := hN.one n s c c' h1 g1 h2
    subst this
    exact dn_fun hN h3 g3

theorem dn_val {es : Nat → List En} (hN : Nm es) : ∀ {l : List (List UInt8)} {n m : Nat}, dn es l n m → ∀ s ∈ l, vname s = true
  | [], n, m, _, s, hs => by cases hs
  | t :: l, n, m, ⟨c, h1, h2, h3⟩, s, hs => by
    rcases List.mem_cons.1 hs with h | h
    · rw [h]; exact hN.val n t c h1 h2
    · exact dn_val hN h3 s h

theorem nodes_inj : ∀ {l : List En} {s s' : List UInt8} {m : Nat}, (nodes l).Nodup → (s, m) ∈ l → (s', m) ∈ l → s ≠ [] → s' ≠ [] → s = s'
  | [], s, s', m, _, h, _, _, _ => by cases h
  | e :: l, s, s', m, hn, h, h', hs, hs' => by
    have hmem : ∀ {t : List UInt8}, (t, m) ∈ l → t ≠ [] → m ∈ nodes l := fun ht hne => List.mem_map.2 ⟨(_, m), List.mem_filter.2 ⟨ht, by simpa using hne⟩, rfl⟩
    rw [nodes_cons] at hn
    rcases List.mem_cons.1 h with h1 | h1
    · rcases List.mem_cons.1 h' with h2 | h2
      · have := h1.trans h2.symm
        exact (Prod.mk.inj this).1
      · rw [← h1, if_neg hs] at hn
        exact absurd (hmem h2 hs') (List.nodup_cons.1 hn).1
    · rcases List.mem_cons.1 h' with h2 | h2
      · rw [← h2, if_neg hs'] at hn
        exact absurd (hmem h1 hs) (List.nodup_cons.1 hn).1
      · refine nodes_inj ?_ h1 h2 hs hs'
        split at hn
        · exact hn
        · exact (List.nodup_cons.1 hn).2

theorem dn_one {T : Tree} (hu : Uniq T.ch) : ∀ (k : Nat) {l l' : List (List UInt8)} {m : Nat}, l.length = k → dn T.es l 0 m → dn T.es l' 0 m → l = l'
  | 0, l, l', m, hk, h, h' => by
    have hl : l = [] := List.eq_nil_of_length_eq_zero hk
    subst hl
    have h : m = 0 := h
    by_cases hl' : l' = []
    · exact hl'.symm
    · rw [dropLast_snoc hl'] at h'
      obtain ⟨c, h1, h2, h3⟩ := dn_snoc.1 h'
      have := mem_ch h2 h3
      rw [h] at this
      exact absurd this (hu.root c)
  | k + 1, l, l', m, hk, h, h' => by
    have hl : l ≠ [] := fun h => by rw [h] at hk; cases hk
    rw [dropLast_snoc hl] at h
    obtain ⟨c, h1, h2, h3⟩ := dn_snoc.1 h
    have hm := mem_ch h2 h3
    by_cases hl' : l' = []
    · subst hl'
      have h' : m = 0 := h'
      rw [h'] at hm
      exact absurd hm (hu.root c)
    · rw [dropLast_snoc hl'] at h'
      obtain ⟨c', g1, g2, g3⟩ := dn_snoc.1 h'
      have hcc : c = c' := hu.par c c' m hm (mem_ch g2 g3)
      subst hcc
      have e1 := dn_one hu k (by simp [hk]) h1 g1
      have e2 := nodes_inj (l := T.es c) (hu.nd c) h2 g2 h3 g3
      rw [dropLast_snoc hl, dropLast_snoc hl', e1, e2]

/-! ### paths of a disk -/

section
variable {d : List UInt8} (h38 : chk38 d = 0)
include h38

theorem uniqT : Uniq (T0 d).ch := (tree_facts h38).2.1.fine.uniq

theorem find_dn {n c : Nat} {s : List UInt8} (hs : s ≠ []) : (T0 d).find n s = (c, 0) ↔ (s, c) ∈ (T0 d).es n := by
  unfold Tree.find Tree.es
  by_cases hn : n ∈ (T0 d).dl
  · rw [if_pos hn, if_pos hn]
    constructor
    · intro h
      cases hf : fidx ((T0 d).E n) s with
      | none => rw [hf] at h; cases h
      | some k =>
        rw [hf] at h
        obtain ⟨hk, hks⟩ := fidx_some hf
        dsimp only at h
        rw [List.getElem?_eq_getElem hk] at h
        have hc : ((T0 d).E n)[k].2 = c := (Prod.mk.inj h).1
        have := List.getElem_mem hk
        rw [show ((T0 d).E n)[k] = (s, c) from Prod.ext hks hc] at this
        exact this
    · intro h
      cases hf : fidx ((T0 d).E n) s with
      | none => exact absurd rfl (fidx_none.1 hf _ h)
      | some k =>
        obtain ⟨hk, hks⟩ := fidx_some hf
        dsimp only
        rw [List.getElem?_eq_getElem hk]
        have hm : (s, ((T0 d).E n)[k].2) ∈ (T0 d).es n := by
          unfold Tree.es
          rw [if_pos hn]
          have := List.getElem_mem hk
          rwa [show ((T0 d).E n)[k] = (s, ((T0 d).E n)[k].2) from Prod.ext hks rfl] at this
        have hm' : (s, c) ∈ (T0 d).es n := by
          unfold Tree.es
          rw [if_pos hn]
          exact h
        have := (T0_nm h38).one n s _ _ hm hm' hs
        show (((T0 d).E n)[k].2, 0) = _
        rw [this]
  · rw [if_neg hn, if_neg hn]
    constructor
    · intro h; cases h
    · intro h; cases h

theorem walk_dn : ∀ {l : List (List UInt8)} {n m : Nat}, (∀ s ∈ l, s ≠ []) → ((T0 d).walk l n = (m, 0) ↔ dn (T0 d).es l n m)
  | [], n, m, _ => by
    show (n, 0) = (m, 0) ↔ m = n
    constructor
    · intro h; exact ((Prod.mk.inj h).1).symm
    · intro h; rw [h]
  | s :: l, n, m, hs => by
    have hs0 := hs s (List.mem_cons_self ..)
    have ih : ∀ {n' : Nat}, (T0 d).walk l n' = (m, 0) ↔ dn (T0 d).es l n' m := walk_dn fun t ht => hs t (List.mem_cons_of_mem _ ht)
    have hf : ∀ c, (T0 d).find n s = (c, 0) ↔ (s, c) ∈ (T0 d).es n := fun c => find_dn h38 hs0
    show (if ((T0 d).find n s).2 ≠ 0 then (0, ((T0 d).find n s).2) else (T0 d).walk l ((T0 d).find n s).1) = (m, 0) ↔ ∃ c, (s, c) ∈ (T0 d).es n ∧ s ≠ [] ∧ dn (T0 d).es l c m
    generalize (T0 d).find n s = r at *
    obtain ⟨c0, e⟩ := r
    dsimp only
    by_cases he : e = 0
    · subst he
      rw [if_neg (by decide), ih]
      constructor
      · intro h; exact ⟨c0, (hf c0).1 rfl, hs0, h⟩
      · rintro ⟨c, h1, _, h3⟩
        have := (Prod.mk.inj ((hf c).2 h1)).1
        rw [this]
        exact h3
    · rw [if_pos he]
      constructor
      · intro h; exact absurd (Prod.mk.inj h).2 he
      · rintro ⟨c, h1, _, _⟩
        exact absurd (Prod.mk.inj ((hf c).2 h1)).2 he

theorem dn_vname {l : List (List UInt8)} {n m : Nat} (h : dn (T0 d).es l n m) : ∀ s ∈ l, vname s = true := dn_val (T0_nm h38) h

omit h38 in
theorem vn_ne {l : List (List UInt8)} (h : ∀ s ∈ l, vname s = true) : ∀ s ∈ l, s ≠ [] := fun s hs he => by
  have := h s hs
  rw [he] at this
  cases this

theorem walkR_root : walkR d [47] = (0, 0) := by
  rw [walkR_P h38, show splitR [47] = ([], 0) by decide]
  rfl

theorem walkR_dn {l : List (List UInt8)} (h0 : l ≠ []) (hv : ∀ s ∈ l, vname s = true) (hl : (jn l).length ≤ 60) {m : Nat} : walkR d (jn l) = (m, 0) ↔ dn (T0 d).es l 0 m := by
  rw [walkR_P h38, splitR_jn h0 hv hl, if_neg (show ¬ ((0 : Int) ≠ 0) by decide)]
  exact walk_dn h38 (vn_ne hv)

theorem dn_node {l : List (List UInt8)} {m : Nat} (h : dn (T0 d).es l 0 m) : m < 32 ∧ rk d m ≠ 0 ∧ (l ≠ [] → m ≠ 0) := by
  obtain ⟨h0, hG, hE⟩ := tree_facts h38
  obtain ⟨hr1, hr2⟩ := mem_dl.1 (root_in h0)
  by_cases hl : l = []
  · subst hl
    have h : m = 0 := h
    rw [h]
    exact ⟨by decide, by omega, fun h => absurd rfl h⟩
  · rw [dropLast_snoc hl] at h
    obtain ⟨c, h1, h2, h3⟩ := dn_snoc.1 h
    have hm := mem_ch h2 h3
    have hc : c ∈ (T0 d).dl := Classical.byContradiction fun hc => by
      rw [(T0 d).ch_no hc] at hm
      cases hm
    obtain ⟨a, b, e⟩ := hG.fine.ok c hc m hm
    exact ⟨b, e, fun _ => a⟩

omit h38 in
theorem foldl_addP : ∀ (V : List (List UInt8 × Nat)) (acc : List (List UInt8)), V.foldl (fun l x => addP l x.1 x.2) acc = acc ++ (V.filter fun x => decide (x.2 ≠ 0 ∧ x.1.length ≤ 60)).map (·.1)
  | [], acc => by simp
  | x :: V, acc => by
    rw [List.foldl_cons, foldl_addP V]
    unfold addP
    by_cases h : x.2 ≠ 0 ∧ x.1.length ≤ 60
    · rw [if_pos h, List.filter_cons_of_pos (by simpa using h)]
      simp
    · rw [if_neg h, List.filter_cons_of_neg (by simpa using h)]

theorem mem_pathsL {q : List UInt8} : q ∈ pathsL d ↔ q = [47] ∨ ∃ l m, l ≠ [] ∧ q = jn l ∧ q.length ≤ 60 ∧ dn (T0 d).es l 0 m := by
  unfold pathsL
  rw [foldl_addP, List.mem_append, List.mem_singleton, List.mem_map]
  constructor
  · rintro (h | ⟨x, hx, rfl⟩)
    · exact .inl h
    · obtain ⟨h1, h2⟩ := List.mem_filter.1 hx
      have h2 : x.2 ≠ 0 ∧ x.1.length ≤ 60 := by simpa using h2
      obtain ⟨l, g1, g2, g3⟩ := (mem_V (T0 d) 33 0 [] x.1 x.2).1 h1
      rw [List.nil_append] at g2
      exact .inr ⟨l, x.2, fun hl => by subst hl; exact h2.1 g3, g2, h2.2, g3⟩
  · rintro (h | ⟨l, m, hl, rfl, hq, hd⟩)
    · exact .inl h
    · have hlow := dn_low (low_root (uniqT h38)) hd
      refine .inr ⟨(jn l, m), List.mem_filter.2 ⟨(mem_V (T0 d) 33 0 [] _ _).2 ⟨l, hlow, by simp, hd⟩, ?_⟩, rfl⟩
      have := (dn_node h38 hd).2.2 hl
      simpa using ⟨this, hq⟩

theorem nodup_pathsL : (pathsL d).Nodup := by
  have hu := uniqT h38
  have hN := T0_nm h38
  have hn : (((T0 d).V 33 0 []).map (·.2)).Nodup := by
    rw [V_nodes]
    exact pre_nodup hu 33 .root
  have hpw : ((T0 d).V 33 0 []).Pairwise fun a b => a.1 ≠ b.1 := by
    have h1 : ((T0 d).V 33 0 []).Pairwise fun a b => a.2 ≠ b.2 := List.pairwise_map.1 hn
    refine h1.imp_of_mem fun {a b} ha hb hne he => hne ?_
    obtain ⟨l, g1, g2, g3⟩ := (mem_V (T0 d) 33 0 [] a.1 a.2).1 ha
    obtain ⟨l', g1', g2', g3'⟩ := (mem_V (T0 d) 33 0 [] b.1 b.2).1 hb
    have hll : l = l' := jn_inj (dn_val hN g3) (dn_val hN g3') (by rw [List.nil_append] at g2 g2'; rw [← g2, ← g2', he])
    rw [← hll] at g3'
    exact dn_fun hN g3 g3'
  unfold pathsL
  rw [foldl_addP, List.singleton_append, List.nodup_cons]
  refine ⟨fun hm => ?_, List.pairwise_map.2 (hpw.sublist List.filter_sublist)⟩
  obtain ⟨x, hx, he⟩ := List.mem_map.1 hm
  obtain ⟨h1, h2⟩ := List.mem_filter.1 hx
  have h2 : x.2 ≠ 0 ∧ x.1.length ≤ 60 := by simpa using h2
  obtain ⟨l, g1, g2, g3⟩ := (mem_V (T0 d) 33 0 [] x.1 x.2).1 h1
  rw [List.nil_append, he] at g2
  cases l with
  | nil => cases g2
  | cons s l =>
    have hv := dn_val hN g3 s (List.mem_cons_self ..)
    rw [jn_cons] at g2
    have := (List.cons.inj g2).2
    have := List.append_eq_nil_iff.1 this.symm
    rw [this.1] at hv
    cases hv
end

/-! ### sorted lists -/

theorem sortL_perm (l : List (List UInt8)) : (sortL l).Perm l := List.mergeSort_perm l _

theorem sortL_pw (l : List (List UInt8)) : (sortL l).Pairwise fun x y => decide (x ≤ y) = true :=
  List.pairwise_mergeSort (le := fun x y => decide (x ≤ y)) (fun a b c h1 h2 => decide_eq_true (List.le_trans (of_decide_eq_true h1) (of_decide_eq_true h2)))
    (fun a b => by
      rcases List.le_total a b with h | h
      · rw [decide_eq_true h]; rfl
      · rw [decide_eq_true h, Bool.or_true]) l

theorem sorted_eq {l m : List (List UInt8)} (hl : l.Pairwise fun x y => decide (x ≤ y) = true) (hm : m.Pairwise fun x y => decide (x ≤ y) = true) (h : l.Perm m) : l = m :=
  List.Perm.eq_of_pairwise (fun a b _ _ h1 h2 => List.le_antisymm (of_decide_eq_true h1) (of_decide_eq_true h2)) hl hm h

theorem sortL_congr {l m : List (List UInt8)} (h : l.Perm m) : sortL l = sortL m := sorted_eq (sortL_pw l) (sortL_pw m) ((sortL_perm l).trans (h.trans (sortL_perm m).symm))

/-- One path more. -/
theorem sortL_without {L M : List (List UInt8)} {p : List UInt8} (hL : L.Nodup) (hM : M.Nodup) (h : ∀ a, a ∈ L ↔ a ∈ M ∧ a ≠ p) (hp : p ∈ M) : ((sortL M).filter fun x => !(x == p)) = sortL L ∧ (sortL M).length = (sortL L).length + 1 := by
  have hpm : (M.filter fun x => !(x == p)).Perm L := by
    refine (List.perm_ext_iff_of_nodup (hM.sublist List.filter_sublist) hL).2 fun a => ?_
    rw [List.mem_filter, h a]
    simp
  refine ⟨sorted_eq ((sortL_pw M).sublist List.filter_sublist) (sortL_pw L) (((sortL_perm M).filter _).trans (hpm.trans (sortL_perm L).symm)), ?_⟩
  have h2 : M.Perm (p :: L) := by
    refine (List.perm_ext_iff_of_nodup hM (List.nodup_cons.2 ⟨fun hq => ((h p).1 hq).2 rfl, hL⟩)).2 fun a => ?_
    rw [List.mem_cons, h a]
    constructor
    · intro ha
      by_cases e : a = p
      · exact .inl e
      · exact .inr ⟨ha, e⟩
    · rintro (e | ⟨ha, _⟩)
      · rw [e]; exact hp
      · exact ha
  rw [sortL_len, sortL_len, h2.length_eq, List.length_cons]

end Go.Proofs.YtbfpgfopppfhoaaGreatDoor
namespace Go.Proofs.YtbfpgfopppfhoaaGreatDoor
open Go Go.Sx
set_option maxRecDepth 100000
set_option maxHeartbeats 4000000
set_option linter.unusedVariables false
set_option linter.unusedSimpArgs false

def setKV (ns : List (List UInt8)) : KVs := ns.map fun s => (strV s, .bool true)

/-- How an element of such a map reads. -/
def readB (v : Value) : Option (DataW Unit × List MemPlace) := match v with
  | .bool x => some (.lit (.bool x), [])
  | _ => none

def RelSO (l : List (List UInt8)) (v : Value) (F : Fx) : Prop := ∃ a cap C, Own 1 l.length a cap C (l.map strV) ∧ v = .slice a l.length cap ∧ F = ⟨fun _ => True, orow a C⟩

theorem mapG_key (l : KVs) : (mapG l).toList.map (·.key) = l.map (·.1) := by
  apply List.ext_getElem?
  intro i
  rw [List.getElem?_map, mapG_get, List.getElem?_map]
  cases l[i]? <;> rfl

theorem mapG_born (l : KVs) : (mapG l).toList.map (·.born) = List.range l.length := by
  apply List.ext_getElem?
  intro i
  rw [List.getElem?_map, mapG_get]
  by_cases h : i < l.length
  · rw [List.getElem?_eq_getElem h, List.getElem?_range h]
    rfl
  · rw [List.getElem?_eq_none (by omega), List.getElem?_eq_none (by simpa using h)]
    rfl

theorem strV_inj {s t : List UInt8} (h : strV s = strV t) : s = t := by
  unfold strV at h
  simp at h
  exact h

theorem List.Nodup.map_on_strV {ns : List (List UInt8)} (h : ns.Nodup) : (ns.map ((fun x => x.1) ∘ fun s : List UInt8 => (strV s, Value.bool true))).Nodup := by
  have h1 : List.Pairwise (fun a b : List UInt8 => a ≠ b) ns := h
  exact List.pairwise_map.2 (h1.imp fun {a b} hab he => hab (strV_inj he))

theorem sorts_spec (m : Nat) : Go.Proofs.AnyZ.SortsIn Tryz.prog Tryz.sorted77_ren Fence.wide m :=
  ⟨fun blk off cap ss W hH hblk hsz => callsIn_wide.2 (Tryz.slices_Sort_string blk off cap ss W hH hblk hsz), fun p cap W => callsIn_wide.2 (Tryz.slices_Sort_string_none p cap W)⟩

theorem sorted_spec (Bm b : Nat) (ns : List (List UInt8)) (hnd : ns.Nodup) (hlen : ∀ s ∈ ns, s.length ≤ 1000000) (hn : ns.length ≤ 1000000) :
    PureSpec Tryz.prog 77 [.func (.func 118) #[] #[.pointer (some ⟨Bm, 0, none⟩)]] (fun w => RowAt w (some ⟨Bm, 0, none⟩) [.map (some b)] ∧ MapAt w b (setKV ns)) (RelSO (sortL ns)) := by
  have hkl : (setKV ns).length = ns.length := by simp [setKV]
  unfold PureSpec
  refine ⟨⟨_, Tryz.func77, by decide, by decide⟩, fun av w hav hpre => ?_⟩
  obtain ⟨hrow, hmap⟩ := hpre.now
  obtain ⟨D0, hown, hsz, hks⟩ : ∃ D0 : DataW Unit, w.ownsMap Tryz.prog 9 readB b ns.length D0 ∧ Maps.size D0 = ns.length ∧ (strKeys D0).Perm ns := by
    have hget : ∀ x ∈ (mapG (setKV ns)).toList, ∃ s ∈ ns, x.key = strV s ∧ x.val = .bool true := fun x hx => by
      obtain ⟨i, hi⟩ := List.mem_iff_getElem?.1 hx
      rw [mapG_get] at hi
      cases hq : (setKV ns)[i]? with
      | none => rw [hq] at hi; cases hi
      | some p =>
        rw [hq] at hi
        have hp := List.mem_of_getElem? hq
        obtain ⟨s, hs, rfl⟩ := List.mem_map.1 hp
        cases hi
        exact ⟨s, hs, rfl, rfl⟩
    have hrd : ∀ x ∈ (mapG (setKV ns)).toList, ∀ s, x.key = strV s → s ∈ ns → x.val = .bool true → WideElems.rd Tryz.prog 9 readB x = some (Lit.string s, DataW.lit (.bool true)) := fun x hx s h1 h2 h3 => by
      have hs : s.length ≤ maxLen := Nat.le_trans (hlen s h2) (by decide)
      have hk : keyOf Tryz.prog 9 x.key = some (Lit.string s) := by
        have hsz : (ByteArray.mk ⟨s⟩).size ≤ maxLen := hs
        rw [h1]
        unfold keyOf strV
        simp only [Tryz.underlying9]
        unfold mapKey
        simp only [Tryz.underlying9]
        rw [if_pos hsz]
      unfold WideElems.rd
      rw [hk, h3]
      rfl
    have hrg : (mapG (setKV ns)).toList.map (WideElems.rg Tryz.prog 9 readB) = ns.map fun s => (Lit.string s, DataW.lit (.bool true)) := by
      apply List.ext_getElem?
      intro i
      rw [List.getElem?_map, mapG_get, List.getElem?_map]
      have hsk : (setKV ns)[i]? = ns[i]?.map fun s => (strV s, .bool true) := by simp [setKV]
      cases hq : ns[i]? with
      | none => rw [hsk, hq]; rfl
      | some s =>
        rw [hsk, hq]
        simp only [Option.map_some]
        congr 1
        have hx : (⟨strV s, .bool true, i⟩ : MapEntry) ∈ (mapG (setKV ns)).toList := List.mem_iff_getElem?.2 ⟨i, by rw [mapG_get, hsk, hq]; rfl⟩
        unfold WideElems.rg
        rw [hrd _ hx s rfl (List.mem_of_getElem? hq) rfl]
        rfl
    have hgl : (mapG (setKV ns)).toList.length = ns.length := by
      have := congrArg List.length (mapG_key (setKV ns))
      rw [List.length_map, List.length_map] at this
      omega
    refine ⟨_, ⟨mapG (setKV ns), (setKV ns).length, hmap, ⟨?_, ⟨fun x hx => ?_, ?_, ?_⟩, fun x hx => ?_⟩, ?_, rfl⟩, ?_, ?_⟩
    · have : (mapG (setKV ns)).size = ns.length := hgl
      rw [this]
      exact Nat.le_trans hn (by decide)
    · have : x.born ∈ (mapG (setKV ns)).toList.map (·.born) := List.mem_map.2 ⟨x, hx, rfl⟩
      rw [mapG_born] at this
      exact List.mem_range.1 this
    · rw [mapG_born]
      exact List.nodup_range
    · rw [mapG_key]
      unfold setKV
      rw [List.map_map]
      exact List.Nodup.map_on_strV hnd
    · obtain ⟨s, h1, h2, h3⟩ := hget x hx
      exact ⟨_, hrd x hx s h2 h1 h3⟩
    · have : (mapG (setKV ns)).size = ns.length := hgl
      rw [this]
      exact Nat.le_refl _
    · show List.length (List.foldr DataW.insert [] _) = _
      rw [(WideShapes.sorted_perm _).length_eq, hrg, List.length_map]
    · show (List.map (fun p : Lit × DataW Unit => strOf p.1) (List.foldr DataW.insert [] _)).Perm ns
      refine ((WideShapes.sorted_perm _).map _).trans ?_
      rw [hrg, List.map_map]
      have : ns.map ((fun p : Lit × DataW Unit => strOf p.1) ∘ fun s : List UInt8 => (Lit.string s, DataW.lit (.bool true))) = ns := by
        conv => rhs; rw [← List.map_id ns]
        rfl
      rw [this]
  obtain ⟨hs0, arr, e0, fz, hb0, hc0⟩ := hrow.there (by simp)
  have hBm : Bm < w.heap.size := lt_of_some hb0
  have hcell : w.cell? ⟨Bm, 0, none⟩ = some (.map (some b)) := by
    have := hrow.cell (j := 0) (by simp)
    rwa [Addr.add_none] at this
  have hseq : SeqGives Fence.wide 2 Tryz.prog 118 #[.pointer (some ⟨Bm, 0, none⟩)] Go.Proofs.encStr (fun ss => ss.Perm (strKeys D0)) (Maps.size D0) w :=
    Go.Proofs.AnyZ.keys_gives (ρ := Tryz.keys78_ren) { Tryz.keys78 with } Fence.wide _ trivial rfl (by omega) Bm b ns.length D0 w hBm hcell hown
  have hS := Go.Proofs.AnyZ.sorted_in Tryz.sorted77 Fence.wide 5 trivial trivial trivial trivial rfl (by omega) (sorts_spec _) (enters_of Tryz.func65 (by kernel_rfl) rfl) 118 #[.pointer (some ⟨Bm, 0, none⟩)] trivial (enters_of Tryz.func118 (by kernel_rfl) rfl) _ _
    (by rw [hsz]; exact Nat.le_trans hn (by decide)) (by rw [hsz]; omega) w hseq
  refine (callsIn_wide.1 hS).mono ?_
  rintro e w' ⟨v, ss, rfl, hp, ⟨hl, hcase⟩, hnil, hbw⟩
  have hpn : ss.Perm ns := hp.trans hks
  have hsl : ss.length = (sortL ns).length := by rw [sortL_len, hpn.length_eq]
  have hse : ss.mergeSort (fun x y => decide (x ≤ y)) = sortL ns := sortL_congr hpn
  rw [hse] at hl hcase
  rw [hsl] at hcase
  have hkeep : Keep w w' := keep_of_heap hbw.os hbw.tape hbw.output hbw.size hbw.block
  rcases hcase with ⟨rfl, hz⟩ | ⟨g, cap, cur, rfl, hg, hgb, c1, c2, c3, c4⟩
  · have hnil0 : sortL ns = [] := List.eq_nil_of_length_eq_zero hz
    exact ⟨_, ⟨fun _ => True, []⟩, rfl, hkeep, ⟨by simp, by simp, .pure trivial⟩, none, 0, [], by rw [hnil0]; exact Own.nil 1, by rw [hnil0]; rfl, rfl⟩
  · refine ⟨_, ⟨fun _ => True, [(g, Row.c cur.toList)]⟩, rfl, hkeep, ⟨fun r hr => ?_, by simp, .pure trivial⟩, some ⟨g, 0, none⟩, cap, cur.toList, ⟨?_, c1, .inr ⟨g, rfl, ?_, c4⟩⟩, rfl, rfl⟩
    · simp at hr
      subst hr
      exact ⟨⟨_, hgb⟩, hg⟩
    · simp
    · simpa using c3

end Go.Proofs.YtbfpgfopppfhoaaGreatDoor
namespace Go.Sx
open Go
section
variable {P : Program} {tab : Tab} {w0 : World} {R : Nat → Nat → Prop} {av : Nat → Prop} {bs : List (Nat × Nat)} {cs : List (List Value)} {F : Fx}
theorem XVal.boxMap {e : TypeId} {m : Option Nat} {K : KV} (h : ∀ b, K (.pointer (some ⟨b, 0, none⟩)) bs cs ⟨F.D, F.rs ++ [(b, Row.c [.map m])]⟩) :
    XVal P w0 R av (Instr.box e (.map m)) bs cs F K := by
  refine XVal_iff.2 fun w hst => ?_
  exact ⟨_, _, [], cs, _, rfl, by rw [List.append_nil]; exact hst.newRow [.map m] e, by rw [List.append_nil]; exact h _⟩
end
end Go.Sx

namespace Go.Proofs.YtbfpgfopppfhoaaGreatDoor
open Go Go.Sx
set_option maxRecDepth 100000
set_option maxHeartbeats 4000000
set_option linter.unusedVariables false
set_option linter.unusedSimpArgs false

theorem keys_spec (m : Option Nat) : PureSpec Tryz.prog 78 [.map m] (fun _ => True) (fun v F => ∃ b, v = .func (.func 118) #[] #[.pointer (some ⟨b, 0, none⟩)] ∧ F = ⟨fun _ => True, [(b, Row.c [.map m])]⟩) := by
  refine PureSpec.of_xc tabOk Tryz.func78 rfl (by decide) (n := Tryz.f78.ntmps - 1) rfl rfl fun w0 av => ?_
  conv => whnf
  repeat (refine XSame.of ?_; conv => whnf)
  refine XVal.boxMap fun b => ?_
  conv => whnf
  repeat (refine XSame.of ?_; conv => whnf)
  exact ⟨_, Ent.refl _, b, rfl, rfl⟩

/-- The names of entries, in their order, each once. -/
def addS (l : List (List UInt8)) (e : En) : List (List UInt8) := if e.1 = [] ∨ e.1 ∈ l then l else l ++ [e.1]
def nmsOf (E : List En) : List (List UInt8) := E.foldl addS []

theorem addS_ok {l : List (List UInt8)} {e : En} (hn : l.Nodup) (hl : ∀ s ∈ l, s.length ≤ 14) (he : e.1.length ≤ 14) : (addS l e).Nodup ∧ (∀ s ∈ addS l e, s.length ≤ 14) ∧ (addS l e).length ≤ l.length + 1 := by
  unfold addS
  split
  · exact ⟨hn, hl, by omega⟩
  · rename_i h
    refine ⟨?_, fun s hs => ?_, by simp⟩
    · rw [List.nodup_append]
      refine ⟨hn, by simp, fun a ha b hb e2 => ?_⟩
      have hb : b = e.1 := by simpa using hb
      exact h (.inr (by rw [← hb, ← e2]; exact ha))
    · rcases List.mem_append.1 hs with h1 | h1
      · exact hl s h1
      · rw [List.mem_singleton.1 h1]; exact he

theorem nms_ok : ∀ (E : List En) (l : List (List UInt8)), l.Nodup → (∀ s ∈ l, s.length ≤ 14) → (∀ e ∈ E, e.1.length ≤ 14) → (E.foldl addS l).Nodup ∧ (∀ s ∈ E.foldl addS l, s.length ≤ 14) ∧ (E.foldl addS l).length ≤ l.length + E.length
  | [], l, h1, h2, _ => ⟨h1, h2, by simp⟩
  | e :: E, l, h1, h2, h3 => by
    obtain ⟨a, b, c⟩ := addS_ok h1 h2 (h3 e (List.mem_cons_self ..))
    obtain ⟨p, q, r⟩ := nms_ok E (addS l e) a b fun x hx => h3 x (List.mem_cons_of_mem _ hx)
    exact ⟨p, q, by simp only [List.foldl_cons, List.length_cons]; omega⟩

theorem setKV_key (ns : List (List UInt8)) : ∀ p ∈ setKV ns, MapKept.IsKey .string p.1 := by
  intro p hp
  obtain ⟨s, _, rfl⟩ := List.mem_map.1 hp
  exact trivial

theorem setKV_no {ns : List (List UInt8)} {s : List UInt8} (h : s ∉ ns) : ∀ p ∈ setKV ns, p.1 ≠ strV s := by
  intro p hp he
  obtain ⟨t, ht, rfl⟩ := List.mem_map.1 hp
  exact h (strV_inj he ▸ ht)

theorem setKV_snoc (ns : List (List UInt8)) (s : List UInt8) : setKV (ns ++ [s]) = setKV ns ++ [(strV s, .bool true)] := by simp [setKV]

/-- What List answers. -/
noncomputable def plistR (d : List UInt8) (n : Int) : List (List UInt8) × Nat := if dirE d n = 0 then (sortL (nmsOf ((T0 d).E n.toNat)), 0) else ([], dirE d n)

def RelLO (l : List (List UInt8)) (e : Nat) (v : Value) (F : Fx) : Prop := ∃ a cap C, Own 1 l.length a cap C (l.map strV) ∧ v = .tuple #[.slice a l.length cap, .int .i64 (e : Int)] ∧ F = ⟨fun _ => True, orow a C⟩

theorem dirE_zero {d : List UInt8} {n : Int} (h : dirE d n = 0) : chk38 d = 0 ∧ ∃ m : Nat, n = (m : Int) ∧ m ∈ (T0 d).dl := by
  unfold dirE at h
  by_cases h0 : chk38 d = 0
  · rw [if_neg (show ¬ chk38 d ≠ 0 by rw [h0]; simp), dirR_e] at h
    by_cases h1 : gete d n = 0
    · rw [if_neg (show ¬ gete d n ≠ 0 by rw [h1]; simp)] at h
      obtain ⟨hd, hok, m, hm, hm32, hk⟩ := gete_zero h1
      refine ⟨h0, m, hm, mem_dl.2 ⟨hm32, ?_⟩⟩
      rw [hm] at h
      by_cases h2 : rk d m = 2
      · exact h2
      · rw [if_pos (by simpa using h2)] at h
        cases h
    · rw [if_pos h1] at h
      exact absurd h h1
  · rw [if_pos h0] at h
    exact absurd h h0

theorem plist_spec (d : List UInt8) (h : Hd) (hh : h.Ok d.length) (hl : d.length ≤ 1000000) (n : Int) :
    PureSpec Tryz.prog 36 [h.v d.length, .int .i64 n] (fun w => By w h d) (RelLO (plistR d n).1 (plistR d n).2) := by
  have hds := directory_spec d h hh hl n
  have hz := dirE_zero (d := d) (n := n)
  obtain ⟨M, hM⟩ : ∃ x, x = plistR d n := ⟨_, rfl⟩
  rw [← hM]
  unfold plistR at hM
  refine PureSpec.of_xc tabOk Tryz.func36 rfl (by decide) (n := Tryz.f36.ntmps - 2) rfl rfl fun w0 av => ?_
  conv => whnf
  refine XCall.pure hds (fun w hw => hw) (fun v D hv => ?_)
  unfold RelDi at hv
  by_cases h0 : dirE d n = 0
  rotate_left
  · rw [if_neg h0] at hv hM
    obtain ⟨q, rfl, rfl⟩ := hv
    rw [hM]
    generalize dirE d n = e at *
    conv => whnf
    repeat (refine XSame.of ?_; conv => whnf)
    refine XIf.yes (by simp [iNe_eq]; omega) ?_
    conv => whnf
    repeat (refine XSame.of ?_; conv => whnf)
    exact ⟨⟨fun _ => True, []⟩, Ent.bare fun _ _ => trivial, none, 0, [], Own.nil 1, rfl, rfl⟩
  rw [if_pos h0] at hv hM
  obtain ⟨bt, bm, H, hH, rfl, rfl⟩ := hv
  obtain ⟨h38, m, rfl, hm⟩ := hz h0
  have hT := theTree_ok d hH
  have hname := theTree_name d H m
  have hEe : (T0 d).E (m : Int).toNat = (theTree d H).E m := rfl
  rw [hEe] at hM
  have hm' : m ∈ (theTree d H).dl := hm
  generalize theTree d H = T at *
  generalize dirE d m = e at *
  subst h0
  rw [hM]
  clear hM
  have hm1 : (treeC (h.v d.length) bm T.K 32)[1]? = some (.map (some bm)) := rfl
  have hTr : ∀ w, TreeAt T (h.v d.length) bt bm w → RowAt w (some ⟨bt, 0, none⟩) (treeC (h.v d.length) bm T.K 32) := fun w hw => hw.1
  have hTE : ∀ w, TreeAt T (h.v d.length) bt bm w → RowAt w (T.H m).a (enCs (T.E m)) := fun w hw => hw.2.2 m hm'
  have hTm : ∀ w, TreeAt T (h.v d.length) bt bm w → MapAt w bm (T.kv T.dl) := fun w hw => hw.2.1
  generalize treeC (h.v d.length) bm T.K 32 = Ct at *
  have hlen := hT.len m
  have hhd := hT.hd m
  conv => whnf
  repeat (refine XSame.of ?_; conv => whnf)
  refine XIf.no (by simp [iNe_eq]) ?_
  conv => whnf
  repeat (refine XSame.of ?_; conv => whnf)
  refine XVal.makeMapG fun b8 => ?_
  conv => whnf
  repeat (refine XSame.of ?_; conv => whnf)
  refine XVal.of_read (XRead.loadF tabOk (t := 81) rfl rfl (ad := ⟨bt, 0, none⟩) (k := 1) (L := Ct) (v := .map (some bm)) (.fact fun w hw => hTr w hw.2) (fun _ => rfl) hm1 ?_)
  conv => whnf
  repeat (refine XSame.of ?_; conv => whnf)
  refine XVal.of_read (XRead.lookupIn tabOk (t := 81) rfl rfl rfl rfl (SeesM.fact fun w hw => hTm w hw.2) rfl (T.kv_key T.dl) (v := .slice (T.H m).a 8 (T.H m).c) T.kv_val (T.kv_in hm') ?_)
  generalize T.E m = E at *
  generalize hHH : T.H m = K at *
  have hnm : ∀ j, (nmsOf (E.take j)).Nodup ∧ (∀ s ∈ nmsOf (E.take j), s.length ≤ 14) ∧ (nmsOf (E.take j)).length ≤ 8 := fun j => by
    obtain ⟨a, b, c⟩ := nms_ok (E.take j) [] List.nodup_nil (by simp) fun e he => hname e (List.mem_of_mem_take he)
    refine ⟨a, b, Nat.le_trans c ?_⟩
    rw [List.length_nil, List.length_take]
    omega
  have hnext : ∀ j (hj : j < E.length), nmsOf (E.take (j + 1)) = addS (nmsOf (E.take j)) E[j] := fun j hj => by
    unfold nmsOf
    rw [List.take_succ_eq_append_getElem hj, List.foldl_append]
    rfl
  conv => whnf
  repeat (refine XSame.of ?_; conv => whnf)
  refine XStop.loop tabOk (ι := Nat) ([10] ++ List.range' 28 14) (fun x => x ≤ 8)
    (fun x => [(28, .v (.int .i64 (x : Int)))]) (fun _ => []) (fun x => ⟨TreeAt T (h.v d.length) bt bm, [] ++ [(b8, Row.m (mapG (setKV (nmsOf (E.take x)))) (setKV (nmsOf (E.take x))).length)] ++ []⟩)
    (fun x => 8 - x) 0 (Nat.zero_le _) ?_ rfl (Ent.of_le ⟨by simp [Fx.and, nmsOf, setKV], fun w hw => hw.2⟩) fun j hj => ?_
  · conv => whnf
    repeat (first | exact FLe.nil | refine FLe.any ?_ | refine FLe.cons ?_)
  conv => whnf
  refine XIf.split (fun hlt => ?_) (fun hlt => ?_)
  · have hj8 : j < 8 := by
      simp only [iLt_eq, decide_eq_true_eq] at hlt
      omega
    have hjE : j < E.length := by omega
    have hnx := hnext j hjE
    obtain ⟨hn1, hn2, hn3⟩ := hnm j
    have hnmj := hname _ (List.getElem_mem hjE)
    have hfin : ∀ ns' : List (List UInt8), ns' = nmsOf (E.take (j + 1)) → Ent ⟨TreeAt T (h.v d.length) bt bm, [] ++ [(b8, Row.m (mapG (setKV ns')) (setKV ns').length)] ++ []⟩ ((fun x => (⟨TreeAt T (h.v d.length) bt bm, [] ++ [(b8, Row.m (mapG (setKV (nmsOf (E.take x)))) (setKV (nmsOf (E.take x))).length)] ++ []⟩ : Fx)) (j + 1)) := fun ns' h => by
      subst h
      exact Ent.refl _
    generalize nmsOf (E.take j) = ns at *
    conv => whnf
    repeat (refine XSame.of ?_; conv => whnf)
    refine XVal.of_read (XRead.index tabOk (t := 78) rfl rfl rfl (by omega) (by omega) hhd.nil fun ad had => ?_)
    conv => whnf
    repeat (refine XSame.of ?_; conv => whnf)
    refine XVal.of_read (XRead.loads tabOk (t := 80) rfl rfl (ad := ad) (k := 2 * j) (L := enCs E) (m := enC E[j]) (.fact fun w hw => had ▸ hTE w hw) (by congr 1; show Int.toNat (j : Int) * 2 = _; rw [Int.toNat_natCast]; omega) (enCs_struct hjE) rfl ?_)
    generalize hej : E[j] = e at *
    obtain ⟨nm, nd⟩ := e
    dsimp only at hnmj
    conv => whnf
    repeat (refine XSame.of ?_; conv => whnf)
    intro b10
    conv => whnf
    repeat (refine XSame.of ?_; conv => whnf)
    refine XVal.of_read (XRead.strNe (l := nm) (m := []) ?_)
    conv => whnf
    repeat (refine XSame.of ?_; conv => whnf)
    refine XIf.split (fun hne => ?_) (fun hne => ?_)
    · have hne' : nm ≠ [] := by simpa using hne
      conv => whnf
      repeat (refine XSame.of ?_; conv => whnf)
      by_cases hin : nm ∈ ns
      · have ha : addS ns (nm, nd) = ns := if_pos (.inr hin)
        rw [ha] at hnx
        refine XUnit.mapOld tabOk (t := 123) rfl rfl rfl rfl (r1 := []) (r2 := []) (l := setKV ns) trivial (setKV_key ns) ⟨(strV nm, .bool true), List.mem_map.2 ⟨nm, hin, rfl⟩, rfl⟩ fun i u hi => ?_
        have hse : (setKV ns).set i (strV nm, .bool true) = setKV ns := by
          obtain ⟨hl, he⟩ := List.getElem?_eq_some_iff.1 hi
          have hu : u = .bool true := by
            have := List.mem_of_getElem? hi
            obtain ⟨s, _, hs⟩ := List.mem_map.1 this
            exact (Prod.mk.inj hs).2.symm
          rw [hu] at he
          rw [show (strV nm, Value.bool true) = (setKV ns)[i] from he.symm]
          exact List.set_getElem_self hl
        rw [hse]
        conv => whnf
        repeat (refine XSame.of ?_; conv => whnf)
        refine ⟨j + 1, ⟨hj8, by dsimp only; omega⟩, ?_, ?_, hfin ns hnx.symm⟩
        · conv => whnf
          refine ⟨?_, rfl⟩
          repeat (first | exact FLe.nil | refine FLe.any ?_ | refine FLe.cons ?_ | refine FLe.eq (by rw [wrap_i64 (by omega)]; rfl) ?_)
        · conv => whnf
          exact trivial
      · have ha : addS ns (nm, nd) = ns ++ [nm] := if_neg fun h => h.elim hne' hin
        rw [ha] at hnx
        refine XUnit.mapNew tabOk (t := 123) rfl rfl rfl rfl (r1 := []) (r2 := []) (l := setKV ns) trivial (setKV_key ns) (setKV_no hin) ?_
        rw [← setKV_snoc]
        conv => whnf
        repeat (refine XSame.of ?_; conv => whnf)
        refine ⟨j + 1, ⟨hj8, by dsimp only; omega⟩, ?_, ?_, hfin (ns ++ [nm]) hnx.symm⟩
        · conv => whnf
          refine ⟨?_, rfl⟩
          repeat (first | exact FLe.nil | refine FLe.any ?_ | refine FLe.cons ?_ | refine FLe.eq (by rw [wrap_i64 (by omega)]; rfl) ?_)
        · conv => whnf
          exact trivial
    · have hne' : nm = [] := by simpa using hne
      have ha : addS ns (nm, nd) = ns := if_pos (.inl hne')
      rw [ha] at hnx
      conv => whnf
      repeat (refine XSame.of ?_; conv => whnf)
      refine ⟨j + 1, ⟨hj8, by dsimp only; omega⟩, ?_, ?_, hfin ns hnx.symm⟩
      · conv => whnf
        refine ⟨?_, rfl⟩
        repeat (first | exact FLe.nil | refine FLe.any ?_ | refine FLe.cons ?_ | refine FLe.eq (by rw [wrap_i64 (by omega)]; rfl) ?_)
      · conv => whnf
        exact trivial
  · have hje : j = 8 := by
      simp only [iLt_eq, decide_eq_false_iff_not] at hlt
      omega
    subst hje
    have hE8 : E.take 8 = E := List.take_of_length_le (by omega)
    obtain ⟨hn1, hn2, hn3⟩ := hnm 8
    rw [hE8] at hn1 hn2 hn3 ⊢
    generalize nmsOf E = ns at *
    conv => whnf
    repeat (refine XSame.of ?_; conv => whnf)
    refine XCall.pure (keys_spec (some b8)) (fun w hw => trivial) (fun v D hv => ?_)
    obtain ⟨bk, rfl, rfl⟩ := hv
    conv => whnf
    repeat (refine XSame.of ?_; conv => whnf)
    refine XCall.ent (F' := ⟨fun w => RowAt w (some ⟨bk, 0, none⟩) [.map (some b8)] ∧ MapAt w b8 (setKV ns), []⟩) ?_ ?_
    · refine Ent.trans (G := ⟨fun w => (TreeAt T (h.v d.length) bt bm w ∧ True) ∧ MapAt w b8 (setKV ns), [] ++ [(bk, Row.c [.map (some b8)])]⟩) (Ent.shareM (r1 := []) (r2 := [(bk, Row.c [.map (some b8)])])) ?_
      exact Ent.share1.trans (Ent.imp fun w hw => ⟨hw.2, hw.1.2⟩)
    refine XCall.pure (sorted_spec bk b8 ns hn1 (fun s hs => by have := hn2 s hs; omega) (by omega)) (fun w hw => hw) (fun v D hv => ?_)
    obtain ⟨a, cap, C, hO, rfl, rfl⟩ := hv
    conv => whnf
    repeat (refine XSame.of ?_; conv => whnf)
    exact ⟨⟨fun _ => True, orow a C⟩, Ent.of_le ⟨by simp [Fx.and], fun w hw => trivial⟩, a, cap, C, hO, rfl, rfl⟩

end Go.Proofs.YtbfpgfopppfhoaaGreatDoor
namespace Go.Proofs.YtbfpgfopppfhoaaGreatDoor
open Go Go.Sx
set_option maxRecDepth 100000
set_option maxHeartbeats 4000000
set_option linter.unusedVariables false
set_option linter.unusedSimpArgs false

theorem plookup_spec (d : List UInt8) (h : Hd) (hh : h.Ok d.length) (hl : d.length ≤ 1000000) (n : Int) (s : List UInt8) (hs : s.length ≤ 1000000) :
    PureSpec Tryz.prog 34 [h.v d.length, .int .i64 n, strV s] (fun w => By w h d) (RelII (lookupR d n s).1 (lookupR d n s).2) := by
  have hds := directory_spec d h hh hl n
  have hz := dirE_zero (d := d) (n := n)
  have hde : dirE d n ≠ 0 → lookupR d n s = (0, dirE d n) := fun h => by
    unfold lookupR dirE at *
    by_cases h0 : chk38 d = 0
    · rw [if_neg (show ¬ chk38 d ≠ 0 by rw [h0]; simp)] at h ⊢
      rw [if_pos h, if_neg (show ¬ chk38 d ≠ 0 by rw [h0]; simp)]
    · rw [if_pos h0, if_pos h0]
  refine PureSpec.of_xc tabOk Tryz.func34 rfl (by decide) (n := Tryz.f34.ntmps - 3) rfl rfl fun w0 av => ?_
  conv => whnf
  refine XCall.pure hds (fun w hw => hw) (fun v D hv => ?_)
  unfold RelDi at hv
  by_cases h0 : dirE d n = 0
  rotate_left
  · rw [if_neg h0] at hv
    rw [hde h0]
    obtain ⟨q, rfl, rfl⟩ := hv
    generalize dirE d n = e at *
    conv => whnf
    repeat (refine XSame.of ?_; conv => whnf)
    refine XIf.yes (by simp [iNe_eq]; omega) ?_
    conv => whnf
    repeat (refine XSame.of ?_; conv => whnf)
    exact ⟨_, Ent.refl _, rfl⟩
  rw [if_pos h0] at hv
  obtain ⟨bt, bm, H, hH, rfl, rfl⟩ := hv
  obtain ⟨h38, m, rfl, hm⟩ := hz h0
  have hT := theTree_ok d hH
  have hlr : lookupR d m s = if vname s = false then (0, 15) else (theTree d H).find m s := by
    unfold lookupR
    rw [if_neg (show ¬ chk38 d ≠ 0 by rw [h38]; simp), dirR_dir h38 hm]
    dsimp only
    rw [if_neg (by decide)]
    split
    · rfl
    · rw [theTree_find]
      unfold Tree.find
      rw [if_pos hm]
      show _ = (match fidx ((T0 d).E m) s with
        | none => (0, 8)
        | some k => ((((T0 d).E m)[k]?.map fun x : En => x.2).getD 0, 0))
      cases fidx ((T0 d).E m) s <;> rfl
  have hm32 := (mem_dl.1 hm).1
  rw [hlr]
  generalize theTree d H = T at *
  generalize dirE d m = e at *
  subst h0
  clear hlr hde hz
  conv => whnf
  repeat (refine XSame.of ?_; conv => whnf)
  refine XIf.no (by simp [iNe_eq]) ?_
  conv => whnf
  repeat (refine XSame.of ?_; conv => whnf)
  refine XCall.val (valid_spec s hs) (fun w hw => trivial) (fun v D hv => ?_)
  generalize vname s = vn at *
  subst hv
  conv => whnf
  repeat (refine XSame.of ?_; conv => whnf)
  refine XIf.split (fun hq => ?_) (fun hq => ?_)
  · have hq' : vn = false := by simpa using hq
    rw [if_pos hq']
    conv => whnf
    repeat (refine XSame.of ?_; conv => whnf)
    exact ⟨_, Ent.refl _, rfl⟩
  · have hq' : vn = true := by simpa using hq
    rw [if_neg (by rw [hq']; simp)]
    have htf := tfind_spec T hT (h.v d.length) bt bm m (by omega) s
    generalize T.find m s = r at *
    obtain ⟨x, er⟩ := r
    dsimp only at htf ⊢
    conv => whnf
    repeat (refine XSame.of ?_; conv => whnf)
    refine XCall.val htf (fun w hw => hw.2) (fun v D hv => ?_)
    unfold RelII at hv
    subst hv
    conv => whnf
    repeat (refine XSame.of ?_; conv => whnf)
    exact ⟨_, Ent.refl _, rfl⟩

theorem bytesLess_lt : ∀ x y : List UInt8, Op.bytesLess x y = decide (x < y)
  | _, [] => by simp [Op.bytesLess]
  | [], _ :: _ => by simp [Op.bytesLess]
  | a :: x, b :: y => by
    rw [Op.bytesLess, bytesLess_lt x y]
    simp only [List.cons_lt_cons_iff]
    by_cases h1 : a < b <;> by_cases h2 : a = b <;> by_cases h3 : x < y <;> simp [h1, h2, h3]

def insI (l : List (List UInt8)) (s : List UInt8) : Nat := (l.takeWhile fun x => decide (x < s)).length
def insR (l : List (List UInt8)) (s : List UInt8) : List (List UInt8) := l.take (insI l s) ++ [s] ++ l.drop (insI l s)

theorem insI_le (l : List (List UInt8)) (s : List UInt8) : insI l s ≤ l.length := by
  unfold insI
  exact (List.takeWhile_prefix _).length_le

theorem insI_of {l : List (List UInt8)} {s : List UInt8} : ∀ {i : Nat}, i ≤ l.length → (∀ j (hj : j < l.length), j < i → l[j] < s) → (∀ h : i < l.length, ¬ l[i] < s) → insI l s = i := by
  induction l with
  | nil =>
    intro i hi _ _
    have : i = 0 := by simpa using hi
    rw [this]
    rfl
  | cons x l ih =>
    intro i hi h1 h2
    cases i with
    | zero =>
      have := h2 (by simp)
      unfold insI
      rw [List.takeWhile_cons_of_neg (by simpa using this)]
      rfl
    | succ i =>
      have h0 := h1 0 (by simp) (by omega)
      have := ih (i := i) (by simpa using hi) (fun j hj hji => h1 (j + 1) (by simpa using hj) (by omega)) (fun h => h2 (by simpa using h))
      unfold insI at this ⊢
      rw [List.takeWhile_cons_of_pos (by simpa using h0), List.length_cons, this]

theorem insR_len (l : List (List UInt8)) (s : List UInt8) : (insR l s).length = l.length + 1 := by
  have := insI_le l s
  unfold insR
  simp
  omega

/-- A row of strings of the caller's own. -/
def RelOut (l : List (List UInt8)) (v : Value) (F : Fx) : Prop := ∃ b cap C, v = .slice (some ⟨b, 0, none⟩) l.length cap ∧ Own 1 l.length (some ⟨b, 0, none⟩) cap C (l.map strV) ∧ F = ⟨fun _ => True, [(b, Row.c C)]⟩

theorem insO_spec (l : List (List UInt8)) (h : Hd) (hh : h.Ok l.length) (hl : l.length ≤ 1000) (s : List UInt8) :
    PureSpec Tryz.prog 79 [h.v l.length, strV s] (fun w => StrAt w h l) (RelOut (insR l s)) := by
  have hc := hh.cap
  have hil := insI_le l s
  have hof := fun {i : Nat} => insI_of (l := l) (s := s) (i := i)
  refine PureSpec.of_xc tabOk Tryz.func79 rfl (by decide) (n := Tryz.f79.ntmps - 2) rfl rfl fun w0 av => ?_
  conv => whnf
  refine XStop.loop tabOk (ι := Nat) ([5] ++ List.range' 6 14) (fun x => x ≤ l.length ∧ ∀ j (hj : j < l.length), j < x → l[j] < s)
    (fun x => [(5, .v (.int .i64 (x : Int)))]) (fun _ => []) (fun _ => ⟨fun w => StrAt w h l, []⟩)
    (fun x => l.length - x) 0 ⟨Nat.zero_le _, fun j _ hj => by omega⟩ ?_ rfl (Ent.refl _) fun i hi => ?_
  · conv => whnf
    repeat (first | exact FLe.nil | refine FLe.any ?_ | refine FLe.cons ?_)
  obtain ⟨hi, hall⟩ := hi
  conv => whnf
  have hone : ∀ v ∈ (l.take i).map strV, oneCell v = true := fun v hv => by
    obtain ⟨x, _, rfl⟩ := List.mem_map.1 hv
    rfl
  have hone2 : ∀ v ∈ (l.drop i).map strV, oneCell v = true := fun v hv => by
    obtain ⟨x, _, rfl⟩ := List.mem_map.1 hv
    rfl
  have htake : ∀ w, StrAt w h l → RowAt w h.a ((l.take i).map strV) := fun w hw => by
    rw [List.map_take]
    exact RowAt.take hw i
  have hdrop : ∀ w, StrAt w h l → RowAt w (Hd.sub h i).a ((l.drop i).map strV) := fun w hw => by
    have := RowAt.cut (l := i) (hi := l.length) (m := h.c) (size := 1) hw ⟨by omega, by omega⟩
    rw [Nat.mul_one, Nat.mul_one, List.take_of_length_le (by simp)] at this
    rw [List.map_drop]
    exact this
  have hend : insI l s = i → ∀ (a : Option Addr) (c : Nat) (C : List Value) (n : Nat), Own 1 n a c C (([] ++ (l.take i).map strV ++ [strV s]) ++ (l.drop i).map strV) → ∀ r1 r2 : List (Nat × Row), n = l.length + 1 → ∃ F', Ent ⟨fun w => StrAt w h l, r1 ++ orow a C ++ r2⟩ F' ∧ RelOut (insR l s) (.slice a n c) F' := fun hk a c C n hO r1 r2 hn => by
    have hL : ([] ++ (l.take i).map strV ++ [strV s]) ++ (l.drop i).map strV = (insR l s).map strV := by
      unfold insR
      rw [hk]
      simp
    rw [hL] at hO
    have hil := insR_len l s
    obtain ⟨b, rfl⟩ := own_some hO (by omega)
    refine ⟨⟨fun w => True, [(b, Row.c C)]⟩, Ent.of_le ⟨?_, fun w hw => trivial⟩, b, c, C, by rw [hil, hn], by rw [hil, ← hn]; exact hO, rfl⟩
    show [(b, Row.c C)].Sublist (r1 ++ [(b, Row.c C)] ++ r2)
    rw [List.append_assoc]
    exact (List.sublist_append_left _ _).trans (List.sublist_append_right _ _)
  generalize hlt : iLt (i : Int) (l.length : Int) = c
  cases c
  · have hie : i = l.length := by
      simp only [iLt_eq, decide_eq_false_iff_not] at hlt
      omega
    have hk := hof hi hall fun h => by omega
    conv => whnf
    repeat (refine XSame.of ?_; conv => whnf)
    refine XStop.draw tabOk mixed rfl rfl ?_
    conv => whnf
    refine XRead.subTo tabOk (t := 23) rfl rfl rfl (h := h) i rfl (by omega) ?_
    conv => whnf
    refine XRead.subFrom tabOk (t := 23) rfl rfl rfl rfl (h := h) i rfl (by omega) (by omega) ?_
    conv => whnf
    refine And.intro ?_ ?_ <;> conv => whnf
    · refine XVal.build tabOk (t := 23) rfl rfl rfl [] rfl rfl (by simp) (by decide) fun b0 => ?_
      conv => whnf
      refine And.intro ?_ ?_ <;> conv => whnf
      · refine XVal.ent (F' := ⟨fun w => StrAt w h l, [] ++ orow (some ⟨b0, 0, none⟩) [] ++ []⟩) (Ent.of_le ⟨by simp [orow], fun w hw => hw⟩) ?_
        refine XVal.append tabOk (t := 23) (xt := 23) rfl rfl rfl rfl rfl rfl (r1 := []) (r2 := []) (M := (l.take i).map strV) (L := []) (n := 0) (Own.full rfl) (.fact fun w hw => htake w hw) (by simp; omega) hone (by omega) (by simp; omega) fun a1 c1 C1 hO1 => ?_
        conv => whnf
        refine XVal.build tabOk (t := 23) rfl rfl rfl [strV s] rfl rfl (by simp [Value.cells, strV]) (by decide) fun b1 => ?_
        conv => whnf
        refine XVal.ent (F' := ⟨fun w => StrAt w h l, [] ++ orow a1 C1 ++ [(b1, Row.c [strV s])]⟩) (Ent.of_le ⟨by simp [Value.cells, strV], fun w hw => hw⟩) ?_
        refine XVal.append tabOk (t := 23) (xt := 23) rfl rfl rfl rfl rfl rfl (r1 := []) (r2 := [(b1, Row.c [strV s])]) (M := [strV s]) hO1 (Sees.row (by simp)) rfl (by simp [strV, oneCell]) (by omega) (by simp; omega) fun a2 c2 C2 hO2 => ?_
        conv => whnf
        refine XVal.append tabOk (t := 23) (xt := 23) rfl rfl rfl rfl rfl rfl (r1 := []) (r2 := [(b1, Row.c [strV s])]) (M := (l.drop i).map strV) hO2 (.fact fun w hw => hdrop w hw) (by simp; try omega) hone2 (by omega) (by simp; omega) fun a3 c3 C3 hO3 => ?_
        conv => whnf
        exact hend hk a3 c3 C3 _ hO3 _ _ (by omega)
      · refine XVal.build tabOk (t := 23) rfl rfl rfl [strV s] rfl rfl (by simp [Value.cells, strV]) (by decide) fun b1 => ?_
        conv => whnf
        refine XVal.ent (F' := ⟨fun w => StrAt w h l, [] ++ orow (some ⟨b0, 0, none⟩) [] ++ [(b1, Row.c [strV s])]⟩) (Ent.of_le ⟨by simp [orow, Value.cells, strV], fun w hw => hw⟩) ?_
        refine XVal.append tabOk (t := 23) (xt := 23) rfl rfl rfl rfl rfl rfl (r1 := []) (r2 := [(b1, Row.c [strV s])]) (M := (l.take i).map strV) (L := []) (n := 0) (Own.full rfl) (.fact fun w hw => htake w hw) (by simp; omega) hone (by omega) (by simp; omega) fun a1 c1 C1 hO1 => ?_
        conv => whnf
        refine XVal.append tabOk (t := 23) (xt := 23) rfl rfl rfl rfl rfl rfl (r1 := []) (r2 := [(b1, Row.c [strV s])]) (M := [strV s]) hO1 (Sees.row (by simp)) rfl (by simp [strV, oneCell]) (by omega) (by simp; omega) fun a2 c2 C2 hO2 => ?_
        conv => whnf
        refine XVal.append tabOk (t := 23) (xt := 23) rfl rfl rfl rfl rfl rfl (r1 := []) (r2 := [(b1, Row.c [strV s])]) (M := (l.drop i).map strV) hO2 (.fact fun w hw => hdrop w hw) (by simp; try omega) hone2 (by omega) (by simp; omega) fun a3 c3 C3 hO3 => ?_
        conv => whnf
        exact hend hk a3 c3 C3 _ hO3 _ _ (by omega)
    · refine XVal.build tabOk (t := 23) rfl rfl rfl [strV s] rfl rfl (by simp [Value.cells, strV]) (by decide) fun b1 => ?_
      conv => whnf
      refine XVal.build tabOk (t := 23) rfl rfl rfl [] rfl rfl (by simp) (by decide) fun b0 => ?_
      conv => whnf
      refine XVal.ent (F' := ⟨fun w => StrAt w h l, [(b1, Row.c [strV s])] ++ orow (some ⟨b0, 0, none⟩) [] ++ []⟩) (Ent.of_le ⟨by simp [orow, Value.cells, strV], fun w hw => hw⟩) ?_
      refine XVal.append tabOk (t := 23) (xt := 23) rfl rfl rfl rfl rfl rfl (r1 := [(b1, Row.c [strV s])]) (r2 := []) (M := (l.take i).map strV) (L := []) (n := 0) (Own.full rfl) (.fact fun w hw => htake w hw) (by simp; omega) hone (by omega) (by simp; omega) fun a1 c1 C1 hO1 => ?_
      conv => whnf
      refine XVal.append tabOk (t := 23) (xt := 23) rfl rfl rfl rfl rfl rfl (r1 := [(b1, Row.c [strV s])]) (r2 := []) (M := [strV s]) hO1 (Sees.row (by simp)) rfl (by simp [strV, oneCell]) (by omega) (by simp; omega) fun a2 c2 C2 hO2 => ?_
      conv => whnf
      refine XVal.append tabOk (t := 23) (xt := 23) rfl rfl rfl rfl rfl rfl (r1 := [(b1, Row.c [strV s])]) (r2 := []) (M := (l.drop i).map strV) hO2 (.fact fun w hw => hdrop w hw) (by simp; try omega) hone2 (by omega) (by simp; omega) fun a3 c3 C3 hO3 => ?_
      conv => whnf
      exact hend hk a3 c3 C3 _ hO3 _ _ (by omega)
  · have hlt' : i < l.length := by
      simp only [iLt_eq, decide_eq_true_eq] at hlt
      omega
    conv => whnf
    repeat (refine XSame.of ?_; conv => whnf)
    refine XVal.of_read (XRead.index tabOk (t := 23) rfl rfl rfl (by omega) (by omega) hh.nil fun ad had => ?_)
    conv => whnf
    repeat (refine XSame.of ?_; conv => whnf)
    refine XVal.of_read (XRead.load tabOk (t := 9) rfl rfl (ad := ad) (k := i) (L := l.map strV) (v := strV l[i]) (.fact fun w hw => had ▸ hw) (by simp) (by simp [hlt']) ?_)
    conv => whnf
    repeat (refine XSame.of ?_; conv => whnf)
    refine XVal.of_read (XRead.strLt (l := l[i]) (m := s) ?_)
    rw [bytesLess_lt]
    conv => whnf
    repeat (refine XSame.of ?_; conv => whnf)
    refine XIf.split (fun hq => ?_) (fun hq => ?_)
    · have hq' : l[i] < s := by simpa using hq
      conv => whnf
      repeat (refine XSame.of ?_; conv => whnf)
      refine ⟨i + 1, ⟨⟨hlt', fun j hj hji => ?_⟩, by dsimp only; omega⟩, ?_, ?_, Ent.refl _⟩
      · rcases Nat.lt_or_eq_of_le (Nat.lt_succ_iff.1 hji) with h5 | h5
        · exact hall j hj h5
        · subst h5; exact hq'
      · conv => whnf
        refine ⟨?_, rfl⟩
        repeat (first | exact FLe.nil | refine FLe.any ?_ | refine FLe.cons ?_ | refine FLe.eq (by rw [wrap_i64 (by omega)]; rfl) ?_)
      · conv => whnf
        exact trivial
    · have hq' : ¬ l[i] < s := by simpa using hq
      have hk := hof hi hall fun _ => hq'
      conv => whnf
      repeat (refine XSame.of ?_; conv => whnf)
      refine XStop.draw tabOk mixed rfl rfl ?_
      conv => whnf
      refine XRead.subTo tabOk (t := 23) rfl rfl rfl (h := h) i rfl (by omega) ?_
      conv => whnf
      refine XRead.subFrom tabOk (t := 23) rfl rfl rfl rfl (h := h) i rfl (by omega) (by omega) ?_
      conv => whnf
      refine And.intro ?_ ?_ <;> conv => whnf
      · refine XVal.build tabOk (t := 23) rfl rfl rfl [] rfl rfl (by simp) (by decide) fun b0 => ?_
        conv => whnf
        refine And.intro ?_ ?_ <;> conv => whnf
        · refine XVal.ent (F' := ⟨fun w => StrAt w h l, [] ++ orow (some ⟨b0, 0, none⟩) [] ++ []⟩) (Ent.of_le ⟨by simp [orow], fun w hw => hw⟩) ?_
          refine XVal.append tabOk (t := 23) (xt := 23) rfl rfl rfl rfl rfl rfl (r1 := []) (r2 := []) (M := (l.take i).map strV) (L := []) (n := 0) (Own.full rfl) (.fact fun w hw => htake w hw) (by simp; omega) hone (by omega) (by simp; omega) fun a1 c1 C1 hO1 => ?_
          conv => whnf
          refine XVal.build tabOk (t := 23) rfl rfl rfl [strV s] rfl rfl (by simp [Value.cells, strV]) (by decide) fun b1 => ?_
          conv => whnf
          refine XVal.ent (F' := ⟨fun w => StrAt w h l, [] ++ orow a1 C1 ++ [(b1, Row.c [strV s])]⟩) (Ent.of_le ⟨by simp [Value.cells, strV], fun w hw => hw⟩) ?_
          refine XVal.append tabOk (t := 23) (xt := 23) rfl rfl rfl rfl rfl rfl (r1 := []) (r2 := [(b1, Row.c [strV s])]) (M := [strV s]) hO1 (Sees.row (by simp)) rfl (by simp [strV, oneCell]) (by omega) (by simp; omega) fun a2 c2 C2 hO2 => ?_
          conv => whnf
          refine XVal.append tabOk (t := 23) (xt := 23) rfl rfl rfl rfl rfl rfl (r1 := []) (r2 := [(b1, Row.c [strV s])]) (M := (l.drop i).map strV) hO2 (.fact fun w hw => hdrop w hw) (by simp; try omega) hone2 (by omega) (by simp; omega) fun a3 c3 C3 hO3 => ?_
          conv => whnf
          exact hend hk a3 c3 C3 _ hO3 _ _ (by omega)
        · refine XVal.build tabOk (t := 23) rfl rfl rfl [strV s] rfl rfl (by simp [Value.cells, strV]) (by decide) fun b1 => ?_
          conv => whnf
          refine XVal.ent (F' := ⟨fun w => StrAt w h l, [] ++ orow (some ⟨b0, 0, none⟩) [] ++ [(b1, Row.c [strV s])]⟩) (Ent.of_le ⟨by simp [orow, Value.cells, strV], fun w hw => hw⟩) ?_
          refine XVal.append tabOk (t := 23) (xt := 23) rfl rfl rfl rfl rfl rfl (r1 := []) (r2 := [(b1, Row.c [strV s])]) (M := (l.take i).map strV) (L := []) (n := 0) (Own.full rfl) (.fact fun w hw => htake w hw) (by simp; omega) hone (by omega) (by simp; omega) fun a1 c1 C1 hO1 => ?_
          conv => whnf
          refine XVal.append tabOk (t := 23) (xt := 23) rfl rfl rfl rfl rfl rfl (r1 := []) (r2 := [(b1, Row.c [strV s])]) (M := [strV s]) hO1 (Sees.row (by simp)) rfl (by simp [strV, oneCell]) (by omega) (by simp; omega) fun a2 c2 C2 hO2 => ?_
          conv => whnf
          refine XVal.append tabOk (t := 23) (xt := 23) rfl rfl rfl rfl rfl rfl (r1 := []) (r2 := [(b1, Row.c [strV s])]) (M := (l.drop i).map strV) hO2 (.fact fun w hw => hdrop w hw) (by simp; try omega) hone2 (by omega) (by simp; omega) fun a3 c3 C3 hO3 => ?_
          conv => whnf
          exact hend hk a3 c3 C3 _ hO3 _ _ (by omega)
      · refine XVal.build tabOk (t := 23) rfl rfl rfl [strV s] rfl rfl (by simp [Value.cells, strV]) (by decide) fun b1 => ?_
        conv => whnf
        refine XVal.build tabOk (t := 23) rfl rfl rfl [] rfl rfl (by simp) (by decide) fun b0 => ?_
        conv => whnf
        refine XVal.ent (F' := ⟨fun w => StrAt w h l, [(b1, Row.c [strV s])] ++ orow (some ⟨b0, 0, none⟩) [] ++ []⟩) (Ent.of_le ⟨by simp [orow, Value.cells, strV], fun w hw => hw⟩) ?_
        refine XVal.append tabOk (t := 23) (xt := 23) rfl rfl rfl rfl rfl rfl (r1 := [(b1, Row.c [strV s])]) (r2 := []) (M := (l.take i).map strV) (L := []) (n := 0) (Own.full rfl) (.fact fun w hw => htake w hw) (by simp; omega) hone (by omega) (by simp; omega) fun a1 c1 C1 hO1 => ?_
        conv => whnf
        refine XVal.append tabOk (t := 23) (xt := 23) rfl rfl rfl rfl rfl rfl (r1 := [(b1, Row.c [strV s])]) (r2 := []) (M := [strV s]) hO1 (Sees.row (by simp)) rfl (by simp [strV, oneCell]) (by omega) (by simp; omega) fun a2 c2 C2 hO2 => ?_
        conv => whnf
        refine XVal.append tabOk (t := 23) (xt := 23) rfl rfl rfl rfl rfl rfl (r1 := [(b1, Row.c [strV s])]) (r2 := []) (M := (l.drop i).map strV) hO2 (.fact fun w hw => hdrop w hw) (by simp; try omega) hone2 (by omega) (by simp; omega) fun a3 c3 C3 hO3 => ?_
        conv => whnf
        exact hend hk a3 c3 C3 _ hO3 _ _ (by omega)

theorem ins_spec (l : List (List UInt8)) (h : Hd) (hh : h.Ok l.length) (hl : l.length ≤ 1000) (s : List UInt8) :
    PureSpec Tryz.prog 79 [h.v l.length, strV s] (fun w => StrAt w h l) (RelS (insR l s)) :=
  (insO_spec l h hh hl s).weaken fun v F hv => by
    obtain ⟨b, c, C, rfl, hO, rfl⟩ := hv
    exact ⟨⟨fun w => StrAt w ⟨some ⟨b, 0, none⟩, c⟩ (insR l s), []⟩, (Own.gives hO).trans (Ent.imp fun w hw => hw.2), ⟨some ⟨b, 0, none⟩, c⟩, rfl, hO.hd, rfl⟩

end Go.Proofs.YtbfpgfopppfhoaaGreatDoor
namespace Go.Proofs.YtbfpgfopppfhoaaGreatDoor
open Go Go.Sx
set_option maxRecDepth 100000
set_option maxHeartbeats 4000000
set_option linter.unusedVariables false
set_option linter.unusedSimpArgs false

def addI (l : List (List UInt8)) (e : En) : List (List UInt8) := if e.1 = [] then l else insR l e.1
def namesI (E : List En) : List (List UInt8) := E.foldl addI []

theorem addI_len (l : List (List UInt8)) (e : En) : (addI l e).length ≤ l.length + 1 := by
  unfold addI
  split
  · omega
  · rw [insR_len]; omega

theorem namesI_len : ∀ (E : List En) (l : List (List UInt8)), (E.foldl addI l).length ≤ l.length + E.length
  | [], l => by simp
  | e :: E, l => by
    have h1 := namesI_len E (addI l e)
    have h2 := addI_len l e
    simp only [List.foldl_cons, List.length_cons]
    omega

noncomputable def listR (d : List UInt8) (n : Int) : List (List UInt8) × Nat := if chk38 d ≠ 0 then ([], chk38 d) else (namesI (dirR d n).1, (dirR d n).2)

def RelLE (l : List (List UInt8)) (e : Nat) (v : Value) (F : Fx) : Prop := ∃ h : Hd, v = .tuple #[h.v l.length, .int .i64 (e : Int)] ∧ h.Ok l.length ∧ F = ⟨fun w => StrAt w h l, []⟩

theorem dirR_len (d : List UInt8) (n : Int) : (dirR d n).1.length ≤ 8 := by
  unfold dirR
  split
  · simp
  · split
    · simp
    · exact entsR_small _

theorem list38_spec (d : List UInt8) (h : Hd) (hh : h.Ok d.length) (hl : d.length ≤ 1000000) (n : Int) :
    PureSpec Tryz.prog 37 [h.v d.length, .int .i64 n] (fun w => By w h d) (RelLE (listR d n).1 (listR d n).2) := by
  obtain ⟨M, hM⟩ : ∃ x, x = listR d n := ⟨_, rfl⟩
  rw [← hM]
  unfold listR at hM
  have hdl := dirR_len d n
  refine PureSpec.of_xc tabOk Tryz.func37 rfl (by decide) (n := Tryz.f37.ntmps - 2) rfl rfl fun w0 av => ?_
  conv => whnf
  refine XCall.val (check38_spec d h hh hl) (fun w hw => hw) (fun v D hv => ?_)
  generalize chk38 d = c at *
  subst hv
  conv => whnf
  repeat (refine XSame.of ?_; conv => whnf)
  refine XIf.split (fun hq => ?_) (fun hq => ?_)
  · have hq' : c ≠ 0 := by
      simp [iNe_eq] at hq
      omega
    rw [if_pos hq'] at hM
    rw [hM]
    conv => whnf
    repeat (refine XSame.of ?_; conv => whnf)
    exact ⟨⟨fun w => StrAt w Hd.nil [], []⟩, Ent.bare fun w _ => RowAt.nilA, Hd.nil, rfl, Hd.nil_ok, rfl⟩
  have hq' : ¬ c ≠ 0 := by
    simp [iNe_eq] at hq
    omega
  rw [if_neg hq'] at hM
  rw [hM]
  have hds := dir_spec d h hh hl n
  generalize dirR d n = r at *
  obtain ⟨E, er⟩ := r
  dsimp only at hds hdl ⊢
  conv => whnf
  repeat (refine XSame.of ?_; conv => whnf)
  refine XCall.pure hds (fun w hw => hw) (fun v D hv => ?_)
  obtain ⟨ke, rfl, hke, rfl⟩ := hv
  have hnx : ∀ j (hj : j < E.length), namesI (E.take (j + 1)) = addI (namesI (E.take j)) E[j] := fun j hj => by
    unfold namesI
    rw [List.take_succ_eq_append_getElem hj, List.foldl_append]
    rfl
  have hnl : ∀ j, (namesI (E.take j)).length ≤ 8 := fun j => by
    have := namesI_len (E.take j) []
    rw [List.length_take] at this
    unfold namesI
    simp at this ⊢
    omega
  conv => whnf
  repeat (refine XSame.of ?_; conv => whnf)
  refine XStop.loop tabOk (ι := Nat × Hd) ([9, 10] ++ List.range' 22 19) (fun x => x.1 ≤ E.length ∧ x.2.Ok (namesI (E.take x.1)).length)
    (fun x => [(9, .v (x.2.v (namesI (E.take x.1)).length)), (10, .v (.int .i64 (x.1 : Int)))]) (fun _ => []) (fun x => ⟨fun w => RowAt w ke.a (enCs E) ∧ StrAt w x.2 (namesI (E.take x.1)), []⟩)
    (fun x => E.length - x.1) (0, Hd.nil) ⟨Nat.zero_le _, Hd.nil_ok⟩ ?_ rfl (Ent.of_le ⟨by simp [Fx.and], fun w hw => ⟨hw.2, RowAt.nilA⟩⟩) fun x hx => ?_
  · conv => whnf
    repeat (first | exact FLe.nil | refine FLe.any ?_ | refine FLe.cons ?_)
  obtain ⟨j, k⟩ := x
  obtain ⟨hj, hk⟩ := hx
  dsimp only at hj hk ⊢
  conv => whnf
  refine XIf.split (fun hlt => ?_) (fun hlt => ?_)
  · have hlt' : j < E.length := by
      simp only [iLt_eq, decide_eq_true_eq] at hlt
      omega
    have hn1 := hnx j hlt'
    have hn2 := hnl j
    have hfin : ∀ (k' : Hd) (l' : List (List UInt8)), l' = namesI (E.take (j + 1)) → Ent ⟨fun w => RowAt w ke.a (enCs E) ∧ StrAt w k' l', []⟩ ((fun x : Nat × Hd => (⟨fun w => RowAt w ke.a (enCs E) ∧ StrAt w x.2 (namesI (E.take x.1)), []⟩ : Fx)) (j + 1, k')) := fun k' l' h => by
      subst h
      exact Ent.refl _
    generalize namesI (E.take j) = ns at *
    have hcell := (enCs_get (l := E) (i := j) hlt').1
    generalize hej : E[j] = e at *
    obtain ⟨nm, nd⟩ := e
    dsimp only at hcell
    conv => whnf
    repeat (refine XSame.of ?_; conv => whnf)
    refine XVal.of_read (XRead.index tabOk (t := 89) rfl rfl rfl (by omega) (by omega) hke.nil fun ad had => ?_)
    conv => whnf
    repeat (refine XSame.of ?_; conv => whnf)
    refine XVal.of_read (XRead.loadF tabOk (t := 9) rfl rfl (ad := ad) (k := 2 * j) (L := enCs E) (v := strV nm) (.fact fun w hw => had ▸ hw.1) (fun hs => by rw [Addr.addAdd hs]; congr 1; simp; try omega) hcell ?_)
    conv => whnf
    repeat (refine XSame.of ?_; conv => whnf)
    refine XVal.of_read (XRead.strNe (l := nm) (m := []) ?_)
    conv => whnf
    repeat (refine XSame.of ?_; conv => whnf)
    refine XIf.split (fun hne => ?_) (fun hne => ?_)
    · have hne' : nm ≠ [] := by simpa using hne
      have ha : addI ns (nm, nd) = insR ns nm := if_neg hne'
      rw [ha] at hn1
      have hins := ins_spec ns k hk (by omega) nm
      conv => whnf
      repeat (refine XSame.of ?_; conv => whnf)
      refine XVal.of_read (XRead.index tabOk (t := 89) rfl rfl rfl (by omega) (by omega) hke.nil fun ad had => ?_)
      conv => whnf
      repeat (refine XSame.of ?_; conv => whnf)
      refine XVal.of_read (XRead.loadF tabOk (t := 9) rfl rfl (ad := ad) (k := 2 * j) (L := enCs E) (v := strV nm) (.fact fun w hw => had ▸ hw.1) (fun hs => by rw [Addr.addAdd hs]; congr 1; simp; try omega) hcell ?_)
      conv => whnf
      repeat (refine XSame.of ?_; conv => whnf)
      refine XCall.pure hins (fun w hw => hw.2) (fun v D hv => ?_)
      obtain ⟨k2, rfl, hk2, rfl⟩ := hv
      conv => whnf
      repeat (refine XSame.of ?_; conv => whnf)
      refine ⟨(j + 1, k2), ⟨⟨hlt', by dsimp only; rw [hn1]; exact hk2⟩, by dsimp only; omega⟩, ?_, ?_, Ent.trans (Ent.of_le (F' := ⟨fun w => RowAt w ke.a (enCs E) ∧ StrAt w k2 (insR ns nm), []⟩) ⟨by simp [Fx.and], fun w hw => ⟨hw.1.1, hw.2⟩⟩) (hfin k2 _ hn1.symm)⟩
      · conv => whnf
        refine ⟨?_, rfl⟩
        repeat (first | exact FLe.nil | refine FLe.any ?_ | refine FLe.cons ?_ | refine FLe.eq (by rw [wrap_i64 (by omega)]; rfl) ?_ | refine FLe.eq (congrArg (fun q : List (List UInt8) => SV.v (k2.v q.length)) hn1.symm) ?_)
      · conv => whnf
        exact trivial
    · have hne' : nm = [] := by simpa using hne
      have ha : addI ns (nm, nd) = ns := if_pos hne'
      rw [ha] at hn1
      conv => whnf
      repeat (refine XSame.of ?_; conv => whnf)
      refine ⟨(j + 1, k), ⟨⟨hlt', by dsimp only; rw [hn1]; exact hk⟩, by dsimp only; omega⟩, ?_, ?_, hfin k _ hn1.symm⟩
      · conv => whnf
        refine ⟨?_, rfl⟩
        repeat (first | exact FLe.nil | refine FLe.any ?_ | refine FLe.cons ?_ | refine FLe.eq (by rw [wrap_i64 (by omega)]; rfl) ?_ | refine FLe.eq (congrArg (fun q : List (List UInt8) => SV.v (k.v q.length)) hn1.symm) ?_)
      · conv => whnf
        exact trivial
  · have hje : j = E.length := by
      simp only [iLt_eq, decide_eq_false_iff_not] at hlt
      omega
    subst hje
    rw [List.take_length] at hk ⊢
    generalize namesI E = ns at *
    conv => whnf
    repeat (refine XSame.of ?_; conv => whnf)
    exact ⟨⟨fun w => StrAt w k ns, []⟩, Ent.imp fun w hw => hw.2, k, rfl, hk, rfl⟩

/-! ### plain -/

theorem insR_cons (x : List UInt8) (l : List (List UInt8)) (s : List UInt8) : insR (x :: l) s = if x < s then x :: insR l s else s :: x :: l := by
  unfold insR insI
  by_cases h : x < s
  · rw [if_pos h, List.takeWhile_cons_of_pos (by simpa using h)]
    simp
  · rw [if_neg h, List.takeWhile_cons_of_neg (by simpa using h)]
    simp

theorem insR_perm : ∀ (l : List (List UInt8)) (s : List UInt8), (insR l s).Perm (s :: l)
  | [], s => by simp [insR, insI]
  | x :: l, s => by
    rw [insR_cons]
    split
    · exact ((insR_perm l s).cons x).trans (List.Perm.swap s x l)
    · exact List.Perm.refl _

theorem insR_sorted : ∀ (l : List (List UInt8)) (s : List UInt8), (l.Pairwise fun x y => decide (x ≤ y) = true) → (insR l s).Pairwise fun x y => decide (x ≤ y) = true
  | [], s, _ => by simp [insR, insI]
  | x :: l, s, h => by
    rw [List.pairwise_cons] at h
    rw [insR_cons]
    split
    · rename_i hx
      rw [List.pairwise_cons]
      refine ⟨fun y hy => ?_, insR_sorted l s h.2⟩
      rcases List.mem_cons.1 ((insR_perm l s).mem_iff.1 hy) with h5 | h5
      · rw [h5]
        exact decide_eq_true (List.le_of_lt hx)
      · exact h.1 y h5
    · rename_i hx
      have hsx : s ≤ x := List.not_lt.1 hx
      rw [List.pairwise_cons]
      refine ⟨fun y hy => ?_, List.pairwise_cons.2 h⟩
      rcases List.mem_cons.1 hy with h5 | h5
      · rw [h5]
        exact decide_eq_true hsx
      · exact decide_eq_true (List.le_trans hsx (of_decide_eq_true (h.1 y h5)))

def nmL (E : List En) : List (List UInt8) := (E.filter fun e => e.1 ≠ []).map (·.1)

theorem namesI_ok : ∀ (E : List En) (l : List (List UInt8)), (l.Pairwise fun x y => decide (x ≤ y) = true) → ((E.foldl addI l).Pairwise fun x y => decide (x ≤ y) = true) ∧ (E.foldl addI l).Perm (l ++ nmL E)
  | [], l, h => ⟨h, by simp [nmL]⟩
  | e :: E, l, h => by
    by_cases he : e.1 = []
    · have ha : addI l e = l := if_pos he
      have hn : nmL (e :: E) = nmL E := by
        unfold nmL
        rw [List.filter_cons_of_neg (by simp [he])]
      rw [List.foldl_cons, ha, hn]
      exact namesI_ok E l h
    · have ha : addI l e = insR l e.1 := if_neg he
      have hn : nmL (e :: E) = e.1 :: nmL E := by
        unfold nmL
        rw [List.filter_cons_of_pos (by simp [he])]
        rfl
      rw [List.foldl_cons, ha, hn]
      obtain ⟨h1, h2⟩ := namesI_ok E (insR l e.1) (insR_sorted l e.1 h)
      refine ⟨h1, h2.trans (((insR_perm l e.1).append_right _).trans ?_)⟩
      rw [List.cons_append]
      exact List.perm_middle.symm

theorem nmsOf_eq : ∀ (E : List En) (l : List (List UInt8)), (l ++ nmL E).Nodup → E.foldl addS l = l ++ nmL E
  | [], l, _ => by simp [nmL]
  | e :: E, l, h => by
    by_cases he : e.1 = []
    · have ha : addS l e = l := if_pos (.inl he)
      have hn : nmL (e :: E) = nmL E := by
        unfold nmL
        rw [List.filter_cons_of_neg (by simp [he])]
      rw [hn] at h ⊢
      rw [List.foldl_cons, ha]
      exact nmsOf_eq E l h
    · have hn : nmL (e :: E) = e.1 :: nmL E := by
        unfold nmL
        rw [List.filter_cons_of_pos (by simp [he])]
        rfl
      rw [hn] at h ⊢
      have hnin : e.1 ∉ l := fun hm => by
        rw [List.nodup_append] at h
        exact h.2.2 _ hm _ (List.mem_cons_self ..) rfl
      have ha : addS l e = l ++ [e.1] := if_neg fun h => h.elim he hnin
      rw [List.foldl_cons, ha, nmsOf_eq E (l ++ [e.1]) (by simpa using h)]
      simp

theorem nmL_nodup {c : List UInt8} (h : entsOk c = true) : (nmL (ens c 8)).Nodup := by
  have hok := entsOk_iff.1 h
  unfold nmL ens
  have h1 : (List.range 8).Pairwise fun i j => (enR c i).1 ≠ [] → (enR c j).1 ≠ [] → (enR c i).1 ≠ (enR c j).1 := by
    have hr : (List.range 8).Pairwise fun i j => i < j := List.pairwise_lt_range
    refine hr.imp_of_mem fun {i j} hi hj hij h2 h3 => ?_
    exact (hok j (List.mem_range.1 hj)).only.resolve_left h3 i hij
  refine List.pairwise_map.2 (List.pairwise_filter.2 (List.pairwise_map.2 (h1.imp fun {i j} hij h2 h3 => hij (by simpa using h2) (by simpa using h3))))

theorem list_eq (d : List UInt8) (n : Int) : plistR d n = listR d n := by
  unfold plistR listR
  by_cases h0 : dirE d n = 0
  · obtain ⟨h38, m, rfl, hm⟩ := dirE_zero h0
    rw [if_pos h0, if_neg (show ¬ chk38 d ≠ 0 by rw [h38]; simp), dirR_dir h38 hm]
    have hE : (T0 d).E (m : Int).toNat = ens (contentR d m) 8 := rfl
    have hE2 : (T0 d).E m = ens (contentR d m) 8 := rfl
    rw [hE, hE2]
    have hnd := nmL_nodup ((tree_facts h38).2.2 m hm)
    have e1 : nmsOf (ens (contentR d m) 8) = nmL (ens (contentR d m) 8) := by
      have := nmsOf_eq (ens (contentR d m) 8) [] (by simpa using hnd)
      simpa [nmsOf] using this
    obtain ⟨h1, h2⟩ := namesI_ok (ens (contentR d m) 8) [] .nil
    rw [List.nil_append] at h2
    rw [e1]
    refine Prod.ext ?_ rfl
    exact sorted_eq (sortL_pw _) h1 ((sortL_perm _).trans h2.symm)
  · rw [if_neg h0]
    unfold dirE at h0 ⊢
    by_cases h38 : chk38 d = 0
    · rw [if_neg (show ¬ chk38 d ≠ 0 by rw [h38]; simp)] at h0 ⊢
      rw [if_neg (show ¬ chk38 d ≠ 0 by rw [h38]; simp)]
      have : (dirR d n).1 = [] := by
        unfold dirR at h0 ⊢
        split at h0
        · rename_i h; rw [if_pos h]
        · rename_i h
          rw [if_neg h]
          split at h0
          · rename_i h2; rw [if_pos h2]
          · exact absurd rfl h0
      rw [this]
      rfl
    · rw [if_pos h38, if_pos h38]

end Go.Proofs.YtbfpgfopppfhoaaGreatDoor
namespace Go.Proofs.YtbfpgfopppfhoaaGreatDoor
open Go Go.Sx
set_option maxRecDepth 100000
set_option maxHeartbeats 4000000
set_option linter.unusedVariables false
set_option linter.unusedSimpArgs false

theorem plistR_len {d : List UInt8} {n : Int} : (listR d n).1.length ≤ 8 := by
  unfold listR
  split
  · simp
  · have h1 := dirR_len d n
    have h2 := namesI_len (dirR d n).1 []
    unfold namesI
    simp at h2 ⊢
    omega

theorem dirsWalk_spec (l : List Opx) (k : Hd) (hk : k.Ok l.length) (hl : l.length ≤ 4000000000000000000) (hx : ∀ x ∈ l, x.h.Ok x.data.length) (n : Int) (nm p : List UInt8) :
    PureSpec Tryz.prog 10 [k.v l.length, .agg ⟨[.int .i64 n, strV nm]⟩, strV p] (fun w => OpsAt w k.a l) (fun v F => v = .bool true) := by
  have hsz : (ByteArray.mk ⟨p⟩).size = p.length := rfl
  have hsz2 : (ByteArray.mk ⟨nm⟩).size = nm.length := rfl
  refine PureSpec.of_xc tabOk Tryz.func10 rfl (by decide) (n := Tryz.f10.ntmps - 3) rfl rfl fun w0 av => ?_
  conv => whnf
  intro b4
  conv => whnf
  refine XCall.val awake_spec (fun w hw => trivial) (fun v D hv => ?_)
  obtain ⟨tr, htr⟩ : ∃ tr, true = tr := ⟨_, rfl⟩
  rw [htr] at hv
  subst hv
  conv => whnf
  repeat (refine XSame.of ?_; conv => whnf)
  refine XIf.no (by rw [← htr]; rfl) ?_
  conv => whnf
  repeat (refine XSame.of ?_; conv => whnf)
  refine XCall.val (few_spec l k hk hl) (fun w hw => hw) (fun v D hv => ?_)
  generalize hfw : fewR l = fw at hv
  subst hv
  conv => whnf
  repeat (refine XSame.of ?_; conv => whnf)
  cases fw
  · conv => whnf
    repeat (refine XSame.of ?_; conv => whnf)
    repeat' (first
      | (refine XIf.yes rfl ?_; conv => whnf))
    exact ⟨_, Ent.refl _, rfl⟩
  obtain ⟨hl20, hall⟩ := few_all hfw
  conv => whnf
  repeat (refine XSame.of ?_; conv => whnf)
  generalize hcc : (_ || iGt (((ByteArray.mk ⟨nm⟩).size : Nat) : Int) 100) = c
  cases c
  rotate_left
  · conv => whnf
    repeat (refine XSame.of ?_; conv => whnf)
    exact ⟨_, Ent.refl _, rfl⟩
  have hlen : p.length ≤ 100 ∧ nm.length ≤ 100 := by
    rw [hsz2] at hcc
    simp [iGt_eq, hsz] at hcc
    omega
  clear hcc
  obtain ⟨hp, hnm⟩ := hlen
  conv => whnf
  repeat (refine XSame.of ?_; conv => whnf)
  refine XCall.pure (disk_spec l k hk hl20 fun x hxm => ⟨by have := (hall x hxm).1; omega, by have := (hall x hxm).2; omega, hx x hxm⟩) (fun w hw => hw) (fun v D hv => ?_)
  obtain ⟨fd, hF, hd, rfl, hdo, rfl⟩ := hv
  have hle := diskR_le hF.len l
  generalize diskR fd l = d at *
  have hlp := plookup_spec d hd hdo hle n nm (by omega)
  have hlr := lookup38_spec d hd hdo hle n nm (by omega)
  have hpl := plist_spec d hd hdo hle n
  have hrl := list38_spec d hd hdo hle n
  have hpw := dwalk_spec d hd hdo hle p (by omega)
  have hrw := walk38_spec d hd hdo hle p (by omega)
  rw [list_eq] at hpl
  have hl8 := plistR_len (d := d) (n := n)
  generalize listR d n = LR at *
  generalize lookupR d n nm = KR at *
  generalize walkR d p = WR at *
  obtain ⟨L, le⟩ := LR
  obtain ⟨kn, ke⟩ := KR
  obtain ⟨wn, we⟩ := WR
  dsimp only at hlp hlr hpl hrl hpw hrw hl8
  conv => whnf
  repeat (refine XSame.of ?_; conv => whnf)
  refine XCall.val hlp (fun w hw => hw.2) (fun v D hv => ?_)
  unfold RelII at hv
  subst hv
  conv => whnf
  repeat (refine XSame.of ?_; conv => whnf)
  refine XCall.val hlr (fun w hw => hw.2) (fun v D hv => ?_)
  unfold RelII at hv
  subst hv
  conv => whnf
  repeat (refine XSame.of ?_; conv => whnf)
  refine XCall.pure hpl (fun w hw => hw.2) (fun v D hv => ?_)
  obtain ⟨a1, c1, C1, hO1, rfl, rfl⟩ := hv
  conv => whnf
  repeat (refine XSame.of ?_; conv => whnf)
  refine XCall.pure hrl (fun w hw => hw.1.2) (fun v D hv => ?_)
  obtain ⟨k2, rfl, hk2, rfl⟩ := hv
  conv => whnf
  repeat (refine XSame.of ?_; conv => whnf)
  refine XCall.val hpw (fun w hw => hw.1.1.2) (fun v D hv => ?_)
  unfold RelII at hv
  subst hv
  conv => whnf
  repeat (refine XSame.of ?_; conv => whnf)
  refine XCall.val hrw (fun w hw => hw.1.1.2) (fun v D hv => ?_)
  unfold RelII at hv
  subst hv
  have hee : ∀ z : Int, iEq z z = true := fun z => by rw [iEq_eq]; simp
  conv => whnf
  repeat (refine XSame.of ?_; conv => whnf)
  generalize hcc : (iEq (kn : Int) (kn : Int) && iEq (ke : Int) (ke : Int)) = c
  have hc : c = true := by rw [← hcc, hee, hee]; rfl
  cases c
  · cases hc
  clear hcc hc
  have hsame := sameG_spec ⟨a1, c1⟩ k2 L L hO1.hd hk2 (by omega) (by omega)
  obtain ⟨q, hq⟩ : ∃ q, q = (L == L) := ⟨_, rfl⟩
  rw [← hq] at hsame
  have hq : q = true := by rw [hq]; simp
  conv => whnf
  repeat (refine XSame.of ?_; conv => whnf)
  refine XCall.ent (F' := ⟨fun w => StrAt w ⟨a1, c1⟩ L ∧ StrAt w k2 L, []⟩) ((Own.share hO1 (r1 := []) (r2 := [])).trans (Ent.imp fun w hw => ⟨hw.2, hw.1.2⟩)) ?_
  refine XCall.val hsame (fun w hw => hw) (fun v D hv => ?_)
  subst hv
  subst hq
  conv => whnf
  repeat (refine XSame.of ?_; conv => whnf)
  refine ⟨_, Ent.refl _, ?_⟩
  simp [hee]

end Go.Proofs.YtbfpgfopppfhoaaGreatDoor
namespace Go.Proofs.YtbfpgfopppfhoaaGreatDoor
open Go Go.Sx
set_option maxRecDepth 100000
set_option maxHeartbeats 4000000
set_option linter.unusedVariables false
set_option linter.unusedSimpArgs false

theorem freeR_len {d : List UInt8} {n : Nat} (h : (freeR d n).2 = 0) : (freeR d n).1.length = 12288 := by
  unfold freeR at h ⊢
  by_cases hg : gete d n ≠ 0
  · rw [if_pos hg] at h
    exact absurd h hg
  rw [if_neg hg] at h ⊢
  obtain ⟨hd, hok, m, hm, hm32, hrk⟩ := gete_zero (show gete d n = 0 by omega)
  have hm : n = m := by omega
  subst hm
  by_cases h0 : n = 0
  · rw [if_pos h0] at h
    cases h
  · rw [if_neg h0]
    exact putI_len (relAll_len hd _ _) hm32 _ _ _

theorem wt_len {b : Nat → Nat} {d : List UInt8} (hd : d.length = 12288) : ∀ {i : Nat} {o : List UInt8} {b' : Nat → Nat}, wt d b i = some (o, b') → o.length = 12288
  | 0, o, b', h => by
    cases h
    exact hd
  | i + 1, o, b', h => by
    unfold wt at h
    cases hw : wt d b i with
    | none => rw [hw] at h; cases h
    | some r =>
      obtain ⟨o2, b2⟩ := r
      have hl := wt_len hd hw
      rw [hw] at h
      dsimp only at h
      split at h
      · cases hf : freeB (bmp o2) with
        | none => rw [hf] at h; cases h
        | some x =>
          rw [hf] at h
          cases h
          exact takeD_len hl (freeB_lt hf).2
      · cases h
        exact hl

theorem writeR_len2 {d : List UInt8} {n : Nat} {data : List UInt8} (h : (writeR d n data).2 = 0) : (writeR d n data).1.length = 12288 := by
  unfold writeR at h ⊢
  by_cases hg : gete d n ≠ 0
  · rw [if_pos hg] at h
    exact absurd h hg
  rw [if_neg hg] at h ⊢
  obtain ⟨hd, hok, m, hm, hm32, hrk⟩ := gete_zero (show gete d n = 0 by omega)
  have hm : n = m := by omega
  subst hm
  by_cases h1 : data.length = 0
  · rw [if_pos h1]
    exact hd
  rw [if_neg h1] at h ⊢
  by_cases h2 : (if rk d n = 2 then 128 else 1536) < data.length
  · rw [if_pos h2] at h
    cases h
  rw [if_neg h2] at h ⊢
  cases hw : wt d (rb d n) ((data.length + 127) / 128) with
  | none => rw [hw] at h; cases h
  | some r =>
    obtain ⟨o, b⟩ := r
    exact putI_len ((wd_len o b data data.length).trans (wt_len hd hw)) hm32 _ _ _

theorem makeR_len {d p : List UInt8} {kind : Int} (h : (makeR d p kind).2.2 = 0) : (makeR d p kind).2.1.length = 12288 := by
  rw [← make_eq] at h ⊢
  unfold pmakeR at h ⊢
  by_cases h38 : chk38 d ≠ 0
  · rw [if_pos h38] at h
    exact absurd h h38
  rw [if_neg h38] at h ⊢
  have h38 : chk38 d = 0 := by omega
  obtain ⟨h0, hG, hE⟩ := tree_facts h38
  by_cases h1 : (splitR p).2 ≠ 0
  · rw [if_pos h1] at h; cases h
  rw [if_neg h1] at h ⊢
  by_cases h2 : kind ≠ 1 ∧ kind ≠ 2
  · rw [if_pos h2] at h; cases h
  rw [if_neg h2] at h ⊢
  by_cases h3 : (splitR p).1 = []
  · rw [if_pos h3] at h; cases h
  rw [if_neg h3] at h ⊢
  by_cases h4 : ((T0 d).walk (splitR p).1.dropLast 0).2 ≠ 0
  · rw [if_pos h4] at h; exact absurd h h4
  rw [if_neg h4] at h ⊢
  generalize ((T0 d).walk (splitR p).1.dropLast 0).1 = at0 at *
  have hlv : vname ((splitR p).1.getLastD []) = true := splitR_names p _ (List.mem_of_getElem? (getLast_eq h3))
  generalize (splitR p).1.getLastD [] = last at *
  by_cases h5 : ((T0 d).find at0 last).2 = 0
  · rw [if_pos h5] at h; cases h
  rw [if_neg h5] at h ⊢
  by_cases h6 : at0 ∉ (T0 d).dl
  · rw [if_pos h6] at h; cases h
  rw [if_neg h6] at h ⊢
  have h6 : at0 ∈ (T0 d).dl := Classical.byContradiction h6
  cases h7 : fidx ((T0 d).E at0) [] with
  | none => rw [h7] at h; cases h
  | some k =>
    rw [h7] at h
    dsimp only at h ⊢
    have hk := fidx_lt h7
    rw [(T0_ok d).len] at hk
    by_cases h8 : (allocR d kind.toNat).2.2 ≠ 0
    · rw [if_pos h8] at h
      exact absurd h h8
    rw [if_neg h8] at h ⊢
    obtain ⟨g1, g2, n', x', g3, g4, g5, g6, g7, g8⟩ := alloc_ok h0 (kind := kind.toNat) (by omega) (by omega)
    obtain ⟨hat1, hat2⟩ := mem_dl.1 h6
    have hne2 : at0 ≠ n' := fun e => by
      rw [e, g6] at hat2
      cases hat2
    exact wr16_len g2 (chk_zero g1).2 hat1 (by rw [(slot_all (g8 at0 hat1 hne2).1).1]; exact hat2) hk (enB_len (vname_len hlv).2)

theorem unlinkR_len {d p : List UInt8} (h : (unlinkR d p).2 = 0) : (unlinkR d p).1.length = 12288 := by
  unfold unlinkR at h ⊢
  by_cases h1 : chk38 d ≠ 0
  · rw [if_pos h1] at h; exact absurd h h1
  rw [if_neg h1] at h ⊢
  by_cases h2 : (splitR p).2 ≠ 0
  · rw [if_pos h2] at h; cases h
  rw [if_neg h2] at h ⊢
  by_cases h3 : (splitR p).1 = []
  · rw [if_pos h3] at h; cases h
  rw [if_neg h3] at h ⊢
  by_cases h4 : (followR d (splitR p).1 0).2 ≠ 0
  · rw [if_pos h4] at h; exact absurd h h4
  rw [if_neg h4] at h ⊢
  by_cases h5 : (dirR d (followR d (splitR p).1 0).1).2 = 0 ∧ ∃ e ∈ (dirR d (followR d (splitR p).1 0).1).1, e.1 ≠ []
  · rw [if_pos h5] at h; cases h
  rw [if_neg h5] at h ⊢
  exact freeR_len h

theorem doR_len {d : List UInt8} (hd : d.length = 12288) (kind : Int) (p data : List UInt8) : (doR d kind p data).length = 12288 := by
  unfold doR
  split
  · split
    · exact hd
    · exact makeR_len (by omega)
  · split
    · split
      · exact hd
      · exact unlinkR_len (by omega)
    · split
      · split
        · split
          · exact hd
          · exact writeR_len2 (by omega)
        · exact hd
      · exact hd

theorem diskR_len {fd : List UInt8} (hfd : fd.length = 12288) (l : List Opx) : (diskR fd l).length = 12288 := by
  unfold diskR
  have : ∀ (l : List Opx) (d : List UInt8), d.length = 12288 → (l.foldl (fun d x => doR d x.kind x.path x.data) d).length = 12288 := by
    intro l
    induction l with
    | nil => exact fun d h => h
    | cons x l ih => exact fun d h => ih _ (doR_len h x.kind x.path x.data)
  exact this l fd hfd

theorem chk_short {d : List UInt8} (h : d.length ≠ 12288) : chk38 d = 1 := by
  have h1 : chk d = 1 := by
    unfold chk
    rw [if_neg h]
  unfold chk38
  rw [h1]
  rfl

theorem dirsUnlink_spec (l : List Opx) (k : Hd) (hk : k.Ok l.length) (hl : l.length ≤ 4000000000000000000) (hx : ∀ x ∈ l, x.h.Ok x.data.length) (p : List UInt8) :
    PureSpec Tryz.prog 5 [k.v l.length, strV p] (fun w => OpsAt w k.a l) (fun v F => v = .bool true) := by
  have hsz : (ByteArray.mk ⟨p⟩).size = p.length := rfl
  refine PureSpec.of_xc tabOk Tryz.func5 rfl (by decide) (n := Tryz.f5.ntmps - 2) rfl rfl fun w0 av => ?_
  conv => whnf
  refine XCall.val awake_spec (fun w hw => trivial) (fun v D hv => ?_)
  obtain ⟨tr, htr⟩ : ∃ tr, true = tr := ⟨_, rfl⟩
  rw [htr] at hv
  subst hv
  conv => whnf
  repeat (refine XSame.of ?_; conv => whnf)
  refine XIf.no (by rw [← htr]; rfl) ?_
  conv => whnf
  repeat (refine XSame.of ?_; conv => whnf)
  refine XCall.val (few_spec l k hk hl) (fun w hw => hw) (fun v D hv => ?_)
  generalize hfw : fewR l = fw at hv
  subst hv
  conv => whnf
  repeat (refine XSame.of ?_; conv => whnf)
  cases fw
  · conv => whnf
    repeat (refine XSame.of ?_; conv => whnf)
    repeat' (first
      | (refine XIf.yes rfl ?_; conv => whnf))
    exact ⟨_, Ent.refl _, rfl⟩
  obtain ⟨hl20, hall⟩ := few_all hfw
  conv => whnf
  repeat (refine XSame.of ?_; conv => whnf)
  repeat' (first
    | (refine XIf.no rfl ?_; conv => whnf))
  refine XIf.split (fun hlt => ?_) (fun hlt => ?_)
  · conv => whnf
    repeat (refine XSame.of ?_; conv => whnf)
    exact ⟨_, Ent.refl _, rfl⟩
  have hp : p.length ≤ 100 := by
    have h := hlt
    simp [iGt_eq, hsz] at h
    omega
  conv => whnf
  repeat (refine XSame.of ?_; conv => whnf)
  refine XCall.pure (disk_spec l k hk hl20 fun x hxm => ⟨by have := (hall x hxm).1; omega, by have := (hall x hxm).2; omega, hx x hxm⟩) (fun w hw => hw) (fun v D hv => ?_)
  obtain ⟨fd, hF, hd, rfl, hdo, rfl⟩ := hv
  have hle := diskR_len hF.len l
  generalize diskR fd l = d at *
  have hpm := punlink_spec d hd hdo (by omega) p (by omega)
  have hrm := unlink38_spec d hd hdo (by omega) p (by omega)
  generalize unlinkR d p = M at *
  obtain ⟨dd, e⟩ := M
  dsimp only at hpm hrm
  have hcl : (cut d 1 (d.length - 1)).length = d.length - 1 := cut_len (by omega)
  have hcs := hdo.cap
  have hp3 := punlink_spec (cut d 1 (d.length - 1)) (Hd.sub hd 1) (by rw [hcl]; exact Hd.sub_ok hdo (by omega)) (by omega) p (by omega)
  obtain ⟨e3, he3⟩ : ∃ e3 : Nat, e3 = 1 := ⟨_, rfl⟩
  obtain ⟨e4, he4⟩ : ∃ e4 : Nat, e4 = 1 := ⟨_, rfl⟩
  have hu3 : unlinkR (cut d 1 (d.length - 1)) p = ([], e3) := by
    unfold unlinkR
    rw [chk_short (by omega), he3]
    rfl
  rw [hu3, hcl] at hp3
  have hp4 := pmake_spec [] Hd.nil Hd.nil_ok (by decide) p (by omega) 1
  have hu4 : pmakeR [] p 1 = (0, [], e4) := by
    unfold pmakeR
    rw [chk_short (by decide), he4]
    rfl
  rw [hu4] at hp4
  conv => whnf
  repeat (refine XSame.of ?_; conv => whnf)
  refine XCall.pure hpm (fun w hw => hw.2) (fun v D hv => ?_)
  obtain ⟨h1, rfl, ho1, rfl⟩ := hv
  conv => whnf
  repeat (refine XSame.of ?_; conv => whnf)
  refine XCall.pure hrm (fun w hw => hw.1.2) (fun v D hv => ?_)
  obtain ⟨h2, rfl, ho2, rfl⟩ := hv
  conv => whnf
  repeat (refine XSame.of ?_; conv => whnf)
  refine XVal.of_read (XRead.subFrom tabOk (t := 31) rfl rfl rfl rfl 1 rfl (by omega) hcs ?_)
  conv => whnf
  repeat (refine XSame.of ?_; conv => whnf)
  refine XCall.pure hp3 (fun w hw => By.sub hw.1.1.2 (by omega)) (fun v D hv => ?_)
  obtain ⟨h3, rfl, ho3, rfl⟩ := hv
  conv => whnf
  repeat (refine XSame.of ?_; conv => whnf)
  refine XCall.pure hp4 (fun w hw => By.nil w) (fun v D hv => ?_)
  obtain ⟨h4, rfl, ho4, rfl⟩ := hv
  conv => whnf
  repeat (refine XSame.of ?_; conv => whnf)
  refine XVal.of_read (XRead.bytes tabOk (t := 31) (u := 9) rfl rfl rfl rfl rfl rfl (l := dd) (.fact fun w hw => hw.1.1.1.2) rfl ?_)
  conv => whnf
  repeat (refine XSame.of ?_; conv => whnf)
  refine XVal.of_read (XRead.bytes tabOk (t := 31) (u := 9) rfl rfl rfl rfl rfl rfl (l := dd) (.fact fun w hw => hw.1.1.2) rfl ?_)
  conv => whnf
  repeat (refine XSame.of ?_; conv => whnf)
  refine XVal.of_read (XRead.strEq (l := dd) (m := dd) ?_)
  obtain ⟨q, hq⟩ : ∃ q, q = (dd == dd) := ⟨_, rfl⟩
  rw [← hq]
  have hq : q = true := by rw [hq]; simp
  conv => whnf
  repeat (refine XSame.of ?_; conv => whnf)
  refine ⟨_, Ent.refl _, ?_⟩
  subst he3 he4
  simp [hq, iEq_eq]

end Go.Proofs.YtbfpgfopppfhoaaGreatDoor
namespace Go.Proofs.YtbfpgfopppfhoaaGreatDoor
open Go Go.Sx
set_option maxRecDepth 100000
set_option maxHeartbeats 4000000
set_option linter.unusedVariables false
set_option linter.unusedSimpArgs false

def fullP (p s : List UInt8) : List UInt8 := if p = [47] then p ++ s else p ++ [47] ++ s

theorem list_all {d p : List UInt8} {n : Nat} (hw : walkR d p = (n, 0)) : chk38 d = 0 ∧ ((listR d n).2 ≠ 0 → (listR d n).2 = 14 ∧ (listR d n).1 = []) ∧
    ((listR d n).2 = 0 → (∀ i x y, (listR d n).1[i]? = some x → (listR d n).1[i + 1]? = some y → x < y) ∧ ∀ s ∈ (listR d n).1, s.length ≤ 14 ∧ ∃ m, lookupR d n s = (m, 0) ∧ ((fullP p s).length ≤ 60 → walkR d (fullP p s) = (m, 0))) := by
  have h38 : chk38 d = 0 := Classical.byContradiction fun h => by
    unfold walkR at hw
    rw [if_pos h] at hw
    exact h (Prod.mk.inj hw).2
  have hw2 := hw
  rw [walkR_P h38] at hw2
  by_cases hs : (splitR p).2 ≠ 0
  · rw [if_pos hs] at hw2
    cases hw2
  rw [if_neg hs] at hw2
  obtain ⟨names, hsp⟩ : ∃ names, splitR p = (names, 0) := ⟨(splitR p).1, Prod.ext rfl (by simpa using hs)⟩
  have hv := splitR_names p
  rw [hsp] at hw2 hv
  dsimp only at hw2 hv
  have hdn := (walk_dn h38 (vn_ne hv)).1 hw2
  obtain ⟨n1, n2, n3⟩ := dn_node h38 hdn
  refine ⟨h38, fun h => ?_, fun h => ?_⟩
  · unfold listR at h ⊢
    rw [if_neg (show ¬ chk38 d ≠ 0 by rw [h38]; simp)] at h ⊢
    by_cases hd : n ∈ (T0 d).dl
    · rw [dirR_dir h38 hd] at h
      exact absurd rfl h
    · rw [dirR_file h38 n1 n2 hd]
      exact ⟨rfl, rfl⟩
  · have hdl : n ∈ (T0 d).dl := Classical.byContradiction fun hd => by
      unfold listR at h
      rw [if_neg (show ¬ chk38 d ≠ 0 by rw [h38]; simp), dirR_file h38 n1 n2 hd] at h
      cases h
    have hL : (listR d n).1 = namesI ((T0 d).E n) := by
      unfold listR
      rw [if_neg (show ¬ chk38 d ≠ 0 by rw [h38]; simp), dirR_dir h38 hdl]
    have hes : (T0 d).es n = (T0 d).E n := if_pos hdl
    obtain ⟨s1, s2⟩ := namesI_ok ((T0 d).E n) [] .nil
    have s1 : (namesI ((T0 d).E n)).Pairwise fun x y => decide (x ≤ y) = true := s1
    have s2 : (namesI ((T0 d).E n)).Perm (nmL ((T0 d).E n)) := s2
    have hnd : (namesI ((T0 d).E n)).Nodup := s2.nodup_iff.2 (nmL_nodup ((tree_facts h38).2.2 n hdl))
    clear h
    rw [← hL] at s1 s2 hnd
    clear hL
    generalize (listR d n).1 = L at s1 s2 hnd ⊢
    refine ⟨fun i x y hx hy => ?_, fun s hs => ?_⟩
    · obtain ⟨hi0, rfl⟩ := List.getElem?_eq_some_iff.1 hx
      obtain ⟨hi, rfl⟩ := List.getElem?_eq_some_iff.1 hy
      have h1 := List.pairwise_iff_getElem.1 s1 i (i + 1) hi0 hi (by omega)
      have h2 := (List.pairwise_iff_getElem.1 hnd) i (i + 1) hi0 hi (by omega)
      have h1 : L[i] ≤ L[i + 1] := of_decide_eq_true h1
      refine Classical.byContradiction fun h3 => h2 (List.le_antisymm h1 (List.not_lt.1 h3))
    · have hm := s2.mem_iff.1 hs
      obtain ⟨x, hx, rfl⟩ := List.mem_map.1 hm
      obtain ⟨hx1, hx2⟩ := List.mem_filter.1 hx
      have hx2 : x.1 ≠ [] := by simpa using hx2
      have hmem : (x.1, x.2) ∈ (T0 d).es n := by rw [hes]; exact hx1
      have hvn := (T0_nm h38).val n x.1 x.2 hmem hx2
      refine ⟨(vname_len hvn).2, x.2, ?_, fun hlen => ?_⟩
      · have hf := (find_dn h38 hx2).2 hmem
        unfold Tree.find at hf
        rw [if_pos hdl] at hf
        unfold lookupR
        rw [if_neg (show ¬ chk38 d ≠ 0 by rw [h38]; simp), dirR_dir h38 hdl]
        dsimp only
        rw [if_neg (by decide), if_neg (by rw [hvn]; simp)]
        rw [← hf]
        cases fidx ((T0 d).E n) x.1 <;> rfl
      · have hdn2 : dn (T0 d).es (names ++ [x.1]) 0 x.2 := dn_snoc.2 ⟨n, hdn, hmem, hx2⟩
        have hfp : fullP p x.1 = jn (names ++ [x.1]) := by
          unfold fullP
          rcases splitR_inv hsp with ⟨rfl, rfl⟩ | ⟨h1, h2, h3⟩
          · rw [if_pos rfl]
            simp [jn]
          · have hp47 : p ≠ [47] := fun h5 => by
              rw [h5] at h2
              cases names with
              | nil => exact h1 rfl
              | cons t names =>
                rw [jn_cons] at h2
                have := List.append_eq_nil_iff.1 (List.cons.inj h2).2.symm
                have ht := hv t (List.mem_cons_self ..)
                rw [this.1] at ht
                cases ht
            rw [if_neg hp47, jn_snoc, ← h2]
            simp
        rw [hfp] at hlen ⊢
        refine (walkR_dn h38 (by simp) (fun t ht => ?_) hlen).2 hdn2
        rcases List.mem_append.1 ht with h5 | h5
        · exact hv t h5
        · rw [List.mem_singleton.1 h5]; exact hvn

theorem dirsList_spec (l : List Opx) (k : Hd) (hk : k.Ok l.length) (hl : l.length ≤ 4000000000000000000) (hx : ∀ x ∈ l, x.h.Ok x.data.length) (p : List UInt8) :
    PureSpec Tryz.prog 11 [k.v l.length, strV p] (fun w => OpsAt w k.a l) (fun v F => v = .bool true) := by
  have hsz : (ByteArray.mk ⟨p⟩).size = p.length := rfl
  refine PureSpec.of_xc tabOk Tryz.func11 rfl (by decide) (n := Tryz.f11.ntmps - 2) rfl rfl fun w0 av => ?_
  conv => whnf
  refine XCall.val awake_spec (fun w hw => trivial) (fun v D hv => ?_)
  obtain ⟨tr, htr⟩ : ∃ tr, true = tr := ⟨_, rfl⟩
  rw [htr] at hv
  subst hv
  conv => whnf
  repeat (refine XSame.of ?_; conv => whnf)
  refine XIf.no (by rw [← htr]; rfl) ?_
  conv => whnf
  repeat (refine XSame.of ?_; conv => whnf)
  refine XCall.val (few_spec l k hk hl) (fun w hw => hw) (fun v D hv => ?_)
  generalize hfw : fewR l = fw at hv
  subst hv
  conv => whnf
  repeat (refine XSame.of ?_; conv => whnf)
  cases fw
  · conv => whnf
    repeat (refine XSame.of ?_; conv => whnf)
    repeat' (first
      | (refine XIf.yes rfl ?_; conv => whnf))
    exact ⟨_, Ent.refl _, rfl⟩
  obtain ⟨hl20, hall⟩ := few_all hfw
  conv => whnf
  repeat (refine XSame.of ?_; conv => whnf)
  repeat' (first
    | (refine XIf.no rfl ?_; conv => whnf))
  refine XIf.split (fun hlt => ?_) (fun hlt => ?_)
  · conv => whnf
    repeat (refine XSame.of ?_; conv => whnf)
    exact ⟨_, Ent.refl _, rfl⟩
  have hp : p.length ≤ 100 := by
    have h := hlt
    simp [iGt_eq, hsz] at h
    omega
  conv => whnf
  repeat (refine XSame.of ?_; conv => whnf)
  refine XCall.pure (disk_spec l k hk hl20 fun x hxm => ⟨by have := (hall x hxm).1; omega, by have := (hall x hxm).2; omega, hx x hxm⟩) (fun w hw => hw) (fun v D hv => ?_)
  obtain ⟨fd, hF, hd, rfl, hdo, rfl⟩ := hv
  have hle := diskR_le hF.len l
  generalize diskR fd l = d at *
  have hpw := dwalk_spec d hd hdo hle p (by omega)
  have hla := fun n => list_all (d := d) (p := p) (n := n)
  generalize hW : walkR d p = W at *
  obtain ⟨n, e⟩ := W
  dsimp only at hpw
  have hpl := plist_spec d hd hdo hle n
  rw [list_eq] at hpl
  have hl8 := plistR_len (d := d) (n := n)
  have hlr := fun s hs => plookup_spec d hd hdo hle n s hs
  have hdw := fun q hq => dwalk_spec d hd hdo hle q hq
  conv => whnf
  repeat (refine XSame.of ?_; conv => whnf)
  refine XCall.val hpw (fun w hw => hw.2) (fun v D hv => ?_)
  unfold RelII at hv
  subst hv
  conv => whnf
  repeat (refine XSame.of ?_; conv => whnf)
  refine XCall.pure hpl (fun w hw => hw.2) (fun v D hv => ?_)
  have hla2 := fun he : e = 0 => (hla n (by rw [he])).2
  generalize hLR : listR d n = LR at *
  obtain ⟨L, le⟩ := LR
  dsimp only at hla2 hv hl8
  obtain ⟨a1, c1, C1, hO1, rfl, rfl⟩ := hv
  conv => whnf
  repeat (refine XSame.of ?_; conv => whnf)
  refine XIf.split (fun hq => ?_) (fun hq => ?_)
  · have hc2 : e = 0 → le = 14 ∧ L = [] := fun h => (hla2 h).1 fun h5 => by
      simp [iNe_eq, h, h5] at hq
    clear hq hla2 hla hdw hlr hpl hpw
    conv => whnf
    repeat (refine XSame.of ?_; conv => whnf)
    generalize hce : iNe (e : Int) 0 = ce
    cases ce
    · have he0 : e = 0 := by simpa [iNe_eq] using hce
      obtain ⟨h1, h2⟩ := hc2 he0
      have h3 : iEq (le : Int) 14 = true := by rw [h1]; simp [iEq_eq]
      have h4 : iEq (L.length : Int) 0 = true := by rw [h2]; simp [iEq_eq]
      clear hc2 hO1
      conv => whnf
      repeat (refine XSame.of ?_; conv => whnf)
      generalize iEq (le : Int) 14 = cl at h3 ⊢
      subst h3
      conv => whnf
      repeat (refine XSame.of ?_; conv => whnf)
      generalize iEq (L.length : Int) 0 = cl at h4 ⊢
      subst h4
      conv => whnf
      repeat (refine XSame.of ?_; conv => whnf)
      exact ⟨_, Ent.refl _, rfl⟩
    · conv => whnf
      repeat (refine XSame.of ?_; conv => whnf)
      exact ⟨_, Ent.refl _, rfl⟩
  have hq2 : e = 0 ∧ le = 0 := by
    simp [iNe_eq] at hq
    omega
  obtain ⟨hinc, hmem⟩ := (hla2 hq2.1).2 hq2.2
  clear hq hla2 hla hpl hpw
  refine XStop.ent (F' := ⟨fun w => By w hd d ∧ StrAt w ⟨a1, c1⟩ L, []⟩) (Ent.trans (G := ⟨fun w => By w hd d, [] ++ orow a1 C1 ++ []⟩) (Ent.of_le ⟨by simp [Fx.and], fun w hw => hw.1.2⟩) ((Own.share hO1 (r1 := []) (r2 := [])).trans (Ent.imp fun w hw => hw))) ?_
  conv => whnf
  repeat (refine XSame.of ?_; conv => whnf)
  refine XStop.loop tabOk (ι := Nat) ([10, 11, 12, 13, 14, 15, 16] ++ List.range' 60 57) (fun x => x ≤ L.length)
    (fun x => [(60, .v (.int .i64 (x : Int)))]) (fun _ => []) (fun x => ⟨fun w => By w hd d ∧ StrAt w ⟨a1, c1⟩ L, []⟩)
    (fun x => L.length - x) 0 (Nat.zero_le _) ?_ rfl (Ent.refl _) fun i hi => ?_
  · conv => whnf
    repeat (first | exact FLe.nil | refine FLe.any ?_ | refine FLe.cons ?_)
  conv => whnf
  refine XIf.split (fun hlt => ?_) (fun hlt => ?_)
  · have hlt' : i < L.length := by
      simp only [iLt_eq, decide_eq_true_eq] at hlt
      omega
    obtain ⟨m1, mm, m2, m3⟩ := hmem _ (List.getElem_mem hlt')
    have hps := hlr L[i] (by omega)
    rw [m2] at hps
    dsimp only at hps
    have hfl : (fullP p L[i]).length ≤ 200 := by
      unfold fullP
      split <;> simp <;> omega
    have hdf := hdw (fullP p L[i]) hfl
    have hfp : fullP p L[i] = if p = [47] then p ++ L[i] else p ++ [47] ++ L[i] := rfl
    generalize hF : fullP p L[i] = fp at *
    generalize hWF : walkR d fp = WF at *
    obtain ⟨wn, we⟩ := WF
    dsimp only at hdf
    conv => whnf
    refine XVal.of_read (XRead.index tabOk (t := 23) rfl rfl rfl (by omega) (by omega) hO1.hd.nil fun ad had => ?_)
    conv => whnf
    refine XVal.of_read (XRead.load tabOk (t := 9) rfl rfl (ad := ad) (k := i) (L := L.map strV) (v := strV L[i]) (.fact fun w hw => had ▸ hw.2) (by simp) (by simp [hlt']) ?_)
    generalize hs : L[i] = s at *
    obtain ⟨ze, hze⟩ : ∃ ze : Nat, ze = 0 := ⟨_, rfl⟩
    rw [← hze] at hps
    conv => whnf
    repeat (refine XSame.of ?_; conv => whnf)
    refine XCall.val hps (fun w hw => hw.1) (fun v D hv => ?_)
    unfold RelII at hv
    subst hv
    conv => whnf
    repeat (refine XSame.of ?_; conv => whnf)
    refine XVal.of_read (XRead.strAdd (l := p) (m := [47]) (by simp; omega) ?_)
    conv => whnf
    repeat (refine XSame.of ?_; conv => whnf)
    refine XVal.of_read (XRead.strAdd (l := p ++ [47]) (m := s) (by simp; omega) ?_)
    obtain ⟨fq, hfq⟩ : ∃ fq, fq = p ++ [47] ++ s := ⟨_, rfl⟩
    rw [← hfq] at hfp ⊢
    clear hfq
    conv => whnf
    repeat (refine XSame.of ?_; conv => whnf)
    refine XVal.of_read (XRead.strEq (l := p) (m := [47]) ?_)
    conv => whnf
    repeat (refine XSame.of ?_; conv => whnf)
    refine XIf.split (fun hpe => ?_) (fun hpe => ?_)
    · have hpe' : p = [47] := by simpa using hpe
      rw [if_pos hpe'] at hfp
      conv => whnf
      repeat (refine XSame.of ?_; conv => whnf)
      refine XVal.of_read (XRead.strAdd (l := p) (m := s) (by omega) ?_)
      rw [← hfp]
      clear hfp
      conv => whnf
      repeat (refine XSame.of ?_; conv => whnf)
      refine XCall.val hdf (fun w hw => hw.1) (fun v D hv => ?_)
      unfold RelII at hv
      subst hv
      conv => whnf
      repeat (refine XSame.of ?_; conv => whnf)
      generalize hcz : iNe (ze : Int) 0 = cz
      have hcz' : cz = false := by rw [← hcz, hze]; simp [iNe_eq]
      subst hcz'
      conv => whnf
      repeat (refine XSame.of ?_; conv => whnf)
      generalize hci : iGt (i : Int) 0 = ci
      cases ci
      · conv => whnf
        repeat (refine XSame.of ?_; conv => whnf)
        generalize hcl : iLe (((ByteArray.mk ⟨fp⟩).size : Nat) : Int) 60 = cl
        cases cl
        · clear m3
          conv => whnf
          repeat (refine XSame.of ?_; conv => whnf)
          refine ⟨i + 1, ⟨hlt', by dsimp only; omega⟩, ?_, ?_, Ent.refl _⟩
          · conv => whnf
            refine ⟨?_, rfl⟩
            repeat (first | exact FLe.nil | refine FLe.any ?_ | refine FLe.cons ?_ | refine FLe.eq (by rw [wrap_i64 (by omega)]; rfl) ?_)
          · conv => whnf
            exact trivial
        · have hl60 : fp.length ≤ 60 := by
            have hsf : (ByteArray.mk ⟨fp⟩).size = fp.length := rfl
            simp [iLe_eq] at hcl
            omega
          obtain ⟨hwn, hwe⟩ := Prod.mk.inj (m3 hl60)
          clear m3
          subst hwn
          conv => whnf
          repeat (refine XSame.of ?_; conv => whnf)
          refine XIf.no (by rw [iNe_eq, hwe]; simp) ?_
          conv => whnf
          repeat (refine XSame.of ?_; conv => whnf)
          refine XIf.no (by simp [iNe_eq]) ?_
          conv => whnf
          repeat (refine XSame.of ?_; conv => whnf)
          refine ⟨i + 1, ⟨hlt', by dsimp only; omega⟩, ?_, ?_, Ent.refl _⟩
          · conv => whnf
            refine ⟨?_, rfl⟩
            repeat (first | exact FLe.nil | refine FLe.any ?_ | refine FLe.cons ?_ | refine FLe.eq (by rw [wrap_i64 (by omega)]; rfl) ?_)
          · conv => whnf
            exact trivial
      · have hi0 : 0 < i := by
          simp [iGt_eq] at hci
          omega
        have hw1 : IntKind.i64.wrap ((i : Int) - 1) = ((i - 1 : Nat) : Int) := by rw [wrap_i64 (by omega)]; omega
        conv => whnf
        repeat (refine XSame.of ?_; conv => whnf)
        rw [hw1]
        refine XVal.of_read (XRead.index tabOk (t := 23) rfl rfl rfl (by omega) (by omega) hO1.hd.nil fun ad had => ?_)
        conv => whnf
        repeat (refine XSame.of ?_; conv => whnf)
        refine XVal.of_read (XRead.load tabOk (t := 9) rfl rfl (ad := ad) (k := i - 1) (L := L.map strV) (v := strV L[i - 1]) (.fact fun w hw => had ▸ hw.2) (by simp) (by simp [show i - 1 < L.length by omega]) ?_)
        have hls := hinc (i - 1) L[i - 1] s (List.getElem?_eq_getElem (by omega)) (by rw [show i - 1 + 1 = i by omega, List.getElem?_eq_getElem hlt', hs])
        have hbl : Op.bytesLess L[i - 1] s = true := by rw [bytesLess_lt]; simpa using hls
        generalize L[i - 1] = r at *
        conv => whnf
        repeat (refine XSame.of ?_; conv => whnf)
        refine XVal.of_read (XRead.strGe (l := r) (m := s) ?_)
        generalize Op.bytesLess r s = bl at hbl ⊢
        subst hbl
        conv => whnf
        repeat (refine XSame.of ?_; conv => whnf)
        generalize hcl : iLe (((ByteArray.mk ⟨fp⟩).size : Nat) : Int) 60 = cl
        cases cl
        · clear m3
          conv => whnf
          repeat (refine XSame.of ?_; conv => whnf)
          refine ⟨i + 1, ⟨hlt', by dsimp only; omega⟩, ?_, ?_, Ent.refl _⟩
          · conv => whnf
            refine ⟨?_, rfl⟩
            repeat (first | exact FLe.nil | refine FLe.any ?_ | refine FLe.cons ?_ | refine FLe.eq (by rw [wrap_i64 (by omega)]; rfl) ?_)
          · conv => whnf
            exact trivial
        · have hl60 : fp.length ≤ 60 := by
            have hsf : (ByteArray.mk ⟨fp⟩).size = fp.length := rfl
            simp [iLe_eq] at hcl
            omega
          obtain ⟨hwn, hwe⟩ := Prod.mk.inj (m3 hl60)
          clear m3
          subst hwn
          conv => whnf
          repeat (refine XSame.of ?_; conv => whnf)
          refine XIf.no (by rw [iNe_eq, hwe]; simp) ?_
          conv => whnf
          repeat (refine XSame.of ?_; conv => whnf)
          refine XIf.no (by simp [iNe_eq]) ?_
          conv => whnf
          repeat (refine XSame.of ?_; conv => whnf)
          refine ⟨i + 1, ⟨hlt', by dsimp only; omega⟩, ?_, ?_, Ent.refl _⟩
          · conv => whnf
            refine ⟨?_, rfl⟩
            repeat (first | exact FLe.nil | refine FLe.any ?_ | refine FLe.cons ?_ | refine FLe.eq (by rw [wrap_i64 (by omega)]; rfl) ?_)
          · conv => whnf
            exact trivial
    · have hpe' : p ≠ [47] := by simpa using hpe
      rw [if_neg hpe'] at hfp
      subst hfp
      conv => whnf
      repeat (refine XSame.of ?_; conv => whnf)
      refine XCall.val hdf (fun w hw => hw.1) (fun v D hv => ?_)
      unfold RelII at hv
      subst hv
      conv => whnf
      repeat (refine XSame.of ?_; conv => whnf)
      generalize hcz : iNe (ze : Int) 0 = cz
      have hcz' : cz = false := by rw [← hcz, hze]; simp [iNe_eq]
      subst hcz'
      conv => whnf
      repeat (refine XSame.of ?_; conv => whnf)
      generalize hci : iGt (i : Int) 0 = ci
      cases ci
      · conv => whnf
        repeat (refine XSame.of ?_; conv => whnf)
        generalize hcl : iLe (((ByteArray.mk ⟨fp⟩).size : Nat) : Int) 60 = cl
        cases cl
        · clear m3
          conv => whnf
          repeat (refine XSame.of ?_; conv => whnf)
          refine ⟨i + 1, ⟨hlt', by dsimp only; omega⟩, ?_, ?_, Ent.refl _⟩
          · conv => whnf
            refine ⟨?_, rfl⟩
            repeat (first | exact FLe.nil | refine FLe.any ?_ | refine FLe.cons ?_ | refine FLe.eq (by rw [wrap_i64 (by omega)]; rfl) ?_)
          · conv => whnf
            exact trivial
        · have hl60 : fp.length ≤ 60 := by
            have hsf : (ByteArray.mk ⟨fp⟩).size = fp.length := rfl
            simp [iLe_eq] at hcl
            omega
          obtain ⟨hwn, hwe⟩ := Prod.mk.inj (m3 hl60)
          clear m3
          subst hwn
          conv => whnf
          repeat (refine XSame.of ?_; conv => whnf)
          refine XIf.no (by rw [iNe_eq, hwe]; simp) ?_
          conv => whnf
          repeat (refine XSame.of ?_; conv => whnf)
          refine XIf.no (by simp [iNe_eq]) ?_
          conv => whnf
          repeat (refine XSame.of ?_; conv => whnf)
          refine ⟨i + 1, ⟨hlt', by dsimp only; omega⟩, ?_, ?_, Ent.refl _⟩
          · conv => whnf
            refine ⟨?_, rfl⟩
            repeat (first | exact FLe.nil | refine FLe.any ?_ | refine FLe.cons ?_ | refine FLe.eq (by rw [wrap_i64 (by omega)]; rfl) ?_)
          · conv => whnf
            exact trivial
      · have hi0 : 0 < i := by
          simp [iGt_eq] at hci
          omega
        have hw1 : IntKind.i64.wrap ((i : Int) - 1) = ((i - 1 : Nat) : Int) := by rw [wrap_i64 (by omega)]; omega
        conv => whnf
        repeat (refine XSame.of ?_; conv => whnf)
        rw [hw1]
        refine XVal.of_read (XRead.index tabOk (t := 23) rfl rfl rfl (by omega) (by omega) hO1.hd.nil fun ad had => ?_)
        conv => whnf
        repeat (refine XSame.of ?_; conv => whnf)
        refine XVal.of_read (XRead.load tabOk (t := 9) rfl rfl (ad := ad) (k := i - 1) (L := L.map strV) (v := strV L[i - 1]) (.fact fun w hw => had ▸ hw.2) (by simp) (by simp [show i - 1 < L.length by omega]) ?_)
        have hls := hinc (i - 1) L[i - 1] s (List.getElem?_eq_getElem (by omega)) (by rw [show i - 1 + 1 = i by omega, List.getElem?_eq_getElem hlt', hs])
        have hbl : Op.bytesLess L[i - 1] s = true := by rw [bytesLess_lt]; simpa using hls
        generalize L[i - 1] = r at *
        conv => whnf
        repeat (refine XSame.of ?_; conv => whnf)
        refine XVal.of_read (XRead.strGe (l := r) (m := s) ?_)
        generalize Op.bytesLess r s = bl at hbl ⊢
        subst hbl
        conv => whnf
        repeat (refine XSame.of ?_; conv => whnf)
        generalize hcl : iLe (((ByteArray.mk ⟨fp⟩).size : Nat) : Int) 60 = cl
        cases cl
        · clear m3
          conv => whnf
          repeat (refine XSame.of ?_; conv => whnf)
          refine ⟨i + 1, ⟨hlt', by dsimp only; omega⟩, ?_, ?_, Ent.refl _⟩
          · conv => whnf
            refine ⟨?_, rfl⟩
            repeat (first | exact FLe.nil | refine FLe.any ?_ | refine FLe.cons ?_ | refine FLe.eq (by rw [wrap_i64 (by omega)]; rfl) ?_)
          · conv => whnf
            exact trivial
        · have hl60 : fp.length ≤ 60 := by
            have hsf : (ByteArray.mk ⟨fp⟩).size = fp.length := rfl
            simp [iLe_eq] at hcl
            omega
          obtain ⟨hwn, hwe⟩ := Prod.mk.inj (m3 hl60)
          clear m3
          subst hwn
          conv => whnf
          repeat (refine XSame.of ?_; conv => whnf)
          refine XIf.no (by rw [iNe_eq, hwe]; simp) ?_
          conv => whnf
          repeat (refine XSame.of ?_; conv => whnf)
          refine XIf.no (by simp [iNe_eq]) ?_
          conv => whnf
          repeat (refine XSame.of ?_; conv => whnf)
          refine ⟨i + 1, ⟨hlt', by dsimp only; omega⟩, ?_, ?_, Ent.refl _⟩
          · conv => whnf
            refine ⟨?_, rfl⟩
            repeat (first | exact FLe.nil | refine FLe.any ?_ | refine FLe.cons ?_ | refine FLe.eq (by rw [wrap_i64 (by omega)]; rfl) ?_)
          · conv => whnf
            exact trivial
  · conv => whnf
    repeat (refine XSame.of ?_; conv => whnf)
    refine ⟨_, Ent.refl _, ?_⟩
    simp [iLe_eq]
    omega

end Go.Proofs.YtbfpgfopppfhoaaGreatDoor
