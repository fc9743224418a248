/- Parts of the proof: AdC, AdE, KnG, AdF, KnH, KnI. -/
import Derived.Test.YtakammghcodmgaaGreatDoorQN
import Derived.Test.YtakammghcodmgaaGreatDoorZAdD
namespace Go.Proofs.YtakammghcodmgaaGreatDoor
open Go Go.Proofs Go.RowKit Go.Sx
set_option maxRecDepth 100000
set_option maxHeartbeats 4000000
set_option linter.unusedVariables false
set_option linter.unusedSimpArgs false

def lnk0 : Lnk := ⟨default, 0, 0, 0, Hd.nil, [], Hd.nil, [], default, default⟩

theorem cut_spec (b m : Nat) (hm0 : 0 < m) (hm : m ≤ 1000) : PureSpec Tryz.prog 51 [.slice (some ⟨b, 0, none⟩) ((128 * m : Nat)) ((128 * m : Nat))] (fun _ => True)
 (fun v F => ∃ (g c : Nat), m ≤ c ∧ v = .slice (some ⟨g, 0, none⟩) m c ∧ F = ⟨fun w => RowAt w (some ⟨g, 0, none⟩) ((List.range m).map (chV b)), []⟩) := by
 unfold PureSpec
 refine ⟨⟨_, Tryz.func51, by decide, by decide⟩, fun av w hav _ => (callsIn_wide.1 (cut_in Fence.wide 5 trivial trivial trivial trivial trivial rfl (by omega) b m hm w)).mono ?_⟩
 rintro e W ⟨v, rfl, ⟨hl, h | ⟨g, cap, cur, rfl, hg, hb, hc, hx, hs, hcu⟩⟩, hbel⟩
 · omega
 have hgs : g < W.heap.size := (Array.getElem?_eq_some_iff.1 hb).1
 refine ⟨_, ⟨fun w => RowAt w (some ⟨g, 0, none⟩) ((List.range m).map (chV b)), []⟩, rfl, ⟨hbel.os, hbel.tape, hbel.output, hbel.size, fun k o ho => ?_⟩, ⟨fun r hr => (by cases hr), List.Pairwise.nil, Holds.block g hgs ?_ fun w'' hw => ?_⟩, g, cap, hc, rfl, rfl⟩
 · have hk : k < w.heap.size := (Array.getElem?_eq_some_iff.1 ho).1
   exact ⟨o, by rw [hbel.block k hk, ho], .refl _ _⟩
 · rintro (hq | ⟨r, hr, _⟩)
   · have := hav _ hq
     omega
   · cases hr
 · refine .inr ⟨rfl, cur, _, _, by rw [hw, hb], fun j hj => ?_⟩
   rw [← hcu]
   simp only [List.length_map, List.length_range] at hj
   show cur[0 + j]? = _
   rw [Nat.zero_add, List.getElem?_take, if_pos (by omega)]
   simp

noncomputable def serialNewCode : Code := Tryz.f21.body.getD .skip
theorem serialNew_spec : PureSpec Tryz.prog 21 [.slice none 0 0] (fun _ => True) (fun v F => v = .tuple ⟨[.agg ⟨serC default⟩, .int .i64 0]⟩) := by
 refine PureSpec.of_stop tabOk Tryz.func21 (c := serialNewCode) rfl (by decide) (n := Tryz.f21.ntmps - 1) rfl fun w0 av => ?_
 show XStop Tryz.prog w0 (fun _ _ => False) av serialNewCode _ [] [] _ (kEnd tab Tryz.f21.results.toList (pureFin (fun v F => v = .tuple ⟨[.agg ⟨serC default⟩, .int .i64 0]⟩)))
 refine XStop.cutN tabOk 3 (ι := Nat) (fun _ => True) (fun b => [.any, .any, .v (.pointer (some ⟨b, 0, none⟩)), .v (.int .i64 0)] ++ List.replicate 7 .any) (fun _ => []) (fun b => ⟨fun _ => True, [] ++ [(b, Row.c (serC default))] ++ []⟩) ?_ ?_
 · conv => whnf
   repeat (first | (refine XSame.of ?_; conv => whnf) | (refine XDep.all _ _ _ _ ?_; conv => whnf))
   refine XVal.allocRow tabOk rfl (z := serC default) (by kernel_rfl) fun b => ?_
   conv => whnf
   repeat (first | (refine XSame.of ?_; conv => whnf) | (refine XDep.all _ _ _ _ ?_; conv => whnf))
   refine XIf.no (by simp [iGt_eq]) ?_
   conv => whnf
   repeat (first | (refine XSame.of ?_; conv => whnf) | (refine XDep.all _ _ _ _ ?_; conv => whnf))
   refine XCall.val cloneBy_nil (fun w hw => trivial) (fun v D hv => ?_)
   subst hv
   conv => whnf
   repeat (first | (refine XSame.of ?_; conv => whnf) | (refine XDep.all _ _ _ _ ?_; conv => whnf))
   refine XVal.of_read (XRead.buildBig tabOk rfl rfl ?_)
   conv => whnf
   repeat (first | (refine XSame.of ?_; conv => whnf) | (refine XDep.all _ _ _ _ ?_; conv => whnf))
   refine XUnit.ent (F' := ⟨fun _ => True, [] ++ [(b, Row.c (serC default))] ++ []⟩) (Ent.of_le ⟨by simp [Fx.and], fun w hw => trivial⟩) ?_
   refine XUnit.storeTo tabOk rfl (b := b) (k := 0) (X := serC default) rfl rfl (List.all_eq_true.1 (by rfl)) (Nat.le_refl _) (laid_whole rfl) ?_
   conv => whnf
   repeat (first | (refine XSame.of ?_; conv => whnf) | (refine XDep.all _ _ _ _ ?_; conv => whnf))
   refine ⟨b, trivial, [], ⟨by decide, by simp, rfl⟩, ?_, Ent.refl _⟩
   repeat (first | exact FLe.nil | refine FLe.any ?_ | refine FLe.cons ?_)
 · intro b _ bs' hbs'
   obtain rfl := List.eq_nil_of_length_eq_zero hbs'
   refine XStop.rowBox (j := 2) rfl ?_
   refine XStop.of_xc tabOk ?_
   conv => whnf
   exact ⟨_, Ent.refl _, rfl⟩

noncomputable def linkNewCode : Code := Tryz.f22.body.getD .skip
theorem linkNew_spec : PureSpec Tryz.prog 22 [.slice none 0 0] (fun _ => True) (fun v F => v = .tuple ⟨[.agg ⟨lnkC lnk0⟩, .int .i64 0]⟩) := by
 refine PureSpec.of_stop tabOk Tryz.func22 (c := linkNewCode) rfl (by decide) (n := Tryz.f22.ntmps - 1) rfl fun w0 av => ?_
 show XStop Tryz.prog w0 (fun _ _ => False) av linkNewCode _ [] [] _ (kEnd tab Tryz.f22.results.toList (pureFin (fun v F => v = .tuple ⟨[.agg ⟨lnkC lnk0⟩, .int .i64 0]⟩)))
 refine XStop.cutN tabOk 3 (ι := Nat) (fun _ => True) (fun b => [.any, .any, .v (.pointer (some ⟨b, 0, none⟩)), .v (.int .i64 0)] ++ List.replicate 7 .any) (fun _ => []) (fun b => ⟨fun _ => True, [] ++ [(b, Row.c (lnkC lnk0))] ++ []⟩) ?_ ?_
 · conv => whnf
   repeat (first | (refine XSame.of ?_; conv => whnf) | (refine XDep.all _ _ _ _ ?_; conv => whnf))
   refine XVal.allocRow tabOk rfl (z := lnkC lnk0) (by kernel_rfl) fun b => ?_
   conv => whnf
   repeat (first | (refine XSame.of ?_; conv => whnf) | (refine XDep.all _ _ _ _ ?_; conv => whnf))
   refine XIf.no (by simp [iGt_eq]) ?_
   conv => whnf
   repeat (first | (refine XSame.of ?_; conv => whnf) | (refine XDep.all _ _ _ _ ?_; conv => whnf))
   refine XCall.val cloneBy_nil (fun w hw => trivial) (fun v D hv => ?_)
   subst hv
   conv => whnf
   repeat (first | (refine XSame.of ?_; conv => whnf) | (refine XDep.all _ _ _ _ ?_; conv => whnf))
   refine XVal.of_read (XRead.buildBig tabOk rfl rfl ?_)
   conv => whnf
   repeat (first | (refine XSame.of ?_; conv => whnf) | (refine XDep.all _ _ _ _ ?_; conv => whnf))
   refine XUnit.ent (F' := ⟨fun _ => True, [] ++ [(b, Row.c (lnkC lnk0))] ++ []⟩) (Ent.of_le ⟨by simp [Fx.and], fun w hw => trivial⟩) ?_
   refine XUnit.storeTo tabOk rfl (b := b) (k := 0) (X := lnkC lnk0) rfl rfl (List.all_eq_true.1 (by rfl)) (Nat.le_refl _) (laid_whole rfl) ?_
   conv => whnf
   repeat (first | (refine XSame.of ?_; conv => whnf) | (refine XDep.all _ _ _ _ ?_; conv => whnf))
   refine ⟨b, trivial, [], ⟨by decide, by simp, rfl⟩, ?_, Ent.refl _⟩
   repeat (first | exact FLe.nil | refine FLe.any ?_ | refine FLe.cons ?_)
 · intro b _ bs' hbs'
   obtain rfl := List.eq_nil_of_length_eq_zero hbs'
   refine XStop.rowBox (j := 2) rfl ?_
   refine XStop.of_xc tabOk ?_
   conv => whnf
   exact ⟨_, Ent.refl _, rfl⟩

/-- Pages, or blocks: 128 zeroes each. -/
def ZsOk (n : Nat) (l : List Bs) : Prop := l.length = n ∧ ∀ x ∈ l, x.n = 128 ∧ x.h.a ≠ none ∧ 128 ≤ x.h.c
def ZsAt (a : Addr) (l : List Bs) (w : World) : Prop := RowAt w (some a) (l.map bsV) ∧ ∀ x ∈ l, RowAt w x.h.a (List.replicate 128 (byteV 0))
def RelZs (n : Nat) (v : Value) (F : Fx) : Prop := ∃ (a : Addr) (c : Nat) (l : List Bs), n ≤ c ∧ ZsOk n l ∧ v = .slice (some a) l.length c ∧ F = ⟨ZsAt a l, []⟩

theorem rowAt_rep {w : World} {b n o m : Nat} {z : Value} (h : RowAt w (some ⟨b, 0, none⟩) (List.replicate n z)) (hm : 0 < m) (hle : o + m ≤ n) : RowAt w (some ⟨b, o, none⟩) (List.replicate m z) := by
 have hne : List.replicate n z ≠ [] := by
  intro e
  have := congrArg List.length e
  simp at this
  omega
 obtain ⟨-, arr, e, fz, hb, hj⟩ := h.there hne
 refine .inr ⟨rfl, arr, e, fz, hb, fun j hjl => ?_⟩
 simp only [List.length_replicate] at hjl hj
 have := hj (o + j) (by omega)
 rw [Nat.zero_add] at this
 show arr[o + j]? = _
 rw [this, List.getElem?_replicate, List.getElem?_replicate, if_pos (by omega), if_pos hjl]

/-- The parts of a row of zeroes. -/
def parts (b m : Nat) : List Bs := (List.range m).map fun i => ⟨⟨some ⟨b, 128 * i, none⟩, 128⟩, 128⟩
theorem parts_ok (b m : Nat) : ZsOk m (parts b m) := by
 refine ⟨by simp [parts], fun x hx => ?_⟩
 unfold parts at hx
 obtain ⟨i, -, rfl⟩ := List.mem_map.1 hx
 exact ⟨rfl, by simp, Nat.le_refl _⟩
theorem parts_v (b m : Nat) : (parts b m).map bsV = (List.range m).map (chV b) := by
 unfold parts
 rw [List.map_map]
 rfl
theorem parts_at {w : World} {b m : Nat} (h : RowAt w (some ⟨b, 0, none⟩) (List.replicate (128 * m) (byteV 0))) : ∀ x ∈ parts b m, RowAt w x.h.a (List.replicate 128 (byteV 0)) := by
 intro x hx
 unfold parts at hx
 obtain ⟨i, hi, rfl⟩ := List.mem_map.1 hx
 have := List.mem_range.1 hi
 exact rowAt_rep h (by decide) (by omega)
theorem laid_nil (C : List Value) : laid C 0 [] = C := by simp [laid]
theorem rep_flat (n : Nat) (v : Value) : (List.replicate n [v]).flatten = List.replicate n v := by
 induction n with
 | zero => rfl
 | succ n ih => rw [List.replicate_succ, List.flatten_cons, ih, List.replicate_succ]; rfl

theorem diskNew_spec : PureSpec Tryz.prog 20 [.slice none 0 0] (fun _ => True) (fun v F => ∃ x, RelZs 160 x F ∧ v = .tuple ⟨[.agg ⟨x :: dchC default⟩, .int .i64 0]⟩) := by
 obtain ⟨n, hn⟩ : ∃ n : Nat, n = 20480 := ⟨_, rfl⟩
 have hn0 : (20480 : Int) = (n : Int) := by omega
 refine PureSpec.of_xc tabOk Tryz.func20 rfl (by decide) (n := Tryz.f20.ntmps - 1) rfl rfl fun w0 av => ?_
 refine padK_mk ?_
 conv => whnf
 intro b2
 conv => whnf
 repeat (first | (refine XSame.of ?_; conv => whnf) | (refine XDep.all _ _ _ _ ?_; conv => whnf))
 refine XVal.makeRow tabOk rfl rfl rfl n hn0 hn0 (by omega) (by decide) rfl (by omega) (by show 1 * n ≤ _; omega) fun b4 => ?_
 conv => whnf
 repeat (first | (refine XSame.of ?_; conv => whnf) | (refine XDep.all _ _ _ _ ?_; conv => whnf))
 refine XIf.no (by simp [iGt_eq]) ?_
 conv => whnf
 repeat (first | (refine XSame.of ?_; conv => whnf) | (refine XDep.all _ _ _ _ ?_; conv => whnf))
 refine XVal.ent (F' := ⟨fun _ => True, [] ++ [(b4, Row.c (List.replicate n [Value.int .u8 0]).flatten)] ++ []⟩) (Ent.of_le ⟨by simp [Fx.and], fun w hw => trivial⟩) ?_
 refine XVal.copyIn tabOk rfl rfl rfl (M := []) rfl (fun w _ => rfl) rfl (by simp) (by simp) ?_
 conv => whnf
 repeat (first | (refine XSame.of ?_; conv => whnf) | (refine XDep.all _ _ _ _ ?_; conv => whnf))
 have hcut := cut_spec b4 160 (by decide) (by decide)
 rw [show 128 * 160 = n from by omega] at hcut
 refine XCall.pure hcut (fun w hw => trivial) (fun v D hv => ?_)
 obtain ⟨g, c, hgc, rfl, rfl⟩ := hv
 conv => whnf
 repeat (first | (refine XSame.of ?_; conv => whnf) | (refine XDep.all _ _ _ _ ?_; conv => whnf))
 refine ⟨⟨ZsAt ⟨g, 0, none⟩ (parts b4 160), []⟩, Ent.trans Ent.shareAll (Ent.imp fun w hw => ?_), _, ⟨⟨g, 0, none⟩, c, parts b4 160, hgc, parts_ok _ _, by rw [(parts_ok b4 160).1], rfl⟩, rfl⟩
 obtain ⟨⟨-, hg⟩, hr⟩ := hw
 have hb : RowAt w (some ⟨b4, 0, none⟩) (List.replicate n (byteV 0)) := by
  have h := hr.1
  rw [List.take_nil, laid_nil, rep_flat] at h
  exact h
 exact ⟨by rw [parts_v]; exact hg, parts_at (by rw [show 128 * 160 = n from by omega]; exact hb)⟩

theorem pages_next (b i : Nat) (hi : i < 96) : laid ((List.range i).map (chV b) ++ List.replicate (96 - i) (.slice none 0 0)) i [chV b i] = (List.range (i + 1)).map (chV b) ++ List.replicate (96 - (i + 1)) (.slice none 0 0) := by
 unfold laid
 rw [List.take_left' (by simp), List.range_succ, List.map_append, show 96 - i = (96 - (i + 1)) + 1 by omega, List.replicate_succ, List.drop_append]
 simp

theorem framesNew_spec : PureSpec Tryz.prog 24 [] (fun _ => True) (fun v F => ∃ x, RelZs 96 x F ∧ v = .agg ⟨[x]⟩) := by
 obtain ⟨n, hn⟩ : ∃ n : Nat, n = 12288 := ⟨_, rfl⟩
 have hn0 : (12288 : Int) = (n : Int) := by omega
 obtain ⟨m, hm⟩ : ∃ m : Nat, m = 96 := ⟨_, rfl⟩
 have hm0 : (96 : Int) = (m : Int) := by omega
 refine PureSpec.of_xc tabOk Tryz.func24 rfl (by decide) (n := Tryz.f24.ntmps - 0) rfl rfl fun w0 av => ?_
 refine padK_mk ?_
 refine xc_alloc1 (ti := (Sx.look tab 102).get rfl) rfl rfl ?_
 conv => whnf
 repeat (first | (refine XSame.of ?_; conv => whnf) | (refine XDep.all _ _ _ _ ?_; conv => whnf))
 intro b0
 conv => whnf
 repeat (first | (refine XSame.of ?_; conv => whnf) | (refine XDep.all _ _ _ _ ?_; conv => whnf))
 refine XVal.makeRow tabOk rfl rfl rfl n hn0 hn0 (by omega) (by decide) rfl (by omega) (by show 1 * n ≤ _; omega) fun b1 => ?_
 conv => whnf
 repeat (first | (refine XSame.of ?_; conv => whnf) | (refine XDep.all _ _ _ _ ?_; conv => whnf))
 refine XVal.makeRow tabOk rfl rfl rfl m hm0 hm0 (by omega) (by decide) rfl (by omega) (by show 24 * m ≤ _; omega) fun b2 => ?_
 conv => whnf
 repeat (first | (refine XSame.of ?_; conv => whnf) | (refine XDep.all _ _ _ _ ?_; conv => whnf))
 intro b3
 conv => whnf
 repeat (first | (refine XSame.of ?_; conv => whnf) | (refine XDep.all _ _ _ _ ?_; conv => whnf))
 have h0 : (List.replicate m [Value.slice none 0 0]).flatten = (List.range 0).map (chV b1) ++ List.replicate (96 - 0) (.slice none 0 0) := by
  rw [rep_flat, hm]
  rfl
 refine XStop.loop tabOk (ι := Nat) ([3, 10] ++ List.range' 11 17) (fun x => x ≤ 96)
  (fun x => [(10, .v (.int .i64 (x : Int)))]) (fun _ => [[.slice none 0 0], [.slice (some ⟨b2, 0, none⟩) m m]]) (fun x => ⟨fun _ => True, [(b1, Row.c (List.replicate n [Value.int .u8 0]).flatten), (b2, Row.c ((List.range x).map (chV b1) ++ List.replicate (96 - x) (.slice none 0 0)))]⟩)
  (fun x => 96 - x) 0 (Nat.zero_le _) ?_ rfl (Ent.of_le ⟨by rw [← h0]; exact List.Sublist.refl _, fun w hw => trivial⟩) fun i hi => ?_
 · conv => whnf
   repeat (first | exact FLe.nil | refine FLe.any ?_ | refine FLe.cons ?_)
 conv => whnf
 repeat (first | (refine XSame.of ?_; conv => whnf) | (refine XDep.all _ _ _ _ ?_; conv => whnf))
 refine XIf.split (fun hlt => ?_) (fun hlt => ?_)
 · have hlt' : i < 96 := by
    simp only [iLt_eq, decide_eq_true_eq] at hlt
    omega
   have hw1 : IntKind.i64.wrap ((i : Int) * 128) = ((128 * i : Nat) : Int) := by rw [wrap_i64 (by omega)]; omega
   have hw2 : IntKind.i64.wrap (IntKind.i64.wrap ((i : Int) + 1) * 128) = ((128 * i + 128 : Nat) : Int) := by rw [wrap_i64 (n := (i : Int) + 1) (by omega), wrap_i64 (by omega)]; omega
   have haddr : (⟨b2, 0, none⟩ : Addr).add ((i : Int).toNat * 1) = ⟨b2, i, none⟩ := by simp [Addr.add]; omega
   have hcv : Value.slice (cutA (some ⟨b1, 0, none⟩) (128 * i) (128 * i + 128) 1) (128 * i + 128 - 128 * i) (128 * i + 128 - 128 * i) = chV b1 i := by
    unfold cutA
    rw [if_neg (by omega), Nat.add_sub_cancel_left, Nat.mul_one, Option.map_some]
    simp [Addr.add]
    omega
   conv => whnf
   repeat (first | (refine XSame.of ?_; conv => whnf) | (refine XDep.all _ _ _ _ ?_; conv => whnf))
   refine XStop.draw tabOk mixed rfl rfl ?_
   conv => whnf
   repeat' (first
    | (refine And.intro ?_ ?_ <;> conv => whnf)
    | (refine XHeld.same rfl ?_; conv => whnf)
    | (refine XHeld.row rfl ?_; conv => whnf)
    | (refine XHeld.call rfl ?_; conv => whnf)
    | (refine XHeld.factCall rfl ?_; conv => whnf)
    | (refine XKeep.of ?_; conv => whnf)
    | (refine XSame.of ?_; conv => whnf)
    | (refine XDep.all _ _ _ _ ?_; conv => whnf)
    | (refine XRead.slice tabOk (t := 22) rfl rfl rfl (lo := some _) (hi := some _) (mx := some _) (128 * i) (128 * i + 128) (128 * i + 128) hw1 hw2 hw2 (by omega) (by omega) (by omega) (fun _ => rfl) ?_; conv => whnf)
    | (refine XRead.index tabOk (t := 66) rfl rfl rfl (by omega) (by omega) (fun h => by cases h) fun ad had => ?_; conv => whnf)
    | ((cases had; refine XUnit.storeTo tabOk rfl (b := b2) (k := i) (r1 := [(b1, Row.c (List.replicate n [Value.int .u8 0]).flatten)]) (r2 := []) (X := (List.range (i + 1)).map (chV b1) ++ List.replicate (96 - (i + 1)) (.slice none 0 0)) haddr rfl (List.all_eq_true.1 (by rfl)) (by show i + 1 ≤ _; rw [List.length_append, List.length_map, List.length_range, List.length_replicate]; omega) (by show laid _ i [Value.slice (cutA (some ⟨b1, 0, none⟩) (128 * i) (128 * i + 128) 1) (128 * i + 128 - 128 * i) (128 * i + 128 - 128 * i)] = _; rw [hcv]; exact pages_next b1 i hlt') ?_); conv => whnf)
    | (refine XHeld.mk ?_ ?_; (focus (first | exact Ent.refl _ | exact Ent.left _ _ | exact Ent.of_le ⟨List.sublist_append_left _ _, fun w h => h⟩ | exact Ent.of_le ⟨List.Sublist.refl _, fun w h => h.1⟩)); conv => whnf))
   refine ⟨i + 1, ⟨hlt', by dsimp only; omega⟩, ?_, ?_, Ent.of_le ⟨by simp, fun w hw => trivial⟩⟩
   · conv => whnf
     refine ⟨?_, rfl⟩
     repeat (first | exact FLe.nil | refine FLe.any ?_ | refine FLe.cons ?_ | refine FLe.eq (by rw [wrap_i64 (by omega)]; rfl) ?_)
   · conv => whnf
     exact ⟨⟨rfl, rfl⟩, ⟨rfl, rfl⟩, trivial⟩
 · have hie : i = 96 := by
    simp [iLt_eq] at hlt
    omega
   subst hie
   conv => whnf
   repeat (first | (refine XSame.of ?_; conv => whnf) | (refine XDep.all _ _ _ _ ?_; conv => whnf))
   rw [hm]
   refine ⟨⟨ZsAt ⟨b2, 0, none⟩ (parts b1 96), []⟩, Ent.trans Ent.shareAll (Ent.imp fun w hw => ?_), _, ⟨⟨b2, 0, none⟩, 96, parts b1 96, by omega, parts_ok _ _, by rw [(parts_ok b1 96).1], rfl⟩, rfl⟩
   obtain ⟨-, h1, h2, -⟩ := hw
   rw [rep_flat] at h1
   refine ⟨?_, parts_at (by rw [show 128 * 96 = n from by omega]; exact h1)⟩
   rw [parts_v]
   have : (List.range 96).map (chV b1) ++ List.replicate (96 - 96) (Value.slice none 0 0) = (List.range 96).map (chV b1) := by rw [Nat.sub_self, List.replicate_zero, List.append_nil]
   rw [this] at h2
   exact h2

end Go.Proofs.YtakammghcodmgaaGreatDoor
namespace Go.Proofs.YtakammghcodmgaaGreatDoor
open Go Go.Sx
set_option maxRecDepth 100000
set_option maxHeartbeats 4000000
set_option linter.unusedVariables false
set_option linter.unusedSimpArgs false

/-- A line: a right and those who have it. -/
structure Ln where
 a : Int
 b : Int
 c : Int
 l : List Int
 deriving Inhabited, DecidableEq
def numV (n : Int) : Value := .int .i64 n
def lnC (x : Ln) (h : Hd) : List Value := [numV x.a, numV x.b, numV x.c, h.v x.l.length]

def bootLns : List Ln := [⟨1, 3, 1, []⟩, ⟨1, 4, 1, []⟩, ⟨1, 5, 1, []⟩, ⟨1, 10, 1, []⟩, ⟨1, 2, 6, [1]⟩, ⟨1, 3, 6, [1]⟩, ⟨1, 4, 6, [1]⟩, ⟨1, 5, 6, [1]⟩, ⟨1, 6, 6, [1]⟩, ⟨1, 7, 6, [1]⟩, ⟨1, 8, 6, [1]⟩, ⟨1, 9, 6, [1]⟩, ⟨1, 10, 6, [1]⟩, ⟨1, 1, 7, [2, 3, 4, 5, 6, 7, 8, 9, 10]⟩, ⟨1, 4, 8, [3]⟩, ⟨1, 4, 9, [3]⟩, ⟨1, 4, 10, [3]⟩, ⟨1, 3, 11, [4]⟩, ⟨1, 5, 12, [3]⟩, ⟨1, 5, 13, [3]⟩, ⟨1, 5, 14, [3]⟩, ⟨1, 3, 15, [5]⟩, ⟨1, 10, 16, [3]⟩, ⟨1, 3, 17, [10]⟩, ⟨1, 6, 18, [5]⟩, ⟨1, 5, 19, [6]⟩, ⟨1, 7, 20, [4, 6]⟩, ⟨1, 4, 21, [7]⟩, ⟨1, 6, 21, [7]⟩, ⟨1, 9, 22, [5]⟩, ⟨1, 5, 23, [9]⟩, ⟨1, 8, 24, [5]⟩, ⟨1, 5, 25, [8]⟩, ⟨1, 2, 26, [1, 2, 3, 4, 5, 6, 7, 8, 9, 10]⟩, ⟨1, 1, 27, [2]⟩, ⟨1, 2, 27, [2]⟩, ⟨1, 3, 27, [2]⟩, ⟨1, 4, 27, [2]⟩, ⟨1, 5, 27, [2]⟩, ⟨1, 6, 27, [2]⟩, ⟨1, 7, 27, [2]⟩, ⟨1, 8, 27, [2]⟩, ⟨1, 9, 27, [2]⟩, ⟨1, 10, 27, [2]⟩, ⟨2, 0, 1, [1, 2, 3, 4, 5, 6, 7, 8, 9, 10]⟩, ⟨2, 0, 2, [3, 4, 5, 10]⟩, ⟨2, 0, 3, [7, 8, 9]⟩, ⟨2, 0, 4, [1, 2, 3, 4, 5, 6, 7, 8, 9, 10]⟩, ⟨2, 0, 5, [4]⟩, ⟨2, 0, 6, [4]⟩, ⟨2, 0, 7, [4]⟩, ⟨2, 0, 8, [4]⟩, ⟨2, 0, 9, [4]⟩, ⟨2, 0, 10, [4]⟩, ⟨2, 0, 11, [3]⟩, ⟨2, 0, 12, [3]⟩, ⟨2, 0, 13, [3]⟩, ⟨2, 0, 14, [3]⟩, ⟨2, 0, 15, [5]⟩, ⟨2, 0, 16, [1]⟩, ⟨3, 0, 1, [7]⟩, ⟨3, 0, 2, [8]⟩, ⟨3, 0, 3, [9]⟩]

def lhC (x : Ln × Hd) : List Value := lnC x.1 x.2
def PAt (P : List (Ln × Hd)) (w : World) : Prop := ∀ x ∈ P, RowAt w x.2.a (x.1.l.map numV)
/-- What is known when k lines have been added. -/
structure PG (k : Nat) (P : List (Ln × Hd)) (a : Option Addr) (cap : Nat) (C : List Value) : Prop where
 own : Sx.Owg 4 P.length a cap C (P.flatMap lhC)
 ok : ∀ x ∈ P, x.2.Ok x.1.l.length
 eq : P.map Prod.fst = bootLns.take k
 lt : k ≤ 63

theorem PG.len {k : Nat} {P : List (Ln × Hd)} {a : Option Addr} {cap : Nat} {C : List Value} (h : PG k P a cap C) : P.length = k := by
 have := congrArg List.length h.eq
 rw [List.length_map, List.length_take] at this
 have h1 : bootLns.length = 63 := by decide
 have := h.lt
 omega

theorem PG.next {k : Nat} {P : List (Ln × Hd)} {a : Option Addr} {cap : Nat} {C : List Value} (h : PG k P a cap C) {x : Ln} {hd : Hd} (hx : bootLns[k]? = some x) (hh : hd.Ok x.l.length) {a' : Option Addr} {cap' : Nat} {C' : List Value} (hO : Sx.Owg 4 (P.length + 1) a' cap' C' (P.flatMap lhC ++ lnC x hd)) : PG (k + 1) (P ++ [(x, hd)]) a' cap' C' := by
 have hk : k < bootLns.length := (List.getElem?_eq_some_iff.1 hx).1
 refine ⟨?_, fun y hy => ?_, ?_, ?_⟩
 · rw [List.length_append, List.flatMap_append]
   simpa [lhC] using hO
 · rcases List.mem_append.1 hy with h1 | h1
   · exact h.ok y h1
   · rw [List.mem_singleton] at h1
     rw [h1]
     exact hh
 · rw [List.map_append, h.eq, List.take_add_one, hx]
   rfl
 · have h1 : bootLns.length = 63 := by decide
   omega
theorem PAt.next {P : List (Ln × Hd)} {w : World} (h : PAt P w) {x : Ln} {hd : Hd} (hr : RowAt w hd.a (x.l.map numV)) : PAt (P ++ [(x, hd)]) w := by
 intro y hy
 rcases List.mem_append.1 hy with h1 | h1
 · exact h y h1
 · rw [List.mem_singleton] at h1
   rw [h1]
   exact hr

theorem Ent.shareLast {D : World → Prop} {b : Nat} {C : List Value} {rs : List (Nat × Row)} : Ent ⟨D, rs ++ [(b, Row.c C)]⟩ ⟨fun w => D w ∧ RowAt w (some ⟨b, 0, none⟩) C, rs⟩ :=
 Ent.trans (Ent.perm List.perm_append_comm) Ent.share1

theorem orow_CM {a : Option Addr} {C : List Value} : ∀ r ∈ orow a C, CM r.2 := by
 intro r hr
 unfold orow at hr
 split at hr
 · cases hr
 · rw [List.mem_singleton] at hr
   subst hr
   exact CM_c _

def slotRows (b1 n : Nat) (a : Option Addr) (cap : Nat) (C : List Value) : List (Nat × Row) := [(b1, Row.c [.slice a n cap])] ++ orow a C
theorem slotRows_CM {b1 n : Nat} {a : Option Addr} {cap : Nat} {C : List Value} : ∀ r ∈ slotRows b1 n a cap C, CM r.2 := by
 intro r hr
 unfold slotRows at hr
 rcases List.mem_append.1 hr with h | h
 · rw [List.mem_singleton] at h
   subst h
   exact CM_c _
 · exact orow_CM r h

theorem send_spec (b1 n : Nat) (a : Option Addr) (cap : Nat) (C M : List Value) (hO : Sx.Owg 4 n a cap C M) (hn : n ≤ 1000) (kind to : Int) (v : Value) (hv : v.cells.toList = [v] ∧ oneCell v = true ∧ ∃ h m, v = Hd.v h m) :
 RowsSpec Tryz.prog 103 [.pointer (some ⟨b1, 0, none⟩), .int .i64 kind, .int .i64 to, v] (slotRows b1 n a cap C) (fun _ => True)
  (fun _ F => ∃ a' cap' C', Sx.Owg 4 (n + 1) a' cap' C' (M ++ [numV 1, numV to, numV kind, v]) ∧ F = ⟨fun _ => True, slotRows b1 (n + 1) a' cap' C'⟩) := by
 obtain ⟨-, -, ⟨ha, hc⟩, m, rfl⟩ := hv
 refine RowsSpec.of_xc tabOk Tryz.func103 rfl (by decide) (n := Tryz.f103.ntmps - 4) rfl rfl slotRows_CM fun w0 av => ?_
 conv => whnf
 repeat (first | (refine XSame.of ?_; conv => whnf) | (refine XDep.all _ _ _ _ ?_; conv => whnf))
 refine XVal.of_read (XRead.loadF tabOk rfl rfl (ad := ⟨b1, 0, none⟩) (k := 0) (L := [.slice a n cap]) (v := .slice a n cap) (Sees.row (by simp [slotRows])) (fun _ => rfl) rfl ?_)
 conv => whnf
 repeat (first | (refine XSame.of ?_; conv => whnf) | (refine XDep.all _ _ _ _ ?_; conv => whnf))
 refine XVal.build tabOk rfl rfl rfl [.agg ⟨[numV 1, numV to, numV kind, .slice ha m hc]⟩] rfl rfl (by simp [Value.cells]) (by decide) fun b5 => ?_
 conv => whnf
 repeat (first | (refine XSame.of ?_; conv => whnf) | (refine XDep.all _ _ _ _ ?_; conv => whnf))
 refine XVal.ent (F' := ⟨fun _ => True, [(b1, Row.c [.slice a n cap])] ++ orow a C ++ [(b5, Row.c [numV 1, numV to, numV kind, .slice ha m hc])]⟩) (Ent.of_le ⟨by simp [Value.cells, slotRows], fun w hw => hw⟩) ?_
 refine XVal.append1 tabOk rfl rfl rfl rfl rfl rfl (M := [numV 1, numV to, numV kind, .slice ha m hc]) hO (Sees.row (by simp)) rfl (List.all_eq_true.1 (by rfl)) (by omega) (by show (n + n / 4 + 600) * 48 ≤ 2 ^ 48; omega) fun a' c' C' hO' => ?_
 conv => whnf
 repeat (first | (refine XSame.of ?_; conv => whnf) | (refine XDep.all _ _ _ _ ?_; conv => whnf))
 refine XUnit.ent (F' := ⟨fun _ => True, [] ++ [(b1, Row.c [.slice a n cap])] ++ orow a' C'⟩) (Ent.of_le ⟨by simp, fun w hw => hw⟩) ?_
 refine XUnit.storeTo tabOk rfl (b := b1) (k := 0) (X := [.slice a' (n + 1) c']) rfl rfl (List.all_eq_true.1 (by rfl)) (Nat.le_refl _) rfl ?_
 conv => whnf
 repeat (first | (refine XSame.of ?_; conv => whnf) | (refine XDep.all _ _ _ _ ?_; conv => whnf))
 exact ⟨_, Ent.refl _, a', c', C', hO', rfl⟩

def compL (f : Nat) : List Int := (List.range (11 - f)).map fun i => ((f + i : Nat) : Int)

theorem components_spec (f : Nat) (hf : f ≤ 10) : PureSpec Tryz.prog 104 [.int .i64 (f : Int)] (fun _ => True) (fun v F => ∃ h : Hd, h.Ok (compL f).length ∧ v = h.v (compL f).length ∧ F = ⟨fun w => RowAt w h.a ((compL f).map numV), []⟩) := by
 refine PureSpec.of_xc tabOk Tryz.func104 rfl (by decide) (n := Tryz.f104.ntmps - 1) rfl rfl fun w0 av => ?_
 conv => whnf
 repeat (first | (refine XSame.of ?_; conv => whnf) | (refine XDep.all _ _ _ _ ?_; conv => whnf))
 refine XStop.loop tabOk (ι := Nat × Option Addr × Nat × List Value) ([3, 4] ++ List.range' 6 8) (fun x => x.1 ≤ 11 - f ∧ Sx.Owg 1 x.1 x.2.1 x.2.2.1 x.2.2.2 (((List.range x.1).map fun i => ((f + i : Nat) : Int)).map numV))
  (fun x => [(4, .v (.int .i64 ((f + x.1 : Nat) : Int))), (3, .v (.slice x.2.1 x.1 x.2.2.1))]) (fun _ => []) (fun x => ⟨fun _ => True, [] ++ orow x.2.1 x.2.2.2 ++ []⟩)
  (fun x => 11 - f - x.1) (0, none, 0, []) ⟨Nat.zero_le _, Sx.Owg.nil 1⟩ ?_ rfl (Ent.of_le ⟨by simp [orow], fun w hw => hw⟩) fun x hx => ?_
 · conv => whnf
   repeat (first | exact FLe.nil | refine FLe.any ?_ | refine FLe.cons ?_)
 obtain ⟨i, a, cap, C⟩ := x
 obtain ⟨hi, hO⟩ := hx
 dsimp only at hi hO ⊢
 conv => whnf
 repeat (first | (refine XSame.of ?_; conv => whnf) | (refine XDep.all _ _ _ _ ?_; conv => whnf))
 refine XIf.split (fun hlt => ?_) (fun hlt => ?_)
 · have hlt' : i < 11 - f := by
    simp [iLe_eq] at hlt
    omega
   conv => whnf
   repeat (first | (refine XSame.of ?_; conv => whnf) | (refine XDep.all _ _ _ _ ?_; conv => whnf))
   refine XVal.build tabOk rfl rfl rfl [numV ((f + i : Nat) : Int)] rfl rfl (by simp [Value.cells, numV]) (by decide) fun b5 => ?_
   conv => whnf
   repeat (first | (refine XSame.of ?_; conv => whnf) | (refine XDep.all _ _ _ _ ?_; conv => whnf))
   refine XVal.ent (F' := ⟨fun _ => True, [] ++ orow a C ++ [(b5, Row.c [numV ((f + i : Nat) : Int)])]⟩) (Ent.of_le ⟨by simp [Value.cells, numV], fun w hw => hw⟩) ?_
   refine XVal.append1 tabOk rfl rfl rfl rfl rfl rfl (M := [numV ((f + i : Nat) : Int)]) hO (Sees.row (by simp)) rfl (List.all_eq_true.1 (by rfl)) (by omega) (by show (i + i / 4 + 600) * 8 ≤ 2 ^ 48; omega) fun a' c' C' hO' => ?_
   conv => whnf
   repeat (first | (refine XSame.of ?_; conv => whnf) | (refine XDep.all _ _ _ _ ?_; conv => whnf))
   refine ⟨(i + 1, a', c', C'), ⟨⟨hlt', ?_⟩, by dsimp only; omega⟩, ?_, ?_, Ent.of_le ⟨by simp, fun w hw => hw⟩⟩
   · dsimp only
     rw [List.range_succ, List.map_append, List.map_append]
     exact hO'
   · conv => whnf
     refine ⟨?_, rfl⟩
     repeat (first | exact FLe.nil | refine FLe.any ?_ | refine FLe.cons ?_ | refine FLe.eq (congrArg (fun z => SV.v (Value.int .i64 z)) (by rw [wrap_i64 (by omega)]; omega)) ?_)
   · conv => whnf
     exact trivial
 · have hie : i = 11 - f := by
    simp [iLe_eq] at hlt
    omega
   have hcl : (compL f).length = i := by simp [compL, hie]
   have hce : ((List.range i).map fun i => ((f + i : Nat) : Int)) = compL f := by rw [hie]; rfl
   conv => whnf
   repeat (first | (refine XSame.of ?_; conv => whnf) | (refine XDep.all _ _ _ _ ?_; conv => whnf))
   refine ⟨_, Ent.trans (hO.share (r1 := []) (r2 := [])) (Ent.imp (D' := fun w => RowAt w a ((compL f).map numV)) fun w hw => ?_), ⟨a, cap⟩, by rw [hcl]; exact ⟨hO.none_nil, hO.fit⟩, by rw [hcl], rfl⟩
   rw [← hce]
   exact hw.2

/-- Effects: a line for each kind. -/
theorem effect_spec (b1 n : Nat) (a : Option Addr) (cap : Nat) (C M : List Value) (hO : Sx.Owg 4 n a cap C M) (hn : n ≤ 1000) (h : Hd) (m : Nat) (kh : Hd) (ks : List Int) (hk : kh.Ok ks.length) (hkl : ks.length ≤ 100) :
 RowsSpec Tryz.prog 105 [.pointer (some ⟨b1, 0, none⟩), h.v m, kh.v ks.length] (slotRows b1 n a cap C) (fun w => RowAt w kh.a (ks.map numV))
  (fun _ F => ∃ a' cap' C', Sx.Owg 4 (n + ks.length) a' cap' C' (M ++ ks.flatMap fun k => [numV 2, numV 0, numV k, h.v m]) ∧ F = ⟨fun _ => True, slotRows b1 (n + ks.length) a' cap' C'⟩) := by
 refine RowsSpec.of_xc tabOk Tryz.func105 rfl (by decide) (n := Tryz.f105.ntmps - 3) rfl rfl slotRows_CM fun w0 av => ?_
 conv => whnf
 repeat (first | (refine XSame.of ?_; conv => whnf) | (refine XDep.all _ _ _ _ ?_; conv => whnf))
 refine XStop.loop tabOk (ι := Nat × Option Addr × Nat × List Value) ([7, 10] ++ List.range' 11 15) (fun x => x.1 ≤ ks.length ∧ Sx.Owg 4 (n + x.1) x.2.1 x.2.2.1 x.2.2.2 (M ++ (ks.take x.1).flatMap fun k => [numV 2, numV 0, numV k, h.v m]))
  (fun x => [(10, .v (.int .i64 (x.1 : Int)))]) (fun _ => []) (fun x => ⟨fun w => RowAt w kh.a (ks.map numV), slotRows b1 (n + x.1) x.2.1 x.2.2.1 x.2.2.2⟩)
  (fun x => ks.length - x.1) (0, a, cap, C) ⟨Nat.zero_le _, by simpa using hO⟩ ?_ rfl (Ent.refl _) fun x hx => ?_
 · conv => whnf
   repeat (first | exact FLe.nil | refine FLe.any ?_ | refine FLe.cons ?_)
 obtain ⟨i, a1, cap1, C1⟩ := x
 obtain ⟨hi, hO1⟩ := hx
 dsimp only at hi hO1 ⊢
 conv => whnf
 repeat (first | (refine XSame.of ?_; conv => whnf) | (refine XDep.all _ _ _ _ ?_; conv => whnf))
 refine XIf.split (fun hlt => ?_) (fun hlt => ?_)
 · have hlt' : i < ks.length := by
    simp [iLt_eq] at hlt
    omega
   conv => whnf
   repeat (first | (refine XSame.of ?_; conv => whnf) | (refine XDep.all _ _ _ _ ?_; conv => whnf))
   refine XVal.of_read (XRead.index tabOk rfl rfl rfl (by omega) (by omega) hk.nil fun ad had => ?_)
   conv => whnf
   repeat (first | (refine XSame.of ?_; conv => whnf) | (refine XDep.all _ _ _ _ ?_; conv => whnf))
   refine XVal.of_read (XRead.load tabOk rfl rfl (ad := ad) (k := i) (L := ks.map numV) (v := .int .i64 ks[i]) (.fact fun w hw => had ▸ hw) (by simp) (by rw [List.getElem?_map, List.getElem?_eq_getElem hlt']; rfl) ?_)
   conv => whnf
   repeat (first | (refine XSame.of ?_; conv => whnf) | (refine XDep.all _ _ _ _ ?_; conv => whnf))
   refine XVal.of_read (XRead.loadF tabOk rfl rfl (ad := ⟨b1, 0, none⟩) (k := 0) (L := [.slice a1 (n + i) cap1]) (v := .slice a1 (n + i) cap1) (Sees.row (by simp [slotRows])) (fun _ => rfl) rfl ?_)
   conv => whnf
   repeat (first | (refine XSame.of ?_; conv => whnf) | (refine XDep.all _ _ _ _ ?_; conv => whnf))
   refine XVal.build tabOk rfl rfl rfl [.agg ⟨[numV 2, numV 0, numV ks[i], h.v m]⟩] rfl rfl (by simp [Value.cells]) (by decide) fun b5 => ?_
   conv => whnf
   repeat (first | (refine XSame.of ?_; conv => whnf) | (refine XDep.all _ _ _ _ ?_; conv => whnf))
   refine XVal.ent (F' := ⟨fun w => RowAt w kh.a (ks.map numV), [(b1, Row.c [.slice a1 (n + i) cap1])] ++ orow a1 C1 ++ [(b5, Row.c [numV 2, numV 0, numV ks[i], h.v m])]⟩) (Ent.of_le ⟨by simp [Value.cells, slotRows], fun w hw => hw⟩) ?_
   refine XVal.append1 tabOk rfl rfl rfl rfl rfl rfl (M := [numV 2, numV 0, numV ks[i], h.v m]) hO1 (Sees.row (by simp)) rfl (List.all_eq_true.1 (by rfl)) (by omega) (by show (n + i + (n + i) / 4 + 600) * 48 ≤ 2 ^ 48; omega) fun a' c' C' hO' => ?_
   conv => whnf
   repeat (first | (refine XSame.of ?_; conv => whnf) | (refine XDep.all _ _ _ _ ?_; conv => whnf))
   refine XUnit.ent (F' := ⟨fun w => RowAt w kh.a (ks.map numV), [] ++ [(b1, Row.c [.slice a1 (n + i) cap1])] ++ orow a' C'⟩) (Ent.of_le ⟨by simp, fun w hw => hw⟩) ?_
   refine XUnit.storeTo tabOk rfl (b := b1) (k := 0) (X := [.slice a' (n + i + 1) c']) rfl rfl (List.all_eq_true.1 (by rfl)) (Nat.le_refl _) rfl ?_
   conv => whnf
   repeat (first | (refine XSame.of ?_; conv => whnf) | (refine XDep.all _ _ _ _ ?_; conv => whnf))
   refine ⟨(i + 1, a', c', C'), ⟨⟨hlt', ?_⟩, by dsimp only; omega⟩, ?_, ?_, Ent.refl _⟩
   · dsimp only
     rw [List.take_succ_eq_append_getElem hlt', List.flatMap_append, ← List.append_assoc]
     show Sx.Owg 4 (n + i + 1) _ _ _ _
     simpa using hO'
   · conv => whnf
     refine ⟨?_, rfl⟩
     repeat (first | exact FLe.nil | refine FLe.any ?_ | refine FLe.cons ?_ | refine FLe.eq (by rw [wrap_i64 (by omega)]; rfl) ?_)
   · conv => whnf
     exact trivial
 · have hie : i = ks.length := by
    simp [iLt_eq] at hlt
    omega
   subst hie
   rw [List.take_length] at hO1
   conv => whnf
   repeat (first | (refine XSame.of ?_; conv => whnf) | (refine XDep.all _ _ _ _ ?_; conv => whnf))
   exact ⟨⟨fun _ => True, slotRows b1 (n + ks.length) a1 cap1 C1⟩, Ent.of_le ⟨List.Sublist.refl _, fun w hw => trivial⟩, a1, cap1, C1, hO1, rfl⟩

end Go.Proofs.YtakammghcodmgaaGreatDoor
namespace Go.Proofs.YtakammghcodmgaaGreatDoor
open Go Go.Sx
set_option maxRecDepth 100000
set_option maxHeartbeats 4000000
set_option linter.unusedVariables false
set_option linter.unusedSimpArgs false

/-- Whether the ports are valid. -/
def porOk (q : List Mg) (p : List Pr) : Bool := allI p.length (prOk p) && (allI q.length (mgOk p q) && decide (q.length ≤ 400))

theorem portsSend_spec (q : List Mg) (hqd : ∀ x ∈ q, x.data = default) (hq : Hd) (hqo : hq.Ok q.length) (hql : q.length < 400) (p : List Pr) (hp : Hd) (hpo : hp.Ok p.length) (hpl : p.length ≤ 100000) (hV : porOk q p = true)
 (s d k z a0 a1 a2 a3 : Int) (hs : 0 ≤ s ∧ s < 32) (hd : 0 ≤ d ∧ d < 32) (hl0 : porLast p s d = 0) (hnew : ∀ j (hj : j < p.length), ordI p[j].src s p[j].dst d < 0) (e : Int) (he : e = 0) :
 PureSpec Tryz.prog 86 [.agg ⟨[hq.v q.length, hp.v p.length]⟩, .agg ⟨mgC ⟨s, d, k, z, a0, a1, a2, a3, default⟩⟩] (fun w => RowAt w hq.a (q.flatMap mgC) ∧ RowAt w hp.a (p.flatMap prC))
  (fun v F => ∃ hq' hp' : Hd, (hq'.Ok (q.length + 1) ∧ hp'.Ok (p.length + 1)) ∧ v = .tuple ⟨[.agg ⟨[hq'.v (q.length + 1), hp'.v (p.length + 1)]⟩, .int .i64 e]⟩ ∧
   F = ⟨fun w => RowAt w hq'.a ((q ++ [(⟨s, d, k, 1, a0, a1, a2, a3, default⟩ : Mg)]).flatMap mgC) ∧ RowAt w hp'.a ((p ++ [(⟨s, d, 1⟩ : Pr)]).flatMap prC), []⟩) := by
 have h1 := portsValid_spec q hq hqo (by omega) p hp hpo (by omega)
 unfold porOk at hV
 rw [hV] at h1
 have h2 := porProper_spec ⟨s, d, k, z, a0, a1, a2, a3, default⟩
 have hmp : mgP ⟨s, d, k, z, a0, a1, a2, a3, default⟩ = true := by
  unfold mgP
  simp only [Bool.and_eq_true, decide_eq_true_eq]
  exact ⟨hs, hd, Nat.zero_le _⟩
 rw [hmp] at h2
 have h3 := porClone_spec ⟨s, d, k, z, a0, a1, a2, a3, default⟩ rfl
 have h4 := porLast_spec (hq.v q.length) rfl p hp hpo (by omega) s d
 obtain ⟨L0, hL0⟩ : ∃ x : Int, x = 0 := ⟨0, rfl⟩
 rw [hl0, ← hL0] at h4
 have h5 := copied_spec q hqd hq hqo (by omega) p hp hpo hpl
 obtain ⟨Q, hQ⟩ : ∃ Q, Q = q.flatMap mgC := ⟨_, rfl⟩
 obtain ⟨P', hP⟩ : ∃ P, P = p.flatMap prC := ⟨_, rfl⟩
 have hPl : P'.length = p.length * 3 := by rw [hP, fm_len (cf := prC) (z := 3) fun _ => rfl]
 refine PureSpec.of_xc tabOk Tryz.func86 rfl (by decide) (n := Tryz.f86.ntmps - 2) rfl rfl fun w0 av => ?_
 conv => whnf
 repeat (first | (refine XSame.of ?_; conv => whnf) | (refine XDep.all _ _ _ _ ?_; conv => whnf))
 intro b2
 conv => whnf
 repeat (first | (refine XSame.of ?_; conv => whnf) | (refine XDep.all _ _ _ _ ?_; conv => whnf))
 intro b3
 conv => whnf
 repeat (first | (refine XSame.of ?_; conv => whnf) | (refine XDep.all _ _ _ _ ?_; conv => whnf))
 intro b4
 conv => whnf
 repeat (first | (refine XSame.of ?_; conv => whnf) | (refine XDep.all _ _ _ _ ?_; conv => whnf))
 refine XCall.val h1 (fun w hw => ⟨hw.2, hw.1⟩) (fun v D hv => ?_)
 subst hv
 conv => whnf
 repeat (first | (refine XSame.of ?_; conv => whnf) | (refine XDep.all _ _ _ _ ?_; conv => whnf))
 refine XCall.val h2 (fun w hw => trivial) (fun v D hv => ?_)
 subst hv
 conv => whnf
 repeat (first | (refine XSame.of ?_; conv => whnf) | (refine XDep.all _ _ _ _ ?_; conv => whnf))
 refine XCall.val h3 (fun w hw => trivial) (fun v D hv => ?_)
 subst hv
 conv => whnf
 repeat (first | (refine XSame.of ?_; conv => whnf) | (refine XDep.all _ _ _ _ ?_; conv => whnf))
 refine XCall.val h4 (fun w hw => hw.2) (fun v D hv => ?_)
 subst hv
 conv => whnf
 repeat (first | (refine XSame.of ?_; conv => whnf) | (refine XDep.all _ _ _ _ ?_; conv => whnf))
 rw [wrap_i64 (by omega)]
 rw [show iEq ((q.length : Nat) : Int) 400 = false from by simp [iEq_eq]; omega]
 conv => whnf
 repeat (first | (refine XSame.of ?_; conv => whnf) | (refine XDep.all _ _ _ _ ?_; conv => whnf))
 refine XIf.no (by simp [iGt_eq]; omega) ?_
 conv => whnf
 repeat (first | (refine XSame.of ?_; conv => whnf) | (refine XDep.all _ _ _ _ ?_; conv => whnf))
 rw [← hQ, ← hP] at h5
 refine XCall.ent (F' := ⟨fun w => RowAt w hq.a Q ∧ RowAt w hp.a P', []⟩) (Ent.imp fun w hw => by rw [hQ, hP]; exact hw) ?_
 refine XCall.pure h5 (fun w hw => hw) (fun v D hv => ?_)
 obtain ⟨a, cap, C, a', cap', C', ⟨hO, hO'⟩, rfl, rfl⟩ := hv
 conv => whnf
 repeat (first | (refine XSame.of ?_; conv => whnf) | (refine XDep.all _ _ _ _ ?_; conv => whnf))
 refine XVal.build tabOk rfl rfl rfl [.agg ⟨mgC ⟨s, d, k, L0 + 1, a0, a1, a2, a3, default⟩⟩] rfl rfl (by simp [Value.cells, mgC]) (by simp) fun b5 => ?_
 conv => whnf
 repeat (first | (refine XSame.of ?_; conv => whnf) | (refine XDep.all _ _ _ _ ?_; conv => whnf))
 obtain ⟨E, hE⟩ : ∃ E : World → Prop, E = fun w => RowAt w hq.a Q ∧ RowAt w hp.a P' := ⟨_, rfl⟩
 refine XVal.ent (F' := ⟨E, [] ++ orow a C ++ (orow a' C' ++ [(b5, Row.c (mgC ⟨s, d, k, L0 + 1, a0, a1, a2, a3, default⟩))])⟩) (Ent.of_le ⟨by simp [Fx.and, Value.cells], fun w hw => by rw [hE]; exact hw.1⟩) ?_
 refine XVal.append1 tabOk rfl rfl rfl rfl rfl rfl (M := mgC ⟨s, d, k, L0 + 1, a0, a1, a2, a3, default⟩) hO (Sees.row (by simp)) rfl (mgC_one _) (by omega) (by show (q.length + q.length / 4 + 600) * 88 ≤ 2 ^ 48; omega) fun a2' c2 C2 hO2 => ?_
 conv => whnf
 repeat (first | (refine XSame.of ?_; conv => whnf) | (refine XDep.all _ _ _ _ ?_; conv => whnf))
 have hO'1 : Sx.Owg 3 p.length a' cap' C' (p.flatMap prC) := hP ▸ hO'
 refine XCall.ent (F' := ⟨E, orow a2' C2 ++ orow a' C' ++ []⟩) (Ent.of_le ⟨by simp, fun w hw => hw⟩) ?_
 refine XCall.look (find_spec (.slice a2' (q.length + 1) c2) rfl p ⟨a', cap'⟩ ⟨hO'1.none_nil, hO'1.fit⟩ (by omega) s d p.length (Nat.le_refl _) (fun j hj _ => hnew j hj) (fun j hj h => absurd hj (by omega))) (Loc.row _ _) (fun w hst => hO'1.at hst) ?_
 rw [List.getElem?_eq_none (Nat.le_refl _)]
 conv => whnf
 repeat (first | (refine XSame.of ?_; conv => whnf) | (refine XDep.all _ _ _ _ ?_; conv => whnf))
 refine XVal.build tabOk rfl rfl rfl [.agg ⟨prC ⟨s, d, 0⟩⟩] rfl rfl (by simp [Value.cells, prC]) (by simp) fun b6 => ?_
 conv => whnf
 repeat (first | (refine XSame.of ?_; conv => whnf) | (refine XDep.all _ _ _ _ ?_; conv => whnf))
 refine XCall.ent (F' := ⟨fun w => RowAt w (some ⟨b6, 0, none⟩) (prC ⟨s, d, 0⟩), orow a2' C2 ++ orow a' C' ++ []⟩) (Ent.trans (Ent.of_le (F' := ⟨E, (orow a2' C2 ++ orow a' C') ++ [(b6, Row.c (prC ⟨s, d, 0⟩))]⟩) ⟨by simp [Value.cells], fun w hw => hw⟩) (Ent.trans (G := ⟨fun w => E w ∧ RowAt w (some ⟨b6, 0, none⟩) (prC ⟨s, d, 0⟩), orow a2' C2 ++ orow a' C'⟩) Ent.shareLast (Ent.of_le ⟨by simp, fun w hw => hw.2⟩))) ?_
 refine XCall.rows (r1 := orow a2' C2) (r2 := []) (insertEnd_spec p.length a' cap' C' (p.flatMap prC) hO'1 (by omega) b6 1 rfl (prC ⟨s, d, 0⟩) rfl (prC_one _)) (fun w hw => hw) (fun v F' hv => ?_)
 obtain ⟨a3', c3, C3, hO3, rfl, rfl⟩ := hv
 conv => whnf
 repeat (first | (refine XSame.of ?_; conv => whnf) | (refine XDep.all _ _ _ _ ?_; conv => whnf))
 obtain ⟨b7, rfl⟩ := own_some hO3 (by omega)
 have hC3 : C3.length = c3 * 3 := by
  rcases hO3.alt with ⟨h, _⟩ | ⟨b', _, h, _⟩
  · cases h
  · exact h
 have hc3 := hO3.fit
 refine XVal.of_read (XRead.index tabOk (t := 109) rfl rfl rfl (by omega) (by omega) (fun h => by cases h) fun ad had => ?_)
 cases had
 conv => whnf
 repeat (first | (refine XSame.of ?_; conv => whnf) | (refine XDep.all _ _ _ _ ?_; conv => whnf))
 refine XUnit.ent (F' := ⟨fun _ => True, orow a2' C2 ++ [(b7, Row.c C3)] ++ []⟩) (Ent.of_le ⟨by simp [orow], fun w hw => trivial⟩) ?_
 refine XUnit.storeTo tabOk rfl (b := b7) (k := p.length * 3 + 2) (X := laid C3 (p.length * 3 + 2) [.int .i64 (L0 + 1)]) (by simp [Addr.add_none]) rfl (List.all_eq_true.1 (by rfl)) (by rw [hC3]; show p.length * 3 + 2 + 1 ≤ c3 * 3; omega) rfl ?_
 conv => whnf
 repeat (first | (refine XSame.of ?_; conv => whnf) | (refine XDep.all _ _ _ _ ?_; conv => whnf))
 subst hL0
 subst he
 have hCt : C3.take ((p.length + 1) * 3) = p.flatMap prC ++ prC ⟨s, d, 0⟩ := by
  rcases hO3.alt with ⟨h, _⟩ | ⟨b', _, _, h⟩
  · cases h
  · exact h
 have hlt : (laid C3 (p.length * 3 + 2) [.int .i64 (0 + 1)]).take ((p.length + 1) * 3) = (p ++ [(⟨s, d, 1⟩ : Pr)]).flatMap prC := by
  have hPl2 : (p.flatMap prC).length = p.length * 3 := by rw [fm_len (cf := prC) (z := 3) fun _ => rfl]
  have e1 : C3.take (p.length * 3 + 2) = p.flatMap prC ++ [.int .i64 s, .int .i64 d] := by
   have h := congrArg (List.take (p.length * 3 + 2)) hCt
   rw [List.take_take, Nat.min_eq_left (by omega)] at h
   rw [h, List.take_append, List.take_of_length_le (by omega), hPl2, Nat.add_sub_cancel_left]
   rfl
  unfold laid
  rw [e1, List.flatMap_append, List.take_append_of_le_length (by simp [hPl2]; omega), List.take_of_length_le (by simp [hPl2]; omega), List.append_assoc]
  rfl
 refine ⟨⟨fun w => RowAt w a2' ((q ++ [(⟨s, d, k, 1, a0, a1, a2, a3, default⟩ : Mg)]).flatMap mgC) ∧ RowAt w (some ⟨b7, 0, none⟩) ((p ++ [(⟨s, d, 1⟩ : Pr)]).flatMap prC), []⟩, ?_, ⟨a2', c2⟩, ⟨some ⟨b7, 0, none⟩, c3⟩, ⟨⟨hO2.none_nil, hO2.fit⟩, ⟨fun h => (by cases h), hc3⟩⟩, rfl, rfl⟩
 refine Ent.trans (Ent.of_le (F' := ⟨fun _ => True, ([] ++ orow a2' C2) ++ [(b7, Row.c (laid C3 (p.length * 3 + 2) [.int .i64 (0 + 1)]))]⟩) ⟨by simp, fun w hw => trivial⟩) (Ent.trans (G := ⟨fun w => True ∧ RowAt w (some ⟨b7, 0, none⟩) (laid C3 (p.length * 3 + 2) [.int .i64 (0 + 1)]), [] ++ orow a2' C2 ++ []⟩) (Ent.trans Ent.shareLast (Ent.of_le ⟨by simp, fun w hw => hw⟩)) (Ent.trans (hO2.share (r1 := []) (r2 := [])) (Ent.imp fun w hw => ⟨?_, ?_⟩)))
 · have h := hw.2
   rw [hQ] at h
   rw [List.flatMap_append]
   exact h
 · have h := hw.1.2.take ((p.length + 1) * 3)
   rw [hlt] at h
   exact h

end Go.Proofs.YtakammghcodmgaaGreatDoor
namespace Go.Proofs.YtakammghcodmgaaGreatDoor
open Go Go.Sx
set_option maxRecDepth 100000
set_option maxHeartbeats 4000000
set_option linter.unusedVariables false
set_option linter.unusedSimpArgs false

/-- What a kernel has at boot. -/
structure Bt where
 nx : Int
 cp : Sl Cp
 ti : Sl Ti
 pg : Sl Bs
 bk : Sl Bs
def Bt.sta (x : Bt) (T : Nat → Tsk) (qu : Sl Int) : Sta := ⟨T, fun _ => false, default, default, x.nx, x.cp, default, x.ti, qu, x.pg, fun _ => default, default, x.bk, default, ⟨0, 0, false, false⟩, lnk0, default, 0, default, fun _ => false, default, default, default, default⟩
def tskK (k : Int) : Tsk := ⟨k, 0, 0, false, false, false, 0, default⟩
def ti0 : List Ti := [⟨1, 1, 64⟩]
def Bt.At (x : Bt) (w : World) : Prop := x.cp.At cpC w ∧ x.ti.At tiC w ∧ (x.pg.As bsV w ∧ ∀ y ∈ x.pg.l, RowAt w y.h.a (List.replicate 128 (byteV 0))) ∧ (x.bk.As bsV w ∧ ∀ y ∈ x.bk.l, RowAt w y.h.a (List.replicate 128 (byteV 0)))
structure Bt.Ok (x : Bt) : Prop where
 cp : x.cp.h.Ok x.cp.l.length
 ti : x.ti.h.Ok x.ti.l.length
 pgh : x.pg.h.Ok x.pg.l.length
 bkh : x.bk.h.Ok x.bk.l.length
 pg : ZsOk 96 x.pg.l
 bk : ZsOk 160 x.bk.l

/-- The tasks when k components have been made. -/
def tskB (k : Nat) : Nat → Tsk := fun i => if 1 ≤ i ∧ i ≤ k then tskK 1 else default
def tskE : Nat → Tsk := fun i => if i = 16 then tskK 2 else tskB 10 i
def quB (k : Nat) : List Int := (List.range k).map fun i => ((i + 1 : Nat) : Int)

def RelNew (nx : Int) (cl : List Cp) (v : Value) (F : Fx) : Prop := ∃ (x : Bt) (hq : Hd) (bk bs : Nat), x.nx = nx ∧ x.cp.l = cl ∧ x.ti.l = ti0 ∧ x.Ok ∧ hq.Ok 11 ∧ v = .pointer (some ⟨bk, 0, none⟩) ∧
 F = ⟨fun w => (x.At w ∧ RowAt w hq.a ((quB 10 ++ [16]).map intV)) ∧ RowAt w (some ⟨bs, 0, none⟩) (staC (x.sta tskE ⟨hq, quB 10 ++ [16]⟩)), [(bk, Row.c [.pointer (some ⟨bs, 0, none⟩)])]⟩

/-- The kind of a task is written. -/
theorem put_Tk (s : Sta) (n : Int) : ∀ i, i < 17 → laid (staC s) (i * 8) [.int .i64 n] = staC { s with T := upd s.T i { s.T i with kind := n } }
 | 0, _ => by kernel_rfl
 | 1, _ => by kernel_rfl
 | 2, _ => by kernel_rfl
 | 3, _ => by kernel_rfl
 | 4, _ => by kernel_rfl
 | 5, _ => by kernel_rfl
 | 6, _ => by kernel_rfl
 | 7, _ => by kernel_rfl
 | 8, _ => by kernel_rfl
 | 9, _ => by kernel_rfl
 | 10, _ => by kernel_rfl
 | 11, _ => by kernel_rfl
 | 12, _ => by kernel_rfl
 | 13, _ => by kernel_rfl
 | 14, _ => by kernel_rfl
 | 15, _ => by kernel_rfl
 | 16, _ => by kernel_rfl
 | i + 17, h => absurd h (by omega)
theorem put_qu (s : Sta) (q : Sl Int) : laid (staC s) 273 [q.v] = staC { s with qu := q } := by kernel_rfl
theorem put_quL (s : Sta) {l : List Int} {n : Nat} (hl : l.length = n) {a : Option Addr} {c : Nat} : laid (staC s) 273 [.slice a n c] = staC { s with qu := ⟨⟨a, c⟩, l⟩ } := by
 subst hl
 exact put_qu s ⟨⟨a, c⟩, l⟩
theorem get_qu (s : Sta) : (staC s)[273]? = some s.qu.v := by kernel_rfl

theorem tskB_next {k : Nat} (hk : k < 10) : upd (tskB k) (k + 1) { tskB k (k + 1) with kind := 1 } = tskB (k + 1) := by
 funext i
 unfold upd tskB
 by_cases h : i = k + 1
 · subst h
   rw [if_pos rfl, if_neg (by omega), if_pos (by omega)]
   rfl
 · rw [if_neg h]
   by_cases h2 : 1 ≤ i ∧ i ≤ k
   · rw [if_pos h2, if_pos (by omega)]
   · rw [if_neg h2, if_neg (by omega)]
theorem tskB_end : upd (tskB 10) 16 { tskB 10 16 with kind := 2 } = tskE := by
 funext i
 unfold upd tskE
 by_cases h : i = 16
 · subst h
   rw [if_pos rfl, if_pos rfl]
   rfl
 · rw [if_neg h, if_neg h]
theorem quB_next (k : Nat) : quB (k + 1) = quB k ++ [((k + 1 : Nat) : Int)] := by
 unfold quB
 rw [List.range_succ, List.map_append]
 rfl
theorem quB_len (k : Nat) : (quB k).length = k := by simp [quB]

theorem new_spec (nx : Int) (cl : List Cp) (hcl : cl.length ≤ 1000)
 (hB : PureSpec Tryz.prog 23 [] (fun _ => True) (fun v F => ∃ h : Hd, h.Ok cl.length ∧ v = .agg ⟨[.int .i64 nx, h.v cl.length]⟩ ∧ F = ⟨fun w => RowAt w h.a (cl.flatMap cpC), []⟩)) :
 PureSpec Tryz.prog 6 [.slice none 0 0, .slice none 0 0, .slice none 0 0] (fun _ => True) (RelNew nx cl) := by
 have h1 := diskNew_spec
 have h2 := serialNew_spec
 have h3 := linkNew_spec
 have h4 := framesNew_spec
 refine PureSpec.of_xc tabOk Tryz.func6 rfl (by decide) (n := Tryz.f6.ntmps - 3) rfl rfl fun w0 av => ?_
 conv => whnf
 repeat (first | (refine XSame.of ?_; conv => whnf) | (refine XDep.all _ _ _ _ ?_; conv => whnf))
 refine XCall.pure h1 (fun w hw => trivial) (fun v D hv => ?_)
 obtain ⟨_, ⟨ab, cb, lb, hcb, hlb, rfl, rfl⟩, rfl⟩ := hv
 conv => whnf
 repeat (first | (refine XSame.of ?_; conv => whnf) | (refine XDep.all _ _ _ _ ?_; conv => whnf))
 intro b7
 conv => whnf
 repeat (first | (refine XSame.of ?_; conv => whnf) | (refine XDep.all _ _ _ _ ?_; conv => whnf))
 refine XCall.val h2 (fun w hw => trivial) (fun v D hv => ?_)
 subst hv
 conv => whnf
 repeat (first | (refine XSame.of ?_; conv => whnf) | (refine XDep.all _ _ _ _ ?_; conv => whnf))
 refine XVal.allocRow tabOk rfl (z := serC default) (by kernel_rfl) fun b9 => ?_
 conv => whnf
 repeat (first | (refine XSame.of ?_; conv => whnf) | (refine XDep.all _ _ _ _ ?_; conv => whnf))
 refine XUnit.ent (F' := ⟨ZsAt ab lb, [] ++ [(b9, Row.c (serC default))] ++ []⟩) (Ent.of_le ⟨by simp [Fx.and], fun w hw => hw.2⟩) ?_
 refine XUnit.storeTo tabOk rfl (b := b9) (k := 0) (X := serC default) rfl rfl (List.all_eq_true.1 (by rfl)) (Nat.le_refl _) (laid_whole rfl) ?_
 conv => whnf
 repeat (first | (refine XSame.of ?_; conv => whnf) | (refine XDep.all _ _ _ _ ?_; conv => whnf))
 refine XCall.val h3 (fun w hw => trivial) (fun v D hv => ?_)
 subst hv
 conv => whnf
 repeat (first | (refine XSame.of ?_; conv => whnf) | (refine XDep.all _ _ _ _ ?_; conv => whnf))
 refine XVal.allocRow tabOk rfl (z := lnkC lnk0) (by kernel_rfl) fun b11 => ?_
 conv => whnf
 repeat (first | (refine XSame.of ?_; conv => whnf) | (refine XDep.all _ _ _ _ ?_; conv => whnf))
 refine XUnit.ent (F' := ⟨ZsAt ab lb, [(b9, Row.c (serC default))] ++ [(b11, Row.c (lnkC lnk0))] ++ []⟩) (Ent.of_le ⟨by simp [Fx.and], fun w hw => hw⟩) ?_
 refine XUnit.storeTo tabOk rfl (b := b11) (k := 0) (X := lnkC lnk0) rfl rfl (List.all_eq_true.1 (by rfl)) (Nat.le_refl _) (laid_whole rfl) ?_
 conv => whnf
 repeat (first | (refine XSame.of ?_; conv => whnf) | (refine XDep.all _ _ _ _ ?_; conv => whnf))
 refine XIf.no (by simp [iNe_eq]) ?_
 conv => whnf
 refine XStop.draw tabOk mixed rfl rfl ?_
 conv => whnf
 repeat' (first
  | (refine And.intro ?_ ?_ <;> conv => whnf)
  | (refine XHeld.same rfl ?_; conv => whnf)
  | (refine XHeld.row rfl ?_; conv => whnf)
  | (refine XHeld.call rfl ?_; conv => whnf)
  | (refine XHeld.factCall rfl ?_; conv => whnf)
  | (refine XKeep.of ?_; conv => whnf)
  | (refine XSame.of ?_; conv => whnf)
  | (refine XDep.all _ _ _ _ ?_; conv => whnf)
  | (refine XCall.pure hB (fun w hw => trivial) (fun v D hv => ?_); obtain ⟨hc, hhc, rfl, rfl⟩ := hv; conv => whnf)
  | (refine XCall.pure h4 (fun w hw => trivial) (fun v D hv => ?_); obtain ⟨_, ⟨ap, cp, lp, hcp, hlp, rfl, rfl⟩, rfl⟩ := hv; conv => whnf)
  | (refine XVal.build tabOk rfl rfl rfl [.agg ⟨tiC ⟨1, 1, 64⟩⟩] rfl rfl (by simp [Value.cells, tiC]) (by decide) fun b5 => ?_; conv => whnf)
  | (refine XRead.loads tabOk rfl rfl (ad := ⟨b9, 0, none⟩) (k := 0) (L := serC default) (m := serC default) (Sees.row (by simp [Fx.and])) rfl rfl rfl ?_; conv => whnf)
  | (refine XRead.loads tabOk rfl rfl (ad := ⟨b11, 0, none⟩) (k := 0) (L := lnkC lnk0) (m := lnkC lnk0) (Sees.row (by simp [Fx.and])) rfl rfl rfl ?_; conv => whnf)
  | (refine XHeld.mk ?_ ?_; (focus (first | exact Ent.refl _ | exact Ent.left _ _ | exact Ent.of_le ⟨List.sublist_append_left _ _, fun w h => h⟩ | exact Ent.of_le ⟨List.Sublist.refl _, fun w h => h.1⟩)); conv => whnf))
 all_goals
  refine XRead.buildBig tabOk rfl rfl (fillK_to (n := 376) (X := staC (Bt.sta ⟨nx, ⟨hc, cl⟩, ⟨⟨some ⟨b5, 0, none⟩, 1⟩, ti0⟩, ⟨⟨some ap, cp⟩, lp⟩, ⟨⟨some ab, cb⟩, lb⟩⟩ (tskB 0) default)) (by kernel_rfl) (by kernel_rfl) (by kernel_rfl) ?_)
  obtain ⟨X, hX⟩ : ∃ X : Bt, X = ⟨nx, ⟨hc, cl⟩, ⟨⟨some ⟨b5, 0, none⟩, 1⟩, ti0⟩, ⟨⟨some ap, cp⟩, lp⟩, ⟨⟨some ab, cb⟩, lb⟩⟩ := ⟨_, rfl⟩
  rw [← hX]
  conv => whnf
  repeat (first | (refine XSame.of ?_; conv => whnf) | (refine XDep.all _ _ _ _ ?_; conv => whnf))
  refine XVal.boxRow fun b13 => ?_
  conv => whnf
  repeat (first | (refine XSame.of ?_; conv => whnf) | (refine XDep.all _ _ _ _ ?_; conv => whnf))
  have hXt : X.ti.l = ti0 ∧ X.nx = nx ∧ X.cp.l = cl := by rw [hX]; exact ⟨rfl, rfl, rfl⟩
  have hXo : X.Ok := by
   rw [hX]
   exact ⟨hhc, ⟨fun h => (by cases h), Nat.le_refl _⟩, ⟨fun h => (by cases h), by rw [hlp.1]; exact hcp⟩, ⟨fun h => (by cases h), by rw [hlb.1]; exact hcb⟩, hlp, hlb⟩
  refine XStop.loop tabOk (ι := Nat × Option Addr × Nat × List Value) ([14] ++ List.range' 49 20) (fun x => x.1 ≤ 10 ∧ Sx.Owg 1 x.1 x.2.1 x.2.2.1 x.2.2.2 ((quB x.1).map intV))
   (fun x => [(14, .v (.int .i64 ((x.1 + 1 : Nat) : Int)))]) (fun _ => [.slice (some ab) lb.length cb :: dchC default]) (fun x => ⟨X.At, [] ++ [(b13, Row.c (staC (X.sta (tskB x.1) ⟨⟨x.2.1, x.2.2.1⟩, quB x.1⟩)))] ++ orow x.2.1 x.2.2.2⟩)
   (fun x => 10 - x.1) (0, none, 0, []) ⟨Nat.zero_le _, Sx.Owg.nil 1⟩ ?_ rfl ?_ fun x hx => ?_
  · conv => whnf
    repeat (first | exact FLe.nil | refine FLe.any ?_ | refine FLe.cons ?_)
  · refine Ent.trans (Ent.of_le (F' := ⟨fun w => ZsAt ab lb w ∧ RowAt w hc.a (cl.flatMap cpC) ∧ ZsAt ap lp w, [(b5, Row.c (tiC ⟨1, 1, 64⟩)), (b13, Row.c (staC (X.sta (tskB 0) default)))]⟩) ⟨by simp [Fx.and, Value.cells], fun w hw => by simp_all [Fx.and]⟩) (Ent.trans Ent.share1 (Ent.of_le ⟨List.Sublist.refl _, fun w hw => ?_⟩))
    obtain ⟨⟨hw1, hw2, hw3⟩, hw4⟩ := hw
    rw [hX]
    exact ⟨hw2, hw4, hw3, hw1⟩
  obtain ⟨i, a, cap, C⟩ := x
  obtain ⟨hi, hO⟩ := hx
  dsimp only at hi hO ⊢
  conv => whnf
  repeat (first | (refine XSame.of ?_; conv => whnf) | (refine XDep.all _ _ _ _ ?_; conv => whnf))
  refine XIf.split (fun hlt => ?_) (fun hlt => ?_)
  · have hlt' : i < 10 := by
     simp [iLe_eq] at hlt
     omega
    obtain ⟨S, hS⟩ : ∃ S, X.sta (tskB i) ⟨⟨a, cap⟩, quB i⟩ = S := ⟨_, rfl⟩
    have hST : S.T = tskB i := by rw [← hS]; rfl
    have hSq : S.qu = ⟨⟨a, cap⟩, quB i⟩ := by rw [← hS]; rfl
    rw [hS]
    conv => whnf
    repeat (first | (refine XSame.of ?_; conv => whnf) | (refine XDep.all _ _ _ _ ?_; conv => whnf))
    refine XVal.of_read (XRead.indexArr tabOk rfl rfl rfl (i + 1) rfl (by omega) rfl ?_)
    conv => whnf
    repeat (first | (refine XSame.of ?_; conv => whnf) | (refine XDep.all _ _ _ _ ?_; conv => whnf))
    refine XUnit.storeTo tabOk rfl (b := b13) (k := (i + 1) * 8) (X := staC { S with T := tskB (i + 1) }) (by rw [Addr.add_none, Addr.add_none, Addr.add_none]; simp) rfl (List.all_eq_true.1 (by rfl)) (by rw [staC_len]; show _ + 1 ≤ _; omega) (by rw [← tskB_next hlt', ← hST]; exact put_Tk S 1 (i + 1) (by omega)) ?_
    obtain ⟨S1, hS1⟩ : ∃ S1 : Sta, S1 = { S with T := tskB (i + 1) } := ⟨_, rfl⟩
    rw [← hS1]
    have hq1 : (staC S1)[273]? = some (.slice a i cap) := by
     rw [get_qu, hS1]
     show some (S.qu.v) = _
     rw [hSq]
     show some (Value.slice a (quB i).length cap) = _
     rw [quB_len]
    conv => whnf
    repeat (first | (refine XSame.of ?_; conv => whnf) | (refine XDep.all _ _ _ _ ?_; conv => whnf))
    refine XVal.of_read (XRead.loadF tabOk rfl rfl (ad := ⟨b13, 0, none⟩) (k := 273) (L := staC S1) (v := .slice a i cap) (Sees.row (by simp)) (fun _ => rfl) hq1 ?_)
    conv => whnf
    repeat (first | (refine XSame.of ?_; conv => whnf) | (refine XDep.all _ _ _ _ ?_; conv => whnf))
    refine XVal.build tabOk rfl rfl rfl [.int .i64 ((i + 1 : Nat) : Int)] rfl rfl (by simp [Value.cells]) (by decide) fun b65 => ?_
    conv => whnf
    repeat (first | (refine XSame.of ?_; conv => whnf) | (refine XDep.all _ _ _ _ ?_; conv => whnf))
    refine XVal.ent (F' := ⟨X.At, [(b13, Row.c (staC S1))] ++ orow a C ++ [(b65, Row.c [.int .i64 ((i + 1 : Nat) : Int)])]⟩) (Ent.of_le ⟨by simp [Value.cells], fun w hw => hw⟩) ?_
    refine XVal.append1 tabOk rfl rfl rfl rfl rfl rfl (M := [.int .i64 ((i + 1 : Nat) : Int)]) hO (Sees.row (by simp)) rfl (List.all_eq_true.1 (by rfl)) (by omega) (by show (i + i / 4 + 600) * 8 ≤ 2 ^ 48; omega) fun a' c' C' hO' => ?_
    conv => whnf
    repeat (first | (refine XSame.of ?_; conv => whnf) | (refine XDep.all _ _ _ _ ?_; conv => whnf))
    refine XUnit.ent (F' := ⟨X.At, [] ++ [(b13, Row.c (staC S1))] ++ orow a' C'⟩) (Ent.of_le ⟨by simp, fun w hw => hw⟩) ?_
    refine XUnit.storeTo tabOk rfl (b := b13) (k := 273) (X := staC { S1 with qu := ⟨⟨a', c'⟩, quB (i + 1)⟩ }) (by rw [Addr.add_none]) rfl (List.all_eq_true.1 (by rfl)) (by rw [staC_len]; decide) (put_quL S1 (quB_len (i + 1))) ?_
    conv => whnf
    repeat (first | (refine XSame.of ?_; conv => whnf) | (refine XDep.all _ _ _ _ ?_; conv => whnf))
    refine ⟨(i + 1, a', c', C'), ⟨⟨hlt', ?_⟩, by dsimp only; omega⟩, ?_, ?_, Ent.of_le ⟨by dsimp only; rw [hS1, ← hS]; exact List.Sublist.refl _, fun w hw => hw⟩⟩
    · dsimp only
      rw [quB_next, List.map_append]
      exact hO'
    · conv => whnf
      refine ⟨?_, rfl⟩
      repeat (first | exact FLe.nil | refine FLe.any ?_ | refine FLe.cons ?_ | refine FLe.eq (congrArg (fun z => SV.v (Value.int .i64 z)) (by rw [wrap_i64 (by omega)]; omega)) ?_)
    · conv => whnf
      exact ⟨⟨rfl, rfl⟩, trivial⟩
  · have hie : i = 10 := by
     simp [iLe_eq] at hlt
     omega
    subst hie
    obtain ⟨S, hS⟩ : ∃ S, X.sta (tskB 10) ⟨⟨a, cap⟩, quB 10⟩ = S := ⟨_, rfl⟩
    have hST : S.T = tskB 10 := by rw [← hS]; rfl
    have hSq : S.qu = ⟨⟨a, cap⟩, quB 10⟩ := by rw [← hS]; rfl
    rw [hS]
    conv => whnf
    repeat (first | (refine XSame.of ?_; conv => whnf) | (refine XDep.all _ _ _ _ ?_; conv => whnf))
    refine XVal.of_read (XRead.indexArr tabOk rfl rfl rfl 16 rfl (by decide) rfl ?_)
    conv => whnf
    repeat (first | (refine XSame.of ?_; conv => whnf) | (refine XDep.all _ _ _ _ ?_; conv => whnf))
    refine XUnit.storeTo tabOk rfl (b := b13) (k := 16 * 8) (X := staC { S with T := tskE }) (by rw [Addr.add_none, Addr.add_none, Addr.add_none]; rfl) rfl (List.all_eq_true.1 (by rfl)) (by rw [staC_len]; decide) (by rw [← tskB_end, ← hST]; exact put_Tk S 2 16 (by omega)) ?_
    obtain ⟨S1, hS1⟩ : ∃ S1 : Sta, S1 = { S with T := tskE } := ⟨_, rfl⟩
    rw [← hS1]
    have hq1 : (staC S1)[273]? = some (.slice a 10 cap) := by
     rw [get_qu, hS1]
     show some (S.qu.v) = _
     rw [hSq]
     rfl
    conv => whnf
    repeat (first | (refine XSame.of ?_; conv => whnf) | (refine XDep.all _ _ _ _ ?_; conv => whnf))
    refine XVal.of_read (XRead.loadF tabOk rfl rfl (ad := ⟨b13, 0, none⟩) (k := 273) (L := staC S1) (v := .slice a 10 cap) (Sees.row (by simp)) (fun _ => rfl) hq1 ?_)
    conv => whnf
    repeat (first | (refine XSame.of ?_; conv => whnf) | (refine XDep.all _ _ _ _ ?_; conv => whnf))
    refine XVal.build tabOk rfl rfl rfl [.int .i64 16] rfl rfl (by simp [Value.cells]) (by decide) fun b65 => ?_
    conv => whnf
    repeat (first | (refine XSame.of ?_; conv => whnf) | (refine XDep.all _ _ _ _ ?_; conv => whnf))
    refine XVal.ent (F' := ⟨X.At, [(b13, Row.c (staC S1))] ++ orow a C ++ [(b65, Row.c [.int .i64 16])]⟩) (Ent.of_le ⟨by simp [Value.cells], fun w hw => hw⟩) ?_
    refine XVal.append1 tabOk rfl rfl rfl rfl rfl rfl (M := [.int .i64 16]) hO (Sees.row (by simp)) rfl (List.all_eq_true.1 (by rfl)) (by omega) (by decide) fun a' c' C' hO' => ?_
    conv => whnf
    repeat (first | (refine XSame.of ?_; conv => whnf) | (refine XDep.all _ _ _ _ ?_; conv => whnf))
    refine XUnit.ent (F' := ⟨X.At, [] ++ [(b13, Row.c (staC S1))] ++ orow a' C'⟩) (Ent.of_le ⟨by simp, fun w hw => hw⟩) ?_
    refine XUnit.storeTo tabOk rfl (b := b13) (k := 273) (X := staC { S1 with qu := ⟨⟨a', c'⟩, quB 10 ++ [16]⟩ }) (by rw [Addr.add_none]) rfl (List.all_eq_true.1 (by rfl)) (by rw [staC_len]; decide) (put_quL S1 (l := quB 10 ++ [16]) (n := 10 + 1) (by decide)) ?_
    obtain ⟨S2, hS2⟩ : ∃ S2 : Sta, S2 = { S1 with qu := ⟨⟨a', c'⟩, quB 10 ++ [16]⟩ } := ⟨_, rfl⟩
    rw [← hS2]
    have hS2' : S2 = X.sta tskE ⟨⟨a', c'⟩, quB 10 ++ [16]⟩ := by rw [hS2, hS1, ← hS]; rfl
    conv => whnf
    repeat (first | (refine XSame.of ?_; conv => whnf) | (refine XDep.all _ _ _ _ ?_; conv => whnf))
    refine XVal.of_read (XRead.buildBig tabOk rfl rfl ?_)
    conv => whnf
    repeat (first | (refine XSame.of ?_; conv => whnf) | (refine XDep.all _ _ _ _ ?_; conv => whnf))
    refine XVal.boxRow fun bk => ?_
    conv => whnf
    repeat (first | (refine XSame.of ?_; conv => whnf) | (refine XDep.all _ _ _ _ ?_; conv => whnf))
    refine ⟨_, ?_, X, ⟨a', c'⟩, bk, b13, hXt.2.1, hXt.2.2, hXt.1, hXo, ⟨hO'.none_nil, hO'.fit⟩, rfl, rfl⟩
    rw [← hS2']
    refine Ent.trans (Ent.of_le (F' := ⟨X.At, [(b13, Row.c (staC S2))] ++ orow a' C' ++ [(bk, Row.c [.pointer (some ⟨b13, 0, none⟩)])]⟩) ⟨by simp, fun w hw => hw⟩) ?_
    refine Ent.trans (hO'.share (r1 := [(b13, Row.c (staC S2))]) (r2 := [(bk, Row.c [.pointer (some ⟨b13, 0, none⟩)])])) ?_
    refine Ent.trans (Ent.share1 (rs := [(bk, Row.c [.pointer (some ⟨b13, 0, none⟩)])])) (Ent.imp fun w hw => ?_)
    rw [List.map_append]
    exact hw

end Go.Proofs.YtakammghcodmgaaGreatDoor
namespace Go.Proofs.YtakammghcodmgaaGreatDoor
open Go Go.Sx
set_option maxRecDepth 100000
set_option maxHeartbeats 4000000
set_option linter.unusedVariables false
set_option linter.unusedSimpArgs false

theorem put_po (s : Sta) (q : Sl Mg) (p : Sl Pr) : laid (staC s) 267 [q.v, p.v] = staC { s with q := q, pr := p } := by kernel_rfl
theorem put_rc (s : Sta) (x : Sl En) : laid (staC s) 373 [x.v] = staC { s with rc := x } := by kernel_rfl
theorem get_po (s : Sta) : ((staC s).drop 267).take 2 = [s.q.v, s.pr.v] := by kernel_rfl
theorem get_rc (s : Sta) : (staC s)[373]? = some s.rc.v := by kernel_rfl

def Sta.po (s : Sta) (q : Sl Mg) (p : Sl Pr) : Sta := { s with q := q, pr := p }

theorem ksend_spec (S : Sta) (bs : Nat) (hqd : ∀ x ∈ S.q.l, x.data = default) (hqo : S.q.h.Ok S.q.l.length) (hql : S.q.l.length < 400) (hpo : S.pr.h.Ok S.pr.l.length) (hpl : S.pr.l.length ≤ 100000) (hV : porOk S.q.l S.pr.l = true)
 (s d k z a0 a1 a2 a3 : Int) (hs : 0 ≤ s ∧ s < 32) (hd : 0 ≤ d ∧ d < 32) (hl0 : porLast S.pr.l s d = 0) (hnew : ∀ j (hj : j < S.pr.l.length), ordI S.pr.l[j].src s S.pr.l[j].dst d < 0) (e : Int) (he : e = 0) :
 RowsSpec Tryz.prog 35 [.pointer (some ⟨bs, 0, none⟩), .agg ⟨mgC ⟨s, d, k, z, a0, a1, a2, a3, default⟩⟩] [(bs, Row.c (staC S))] (fun w => RowAt w S.q.h.a (S.q.l.flatMap mgC) ∧ RowAt w S.pr.h.a (S.pr.l.flatMap prC))
  (fun v F => ∃ hq' hp' : Hd, (hq'.Ok (S.q.l.length + 1) ∧ hp'.Ok (S.pr.l.length + 1)) ∧ v = .int .i64 e ∧
   F = ⟨fun w => RowAt w hq'.a ((S.q.l ++ [(⟨s, d, k, 1, a0, a1, a2, a3, default⟩ : Mg)]).flatMap mgC) ∧ RowAt w hp'.a ((S.pr.l ++ [(⟨s, d, 1⟩ : Pr)]).flatMap prC),
    [(bs, Row.c (staC (S.po ⟨hq', S.q.l ++ [(⟨s, d, k, 1, a0, a1, a2, a3, default⟩ : Mg)]⟩ ⟨hp', S.pr.l ++ [(⟨s, d, 1⟩ : Pr)]⟩)))]⟩) := by
 have h1 := portsSend_spec S.q.l hqd S.q.h hqo hql S.pr.l S.pr.h hpo hpl hV s d k z a0 a1 a2 a3 hs hd hl0 hnew e he
 have hg := get_po S
 obtain ⟨Q, hQ⟩ : ∃ Q, Q = (S.q.l ++ [(⟨s, d, k, 1, a0, a1, a2, a3, default⟩ : Mg)]) := ⟨_, rfl⟩
 obtain ⟨P', hP⟩ : ∃ P, P = (S.pr.l ++ [(⟨s, d, 1⟩ : Pr)]) := ⟨_, rfl⟩
 have hQl : Q.length = S.q.l.length + 1 := by rw [hQ]; simp
 have hPl : P'.length = S.pr.l.length + 1 := by rw [hP]; simp
 rw [← hQ, ← hP] at h1 ⊢
 have hput : ∀ hq' hp' : Hd, laid (staC S) 267 [hq'.v (S.q.l.length + 1), hp'.v (S.pr.l.length + 1)] = staC (S.po ⟨hq', Q⟩ ⟨hp', P'⟩) := fun hq' hp' => by
  rw [← hQl, ← hPl]
  exact put_po S ⟨hq', Q⟩ ⟨hp', P'⟩
 have hlen : (staC S).length = 376 := staC_len S
 obtain ⟨C, hC⟩ : ∃ C, staC S = C := ⟨_, rfl⟩
 rw [hC] at hg hput hlen ⊢
 obtain ⟨E, hE⟩ : ∃ E : World → Prop, E = fun w => RowAt w S.q.h.a (S.q.l.flatMap mgC) ∧ RowAt w S.pr.h.a (S.pr.l.flatMap prC) := ⟨_, rfl⟩
 rw [← hE] at h1 ⊢
 refine RowsSpec.of_xc tabOk Tryz.func35 rfl (by decide) (n := Tryz.f35.ntmps - 2) rfl rfl (by simp) fun w0 av => ?_
 conv => whnf
 repeat (first | (refine XSame.of ?_; conv => whnf) | (refine XDep.all _ _ _ _ ?_; conv => whnf))
 intro b3
 refine XStop.draw tabOk mixed rfl rfl ?_
 conv => whnf
 repeat' (first
  | (refine And.intro ?_ ?_ <;> conv => whnf)
  | (refine XHeld.same rfl ?_; conv => whnf)
  | (refine XHeld.row rfl ?_; conv => whnf)
  | (refine XHeld.call rfl ?_; conv => whnf)
  | (refine XHeld.factCall rfl ?_; conv => whnf)
  | (refine XKeep.of ?_; conv => whnf)
  | (refine XSame.of ?_; conv => whnf)
  | (refine XDep.all _ _ _ _ ?_; conv => whnf)
  | (refine XRead.loads tabOk (t := 111) rfl rfl (ad := ⟨bs, 0, none⟩) (k := 267) (L := C) (m := [S.q.v, S.pr.v]) (Sees.row (by simp)) rfl hg rfl ?_; conv => whnf)
  | (refine XCall.pure h1 (fun w hw => hw) (fun v D hv => ?_); obtain ⟨hq', hp', ⟨hqo', hpo'⟩, rfl, rfl⟩ := hv; conv => whnf)
  | (intro b5; conv => whnf)
  | (refine XHeld.mk ?_ ?_; (focus (first | exact Ent.refl _ | exact Ent.left _ _ | exact Ent.of_le ⟨List.sublist_append_left _ _, fun w h => h⟩ | exact Ent.of_le ⟨List.Sublist.refl _, fun w h => h.1⟩)); conv => whnf))
 all_goals
  refine XIf.yes (by simp [iEq_eq, he]) ?_
  conv => whnf
  repeat (first | (refine XSame.of ?_; conv => whnf) | (refine XDep.all _ _ _ _ ?_; conv => whnf))
  refine XUnit.ent (F' := ⟨fun w => RowAt w hq'.a (Q.flatMap mgC) ∧ RowAt w hp'.a (P'.flatMap prC), [] ++ [(bs, Row.c C)] ++ []⟩) (Ent.of_le ⟨by simp [Fx.and], fun w hw => hw.2⟩) ?_
  refine XUnit.storeTo tabOk rfl (b := bs) (k := 267) (X := staC (S.po ⟨hq', Q⟩ ⟨hp', P'⟩)) rfl rfl (List.all_eq_true.1 (by rfl)) (by rw [hlen]; decide) (hput hq' hp') ?_
  conv => whnf
  repeat (first | (refine XSame.of ?_; conv => whnf) | (refine XDep.all _ _ _ _ ?_; conv => whnf))
  exact ⟨_, Ent.of_le ⟨by simp, fun w hw => hw⟩, hq', hp', ⟨hqo', hpo'⟩, rfl, rfl⟩

end Go.Proofs.YtakammghcodmgaaGreatDoor
namespace Go.Proofs.YtakammghcodmgaaGreatDoor
open Go Go.Sx
set_option maxRecDepth 100000
set_option maxHeartbeats 4000000
set_option linter.unusedVariables false
set_option linter.unusedSimpArgs false

def Sta.rec' (s : Sta) (x : Sl En) : Sta := { s with rc := x }
theorem enC_one (x : En) : ∀ v ∈ enC x, oneCell v = true := List.all_eq_true.1 rfl

theorem rows_CM {b : Nat} {X : List Value} {a : Option Addr} {C : List Value} : ∀ r ∈ [(b, Row.c X)] ++ orow a C, CM r.2 := fun r hr => by
 rcases List.mem_append.1 hr with h | h
 · simp at h
   subst h
   simp
 · exact orow_CM' r h

theorem note_spec (S : Sta) (bs : Nat) (kind task call a0 a1 a2 res : Int) (a : Option Addr) (cap : Nat) (C : List Value) (hO : Sx.Owg 8 S.rc.l.length a cap C (S.rc.l.flatMap enC)) (hrc : S.rc.h = ⟨a, cap⟩) (hl : S.rc.l.length ≤ 100000000) :
 RowsSpec Tryz.prog 30 [.pointer (some ⟨bs, 0, none⟩), .agg ⟨enC ⟨kind, task, call, a0, a1, a2, res, default⟩⟩] ([(bs, Row.c (staC S))] ++ orow a C) (fun _ => True)
  (fun v F => ∃ a' cap' C', Sx.Owg 8 (S.rc.l.length + 1) a' cap' C' ((S.rc.l ++ [(⟨kind, task, call, a0, a1, a2, res, default⟩ : En)]).flatMap enC) ∧ v = .tuple ⟨[]⟩ ∧
   F = ⟨fun _ => True, [(bs, Row.c (staC (S.rec' ⟨⟨a', cap'⟩, S.rc.l ++ [(⟨kind, task, call, a0, a1, a2, res, default⟩ : En)]⟩)))] ++ orow a' C'⟩) := by
 have h1 := cloneBy_nil
 have hg := get_rc S
 obtain ⟨n, hn⟩ : ∃ n, S.rc.l.length = n := ⟨_, rfl⟩
 have hgv : S.rc.v = .slice a n cap := by
  show S.rc.h.v S.rc.l.length = _
  rw [hrc, hn]
 rw [hgv] at hg
 obtain ⟨L, hL⟩ : ∃ L, L = (S.rc.l ++ [(⟨kind, task, call, a0, a1, a2, res, default⟩ : En)]) := ⟨_, rfl⟩
 have hLl : L.length = n + 1 := by rw [hL]; simp [hn]
 have hLc : L.flatMap enC = S.rc.l.flatMap enC ++ enC ⟨kind, task, call, a0, a1, a2, res, default⟩ := by rw [hL]; simp
 have hput : ∀ (a' : Option Addr) (c' : Nat), laid (staC S) 373 [.slice a' (n + 1) c'] = staC (S.rec' ⟨⟨a', c'⟩, L⟩) := fun a' c' => by
  rw [← hLl]
  exact put_rc S ⟨⟨a', c'⟩, L⟩
 rw [← hL, hLc]
 rw [hn] at hO hl ⊢
 have hlen : (staC S).length = 376 := staC_len S
 obtain ⟨X, hX⟩ : ∃ X, staC S = X := ⟨_, rfl⟩
 rw [hX] at hg hput hlen ⊢
 refine RowsSpec.of_xc tabOk Tryz.func30 rfl (by decide) (n := Tryz.f30.ntmps - 2) rfl rfl rows_CM fun w0 av => ?_
 conv => whnf
 repeat (first | (refine XSame.of ?_; conv => whnf) | (refine XDep.all _ _ _ _ ?_; conv => whnf))
 intro b3
 conv => whnf
 repeat (first | (refine XSame.of ?_; conv => whnf) | (refine XDep.all _ _ _ _ ?_; conv => whnf))
 refine XCall.val h1 (fun w hw => trivial) (fun v D hv => ?_)
 subst hv
 conv => whnf
 repeat (first | (refine XSame.of ?_; conv => whnf) | (refine XDep.all _ _ _ _ ?_; conv => whnf))
 refine XStop.draw tabOk mixed rfl rfl ?_
 conv => whnf
 refine XRead.loadF tabOk rfl rfl (ad := ⟨bs, 0, none⟩) (k := 373) (L := X) (v := .slice a n cap) (Sees.row (by simp)) (fun _ => rfl) hg ?_
 conv => whnf
 repeat (first | (refine XSame.of ?_; conv => whnf) | (refine XDep.all _ _ _ _ ?_; conv => whnf))
 refine XVal.build tabOk rfl rfl rfl [.agg ⟨enC ⟨kind, task, call, a0, a1, a2, res, default⟩⟩] rfl rfl (by simp [Value.cells, enC]) (by simp) fun b5 => ?_
 conv => whnf
 refine XHeld.row rfl ?_
 conv => whnf
 repeat (first | (refine XSame.of ?_; conv => whnf) | (refine XDep.all _ _ _ _ ?_; conv => whnf))
 refine XVal.ent (F' := ⟨fun _ => True, [(bs, Row.c X)] ++ orow a C ++ [(b5, Row.c (enC ⟨kind, task, call, a0, a1, a2, res, default⟩))]⟩) (Ent.of_le ⟨by simp [Value.cells], fun w hw => trivial⟩) ?_
 refine XVal.append1 tabOk rfl rfl rfl rfl rfl rfl (M := enC ⟨kind, task, call, a0, a1, a2, res, default⟩) hO (Sees.row (by simp)) rfl (enC_one _) (by omega) (by show (n + n / 4 + 600) * 80 ≤ 2 ^ 48; omega) fun a' c' C' hO' => ?_
 conv => whnf
 repeat (first | (refine XSame.of ?_; conv => whnf) | (refine XDep.all _ _ _ _ ?_; conv => whnf))
 refine XUnit.ent (F' := ⟨fun _ => True, [] ++ [(bs, Row.c X)] ++ orow a' C'⟩) (Ent.of_le ⟨by simp, fun w hw => trivial⟩) ?_
 refine XUnit.storeTo tabOk rfl (b := bs) (k := 373) (X := staC (S.rec' ⟨⟨a', c'⟩, L⟩)) rfl rfl (List.all_eq_true.1 (by rfl)) (by rw [hlen]; decide) (hput a' c') ?_
 conv => whnf
 repeat (first | (refine XSame.of ?_; conv => whnf) | (refine XDep.all _ _ _ _ ?_; conv => whnf))
 exact ⟨_, Ent.of_le ⟨by simp, fun w hw => trivial⟩, a', c', C', hO', rfl, rfl⟩

end Go.Proofs.YtakammghcodmgaaGreatDoor
