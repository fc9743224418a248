/- Parts of the proof: KtA, KtC, KtB, KtF, KtD, KtE, KuA, KuB, KvA. -/
import Derived.Test.YtakammghcodmgaaGreatDoorQS
import Derived.Test.YtakammghcodmgaaGreatDoorQT
import Derived.Test.YtakammghcodmgaaGreatDoorQO
import Derived.Test.YtakammghcodmgaaGreatDoorQD
import Derived.Test.YtakammghcodmgaaGreatDoorQL
namespace Go.Proofs.YtakammghcodmgaaGreatDoor
open Go Go.Sx
set_option maxRecDepth 100000
set_option maxHeartbeats 4000000
set_option linter.unusedVariables false
set_option linter.unusedSimpArgs false

/-- A copy, in rows of its own. -/
theorem cloneBkO (h : Hd) (n : Nat) (hh : h.Ok n) (M : List Value) (hM : M.length = n * 1) (hn : n ≤ 1000000) (hone : ∀ v ∈ M, oneCell v = true) : PureSpec Tryz.prog 115 [h.v n] (fun w => RowAt w h.a M)
 (fun v F => ∃ a cap C, Sx.Owg 1 n a cap C M ∧ v = .slice a n cap ∧ F = ⟨fun _ => True, orow a C⟩) := by
 obtain ⟨ha, hc⟩ := h
 rcases ha with _ | ha
 · have h0 := hh.nil rfl
   subst h0
   have hM0 : M = [] := List.length_eq_zero_iff.1 (by omega)
   subst hM0
   refine PureSpec.of_xc tabOk Tryz.func115 rfl (by decide) (n := Tryz.f115.ntmps - 1) rfl rfl fun w0 av => ?_
   conv => whnf
   repeat (first | (refine XSame.of ?_; conv => whnf) | (refine XDep.all _ _ _ _ ?_; conv => whnf))
   refine XVal.of_read (XRead.eqNil tabOk (t := 66) rfl rfl ?_)
   conv => whnf
   repeat (first | (refine XSame.of ?_; conv => whnf) | (refine XDep.all _ _ _ _ ?_; conv => whnf))
   exact ⟨⟨fun _ => True, []⟩, Ent.of_le ⟨by simp, fun w hw => trivial⟩, none, 0, [], Sx.Owg.nil 1, rfl, rfl⟩
 refine PureSpec.of_xc tabOk Tryz.func115 rfl (by decide) (n := Tryz.f115.ntmps - 1) rfl rfl fun w0 av => ?_
 conv => whnf
 repeat (first | (refine XSame.of ?_; conv => whnf) | (refine XDep.all _ _ _ _ ?_; conv => whnf))
 refine XVal.of_read (XRead.eqNil tabOk (t := 66) rfl rfl ?_)
 conv => whnf
 repeat (first | (refine XSame.of ?_; conv => whnf) | (refine XDep.all _ _ _ _ ?_; conv => whnf))
 refine XVal.build tabOk (t := 66) rfl rfl rfl [] rfl rfl (by simp) (by decide) fun b0 => ?_
 conv => whnf
 repeat (first | (refine XSame.of ?_; conv => whnf) | (refine XDep.all _ _ _ _ ?_; conv => whnf))
 refine XVal.ent (F' := ⟨fun w => RowAt w (some ha) M, [] ++ orow (some ⟨b0, 0, none⟩) [] ++ []⟩) (Ent.of_le ⟨by simp [orow], fun w hw => hw⟩) ?_
 refine XVal.append tabOk rfl rfl rfl rfl rfl rfl (L := []) (M := M) (Sx.Owg.full (n := 0) (by simp)) (.fact fun w hw => hw) hM hone (by omega) (by show (2 * (0 + n) + 1000) * 24 ≤ 2 ^ 48; omega) fun a cap C hO => ?_
 conv => whnf
 repeat (first | (refine XSame.of ?_; conv => whnf) | (refine XDep.all _ _ _ _ ?_; conv => whnf))
 rw [Nat.zero_add, List.nil_append] at hO
 rw [Nat.zero_add]
 exact ⟨⟨fun _ => True, orow a C⟩, Ent.of_le ⟨by simp, fun w hw => trivial⟩, a, cap, C, hO, rfl, rfl⟩

/-- A copy, in rows of its own. -/
theorem cloneTiO (h : Hd) (n : Nat) (hh : h.Ok n) (M : List Value) (hM : M.length = n * 3) (hn : n ≤ 1000000) (hone : ∀ v ∈ M, oneCell v = true) : PureSpec Tryz.prog 80 [h.v n] (fun w => RowAt w h.a M)
 (fun v F => ∃ a cap C, Sx.Owg 3 n a cap C M ∧ v = .slice a n cap ∧ F = ⟨fun _ => True, orow a C⟩) := by
 obtain ⟨ha, hc⟩ := h
 rcases ha with _ | ha
 · have h0 := hh.nil rfl
   subst h0
   have hM0 : M = [] := List.length_eq_zero_iff.1 (by omega)
   subst hM0
   refine PureSpec.of_xc tabOk Tryz.func80 rfl (by decide) (n := Tryz.f80.ntmps - 1) rfl rfl fun w0 av => ?_
   conv => whnf
   repeat (first | (refine XSame.of ?_; conv => whnf) | (refine XDep.all _ _ _ _ ?_; conv => whnf))
   refine XVal.of_read (XRead.eqNil tabOk (t := 100) rfl rfl ?_)
   conv => whnf
   repeat (first | (refine XSame.of ?_; conv => whnf) | (refine XDep.all _ _ _ _ ?_; conv => whnf))
   exact ⟨⟨fun _ => True, []⟩, Ent.of_le ⟨by simp, fun w hw => trivial⟩, none, 0, [], Sx.Owg.nil 3, rfl, rfl⟩
 refine PureSpec.of_xc tabOk Tryz.func80 rfl (by decide) (n := Tryz.f80.ntmps - 1) rfl rfl fun w0 av => ?_
 conv => whnf
 repeat (first | (refine XSame.of ?_; conv => whnf) | (refine XDep.all _ _ _ _ ?_; conv => whnf))
 refine XVal.of_read (XRead.eqNil tabOk (t := 100) rfl rfl ?_)
 conv => whnf
 repeat (first | (refine XSame.of ?_; conv => whnf) | (refine XDep.all _ _ _ _ ?_; conv => whnf))
 refine XVal.build tabOk (t := 100) rfl rfl rfl [] rfl rfl (by simp) (by decide) fun b0 => ?_
 conv => whnf
 repeat (first | (refine XSame.of ?_; conv => whnf) | (refine XDep.all _ _ _ _ ?_; conv => whnf))
 refine XVal.ent (F' := ⟨fun w => RowAt w (some ha) M, [] ++ orow (some ⟨b0, 0, none⟩) [] ++ []⟩) (Ent.of_le ⟨by simp [orow], fun w hw => hw⟩) ?_
 refine XVal.append tabOk rfl rfl rfl rfl rfl rfl (L := []) (M := M) (Sx.Owg.full (n := 0) (by simp)) (.fact fun w hw => hw) hM hone (by omega) (by show (2 * (0 + n) + 1000) * 24 ≤ 2 ^ 48; omega) fun a cap C hO => ?_
 conv => whnf
 repeat (first | (refine XSame.of ?_; conv => whnf) | (refine XDep.all _ _ _ _ ?_; conv => whnf))
 rw [Nat.zero_add, List.nil_append] at hO
 rw [Nat.zero_add]
 exact ⟨⟨fun _ => True, orow a C⟩, Ent.of_le ⟨by simp, fun w hw => trivial⟩, a, cap, C, hO, rfl, rfl⟩

theorem idxAl (fv : Value) (n : Nat) (hn : n = 0) (z : Int) (hz : z = -1) : PureSpec Tryz.prog 111 [.slice none n 0, fv] (fun _ => True) (fun v F => v = .int .i64 z) := by
 refine PureSpec.of_xc tabOk Tryz.func111 rfl (by decide) (n := Tryz.f111.ntmps - 2) rfl rfl fun w0 av => ?_
 conv => whnf
 repeat (first | (refine XSame.of ?_; conv => whnf) | (refine XDep.all _ _ _ _ ?_; conv => whnf))
 refine XStop.once tabOk ?_
 conv => whnf
 repeat (first | (refine XSame.of ?_; conv => whnf) | (refine XDep.all _ _ _ _ ?_; conv => whnf))
 refine XIf.no (by simp [iLt_eq, hn]) ?_
 conv => whnf
 repeat (first | (refine XSame.of ?_; conv => whnf) | (refine XDep.all _ _ _ _ ?_; conv => whnf))
 exact ⟨_, Ent.refl _, by rw [hz]⟩

theorem idxLin (fv : Value) (n : Nat) (hn : n = 0) (z : Int) (hz : z = -1) : PureSpec Tryz.prog 141 [.slice none n 0, fv] (fun _ => True) (fun v F => v = .int .i64 z) := by
 refine PureSpec.of_xc tabOk Tryz.func141 rfl (by decide) (n := Tryz.f141.ntmps - 2) rfl rfl fun w0 av => ?_
 conv => whnf
 repeat (first | (refine XSame.of ?_; conv => whnf) | (refine XDep.all _ _ _ _ ?_; conv => whnf))
 refine XStop.once tabOk ?_
 conv => whnf
 repeat (first | (refine XSame.of ?_; conv => whnf) | (refine XDep.all _ _ _ _ ?_; conv => whnf))
 refine XIf.no (by simp [iLt_eq, hn]) ?_
 conv => whnf
 repeat (first | (refine XSame.of ?_; conv => whnf) | (refine XDep.all _ _ _ _ ?_; conv => whnf))
 exact ⟨_, Ent.refl _, by rw [hz]⟩

end Go.Proofs.YtakammghcodmgaaGreatDoor
namespace Go.Proofs.YtakammghcodmgaaGreatDoor
open Go Go.Sx
set_option maxRecDepth 100000
set_option maxHeartbeats 4000000
set_option linter.unusedVariables false
set_option linter.unusedSimpArgs false

theorem deleteAl_nil (fv : Value) : PureSpec Tryz.prog 57 [.slice none 0 0, fv] (fun _ => True) (fun v F => v = .slice none 0 0) := by
 obtain ⟨z, hz⟩ : ∃ z : Int, z = -1 := ⟨_, rfl⟩
 have h1 := idxAl fv 0 rfl z hz
 refine PureSpec.of_xc tabOk Tryz.func57 rfl (by decide) (n := Tryz.f57.ntmps - 2) rfl rfl fun w0 av => ?_
 conv => whnf
 repeat (first | (refine XSame.of ?_; conv => whnf) | (refine XDep.all _ _ _ _ ?_; conv => whnf))
 refine XCall.val h1 (fun w hw => trivial) (fun v D hv => ?_)
 subst hv
 conv => whnf
 repeat (first | (refine XSame.of ?_; conv => whnf) | (refine XDep.all _ _ _ _ ?_; conv => whnf))
 refine XIf.yes (by simp [iEq_eq, hz]) ?_
 conv => whnf
 repeat (first | (refine XSame.of ?_; conv => whnf) | (refine XDep.all _ _ _ _ ?_; conv => whnf))
 exact ⟨_, Ent.refl _, rfl⟩

theorem clockTick_idle (now : Int) (h0 : 0 ≤ now) (h1 : now < 1099511627776) : PureSpec Tryz.prog 26 [.agg ⟨[.int .i64 now, .slice none 0 0]⟩] (fun _ => True) (fun v F => v = .tuple ⟨[.agg ⟨[.int .i64 (now + 1), .slice none 0 0]⟩, .slice none 0 0]⟩) := by
 obtain ⟨e, he⟩ : ∃ e : Bool, e = true := ⟨_, rfl⟩
 have hv := clockValid_spec now [] Hd.nil Hd.nil_ok (by decide)
 rw [show (allI ([] : List Al).length (alOk now []) && decide (0 ≤ now ∧ now ≤ 1099511627776 ∧ ([] : List Al).length ≤ 32)) = e from by
  rw [he, Bool.and_eq_true]
  exact ⟨rfl, by simp; omega⟩] at hv
 have hc := cloneAl_nil
 refine PureSpec.of_xc tabOk Tryz.func26 rfl (by decide) (n := Tryz.f26.ntmps - 1) rfl rfl fun w0 av => ?_
 conv => whnf
 repeat (first | (refine XSame.of ?_; conv => whnf) | (refine XDep.all _ _ _ _ ?_; conv => whnf))
 intro b1
 refine snoc_step ?_
 refine snoc_step ?_
 unfold fin
 dsimp only
 unfold setK
 dsimp only
 unfold setK
 dsimp only
 refine xops_alloc1 (ti := (Sx.look tab 125).get rfl) rfl rfl ?_
 conv => whnf
 intro b2
 conv => whnf
 repeat (first | (refine XSame.of ?_; conv => whnf) | (refine XDep.all _ _ _ _ ?_; conv => whnf))
 refine XCall.val hv (fun w hw => RowAt.nilA) (fun v D hv => ?_)
 subst hv
 conv => whnf
 repeat (first | (refine XSame.of ?_; conv => whnf) | (refine XDep.all _ _ _ _ ?_; conv => whnf))
 refine XIf.no (by simp [iEq_eq, he]; omega) ?_
 refine xc_skip ?_
 dsimp only

 refine xc_allocBig (ti := (Sx.look tab 114).get rfl) rfl rfl ?_
 refine XVal.allocRow tabOk rfl (z := [.slice none 0 0]) (by kernel_rfl) fun b4 => ?_
 conv => whnf
 repeat (first | (refine XSame.of ?_; conv => whnf) | (refine XDep.all _ _ _ _ ?_; conv => whnf))
 rw [wrap_i64 (by omega)]
 refine XCall.val hc (fun w hw => trivial) (fun v D hv => ?_)
 subst hv
 conv => whnf
 repeat (first | (refine XSame.of ?_; conv => whnf) | (refine XDep.all _ _ _ _ ?_; conv => whnf))
 refine XCall.val (deleteAl_nil _) (fun w hw => trivial) (fun v D hv => ?_)
 subst hv
 refine XStop.draw tabOk mixed rfl rfl ?_
 conv => whnf
 repeat' (first
  | (refine And.intro ?_ ?_ <;> conv => whnf)
  | (refine XHeld.same rfl ?_; conv => whnf)
  | (refine XHeld.row rfl ?_; conv => whnf)
  | (refine XHeld.call rfl ?_; conv => whnf)
  | (refine XHeld.factCall rfl ?_; conv => whnf)
  | (refine XKeep.of ?_; conv => whnf)
  | (refine XSame.of ?_; conv => whnf)
  | (refine XDep.all _ _ _ _ ?_; conv => whnf)
  | (refine XRead.loadF tabOk rfl rfl (ad := ⟨b4, 0, none⟩) (k := 0) (L := [.slice none 0 0]) (v := .slice none 0 0) (Sees.row (by simp)) (fun _ => rfl) rfl ?_; conv => whnf)
  | (refine XHeld.mk ?_ ?_; (focus (first | exact Ent.refl _ | exact Ent.left _ _ | exact Ent.of_le ⟨List.sublist_append_left _ _, fun w h => h⟩ | exact Ent.of_le ⟨List.Sublist.refl _, fun w h => h.1⟩)); conv => whnf))
 all_goals exact ⟨_, Ent.refl _, rfl⟩

end Go.Proofs.YtakammghcodmgaaGreatDoor
namespace Go.Proofs.YtakammghcodmgaaGreatDoor
open Go Go.Sx
set_option maxRecDepth 100000
set_option maxHeartbeats 4000000
set_option linter.unusedVariables false
set_option linter.unusedSimpArgs false

theorem laid_again {C m : List Value} {k n : Nat} (h : (C.drop k).take n = m) (hl : k + n ≤ C.length) : laid C k m = C := by
 have hm : m.length = n := by rw [← h]; simp; omega
 unfold laid
 rw [← h]
 simp only [List.length_take, List.length_drop]
 rw [show k + min n (C.length - k) = k + n by omega, ← List.drop_drop, List.append_assoc, List.take_append_drop, List.take_append_drop]
theorem laid_cell {C : List Value} {k : Nat} {v : Value} (h : C[k]? = some v) : laid C k [v] = C := by
 have hk : k < C.length := (List.getElem?_eq_some_iff.1 h).1
 refine laid_again (n := 1) ?_ (by omega)
 rw [List.take_one, List.head?_drop, h]
 rfl

def ch0 (o : Bool) : List Value := [.bool o, .int .i64 0, .int .i64 0, .int .i64 0, .slice none 0 0, .int .i64 0, .int .i64 0, .slice none 0 0]
theorem ch0_one (o : Bool) : ∀ v ∈ ch0 o, oneCell v = true := List.all_eq_true.1 rfl

theorem lnkCh_copied (o : Bool) : PureSpec Tryz.prog 122 [.agg ⟨ch0 o⟩] (fun _ => True) (fun v F => v = .agg ⟨ch0 o⟩) := by
 have h1 := cloneBy_nil
 refine PureSpec.of_xc tabOk Tryz.func122 rfl (by decide) (n := Tryz.f122.ntmps - 1) rfl rfl fun w0 av => ?_
 conv => whnf
 repeat (first | (refine XSame.of ?_; conv => whnf) | (refine XDep.all _ _ _ _ ?_; conv => whnf))
 intro b1
 refine snoc_step ?_
 refine snoc_step ?_
 unfold fin
 dsimp only
 unfold setK
 dsimp only
 unfold setK
 dsimp only
 refine xops_alloc1 (ti := (Sx.look tab 87).get rfl) rfl rfl ?_
 conv => whnf
 intro b2
 refine XStop.draw tabOk mixed rfl rfl ?_
 conv => whnf
 repeat' (first
  | (refine And.intro ?_ ?_ <;> conv => whnf)
  | (refine XHeld.same rfl ?_; conv => whnf)
  | (refine XHeld.row rfl ?_; conv => whnf)
  | (refine XHeld.call rfl ?_; conv => whnf)
  | (refine XHeld.factCall rfl ?_; conv => whnf)
  | (refine XKeep.of ?_; conv => whnf)
  | (refine XSame.of ?_; conv => whnf)
  | (refine XDep.all _ _ _ _ ?_; conv => whnf)
  | (refine XCall.val h1 (fun w hw => trivial) (fun v D hv => ?_); subst hv; conv => whnf)
  | (refine XHeld.mk ?_ ?_; (focus (first | exact Ent.refl _ | exact Ent.left _ _ | exact Ent.of_le ⟨List.sublist_append_left _ _, fun w h => h⟩ | exact Ent.of_le ⟨List.Sublist.refl _, fun w h => h.1⟩)); conv => whnf))
 all_goals exact ⟨_, Ent.refl _, rfl⟩

/-- An idle network card. -/
def lnkI (pat : Bs) (now : Int) : Lnk := ⟨pat, now, 0, 0, Hd.nil, [], Hd.nil, [], default, default⟩
theorem lnkI_one (pat : Bs) (now : Int) : ∀ v ∈ lnkC (lnkI pat now), oneCell v = true := List.all_eq_true.1 rfl

/-- The cells of a card that are looked at. -/
structure LnkAt (L : List Value) (now : Int) (o : Bool) : Prop where
 len : L.length = 22
 one : ∀ v ∈ L, oneCell v = true
 now : L[1]? = some (.int .i64 now)
 sent : L[2]? = some (.int .i64 0)
 first : L[3]? = some (.int .i64 0)
 fly : L[4]? = some (.slice none 0 0)
 wait : L[5]? = some (.slice none 0 0)
 co : (L.drop 6).take 8 = ch0 o
 ci : (L.drop 14).take 8 = ch0 o
theorem lnkI_at (pat : Bs) (now : Int) : LnkAt (lnkC (lnkI pat now)) now false := ⟨rfl, lnkI_one _ _, rfl, rfl, rfl, rfl, rfl, rfl, rfl⟩

theorem lnkCopied_idle (L : List Value) (now : Int) (o : Bool) (hL : LnkAt L now o) : PureSpec Tryz.prog 64 [.agg ⟨L⟩] (fun _ => True) (fun v F => v = .agg ⟨L⟩) := by
 have h1 := cloneFl_nil
 have h2 := cloneBb_nil
 have h3 := lnkCh_copied o
 have hlen := hL.len
 have hone := hL.one
 have hz : (lnkC lnk0).length = 22 := rfl
 have hc0 : (ch0 o).length = 8 := rfl
 obtain ⟨CH, hCH⟩ : ∃ x, ch0 o = x := ⟨_, rfl⟩
 have hco := hL.co
 have hci := hL.ci
 have ho := ch0_one o
 rw [hCH] at h3 hco hci hc0 ho
 refine PureSpec.of_xc tabOk Tryz.func64 rfl (by decide) (n := Tryz.f64.ntmps - 1) rfl rfl fun w0 av => ?_
 conv => whnf
 repeat (first | (refine XSame.of ?_; conv => whnf) | (refine XDep.all _ _ _ _ ?_; conv => whnf))
 refine XVal.boxRow fun b1 => ?_
 conv => whnf
 repeat (first | (refine XSame.of ?_; conv => whnf) | (refine XDep.all _ _ _ _ ?_; conv => whnf))
 refine XVal.allocRow tabOk rfl (z := lnkC lnk0) (by kernel_rfl) fun b2 => ?_
 obtain ⟨Z, hZ⟩ : ∃ x, lnkC lnk0 = x := ⟨_, rfl⟩
 rw [hZ] at hz ⊢
 conv => whnf
 repeat (first | (refine XSame.of ?_; conv => whnf) | (refine XDep.all _ _ _ _ ?_; conv => whnf))
 refine XStop.ent (F' := ⟨fun _ => True, [] ++ [(b1, Row.c L)] ++ [(b2, Row.c Z)]⟩) (Ent.of_le ⟨by simp [Fx.and], fun w hw => trivial⟩) ?_
 refine XStop.draw tabOk mixed rfl rfl ?_
 conv => whnf
 repeat' (first
  | (refine And.intro ?_ ?_ <;> conv => whnf)
  | (refine XHeld.same rfl ?_; conv => whnf)
  | (refine XHeld.row rfl ?_; conv => whnf)
  | (refine XHeld.call rfl ?_; conv => whnf)
  | (refine XHeld.factCall rfl ?_; conv => whnf)
  | (refine XKeep.of ?_; conv => whnf)
  | (refine XSame.of ?_; conv => whnf)
  | (refine XDep.all _ _ _ _ ?_; conv => whnf)
  | (refine XRead.loadF tabOk rfl rfl (ad := ⟨b1, 0, none⟩) (k := 4) (L := L) (v := .slice none 0 0) (Sees.row (by simp)) (fun _ => rfl) hL.fly ?_; conv => whnf)
  | (refine XRead.loadF tabOk rfl rfl (ad := ⟨b1, 0, none⟩) (k := 5) (L := L) (v := .slice none 0 0) (Sees.row (by simp)) (fun _ => rfl) hL.wait ?_; conv => whnf)
  | (refine XCall.val h1 (fun w hw => trivial) (fun v G hv => ?_); subst hv; conv => whnf)
  | (refine XCall.val h2 (fun w hw => trivial) (fun v G hv => ?_); subst hv; conv => whnf)
  | (refine XUnit.ent (F' := ⟨fun _ => True, [] ++ [(b1, Row.c L)] ++ [(b2, Row.c Z)]⟩) (Ent.of_le ⟨by simp, fun w hw => trivial⟩) ?_; refine XUnit.storeTo tabOk rfl (b := b1) (k := 4) (X := L) rfl rfl (List.all_eq_true.1 (by rfl)) (by rw [hlen]; decide) (laid_cell hL.fly) ?_; conv => whnf)
  | (refine XUnit.ent (F' := ⟨fun _ => True, [] ++ [(b1, Row.c L)] ++ [(b2, Row.c Z)]⟩) (Ent.of_le ⟨by simp, fun w hw => trivial⟩) ?_; refine XUnit.storeTo tabOk rfl (b := b1) (k := 5) (X := L) rfl rfl (List.all_eq_true.1 (by rfl)) (by rw [hlen]; decide) (laid_cell hL.wait) ?_; conv => whnf)
  | (refine XHeld.mk ?_ ?_; (focus (first | exact Ent.refl _ | exact Ent.left _ _ | exact Ent.of_le ⟨List.sublist_append_left _ _, fun w h => h⟩ | exact Ent.of_le ⟨List.Sublist.refl _, fun w h => h.1⟩)); conv => whnf))
 refine XStop.draw tabOk mixed rfl rfl ?_
 conv => whnf
 repeat' (first
  | (refine And.intro ?_ ?_ <;> conv => whnf)
  | (refine XHeld.same rfl ?_; conv => whnf)
  | (refine XHeld.row rfl ?_; conv => whnf)
  | (refine XHeld.call rfl ?_; conv => whnf)
  | (refine XHeld.factCall rfl ?_; conv => whnf)
  | (refine XKeep.of ?_; conv => whnf)
  | (refine XSame.of ?_; conv => whnf)
  | (refine XDep.all _ _ _ _ ?_; conv => whnf)
  | (refine XRead.loads tabOk rfl rfl (ad := ⟨b1, 0, none⟩) (k := 6) (L := L) (m := CH) (Sees.row (by simp)) rfl hco hc0 ?_; conv => whnf)
  | (refine XRead.loads tabOk rfl rfl (ad := ⟨b1, 0, none⟩) (k := 14) (L := L) (m := CH) (Sees.row (by simp)) rfl hci hc0 ?_; conv => whnf)
  | (refine XCall.val h3 (fun w hw => trivial) (fun v G hv => ?_); subst hv; conv => whnf)
  | (refine XUnit.ent (F' := ⟨fun _ => True, [] ++ [(b1, Row.c L)] ++ [(b2, Row.c Z)]⟩) (Ent.of_le ⟨by simp, fun w hw => trivial⟩) ?_; refine XUnit.storeTo tabOk rfl (b := b1) (k := 6) (X := L) rfl (by show CH.length = 8; exact hc0) (fun u hu => ho u hu) (by rw [hlen]; decide) (laid_again hco (by rw [hlen]; decide)) ?_; conv => whnf)
  | (refine XUnit.ent (F' := ⟨fun _ => True, [] ++ [(b1, Row.c L)] ++ [(b2, Row.c Z)]⟩) (Ent.of_le ⟨by simp, fun w hw => trivial⟩) ?_; refine XUnit.storeTo tabOk rfl (b := b1) (k := 14) (X := L) rfl (by show CH.length = 8; exact hc0) (fun u hu => ho u hu) (by rw [hlen]; decide) (laid_again hci (by rw [hlen]; decide)) ?_; conv => whnf)
  | (refine XHeld.mk ?_ ?_; (focus (first | exact Ent.refl _ | exact Ent.left _ _ | exact Ent.of_le ⟨List.sublist_append_left _ _, fun w h => h⟩ | exact Ent.of_le ⟨List.Sublist.refl _, fun w h => h.1⟩)); conv => whnf))
 conv => whnf
 repeat (first | (refine XSame.of ?_; conv => whnf) | (refine XDep.all _ _ _ _ ?_; conv => whnf))
 refine XVal.of_read (XRead.loads tabOk rfl rfl (ad := ⟨b1, 0, none⟩) (k := 0) (L := L) (m := L) (Sees.row (by simp)) rfl (by rw [List.drop_zero]; exact List.take_of_length_le (by rw [hlen]; exact Nat.le_refl _)) hlen ?_)
 conv => whnf
 repeat (first | (refine XSame.of ?_; conv => whnf) | (refine XDep.all _ _ _ _ ?_; conv => whnf))
 refine XUnit.ent (F' := ⟨fun _ => True, [(b1, Row.c L)] ++ [(b2, Row.c Z)] ++ []⟩) (Ent.of_le ⟨by simp, fun w hw => trivial⟩) ?_
 refine XUnit.storeTo tabOk rfl (b := b2) (k := 0) (X := L) rfl (by show L.length = 22; exact hlen) (fun u hu => hone u hu) (by rw [hz]; exact Nat.le_refl _) (laid_whole (by rw [hz]; exact hlen)) ?_
 conv => whnf
 repeat (first | (refine XSame.of ?_; conv => whnf) | (refine XDep.all _ _ _ _ ?_; conv => whnf))
 refine ⟨b2, L, ⟨rfl, rfl, by simp, hlen⟩, ?_⟩
 conv => whnf
 repeat (first | (refine XSame.of ?_; conv => whnf) | (refine XDep.all _ _ _ _ ?_; conv => whnf))
 exact ⟨_, Ent.refl _, rfl⟩

theorem XRead_max3 {P : Program} {w0 : World} {R : Nat → Nat → Prop} {av : Nat → Prop} {bs : List (Nat × Nat)} {cs : List (List Value)} {F : Fx} {ts : Array TypeId} {ty : TypeId} {k : IntKind} {a b c : Int} {K : Value → Prop} (h : K (.int k (if c > (if b > a then b else a) then c else (if b > a then b else a)))) :
 XRead P w0 R av (Builtin.max_ ts ty #[.int k a, .int k b, .int k c]) bs cs F K := (XRead_iff _ _ _ _).2 ⟨_, fun w _ => rfl, h⟩

theorem lnkTick_idle (pat : Bs) (now : Int) (hp : pat.n ≤ 200) (h0 : 0 ≤ now) (h1 : now ≤ 1000000) : PureSpec Tryz.prog 28 [.agg ⟨lnkC (lnkI pat now)⟩] (fun _ => True) (fun v F => v = .tuple ⟨[.agg ⟨lnkC (lnkI pat (now + 1))⟩, .slice none 0 0]⟩) := by
 obtain ⟨e, he⟩ : ∃ e : Bool, e = true := ⟨_, rfl⟩
 have hv := linkValid_spec (lnkI pat now) Hd.nil_ok (Nat.zero_le _) Hd.nil_ok (Nat.zero_le _)
 have hok : lnkOk (lnkI pat now) = e := by
  rw [he]
  unfold lnkOk numOk
  simp only [Bool.and_eq_true, decide_eq_true_eq]
  refine ⟨⟨⟨⟨⟨⟨hp, ?_⟩, ?_⟩, ?_⟩, ?_⟩, ?_⟩, ?_⟩
  · show 0 ≤ now ∧ now ≤ 1099511627776
    omega
  · show (0 : Int) ≤ 0 ∧ (0 : Int) ≤ 1099511627776
    omega
  · show (0 : Int) ≤ 0 ∧ (0 : Int) ≤ 1099511627776
    omega
  · exact Nat.zero_le _
  · exact Nat.zero_le _
  · refine ⟨rfl, rfl, ?_, ?_⟩
    · show chOk (tagL · 0) false default = true
      kernel_rfl
    · show chOk (tagL · 1) false default = true
      kernel_rfl
 rw [hok] at hv
 obtain ⟨o, ho⟩ : ∃ o : Bool, o = false := ⟨_, rfl⟩
 obtain ⟨nf, hnf⟩ : ∃ n : Nat, n = 0 := ⟨_, rfl⟩
 have hL : LnkAt (lnkC (lnkI pat now)) now o := by rw [ho]; exact lnkI_at pat now
 have hM : LnkAt (lnkC (lnkI pat (now + 1))) (now + 1) o := by rw [ho]; exact lnkI_at pat (now + 1)
 have hc := lnkCopied_idle _ now o hL
 have hput : laid (lnkC (lnkI pat now)) 1 [.int .i64 (now + 1)] = lnkC (lnkI pat (now + 1)) := rfl
 have hpre : ∀ w, RowAt w (lnkI pat now).fh.a ((lnkI pat now).fly.flatMap fliC) ∧ RowAt w (lnkI pat now).wh.a ((lnkI pat now).wait.map bsV) := fun w => ⟨RowAt.nilA, RowAt.nilA⟩
 obtain ⟨L, hLe⟩ : ∃ x, lnkC (lnkI pat now) = x := ⟨_, rfl⟩
 obtain ⟨M, hMe⟩ : ∃ x, lnkC (lnkI pat (now + 1)) = x := ⟨_, rfl⟩
 rw [hLe] at hv hc hL hput ⊢
 rw [hMe] at hM hput ⊢
 obtain ⟨Z, hZ⟩ : ∃ x, lnkC lnk0 = x := ⟨_, rfl⟩
 have hz : (lnkC lnk0).length = 22 := rfl
 refine PureSpec.of_xc tabOk Tryz.func28 rfl (by decide) (n := Tryz.f28.ntmps - 1) rfl rfl fun w0 av => ?_
 conv => whnf
 repeat (first | (refine XSame.of ?_; conv => whnf) | (refine XDep.all _ _ _ _ ?_; conv => whnf))
 refine XVal.boxRow fun b1 => ?_
 conv => whnf
 repeat (first | (refine XSame.of ?_; conv => whnf) | (refine XDep.all _ _ _ _ ?_; conv => whnf))
 refine XVal.allocRow tabOk rfl (z := lnkC lnk0) (by kernel_rfl) fun b2 => ?_
 rw [hZ] at hz ⊢
 conv => whnf
 repeat (first | (refine XSame.of ?_; conv => whnf) | (refine XDep.all _ _ _ _ ?_; conv => whnf))
 refine XVal.ent (F' := ⟨fun _ => True, [] ++ [(b1, Row.c L)] ++ [(b2, Row.c Z)]⟩) (Ent.of_le ⟨by simp [Fx.and], fun w hw => trivial⟩) ?_
 refine XVal.of_read (XRead.loads tabOk rfl rfl (ad := ⟨b1, 0, none⟩) (k := 0) (L := L) (m := L) (Sees.row (by simp)) rfl (by rw [List.drop_zero]; exact List.take_of_length_le (by rw [hL.len]; exact Nat.le_refl _)) hL.len ?_)
 conv => whnf
 repeat (first | (refine XSame.of ?_; conv => whnf) | (refine XDep.all _ _ _ _ ?_; conv => whnf))
 refine XCall.val hv (fun w hw => hpre w) (fun v D hv => ?_)
 subst hv
 conv => whnf
 repeat (first | (refine XSame.of ?_; conv => whnf) | (refine XDep.all _ _ _ _ ?_; conv => whnf))
 rw [show (!e) = false from by rw [he]; rfl]
 conv => whnf
 repeat (first | (refine XSame.of ?_; conv => whnf) | (refine XDep.all _ _ _ _ ?_; conv => whnf))
 refine XVal.of_read (XRead.loadF tabOk rfl rfl (ad := ⟨b1, 0, none⟩) (k := 1) (L := L) (v := .int .i64 now) (Sees.row (by simp)) (fun _ => rfl) hL.now ?_)
 conv => whnf
 repeat (first | (refine XSame.of ?_; conv => whnf) | (refine XDep.all _ _ _ _ ?_; conv => whnf))
 refine XVal.of_read (XRead.loadF tabOk rfl rfl (ad := ⟨b1, 0, none⟩) (k := 2) (L := L) (v := .int .i64 0) (Sees.row (by simp)) (fun _ => rfl) hL.sent ?_)
 conv => whnf
 repeat (first | (refine XSame.of ?_; conv => whnf) | (refine XDep.all _ _ _ _ ?_; conv => whnf))
 refine XVal.of_read (XRead.loadF tabOk rfl rfl (ad := ⟨b1, 0, none⟩) (k := 3) (L := L) (v := .int .i64 0) (Sees.row (by simp)) (fun _ => rfl) hL.first ?_)
 conv => whnf
 repeat (first | (refine XSame.of ?_; conv => whnf) | (refine XDep.all _ _ _ _ ?_; conv => whnf))
 refine XVal.of_read (XRead_max3 ?_)
 rw [if_neg (show ¬ ((0 : Int) > now) by omega), if_neg (show ¬ ((0 : Int) > now) by omega)]
 conv => whnf
 repeat (first | (refine XSame.of ?_; conv => whnf) | (refine XDep.all _ _ _ _ ?_; conv => whnf))
 refine XIf.no (by simp [iGt_eq]; omega) ?_
 conv => whnf
 repeat (first | (refine XSame.of ?_; conv => whnf) | (refine XDep.all _ _ _ _ ?_; conv => whnf))
 refine XVal.of_read (XRead.loads tabOk rfl rfl (ad := ⟨b1, 0, none⟩) (k := 0) (L := L) (m := L) (Sees.row (by simp)) rfl (by rw [List.drop_zero]; exact List.take_of_length_le (by rw [hL.len]; exact Nat.le_refl _)) hL.len ?_)
 conv => whnf
 repeat (first | (refine XSame.of ?_; conv => whnf) | (refine XDep.all _ _ _ _ ?_; conv => whnf))
 refine XCall.val hc (fun w hw => trivial) (fun v D hv => ?_)
 subst hv
 conv => whnf
 repeat (first | (refine XSame.of ?_; conv => whnf) | (refine XDep.all _ _ _ _ ?_; conv => whnf))
 refine XUnit.ent (F' := ⟨fun _ => True, [] ++ [(b1, Row.c L)] ++ [(b2, Row.c Z)]⟩) (Ent.of_le ⟨by simp, fun w hw => trivial⟩) ?_
 refine XUnit.storeTo tabOk rfl (b := b1) (k := 0) (X := L) rfl (by show L.length = 22; exact hL.len) (fun u hu => hL.one u hu) (by rw [hL.len]; exact Nat.le_refl _) (laid_whole rfl) ?_
 conv => whnf
 repeat (first | (refine XSame.of ?_; conv => whnf) | (refine XDep.all _ _ _ _ ?_; conv => whnf))
 refine XVal.of_read (XRead.loadF tabOk rfl rfl (ad := ⟨b1, 0, none⟩) (k := 1) (L := L) (v := .int .i64 now) (Sees.row (by simp)) (fun _ => rfl) hL.now ?_)
 conv => whnf
 repeat (first | (refine XSame.of ?_; conv => whnf) | (refine XDep.all _ _ _ _ ?_; conv => whnf))
 rw [wrap_i64 (by omega)]
 refine XUnit.storeTo tabOk rfl (b := b1) (k := 1) (X := M) rfl rfl (List.all_eq_true.1 (by rfl)) (by rw [hL.len]; decide) hput ?_
 conv => whnf
 repeat (first | (refine XSame.of ?_; conv => whnf) | (refine XDep.all _ _ _ _ ?_; conv => whnf))
 refine XStop.once tabOk ?_
 have hfly : M[4]? = some (.slice none nf 0) := by rw [hnf]; exact hM.fly
 refine XStop.draw tabOk mixed rfl rfl ?_
 conv => whnf
 repeat' (first
  | (refine And.intro ?_ ?_ <;> conv => whnf)
  | (refine XHeld.same rfl ?_; conv => whnf)
  | (refine XHeld.row rfl ?_; conv => whnf)
  | (refine XHeld.call rfl ?_; conv => whnf)
  | (refine XHeld.factCall rfl ?_; conv => whnf)
  | (refine XKeep.of ?_; conv => whnf)
  | (refine XSame.of ?_; conv => whnf)
  | (refine XDep.all _ _ _ _ ?_; conv => whnf)
  | (refine XRead.loadF tabOk rfl rfl (ad := ⟨b1, 0, none⟩) (k := 4) (L := M) (v := .slice none nf 0) (Sees.row (by simp)) (fun _ => rfl) hfly ?_; conv => whnf)
  | (refine XHeld.mk ?_ ?_; (focus (first | exact Ent.refl _ | exact Ent.left _ _ | exact Ent.of_le ⟨List.sublist_append_left _ _, fun w h => h⟩ | exact Ent.of_le ⟨List.Sublist.refl _, fun w h => h.1⟩)); conv => whnf))
 rw [show iGt (nf : Int) 0 = false from by simp [iGt_eq, hnf]]
 conv => whnf
 repeat (first | (refine XSame.of ?_; conv => whnf) | (refine XDep.all _ _ _ _ ?_; conv => whnf))
 refine XVal.of_read (XRead.loads tabOk rfl rfl (ad := ⟨b1, 0, none⟩) (k := 6) (L := M) (m := ch0 o) (Sees.row (by simp)) rfl hM.co rfl ?_)
 refine fin_of (by simp) ?_
 dsimp only [List.set_cons_succ, List.set_cons_zero, List.length_cons, List.length_nil, List.cons_append, List.nil_append, Nat.zero_add, Nat.reduceAdd]
 refine xops_allocS (z := (ch0 false)) rfl rfl rfl (by simp) fun b3 => ?_
 dsimp only [List.set_cons_succ, List.set_cons_zero, List.length_cons, List.length_nil, List.cons_append, List.nil_append, Nat.zero_add, Nat.reduceAdd]
 conv => whnf
 repeat (first | (refine XSame.of ?_; conv => whnf) | (refine XDep.all _ _ _ _ ?_; conv => whnf))
 refine XIf.no (by simp [ho]) ?_
 conv => whnf
 repeat (first | (refine XSame.of ?_; conv => whnf) | (refine XDep.all _ _ _ _ ?_; conv => whnf))
 refine XVal.of_read (XRead.loads tabOk rfl rfl (ad := ⟨b1, 0, none⟩) (k := 14) (L := M) (m := ch0 o) (Sees.row (by simp)) rfl hM.ci rfl ?_)
 refine fin_of (by simp) ?_
 dsimp only [List.set_cons_succ, List.set_cons_zero, List.length_cons, List.length_nil, List.cons_append, List.nil_append, Nat.zero_add, Nat.reduceAdd]
 refine xops_allocS (z := (ch0 false)) rfl rfl rfl (by simp) fun b4 => ?_
 dsimp only [List.set_cons_succ, List.set_cons_zero, List.length_cons, List.length_nil, List.cons_append, List.nil_append, Nat.zero_add, Nat.reduceAdd]
 conv => whnf
 repeat (first | (refine XSame.of ?_; conv => whnf) | (refine XDep.all _ _ _ _ ?_; conv => whnf))
 refine XIf.no (by simp [ho]) ?_
 conv => whnf
 repeat (first | (refine XSame.of ?_; conv => whnf) | (refine XDep.all _ _ _ _ ?_; conv => whnf))
 refine XVal.of_read (XRead.loads tabOk rfl rfl (ad := ⟨b1, 0, none⟩) (k := 0) (L := M) (m := M) (Sees.row (by simp)) rfl (by rw [List.drop_zero]; exact List.take_of_length_le (by rw [hM.len]; exact Nat.le_refl _)) hM.len ?_)
 conv => whnf
 repeat (first | (refine XSame.of ?_; conv => whnf) | (refine XDep.all _ _ _ _ ?_; conv => whnf))
 refine XUnit.ent (F' := ⟨fun _ => True, [(b1, Row.c M)] ++ [(b2, Row.c Z)] ++ []⟩) (Ent.of_le ⟨by simp, fun w hw => trivial⟩) ?_
 refine XUnit.storeTo tabOk rfl (b := b2) (k := 0) (X := M) rfl (by show M.length = 22; exact hM.len) (fun u hu => hM.one u hu) (by rw [hz]; exact Nat.le_refl _) (laid_whole (by rw [hz]; exact hM.len)) ?_
 conv => whnf
 repeat (first | (refine XSame.of ?_; conv => whnf) | (refine XDep.all _ _ _ _ ?_; conv => whnf))
 refine ⟨b2, M, ⟨rfl, rfl, by simp, hM.len⟩, ?_⟩
 conv => whnf
 repeat (first | (refine XSame.of ?_; conv => whnf) | (refine XDep.all _ _ _ _ ?_; conv => whnf))
 exact ⟨_, Ent.refl _, rfl⟩

end Go.Proofs.YtakammghcodmgaaGreatDoor
namespace Go.Proofs.YtakammghcodmgaaGreatDoor
open Go Go.Sx
set_option maxRecDepth 100000
set_option maxHeartbeats 4000000
set_option linter.unusedVariables false
set_option linter.unusedSimpArgs false

def irq0 : List Value := [.bool false, .bool false, .bool false, .bool false, .bool false, .slice none 0 0]
def lin0 : List Value := [.int .i64 0, .int .i64 0, .int .i64 0, .slice none 0 0]
theorem irqTake_nil : PureSpec Tryz.prog 78 [.agg ⟨irq0⟩] (fun _ => True) (fun v F => v = .tuple ⟨[.agg ⟨irq0⟩, .agg ⟨lin0⟩, .bool false]⟩) := by
 obtain ⟨e, he⟩ : ∃ e : Bool, e = true := ⟨_, rfl⟩
 obtain ⟨z, hz⟩ : ∃ z : Int, z = -1 := ⟨_, rfl⟩
 have h1 := irqValid_spec false false false false false [] Hd.nil Hd.nil_ok (by decide)
 rw [show (allI ([] : List Lin).length (linOk []) && (decide (([] : List Lin).length ≤ 32) && !false)) = e from by rw [he]; rfl] at h1
 have h2 := fun fv => idxLin fv 0 rfl z hz
 refine PureSpec.of_xc tabOk Tryz.func78 rfl (by decide) (n := Tryz.f78.ntmps - 1) rfl rfl fun w0 av => ?_
 conv => whnf
 repeat (first | (refine XSame.of ?_; conv => whnf) | (refine XDep.all _ _ _ _ ?_; conv => whnf))
 intro b1
 refine snocK_of ?_
 refine snocK_of ?_
 refine fin_of (by simp) ?_
 dsimp only [List.set_cons_succ, List.set_cons_zero, List.length_cons, List.length_nil, List.cons_append, List.nil_append, Nat.zero_add, Nat.reduceAdd]
 refine xops_allocS (z := [.bool false, .bool false, .bool false, .bool false, .bool false, .slice none 0 0]) rfl rfl rfl (by simp) fun b2 => ?_
 dsimp only [List.set_cons_succ, List.set_cons_zero, List.length_cons, List.length_nil, List.cons_append, List.nil_append, Nat.zero_add, Nat.reduceAdd]
 refine xops_allocS (z := [.int .i64 0, .int .i64 0, .int .i64 0, .slice none 0 0]) rfl rfl rfl (by simp) fun b3 => ?_
 dsimp only [List.set_cons_succ, List.set_cons_zero, List.length_cons, List.length_nil, List.cons_append, List.nil_append, Nat.zero_add, Nat.reduceAdd]
 conv => whnf
 repeat (first | (refine XSame.of ?_; conv => whnf) | (refine XDep.all _ _ _ _ ?_; conv => whnf))
 refine XCall.val h1 (fun w hw => RowAt.nilA) (fun v D hv => ?_)
 subst hv
 conv => whnf
 repeat (first | (refine XSame.of ?_; conv => whnf) | (refine XDep.all _ _ _ _ ?_; conv => whnf))
 refine XIf.no (by simp [he]) ?_
 conv => whnf
 repeat (first | (refine XSame.of ?_; conv => whnf) | (refine XDep.all _ _ _ _ ?_; conv => whnf))
 refine XCall.val (h2 _) (fun w hw => trivial) (fun v D hv => ?_)
 subst hv
 conv => whnf
 repeat (first | (refine XSame.of ?_; conv => whnf) | (refine XDep.all _ _ _ _ ?_; conv => whnf))
 refine XIf.yes (by simp [iLt_eq, hz]) ?_
 conv => whnf
 repeat (first | (refine XSame.of ?_; conv => whnf) | (refine XDep.all _ _ _ _ ?_; conv => whnf))
 exact ⟨_, Ent.refl _, rfl⟩

theorem insNo (f : Value) (h : Hd) (n : Nat) (hn : n ≤ 1) (b : Int) (hb : b = n) : PureSpec Tryz.prog 201 [h.v n, .int .i64 0, .int .i64 b, f] (fun _ => True) (fun v F => v = .tuple ⟨[]⟩) := by
 refine PureSpec.of_xc tabOk Tryz.func201 rfl (by decide) (n := Tryz.f201.ntmps - 4) rfl rfl fun w0 av => ?_
 conv => whnf
 repeat (first | (refine XSame.of ?_; conv => whnf) | (refine XDep.all _ _ _ _ ?_; conv => whnf))
 refine XStop.once tabOk ?_
 conv => whnf
 repeat (first | (refine XSame.of ?_; conv => whnf) | (refine XDep.all _ _ _ _ ?_; conv => whnf))
 refine XIf.no (by rw [wrap_i64 (by omega)]; simp [iLt_eq]; omega) ?_
 conv => whnf
 repeat (first | (refine XSame.of ?_; conv => whnf) | (refine XDep.all _ _ _ _ ?_; conv => whnf))
 exact ⟨_, Ent.refl _, rfl⟩
theorem stableCmpNo (f : Value) (h : Hd) (n : Nat) (hn : n ≤ 1) : PureSpec Tryz.prog 146 [h.v n, .int .i64 (n : Int), f] (fun _ => True) (fun v F => v = .tuple ⟨[]⟩) := by
 have h1 := insNo f h n hn (n : Int) rfl
 refine PureSpec.of_xc tabOk Tryz.func146 rfl (by decide) (n := Tryz.f146.ntmps - 3) rfl rfl fun w0 av => ?_
 conv => whnf
 repeat (first | (refine XSame.of ?_; conv => whnf) | (refine XDep.all _ _ _ _ ?_; conv => whnf))
 refine XStop.once tabOk ?_
 conv => whnf
 repeat (first | (refine XSame.of ?_; conv => whnf) | (refine XDep.all _ _ _ _ ?_; conv => whnf))
 refine XIf.no (by simp [iLe_eq]; omega) ?_
 conv => whnf
 repeat (first | (refine XSame.of ?_; conv => whnf) | (refine XDep.all _ _ _ _ ?_; conv => whnf))
 refine XCall.val h1 (fun w hw => trivial) (fun v D hv => ?_)
 subst hv
 conv => whnf
 repeat (first | (refine XSame.of ?_; conv => whnf) | (refine XDep.all _ _ _ _ ?_; conv => whnf))
 refine XStop.once tabOk ?_
 conv => whnf
 repeat (first | (refine XSame.of ?_; conv => whnf) | (refine XDep.all _ _ _ _ ?_; conv => whnf))
 refine XIf.no (by simp [iLt_eq]; omega) ?_
 conv => whnf
 repeat (first | (refine XSame.of ?_; conv => whnf) | (refine XDep.all _ _ _ _ ?_; conv => whnf))
 exact ⟨_, Ent.refl _, rfl⟩
theorem stableNo (f : Value) (h : Hd) (n : Nat) (hn : n ≤ 1) : PureSpec Tryz.prog 81 [h.v n, f] (fun _ => True) (fun v F => v = .tuple ⟨[]⟩) := by
 have h1 := stableCmpNo f h n hn
 refine PureSpec.of_xc tabOk Tryz.func81 rfl (by decide) (n := Tryz.f81.ntmps - 2) rfl rfl fun w0 av => ?_
 conv => whnf
 repeat (first | (refine XSame.of ?_; conv => whnf) | (refine XDep.all _ _ _ _ ?_; conv => whnf))
 refine XCall.val h1 (fun w hw => trivial) (fun v D hv => ?_)
 subst hv
 conv => whnf
 repeat (first | (refine XSame.of ?_; conv => whnf) | (refine XDep.all _ _ _ _ ?_; conv => whnf))
 exact ⟨_, Ent.refl _, rfl⟩

/-- No timer. -/
theorem expire_none (h : Hd) (n : Nat) (hn : n = 0) (hh : h.Ok n) (now : Int) : PureSpec Tryz.prog 34 [h.v n, .int .i64 now] (fun w => True) (fun v F => ∃ k : Hd, k.Ok 0 ∧ v = .tuple ⟨[k.v 0, .slice none 0 0]⟩) := by
 have h1 := cloneTiO h n hh [] (by rw [hn]; rfl) (by omega) (fun v hv => by cases hv)
 have h2 := fun f => stableNo f Hd.nil 0 (by decide)
 refine PureSpec.of_xc tabOk Tryz.func34 rfl (by decide) (n := Tryz.f34.ntmps - 2) rfl rfl fun w0 av => ?_
 conv => whnf
 repeat (first | (refine XSame.of ?_; conv => whnf) | (refine XDep.all _ _ _ _ ?_; conv => whnf))
 refine XCall.pure h1 (fun w hw => RowAt.none' _) (fun v D hv => ?_)
 obtain ⟨a, cap, C, hO, rfl, rfl⟩ := hv
 conv => whnf
 repeat (first | (refine XSame.of ?_; conv => whnf) | (refine XDep.all _ _ _ _ ?_; conv => whnf))
 refine XStop.once tabOk ?_
 conv => whnf
 repeat (first | (refine XSame.of ?_; conv => whnf) | (refine XDep.all _ _ _ _ ?_; conv => whnf))
 refine XIf.no (by simp [iLt_eq, hn]) ?_
 conv => whnf
 repeat (first | (refine XSame.of ?_; conv => whnf) | (refine XDep.all _ _ _ _ ?_; conv => whnf))
 refine XCall.val (h2 _) (fun w hw => trivial) (fun v D hv => ?_)
 subst hv
 conv => whnf
 repeat (first | (refine XSame.of ?_; conv => whnf) | (refine XDep.all _ _ _ _ ?_; conv => whnf))
 refine XVal.of_read (XRead.slice tabOk (t := 100) rfl rfl rfl (lo := none) (hi := some 0) (mx := none) (k1 := .i64) (k3 := .i64) 0 0 cap rfl rfl rfl (by omega) (by omega) (Nat.le_refl _) (fun _ => rfl) ?_)
 conv => whnf
 repeat (first | (refine XSame.of ?_; conv => whnf) | (refine XDep.all _ _ _ _ ?_; conv => whnf))
 refine ⟨_, Ent.refl _, ⟨cutA a 0 cap 3, cap⟩, ⟨fun _ => rfl, Nat.zero_le _⟩, rfl⟩

/-- The only timer is kept. -/
theorem expire_keep (t : Ti) (h : Hd) (n : Nat) (hn : n = 1) (hh : h.Ok n) (now : Int) (hd : now < t.due) : PureSpec Tryz.prog 34 [h.v n, .int .i64 now] (fun w => RowAt w h.a (tiC t)) (fun v F => ∃ k : Hd, k.Ok 1 ∧ v = .tuple ⟨[k.v 1, .slice none 0 0]⟩ ∧ F = ⟨fun w => RowAt w k.a (tiC t), []⟩) := by
 have h1 := cloneTiO h n hh (tiC t) (by rw [hn]; rfl) (by omega) (List.all_eq_true.1 rfl)
 have h2 := fun f => stableNo f Hd.nil 0 (by decide)
 refine PureSpec.of_xc tabOk Tryz.func34 rfl (by decide) (n := Tryz.f34.ntmps - 2) rfl rfl fun w0 av => ?_
 conv => whnf
 repeat (first | (refine XSame.of ?_; conv => whnf) | (refine XDep.all _ _ _ _ ?_; conv => whnf))
 refine XCall.pure h1 (fun w hw => hw) (fun v D hv => ?_)
 obtain ⟨a, cap, C, hO, rfl, rfl⟩ := hv
 obtain ⟨ba, rfl⟩ := own_some hO (by omega)
 have hfit := hO.fit
 have hC : C.length = cap * 3 ∧ C.take (n * 3) = tiC t := by
  rcases hO.alt with ⟨h, _⟩ | ⟨b', _, h, h'⟩
  · cases h
  · exact ⟨h, h'⟩
 have hC3 : laid C 0 (tiC t) = C := laid_again (n := 3) (by rw [List.drop_zero, ← hC.2, hn]) (by omega)
 conv => whnf
 repeat (first | (refine XSame.of ?_; conv => whnf) | (refine XDep.all _ _ _ _ ?_; conv => whnf))
 refine XStop.rounds tabOk 2 ?_
 conv => whnf
 repeat (first | (refine XSame.of ?_; conv => whnf) | (refine XDep.all _ _ _ _ ?_; conv => whnf))
 refine XIf.yes (by simp [iLt_eq]; omega) ?_
 conv => whnf
 repeat (first | (refine XSame.of ?_; conv => whnf) | (refine XDep.all _ _ _ _ ?_; conv => whnf))
 refine XVal.of_read (XRead.index tabOk rfl rfl rfl (by omega) (by omega) (fun h0 => hh.nil h0) fun ad had => ?_)
 conv => whnf
 repeat (first | (refine XSame.of ?_; conv => whnf) | (refine XDep.all _ _ _ _ ?_; conv => whnf))
 refine XVal.of_read (XRead.loads tabOk (t := 98) rfl rfl (ad := ad) (k := 0) (L := tiC t) (m := tiC t) (.fact fun w hw => had ▸ hw.1) rfl rfl rfl ?_)
 refine fin_of (by simp) ?_
 dsimp only [List.set_cons_succ, List.set_cons_zero, List.length_cons, List.length_nil, List.cons_append, List.nil_append, Nat.zero_add, Nat.reduceAdd]
 refine xops_allocS (z := [.int .i64 0, .int .i64 0, .int .i64 0]) rfl rfl rfl (by simp) fun b3 => ?_
 dsimp only [List.set_cons_succ, List.set_cons_zero, List.length_cons, List.length_nil, List.cons_append, List.nil_append, Nat.zero_add, Nat.reduceAdd]
 conv => whnf
 repeat (first | (refine XSame.of ?_; conv => whnf) | (refine XDep.all _ _ _ _ ?_; conv => whnf))
 refine XIf.no (by simp [iLe_eq]; omega) ?_
 conv => whnf
 repeat (first | (refine XSame.of ?_; conv => whnf) | (refine XDep.all _ _ _ _ ?_; conv => whnf))
 refine XVal.of_read (XRead.index tabOk rfl rfl rfl (by omega) (by omega) (fun h0 => by cases h0) fun ad2 had2 => ?_)
 cases had2
 conv => whnf
 repeat (first | (refine XSame.of ?_; conv => whnf) | (refine XDep.all _ _ _ _ ?_; conv => whnf))
 refine XUnit.ent (F' := ⟨fun w => True, [] ++ [(ba, Row.c C)] ++ []⟩) (Ent.of_le ⟨by simp [Fx.and, orow], fun w hw => trivial⟩) ?_
 refine XUnit.storeTo tabOk rfl (b := ba) (k := 0) (X := C) rfl rfl (List.all_eq_true.1 (by rfl)) (by rw [hC.1]; show 0 + 3 ≤ cap * 3; omega) hC3 ?_
 conv => whnf
 repeat (first | (refine XSame.of ?_; conv => whnf) | (refine XDep.all _ _ _ _ ?_; conv => whnf))
 refine XIf.no (by rw [wrap_i64 (by omega)]; simp [iLt_eq]; omega) ?_
 conv => whnf
 repeat (first | (refine XSame.of ?_; conv => whnf) | (refine XDep.all _ _ _ _ ?_; conv => whnf))
 refine XCall.val (h2 _) (fun w hw => trivial) (fun v D hv => ?_)
 subst hv
 conv => whnf
 repeat (first | (refine XSame.of ?_; conv => whnf) | (refine XDep.all _ _ _ _ ?_; conv => whnf))
 refine XVal.of_read (XRead.slice tabOk (t := 100) rfl rfl rfl (lo := none) (hi := some 1) (mx := none) (k1 := .i64) (k3 := .i64) 0 1 cap rfl rfl rfl (by omega) (by omega) (Nat.le_refl _) (fun _ => rfl) ?_)
 conv => whnf
 repeat (first | (refine XSame.of ?_; conv => whnf) | (refine XDep.all _ _ _ _ ?_; conv => whnf))
 rw [cutA_zero]
 refine ⟨⟨fun w => RowAt w (some ⟨ba, 0, none⟩) (tiC t), []⟩, Ent.trans (Ent.of_le (F' := ⟨fun _ => True, [] ++ [(ba, Row.c C)]⟩) ⟨by simp, fun w hw => trivial⟩) (Ent.trans Ent.shareLast (Ent.imp fun w hw => ?_)), ⟨some ⟨ba, 0, none⟩, cap⟩, ⟨fun h => (by cases h), by show 1 ≤ cap; omega⟩, rfl, rfl⟩
 have := hw.2.take (n * 3)
 rw [hC.2] at this
 exact this

/-- The only timer goes off. -/
theorem expire_due (t : Ti) (h : Hd) (n : Nat) (hn : n = 1) (hh : h.Ok n) (now : Int) (hd : t.due ≤ now) : PureSpec Tryz.prog 34 [h.v n, .int .i64 now] (fun w => RowAt w h.a (tiC t)) (fun v F => ∃ k d : Hd, k.Ok 0 ∧ d.Ok 1 ∧ v = .tuple ⟨[k.v 0, d.v 1]⟩ ∧ F = ⟨fun w => RowAt w d.a (tiC t), []⟩) := by
 have h1 := cloneTiO h n hh (tiC t) (by rw [hn]; rfl) (by omega) (List.all_eq_true.1 rfl)
 have h2 := fun f h => stableNo f h 1 (by decide)
 refine PureSpec.of_xc tabOk Tryz.func34 rfl (by decide) (n := Tryz.f34.ntmps - 2) rfl rfl fun w0 av => ?_
 conv => whnf
 repeat (first | (refine XSame.of ?_; conv => whnf) | (refine XDep.all _ _ _ _ ?_; conv => whnf))
 refine XCall.pure h1 (fun w hw => hw) (fun v D hv => ?_)
 obtain ⟨a, cap, C, hO, rfl, rfl⟩ := hv
 obtain ⟨ba, rfl⟩ := own_some hO (by omega)
 conv => whnf
 repeat (first | (refine XSame.of ?_; conv => whnf) | (refine XDep.all _ _ _ _ ?_; conv => whnf))
 refine XStop.rounds tabOk 2 ?_
 conv => whnf
 repeat (first | (refine XSame.of ?_; conv => whnf) | (refine XDep.all _ _ _ _ ?_; conv => whnf))
 refine XIf.yes (by simp [iLt_eq]; omega) ?_
 conv => whnf
 repeat (first | (refine XSame.of ?_; conv => whnf) | (refine XDep.all _ _ _ _ ?_; conv => whnf))
 refine XVal.of_read (XRead.index tabOk rfl rfl rfl (by omega) (by omega) (fun h0 => hh.nil h0) fun ad had => ?_)
 conv => whnf
 repeat (first | (refine XSame.of ?_; conv => whnf) | (refine XDep.all _ _ _ _ ?_; conv => whnf))
 refine XVal.of_read (XRead.loads tabOk (t := 98) rfl rfl (ad := ad) (k := 0) (L := tiC t) (m := tiC t) (.fact fun w hw => had ▸ hw.1) rfl rfl rfl ?_)
 refine fin_of (by simp) ?_
 dsimp only [List.set_cons_succ, List.set_cons_zero, List.length_cons, List.length_nil, List.cons_append, List.nil_append, Nat.zero_add, Nat.reduceAdd]
 refine xops_allocS (z := [.int .i64 0, .int .i64 0, .int .i64 0]) rfl rfl rfl (by simp) fun b3 => ?_
 dsimp only [List.set_cons_succ, List.set_cons_zero, List.length_cons, List.length_nil, List.cons_append, List.nil_append, Nat.zero_add, Nat.reduceAdd]
 conv => whnf
 repeat (first | (refine XSame.of ?_; conv => whnf) | (refine XDep.all _ _ _ _ ?_; conv => whnf))
 refine XIf.yes (by simp [iLe_eq]; omega) ?_
 conv => whnf
 repeat (first | (refine XSame.of ?_; conv => whnf) | (refine XDep.all _ _ _ _ ?_; conv => whnf))
 refine XVal.build tabOk rfl rfl rfl [.agg ⟨tiC t⟩] rfl rfl (by simp [Value.cells, tiC]) (by simp) fun b5 => ?_
 conv => whnf
 repeat (first | (refine XSame.of ?_; conv => whnf) | (refine XDep.all _ _ _ _ ?_; conv => whnf))
 refine XVal.ent (F' := ⟨fun w => RowAt w h.a (tiC t), [] ++ orow none [] ++ [(b5, Row.c (tiC t))]⟩) (Ent.of_le ⟨by simp [Fx.and, Value.cells, orow], fun w hw => hw.1⟩) ?_
 refine XVal.append1 tabOk rfl rfl rfl rfl rfl rfl (M := tiC t) (Sx.Owg.nil 3) (Sees.row (by simp [orow])) rfl (List.all_eq_true.1 rfl) (by omega) (by decide) fun a' cap' C' hO' => ?_
 conv => whnf
 repeat (first | (refine XSame.of ?_; conv => whnf) | (refine XDep.all _ _ _ _ ?_; conv => whnf))
 refine XIf.no (by rw [wrap_i64 (by omega)]; simp [iLt_eq]; omega) ?_
 conv => whnf
 repeat (first | (refine XSame.of ?_; conv => whnf) | (refine XDep.all _ _ _ _ ?_; conv => whnf))
 refine XCall.val (h2 _ ⟨a', cap'⟩) (fun w hw => trivial) (fun v D hv => ?_)
 subst hv
 conv => whnf
 repeat (first | (refine XSame.of ?_; conv => whnf) | (refine XDep.all _ _ _ _ ?_; conv => whnf))
 refine XVal.of_read (XRead.slice tabOk (t := 100) rfl rfl rfl (lo := none) (hi := some 0) (mx := none) (k1 := .i64) (k3 := .i64) 0 0 cap rfl rfl rfl (by omega) (by omega) (Nat.le_refl _) (fun _ => rfl) ?_)
 conv => whnf
 repeat (first | (refine XSame.of ?_; conv => whnf) | (refine XDep.all _ _ _ _ ?_; conv => whnf))
 have hO2 : Sx.Owg 3 1 a' cap' C' (tiC t) := hO'
 refine ⟨⟨fun w => RowAt w a' (tiC t), []⟩, ?_, ⟨cutA (some ⟨ba, 0, none⟩) 0 cap 3, cap⟩, ⟨a', cap'⟩, ⟨fun _ => rfl, Nat.zero_le _⟩, ⟨hO2.none_nil, hO2.fit⟩, rfl, rfl⟩
 exact Ent.trans (Ent.of_le (F' := ⟨fun _ => True, [] ++ orow a' C' ++ []⟩) ⟨by simp, fun w hw => trivial⟩) (Ent.trans (hO2.share (r1 := []) (r2 := [])) (Ent.imp fun w hw => hw.2))

end Go.Proofs.YtakammghcodmgaaGreatDoor
namespace Go.Proofs.YtakammghcodmgaaGreatDoor
open Go Go.Sx
set_option maxRecDepth 100000
set_option maxHeartbeats 4000000
set_option linter.unusedVariables false
set_option linter.unusedSimpArgs false

/-- An idle channel. -/
def dch0 (o : Bool) : Chn := { (default : Chn) with opn := o }

theorem diskCopied_idle (l : List Bs) (o : Bool) (ho : o = false) (h : Hd) (hh : h.Ok l.length) (hl : l.length ≤ 100000) : PureSpec Tryz.prog 61 [.agg ⟨h.v l.length :: dchC (dch0 o)⟩] (fun w => RowAt w h.a (l.map bsV))
 (fun v F => ∃ a cap C, Sx.Owg 1 l.length a cap C (l.map bsV) ∧ v = .agg ⟨.slice a l.length cap :: dchC (dch0 o)⟩ ∧ F = ⟨fun _ => True, orow a C⟩) := by
 have h1 := cloneBkO h l.length hh (l.map bsV) (by simp) (by omega) (by intro v hv; obtain ⟨x, _, rfl⟩ := List.mem_map.1 hv; rfl)
 have h2 := cloneBy_nil
 refine PureSpec.of_xc tabOk Tryz.func61 rfl (by decide) (n := Tryz.f61.ntmps - 1) rfl rfl fun w0 av => ?_
 conv => whnf
 repeat (first | (refine XSame.of ?_; conv => whnf) | (refine XDep.all _ _ _ _ ?_; conv => whnf))
 intro b1
 refine snoc_step ?_
 refine snoc_step ?_
 unfold fin
 dsimp only
 unfold setK
 dsimp only
 unfold setK
 dsimp only
 refine xops_alloc1 (ti := (Sx.look tab 72).get rfl) rfl rfl ?_
 conv => whnf
 intro b2
 conv => whnf
 repeat (first | (refine XSame.of ?_; conv => whnf) | (refine XDep.all _ _ _ _ ?_; conv => whnf))
 refine XCall.pure h1 (fun w hw => hw) (fun v D hv => ?_)
 obtain ⟨a, cap, C, hO, rfl, rfl⟩ := hv
 conv => whnf
 repeat (first | (refine XSame.of ?_; conv => whnf) | (refine XDep.all _ _ _ _ ?_; conv => whnf))
 refine XCall.val h2 (fun w hw => trivial) (fun v D hv => ?_)
 subst hv
 conv => whnf
 repeat (first | (refine XSame.of ?_; conv => whnf) | (refine XDep.all _ _ _ _ ?_; conv => whnf))
 refine XCall.val h2 (fun w hw => trivial) (fun v D hv => ?_)
 subst hv
 conv => whnf
 repeat (first | (refine XSame.of ?_; conv => whnf) | (refine XDep.all _ _ _ _ ?_; conv => whnf))
 exact ⟨⟨fun _ => True, orow a C⟩, Ent.of_le ⟨by simp [Fx.and], fun w hw => trivial⟩, a, cap, C, hO, rfl, rfl⟩

theorem diskTick_idle (l : List Bs) (o : Bool) (ho : o = false) (h : Hd) (hh : h.Ok l.length) (hl : l.length ≤ 100000) (hv : (pagesOk 160 l && chOk tagD true (dch0 o)) = true) : PureSpec Tryz.prog 27 [.agg ⟨h.v l.length :: dchC (dch0 o)⟩] (fun w => RowAt w h.a (l.map bsV))
 (fun v F => ∃ k : Hd, k.Ok l.length ∧ v = .tuple ⟨[.agg ⟨k.v l.length :: dchC (dch0 o)⟩, .slice none 0 0]⟩ ∧ F = ⟨fun w => RowAt w k.a (l.map bsV), []⟩) := by
 have h1 := diskValid_spec l h hh (by omega) (dch0 o)
 rw [hv] at h1
 have h2 := diskCopied_idle l o ho h hh hl
 refine PureSpec.of_xc tabOk Tryz.func27 rfl (by decide) (n := Tryz.f27.ntmps - 1) rfl rfl fun w0 av => ?_
 conv => whnf
 repeat (first | (refine XSame.of ?_; conv => whnf) | (refine XDep.all _ _ _ _ ?_; conv => whnf))
 intro b1
 refine snoc_step ?_
 refine snoc_step ?_
 unfold fin
 dsimp only
 unfold setK
 dsimp only
 unfold setK
 dsimp only
 refine xops_alloc1 (ti := (Sx.look tab 72).get rfl) rfl rfl ?_
 conv => whnf
 intro b2
 conv => whnf
 repeat (first | (refine XSame.of ?_; conv => whnf) | (refine XDep.all _ _ _ _ ?_; conv => whnf))
 refine XCall.val h1 (fun w hw => hw) (fun v D hv => ?_)
 subst hv
 conv => whnf
 repeat (first | (refine XSame.of ?_; conv => whnf) | (refine XDep.all _ _ _ _ ?_; conv => whnf))
 refine XCall.pure h2 (fun w hw => hw) (fun v D hv => ?_)
 obtain ⟨a, cap, C, hO, rfl, rfl⟩ := hv
 conv => whnf
 repeat (first | (refine XSame.of ?_; conv => whnf) | (refine XDep.all _ _ _ _ ?_; conv => whnf))
 refine XIf.yes (by simp [ho, dch0]) ?_
 conv => whnf
 repeat (first | (refine XSame.of ?_; conv => whnf) | (refine XDep.all _ _ _ _ ?_; conv => whnf))
 refine ⟨⟨fun w => RowAt w a (l.map bsV), []⟩, Ent.trans (Ent.of_le (F' := ⟨fun _ => True, [] ++ orow a C ++ []⟩) ⟨by simp [Fx.and], fun w hw => trivial⟩) (Ent.trans (hO.share (r1 := []) (r2 := [])) (Ent.imp fun w hw => hw.2)), ⟨a, cap⟩, ⟨hO.none_nil, hO.fit⟩, rfl, rfl⟩

end Go.Proofs.YtakammghcodmgaaGreatDoor
namespace Go.Proofs.YtakammghcodmgaaGreatDoor
open Go Go.Sx
set_option maxRecDepth 100000
set_option maxHeartbeats 4000000
set_option linter.unusedVariables false
set_option linter.unusedSimpArgs false

/-- What arrives: the next place and pause, and the bytes. -/
def arr (I : List UInt8) (pos pa : Nat) : Nat × Nat × List UInt8 :=
 if 0 < pa then (pos, pa - 1, [])
 else if pos = I.length then (pos, pa, [])
 else if 128 ≤ (I.getD pos 0).toNat then (pos + 1, (I.getD pos 0).toNat - 128, []) else (pos + 1, pa, [I.getD pos 0])
theorem arr_pos {I : List UInt8} {pos pa : Nat} (h : pos ≤ I.length) : (arr I pos pa).1 ≤ I.length ∧ pos ≤ (arr I pos pa).1 := by
 unfold arr
 repeat' split
 all_goals (dsimp only; omega)
theorem arr_pa {I : List UInt8} {pos pa : Nat} (h : pa < 128) : (arr I pos pa).2.1 < 128 := by
 unfold arr
 have := (I.getD pos 0).toNat_lt
 repeat' split
 all_goals (dsimp only; omega)
theorem arr_len {I : List UInt8} {pos pa : Nat} : (arr I pos pa).2.2.length ≤ 1 ∧ pos + (arr I pos pa).2.2.length ≤ (arr I pos pa).1 := by
 unfold arr
 repeat' split
 all_goals (dsimp only [List.length]; omega)

/-- A serial line without commands. -/
def serI (hi : Hd) (I : List UInt8) (pos pa : Nat) (hg : Hd) (G : List UInt8) : Ser := ⟨⟨hi, I.length⟩, (pos : Int), (pa : Int), ⟨hg, G.length⟩, default, default, default⟩
theorem serI_one (hi : Hd) (I : List UInt8) (pos pa : Nat) (hg : Hd) (G : List UInt8) : ∀ v ∈ serC (serI hi I pos pa hg G), oneCell v = true := List.all_eq_true.1 rfl

theorem clip_spec (h : Hd) (n : Nat) (hh : h.Ok n) : PureSpec Tryz.prog 126 [h.v n] (fun w => True) (fun v F => v = .slice h.a n n) := by
 refine PureSpec.of_xc tabOk Tryz.func126 rfl (by decide) (n := Tryz.f126.ntmps - 1) rfl rfl fun w0 av => ?_
 conv => whnf
 repeat (first | (refine XSame.of ?_; conv => whnf) | (refine XDep.all _ _ _ _ ?_; conv => whnf))
 refine XVal.of_read (XRead.slice tabOk (t := 22) rfl rfl rfl (lo := none) (hi := some (n : Int)) (mx := some (n : Int)) (k1 := .i64) 0 n n rfl rfl rfl (by omega) (by omega) hh.cap (fun _ => rfl) ?_)
 conv => whnf
 repeat (first | (refine XSame.of ?_; conv => whnf) | (refine XDep.all _ _ _ _ ?_; conv => whnf))
 exact ⟨_, Ent.refl _, by rw [cutA_zero]; rfl⟩

theorem serCh_copied (o : Bool) : PureSpec Tryz.prog 127 [.agg ⟨ch0 o⟩] (fun _ => True) (fun v F => v = .agg ⟨ch0 o⟩) := by
 have h1 := cloneBy_nil
 refine PureSpec.of_xc tabOk Tryz.func127 rfl (by decide) (n := Tryz.f127.ntmps - 1) rfl rfl fun w0 av => ?_
 conv => whnf
 repeat (first | (refine XSame.of ?_; conv => whnf) | (refine XDep.all _ _ _ _ ?_; conv => whnf))
 intro b1
 refine snocK_of ?_
 refine snocK_of ?_
 refine fin_of (by simp) ?_
 dsimp only [List.set_cons_succ, List.set_cons_zero, List.length_cons, List.length_nil, List.cons_append, List.nil_append, Nat.zero_add, Nat.reduceAdd]
 refine xops_allocS (z := (ch0 false)) rfl rfl rfl (by simp) fun b2 => ?_
 dsimp only [List.set_cons_succ, List.set_cons_zero, List.length_cons, List.length_nil, List.cons_append, List.nil_append, Nat.zero_add, Nat.reduceAdd]
 refine XStop.draw tabOk mixed rfl rfl ?_
 conv => whnf
 repeat' (first
  | (refine And.intro ?_ ?_ <;> conv => whnf)
  | (refine XHeld.same rfl ?_; conv => whnf)
  | (refine XHeld.row rfl ?_; conv => whnf)
  | (refine XHeld.call rfl ?_; conv => whnf)
  | (refine XHeld.factCall rfl ?_; conv => whnf)
  | (refine XKeep.of ?_; conv => whnf)
  | (refine XSame.of ?_; conv => whnf)
  | (refine XDep.all _ _ _ _ ?_; conv => whnf)
  | (refine XCall.val h1 (fun w hw => trivial) (fun v D hv => ?_); subst hv; conv => whnf)
  | (refine XHeld.mk ?_ ?_; (focus (first | exact Ent.refl _ | exact Ent.left _ _ | exact Ent.of_le ⟨List.sublist_append_left _ _, fun w h => h⟩ | exact Ent.of_le ⟨List.Sublist.refl _, fun w h => h.1⟩)); conv => whnf))
 all_goals exact ⟨_, Ent.refl _, rfl⟩

/-- The cells of a serial line that are looked at. -/
structure SerAt (L : List Value) (ni : Nat) (hi : Hd) (pos pa : Nat) (ng : Nat) (hg : Hd) (o : Bool) : Prop where
 len : L.length = 21
 one : ∀ v ∈ L, oneCell v = true
 inp : L[0]? = some (hi.v ni)
 pos : L[1]? = some (.int .i64 (pos : Int))
 pa : L[2]? = some (.int .i64 (pa : Int))
 got : L[3]? = some (hg.v ng)
 out : L[4]? = some (.slice none 0 0)
 co : (L.drop 5).take 8 = ch0 o
 ci : (L.drop 13).take 8 = ch0 o
theorem serI_at (hi : Hd) (I : List UInt8) (pos pa : Nat) (hg : Hd) (G : List UInt8) : SerAt (serC (serI hi I pos pa hg G)) I.length hi pos pa G.length hg false := ⟨rfl, serI_one _ _ _ _ _ _, rfl, rfl, rfl, rfl, rfl, rfl, rfl⟩
theorem serI_got (hi : Hd) (I : List UInt8) (pos pa : Nat) (hg hg' : Hd) (G G' : List UInt8) : laid (serC (serI hi I pos pa hg G)) 3 [hg'.v G'.length] = serC (serI hi I pos pa hg' G') := rfl

theorem serCopied_idle (hi : Hd) (I : List UInt8) (pos pa : Nat) (hg : Hd) (G : List UInt8) (hgo : hg.Ok G.length) : PureSpec Tryz.prog 69 [.agg ⟨serC (serI hi I pos pa hg G)⟩] (fun _ => True) (fun v F => v = .agg ⟨serC (serI hi I pos pa ⟨hg.a, G.length⟩ G)⟩) := by
 obtain ⟨o, ho⟩ : ∃ o : Bool, o = false := ⟨_, rfl⟩
 have hL : SerAt (serC (serI hi I pos pa hg G)) I.length hi pos pa G.length hg o := by rw [ho]; exact serI_at _ _ _ _ _ _
 have hM : SerAt (serC (serI hi I pos pa ⟨hg.a, G.length⟩ G)) I.length hi pos pa G.length ⟨hg.a, G.length⟩ o := by rw [ho]; exact serI_at _ _ _ _ _ _
 have hput := serI_got hi I pos pa hg ⟨hg.a, G.length⟩ G G
 have h1 := clip_spec hg G.length hgo
 have h2 := clip_spec Hd.nil 0 Hd.nil_ok
 have h3 := serCh_copied o
 have hz : (serC default).length = 21 := rfl
 have hc0 : (ch0 o).length = 8 := rfl
 have hone0 := ch0_one o
 have hco := hL.co
 have hci := hL.ci
 have hcoM := hM.co
 have hciM := hM.ci
 obtain ⟨CH, hCH⟩ : ∃ x, ch0 o = x := ⟨_, rfl⟩
 rw [hCH] at h3 hc0 hone0 hco hci hcoM hciM
 obtain ⟨L, hLe⟩ : ∃ x, serC (serI hi I pos pa hg G) = x := ⟨_, rfl⟩
 obtain ⟨M, hMe⟩ : ∃ x, serC (serI hi I pos pa ⟨hg.a, G.length⟩ G) = x := ⟨_, rfl⟩
 rw [hLe] at hL hput hco hci ⊢
 rw [hMe] at hM hput hcoM hciM ⊢
 refine PureSpec.of_xc tabOk Tryz.func69 rfl (by decide) (n := Tryz.f69.ntmps - 1) rfl rfl fun w0 av => ?_
 conv => whnf
 repeat (first | (refine XSame.of ?_; conv => whnf) | (refine XDep.all _ _ _ _ ?_; conv => whnf))
 refine XVal.boxRow fun b1 => ?_
 conv => whnf
 repeat (first | (refine XSame.of ?_; conv => whnf) | (refine XDep.all _ _ _ _ ?_; conv => whnf))
 refine XVal.allocRow tabOk rfl (z := serC default) (by kernel_rfl) fun b2 => ?_
 obtain ⟨Z, hZ⟩ : ∃ x, serC default = x := ⟨_, rfl⟩
 rw [hZ] at hz ⊢
 conv => whnf
 repeat (first | (refine XSame.of ?_; conv => whnf) | (refine XDep.all _ _ _ _ ?_; conv => whnf))
 refine XStop.ent (F' := ⟨fun _ => True, [] ++ [(b1, Row.c L)] ++ [(b2, Row.c Z)]⟩) (Ent.of_le ⟨by simp [Fx.and], fun w hw => trivial⟩) ?_
 refine XStop.draw tabOk mixed rfl rfl ?_
 conv => whnf
 repeat' (first
  | (refine And.intro ?_ ?_ <;> conv => whnf)
  | (refine XHeld.same rfl ?_; conv => whnf)
  | (refine XHeld.row rfl ?_; conv => whnf)
  | (refine XHeld.call rfl ?_; conv => whnf)
  | (refine XHeld.factCall rfl ?_; conv => whnf)
  | (refine XKeep.of ?_; conv => whnf)
  | (refine XSame.of ?_; conv => whnf)
  | (refine XDep.all _ _ _ _ ?_; conv => whnf)
  | (refine XRead.loadF tabOk rfl rfl (ad := ⟨b1, 0, none⟩) (k := 3) (L := L) (v := hg.v G.length) (Sees.row (by simp)) (fun _ => rfl) hL.got ?_; conv => whnf)
  | (refine XRead.loadF tabOk rfl rfl (ad := ⟨b1, 0, none⟩) (k := 4) (L := L) (v := .slice none 0 0) (Sees.row (by simp)) (fun _ => rfl) hL.out ?_; conv => whnf)
  | (refine XCall.val h1 (fun w hw => trivial) (fun v G hv => ?_); subst hv; conv => whnf)
  | (refine XCall.val h2 (fun w hw => trivial) (fun v G hv => ?_); subst hv; conv => whnf)
  | (refine XUnit.ent (F' := ⟨fun _ => True, [] ++ [(b1, Row.c L)] ++ [(b2, Row.c Z)]⟩) (Ent.of_le ⟨by simp, fun w hw => trivial⟩) ?_; refine XUnit.storeTo tabOk rfl (b := b1) (k := 3) (X := M) rfl rfl (List.all_eq_true.1 (by rfl)) (by rw [hL.len]; decide) hput ?_; conv => whnf)
  | (refine XUnit.ent (F' := ⟨fun _ => True, [] ++ [(b1, Row.c M)] ++ [(b2, Row.c Z)]⟩) (Ent.of_le ⟨by simp, fun w hw => trivial⟩) ?_; refine XUnit.storeTo tabOk rfl (b := b1) (k := 4) (X := M) rfl rfl (List.all_eq_true.1 (by rfl)) (by rw [hM.len]; decide) (laid_cell hM.out) ?_; conv => whnf)
  | (refine XHeld.mk ?_ ?_; (focus (first | exact Ent.refl _ | exact Ent.left _ _ | exact Ent.of_le ⟨List.sublist_append_left _ _, fun w h => h⟩ | exact Ent.of_le ⟨List.Sublist.refl _, fun w h => h.1⟩)); conv => whnf))
 refine XStop.draw tabOk mixed rfl rfl ?_
 conv => whnf
 repeat' (first
  | (refine And.intro ?_ ?_ <;> conv => whnf)
  | (refine XHeld.same rfl ?_; conv => whnf)
  | (refine XHeld.row rfl ?_; conv => whnf)
  | (refine XHeld.call rfl ?_; conv => whnf)
  | (refine XHeld.factCall rfl ?_; conv => whnf)
  | (refine XKeep.of ?_; conv => whnf)
  | (refine XSame.of ?_; conv => whnf)
  | (refine XDep.all _ _ _ _ ?_; conv => whnf)
  | (refine XRead.loads tabOk rfl rfl (ad := ⟨b1, 0, none⟩) (k := 5) (L := M) (m := CH) (Sees.row (by simp)) rfl hcoM hc0 ?_; conv => whnf)
  | (refine XRead.loads tabOk rfl rfl (ad := ⟨b1, 0, none⟩) (k := 13) (L := M) (m := CH) (Sees.row (by simp)) rfl hciM hc0 ?_; conv => whnf)
  | (refine XCall.val h3 (fun w hw => trivial) (fun v G hv => ?_); subst hv; conv => whnf)
  | (refine XUnit.ent (F' := ⟨fun _ => True, [] ++ [(b1, Row.c M)] ++ [(b2, Row.c Z)]⟩) (Ent.of_le ⟨by simp, fun w hw => trivial⟩) ?_; refine XUnit.storeTo tabOk rfl (b := b1) (k := 5) (X := M) rfl (by show CH.length = 8; exact hc0) (fun u hu => hone0 u hu) (by rw [hM.len]; decide) (laid_again hcoM (by rw [hM.len]; decide)) ?_; conv => whnf)
  | (refine XUnit.ent (F' := ⟨fun _ => True, [] ++ [(b1, Row.c M)] ++ [(b2, Row.c Z)]⟩) (Ent.of_le ⟨by simp, fun w hw => trivial⟩) ?_; refine XUnit.storeTo tabOk rfl (b := b1) (k := 13) (X := M) rfl (by show CH.length = 8; exact hc0) (fun u hu => hone0 u hu) (by rw [hM.len]; decide) (laid_again hciM (by rw [hM.len]; decide)) ?_; conv => whnf)
  | (refine XHeld.mk ?_ ?_; (focus (first | exact Ent.refl _ | exact Ent.left _ _ | exact Ent.of_le ⟨List.sublist_append_left _ _, fun w h => h⟩ | exact Ent.of_le ⟨List.Sublist.refl _, fun w h => h.1⟩)); conv => whnf))
 conv => whnf
 repeat (first | (refine XSame.of ?_; conv => whnf) | (refine XDep.all _ _ _ _ ?_; conv => whnf))
 refine XVal.of_read (XRead.loads tabOk rfl rfl (ad := ⟨b1, 0, none⟩) (k := 0) (L := M) (m := M) (Sees.row (by simp)) rfl (by rw [List.drop_zero]; exact List.take_of_length_le (by rw [hM.len]; exact Nat.le_refl _)) hM.len ?_)
 conv => whnf
 repeat (first | (refine XSame.of ?_; conv => whnf) | (refine XDep.all _ _ _ _ ?_; conv => whnf))
 refine XUnit.ent (F' := ⟨fun _ => True, [(b1, Row.c M)] ++ [(b2, Row.c Z)] ++ []⟩) (Ent.of_le ⟨by simp, fun w hw => trivial⟩) ?_
 refine XUnit.storeTo tabOk rfl (b := b2) (k := 0) (X := M) rfl (by show M.length = 21; exact hM.len) (fun u hu => hM.one u hu) (by rw [hz]; exact Nat.le_refl _) (laid_whole (by rw [hz]; exact hM.len)) ?_
 conv => whnf
 repeat (first | (refine XSame.of ?_; conv => whnf) | (refine XDep.all _ _ _ _ ?_; conv => whnf))
 refine ⟨b2, M, ⟨rfl, rfl, by simp, hM.len⟩, ?_⟩
 conv => whnf
 repeat (first | (refine XSame.of ?_; conv => whnf) | (refine XDep.all _ _ _ _ ?_; conv => whnf))
 exact ⟨_, Ent.refl _, rfl⟩

theorem and128 : ∀ x : UInt8, (Sx.bits .and .u8 (x.toNat : Int) 128 = 0 ↔ x.toNat < 128) ∧ (128 ≤ x.toNat → IntKind.i64.wrap (Sx.bits .andNot .u8 (x.toNat : Int) 128) = (x.toNat : Int) - 128) := by
 have h : ∀ n : Fin 256, (Sx.bits .and .u8 (n.val : Int) 128 = 0 ↔ n.val < 128) ∧ (128 ≤ n.val → IntKind.i64.wrap (Sx.bits .andNot .u8 (n.val : Int) 128) = (n.val : Int) - 128) := by decide +kernel
 intro x
 exact h ⟨x.toNat, x.toNat_lt⟩

theorem serI_pa (hi : Hd) (I : List UInt8) (pos pa pa' : Nat) (hg : Hd) (G : List UInt8) : laid (serC (serI hi I pos pa hg G)) 2 [.int .i64 (pa' : Int)] = serC (serI hi I pos pa' hg G) := rfl
theorem serI_pos (hi : Hd) (I : List UInt8) (pos pa pos' : Nat) (hg : Hd) (G : List UInt8) : laid (serC (serI hi I pos pa hg G)) 1 [.int .i64 (pos' : Int)] = serC (serI hi I pos' pa hg G) := rfl

/-- What arrives is told as the plain function tells. -/
theorem arr_pause {I : List UInt8} {pos pa : Nat} (h : 0 < pa) : arr I pos pa = (pos, pa - 1, []) := by
 unfold arr
 rw [if_pos h]
theorem arr_end {I : List UInt8} {pos pa : Nat} (h : ¬ 0 < pa) (h2 : pos = I.length) : arr I pos pa = (pos, pa, []) := by
 unfold arr
 rw [if_neg h, if_pos h2]
theorem arr_stop {I : List UInt8} {pos pa : Nat} (h : ¬ 0 < pa) (hp : pos < I.length) (h3 : 128 ≤ I[pos].toNat) : arr I pos pa = (pos + 1, I[pos].toNat - 128, []) := by
 have e : I.getD pos 0 = I[pos] := by simp [hp]
 unfold arr
 rw [if_neg h, if_neg (by omega), e, if_pos h3]
theorem arr_byte {I : List UInt8} {pos pa : Nat} (h : ¬ 0 < pa) (hp : pos < I.length) (h3 : ¬ 128 ≤ I[pos].toNat) : arr I pos pa = (pos + 1, pa, [I[pos]]) := by
 have e : I.getD pos 0 = I[pos] := by simp [hp]
 unfold arr
 rw [if_neg h, if_neg (by omega), e, if_neg h3]

/-- A serial line's row with a byte's arrival. -/
def RelAr (b : Nat) (hi : Hd) (I : List UInt8) (G : List UInt8) (r : Nat × Nat × List UInt8) (v : Value) (F : Fx) : Prop :=
 ∃ hg' k : Hd, hg'.Ok (G ++ r.2.2).length ∧ k.Ok r.2.2.length ∧ v = k.v r.2.2.length ∧ F = ⟨fun w => By w hg' (G ++ r.2.2) ∧ By w k r.2.2, [(b, Row.c (serC (serI hi I r.1 r.2.1 hg' (G ++ r.2.2))))]⟩

theorem serArrive_spec (b : Nat) (hi : Hd) (I : List UInt8) (pos pa : Nat) (hg : Hd) (G : List UInt8) (hio : hi.Ok I.length) (hI : I.length ≤ 4000) (hpos : pos ≤ I.length) (hpa : pa < 128) (hG : G.length ≤ pos) (hgo : hg.Ok G.length) (hgc : hg.c = G.length) :
 RowsSpec Tryz.prog 70 [.pointer (some ⟨b, 0, none⟩)] [(b, Row.c (serC (serI hi I pos pa hg G)))] (fun w => By w hi I ∧ By w hg G) (RelAr b hi I G (arr I pos pa)) := by
 have hL : SerAt (serC (serI hi I pos pa hg G)) I.length hi pos pa G.length hg false := serI_at _ _ _ _ _ _
 have hpaput := fun pa' => serI_pa hi I pos pa pa' hg G
 have hposput := serI_pos hi I pos pa (pos + 1) hg G
 have hpaput1 := fun pa' => serI_pa hi I (pos + 1) pa pa' hg G
 have hgput1 := fun h c => serI_got hi I (pos + 1) pa hg h G (G ++ [c])
 have hM : SerAt (serC (serI hi I (pos + 1) pa hg G)) I.length hi (pos + 1) pa G.length hg false := serI_at _ _ _ _ _ _
 obtain ⟨L, hLe⟩ : ∃ x, serC (serI hi I pos pa hg G) = x := ⟨_, rfl⟩
 obtain ⟨M, hMe⟩ : ∃ x, serC (serI hi I (pos + 1) pa hg G) = x := ⟨_, rfl⟩
 rw [hLe] at hL hpaput hposput ⊢
 rw [hMe] at hposput hpaput1 hgput1 hM
 refine RowsSpec.of_xc tabOk Tryz.func70 rfl (by decide) (n := Tryz.f70.ntmps - 1) rfl rfl (by simp) fun w0 av => ?_
 conv => whnf
 repeat (first | (refine XSame.of ?_; conv => whnf) | (refine XDep.all _ _ _ _ ?_; conv => whnf))
 refine XVal.of_read (XRead.loadF tabOk rfl rfl (ad := ⟨b, 0, none⟩) (k := 2) (L := L) (v := .int .i64 (pa : Int)) (Sees.row (by simp)) (fun _ => rfl) hL.pa ?_)
 conv => whnf
 repeat (first | (refine XSame.of ?_; conv => whnf) | (refine XDep.all _ _ _ _ ?_; conv => whnf))
 refine XIf.split (fun h1 => ?_) (fun h1 => ?_)
 · have h1' : 0 < pa := by
    simp [iGt_eq] at h1
    omega
   conv => whnf
   repeat (first | (refine XSame.of ?_; conv => whnf) | (refine XDep.all _ _ _ _ ?_; conv => whnf))
   refine XVal.of_read (XRead.loadF tabOk rfl rfl (ad := ⟨b, 0, none⟩) (k := 2) (L := L) (v := .int .i64 (pa : Int)) (Sees.row (by simp)) (fun _ => rfl) hL.pa ?_)
   conv => whnf
   repeat (first | (refine XSame.of ?_; conv => whnf) | (refine XDep.all _ _ _ _ ?_; conv => whnf))
   rw [wrap_i64 (by omega), show (pa : Int) - 1 = ((pa - 1 : Nat) : Int) by omega]
   refine XUnit.storeTo tabOk rfl (r1 := []) (r2 := []) (b := b) (k := 2) (X := serC (serI hi I pos (pa - 1) hg G)) rfl rfl (List.all_eq_true.1 (by rfl)) (by rw [hL.len]; decide) (hpaput (pa - 1)) ?_
   conv => whnf
   repeat (first | (refine XSame.of ?_; conv => whnf) | (refine XDep.all _ _ _ _ ?_; conv => whnf))
   rw [arr_pause h1']
   exact ⟨⟨fun w => By w hg (G ++ []) ∧ By w Hd.nil [], [(b, Row.c (serC (serI hi I pos (pa - 1) hg (G ++ []))))]⟩, Ent.of_le ⟨by simp, fun w hw => ⟨by rw [List.append_nil]; exact hw.2, By.nil w⟩⟩, hg, Hd.nil, by rw [List.append_nil]; exact hgo, Hd.nil_ok, rfl, rfl⟩
 · have h1' : ¬ 0 < pa := by
    simp [iGt_eq] at h1
    omega
   conv => whnf
   repeat (first | (refine XSame.of ?_; conv => whnf) | (refine XDep.all _ _ _ _ ?_; conv => whnf))
   refine XStop.draw tabOk mixed rfl rfl ?_
   conv => whnf
   repeat' (first
    | (refine And.intro ?_ ?_ <;> conv => whnf)
    | (refine XHeld.same rfl ?_; conv => whnf)
    | (refine XHeld.row rfl ?_; conv => whnf)
    | (refine XHeld.call rfl ?_; conv => whnf)
    | (refine XHeld.factCall rfl ?_; conv => whnf)
    | (refine XKeep.of ?_; conv => whnf)
    | (refine XSame.of ?_; conv => whnf)
    | (refine XDep.all _ _ _ _ ?_; conv => whnf)
    | (refine XRead.loadF tabOk rfl rfl (ad := ⟨b, 0, none⟩) (k := 1) (L := L) (v := .int .i64 (pos : Int)) (Sees.row (by simp)) (fun _ => rfl) hL.pos ?_; conv => whnf)
    | (refine XRead.loadF tabOk rfl rfl (ad := ⟨b, 0, none⟩) (k := 0) (L := L) (v := hi.v I.length) (Sees.row (by simp)) (fun _ => rfl) hL.inp ?_; conv => whnf)
    | (refine XHeld.mk ?_ ?_; (focus (first | exact Ent.refl _ | exact Ent.left _ _ | exact Ent.of_le ⟨List.sublist_append_left _ _, fun w h => h⟩ | exact Ent.of_le ⟨List.Sublist.refl _, fun w h => h.1⟩)); conv => whnf))
   refine XIf.split (fun h2 => ?_) (fun h2 => ?_)
   · have h2' : pos = I.length := by
      simp [iEq_eq] at h2
      omega
     conv => whnf
     repeat (first | (refine XSame.of ?_; conv => whnf) | (refine XDep.all _ _ _ _ ?_; conv => whnf))
     rw [arr_end h1' h2', ← hLe]
     exact ⟨⟨fun w => By w hg (G ++ []) ∧ By w Hd.nil [], [(b, Row.c (serC (serI hi I pos pa hg (G ++ []))))]⟩, Ent.of_le ⟨by simp, fun w hw => ⟨by rw [List.append_nil]; exact hw.2, By.nil w⟩⟩, hg, Hd.nil, by rw [List.append_nil]; exact hgo, Hd.nil_ok, rfl, rfl⟩
   · have h2' : pos < I.length := by
      simp [iEq_eq] at h2
      omega
     conv => whnf
     repeat (first | (refine XSame.of ?_; conv => whnf) | (refine XDep.all _ _ _ _ ?_; conv => whnf))
     refine XStop.draw tabOk mixed rfl rfl ?_
     conv => whnf
     repeat' (first
      | (refine And.intro ?_ ?_ <;> conv => whnf)
      | (refine XHeld.same rfl ?_; conv => whnf)
      | (refine XHeld.row rfl ?_; conv => whnf)
      | (refine XHeld.call rfl ?_; conv => whnf)
      | (refine XHeld.factCall rfl ?_; conv => whnf)
      | (refine XKeep.of ?_; conv => whnf)
      | (refine XSame.of ?_; conv => whnf)
      | (refine XDep.all _ _ _ _ ?_; conv => whnf)
      | (refine XRead.loadF tabOk rfl rfl (ad := ⟨b, 0, none⟩) (k := 1) (L := L) (v := .int .i64 (pos : Int)) (Sees.row (by simp)) (fun _ => rfl) hL.pos ?_; conv => whnf)
      | (refine XRead.loadF tabOk rfl rfl (ad := ⟨b, 0, none⟩) (k := 0) (L := L) (v := hi.v I.length) (Sees.row (by simp)) (fun _ => rfl) hL.inp ?_; conv => whnf)
      | (refine XRead.byteAt tabOk (t := 22) rfl rfl rfl rfl pos rfl h2' hio fun ad had => ?_; conv => whnf)
      | (refine XRead.byteLd tabOk (t := 5) rfl rfl ?had (Sees.fact fun w h => h.1) h2' ?_; (case had => assumption); conv => whnf)
      | (refine XHeld.mk ?_ ?_; (focus (first | exact Ent.refl _ | exact Ent.left _ _ | exact Ent.of_le ⟨List.sublist_append_left _ _, fun w h => h⟩ | exact Ent.of_le ⟨List.Sublist.refl _, fun w h => h.1⟩)); conv => whnf))
     refine XVal.of_read (XRead.loadF tabOk rfl rfl (ad := ⟨b, 0, none⟩) (k := 1) (L := L) (v := .int .i64 (pos : Int)) (Sees.row (by simp)) (fun _ => rfl) hL.pos ?_)
     conv => whnf
     repeat (first | (refine XSame.of ?_; conv => whnf) | (refine XDep.all _ _ _ _ ?_; conv => whnf))
     rw [wrap_i64 (by omega), show (pos : Int) + 1 = ((pos + 1 : Nat) : Int) by omega]
     refine XUnit.storeTo tabOk rfl (r1 := []) (r2 := []) (b := b) (k := 1) (X := M) rfl rfl (List.all_eq_true.1 (by rfl)) (by rw [hL.len]; decide) hposput ?_
     conv => whnf
     repeat (first | (refine XSame.of ?_; conv => whnf) | (refine XDep.all _ _ _ _ ?_; conv => whnf))
     refine XIf.split (fun h3 => ?_) (fun h3 => ?_)
     · have hb : 128 ≤ I[pos].toNat := by
        have h4 : ¬ Sx.bits .and .u8 (I[pos].toNat : Int) 128 = 0 := by simpa [iNe_eq] using h3
        have := (and128 I[pos]).1
        omega
       conv => whnf
       repeat (first | (refine XSame.of ?_; conv => whnf) | (refine XDep.all _ _ _ _ ?_; conv => whnf))
       rw [(and128 I[pos]).2 hb, show (I[pos].toNat : Int) - 128 = ((I[pos].toNat - 128 : Nat) : Int) by omega]
       refine XUnit.storeTo tabOk rfl (r1 := []) (r2 := []) (b := b) (k := 2) (X := serC (serI hi I (pos + 1) (I[pos].toNat - 128) hg G)) rfl rfl (List.all_eq_true.1 (by rfl)) (by rw [hM.len]; decide) (hpaput1 _) ?_
       conv => whnf
       repeat (first | (refine XSame.of ?_; conv => whnf) | (refine XDep.all _ _ _ _ ?_; conv => whnf))
       rw [arr_stop h1' h2' hb]
       exact ⟨⟨fun w => By w hg (G ++ []) ∧ By w Hd.nil [], [(b, Row.c (serC (serI hi I (pos + 1) (I[pos].toNat - 128) hg (G ++ []))))]⟩, Ent.of_le ⟨by simp, fun w hw => ⟨by rw [List.append_nil]; exact hw.2, By.nil w⟩⟩, hg, Hd.nil, by rw [List.append_nil]; exact hgo, Hd.nil_ok, rfl, rfl⟩
     · have hb : ¬ 128 ≤ I[pos].toNat := by
        have h4 : Sx.bits .and .u8 (I[pos].toNat : Int) 128 = 0 := by simpa [iNe_eq] using h3
        have := (and128 I[pos]).1
        omega
       conv => whnf
       repeat (first | (refine XSame.of ?_; conv => whnf) | (refine XDep.all _ _ _ _ ?_; conv => whnf))
       refine XVal.of_read (XRead.loadF tabOk rfl rfl (ad := ⟨b, 0, none⟩) (k := 3) (L := M) (v := hg.v G.length) (Sees.row (by simp)) (fun _ => rfl) hM.got ?_)
       conv => whnf
       repeat (first | (refine XSame.of ?_; conv => whnf) | (refine XDep.all _ _ _ _ ?_; conv => whnf))
       refine XVal.build tabOk (t := 22) rfl rfl rfl [byteV I[pos]] rfl rfl (by simp [byteV, Value.cells]) (by decide) fun b1 => ?_
       conv => whnf
       repeat (first | (refine XSame.of ?_; conv => whnf) | (refine XDep.all _ _ _ _ ?_; conv => whnf))
       refine XVal.ent (F' := ⟨fun w => By w hi I ∧ By w hg G, [(b, Row.c M), (b1, Row.c [byteV I[pos]])]⟩) (Ent.of_le ⟨by simp [Value.cells, byteV], fun w hw => hw⟩) ?_
       refine XVal.appendNew tabOk (t := 22) (xt := 22) rfl rfl rfl rfl rfl rfl (L := G.map byteV) (M := [byteV I[pos]]) (Sees.fact fun w h => h.2) (by simp) (Sees.row (by simp)) (by simp) (by omega) (by omega) (by simp; omega) fun b2 c' C' hO => ?_
       conv => whnf
       repeat (first | (refine XSame.of ?_; conv => whnf) | (refine XDep.all _ _ _ _ ?_; conv => whnf))
       have hO' : Sx.Owg 1 (G.length + 1) (some ⟨b2, 0, none⟩) c' C' ((G ++ [I[pos]]).map byteV) := by
        rw [List.map_append]
        exact hO
       have hput2 := hgput1 ⟨some ⟨b2, 0, none⟩, c'⟩ I[pos]
       have hlen2 : (G ++ [I[pos]]).length = G.length + 1 := by simp
       rw [hlen2] at hput2
       refine XUnit.ent (F' := ⟨fun w => By w hi I ∧ By w hg G, [] ++ [(b, Row.c M)] ++ [(b2, Row.c C')]⟩) (Ent.of_le ⟨by simp, fun w hw => hw⟩) ?_
       refine XUnit.storeTo tabOk rfl (b := b) (k := 3) (X := serC (serI hi I (pos + 1) pa ⟨some ⟨b2, 0, none⟩, c'⟩ (G ++ [I[pos]]))) rfl rfl (List.all_eq_true.1 (by rfl)) (by rw [hM.len]; decide) hput2 ?_
       conv => whnf
       repeat (first | (refine XSame.of ?_; conv => whnf) | (refine XDep.all _ _ _ _ ?_; conv => whnf))
       refine XVal.build tabOk (t := 22) rfl rfl rfl [byteV I[pos]] rfl rfl (by simp [byteV, Value.cells]) (by decide) fun b3 => ?_
       conv => whnf
       repeat (first | (refine XSame.of ?_; conv => whnf) | (refine XDep.all _ _ _ _ ?_; conv => whnf))
       rw [arr_byte h1' h2' hb]
       refine ⟨⟨fun w => By w ⟨some ⟨b2, 0, none⟩, c'⟩ (G ++ [I[pos]]) ∧ By w ⟨some ⟨b3, 0, none⟩, 1⟩ [I[pos]], [(b, Row.c (serC (serI hi I (pos + 1) pa ⟨some ⟨b2, 0, none⟩, c'⟩ (G ++ [I[pos]]))))]⟩, ?_, ⟨some ⟨b2, 0, none⟩, c'⟩, ⟨some ⟨b3, 0, none⟩, 1⟩, by rw [hlen2]; exact hO'.hd, ⟨fun h => (by cases h), Nat.le_refl _⟩, rfl, rfl⟩
       refine Ent.trans (Ent.of_le (F' := ⟨fun _ => True, ([(b, Row.c (serC (serI hi I (pos + 1) pa ⟨some ⟨b2, 0, none⟩, c'⟩ (G ++ [I[pos]]))))] ++ [(b2, Row.c C')]) ++ [(b3, Row.c [byteV I[pos]])]⟩) ⟨by simp [Value.cells, byteV], fun w hw => trivial⟩) (Ent.trans Ent.shareLast (Ent.trans Ent.shareLast (Ent.imp fun w hw => ⟨hO'.row hw.2, hw.1.2⟩)))

theorem serValid_I (hi : Hd) (I : List UInt8) (pos pa : Nat) (hg : Hd) (G : List UInt8) (hI : I.length ≤ 4000) (hpos : pos ≤ I.length) (hpa : pa < 128) (hG : G.length ≤ pos) : serOk (serI hi I pos pa hg G) = true := by
 unfold serOk
 simp only [Bool.and_eq_true, decide_eq_true_eq]
 refine ⟨⟨hI, ?_, ?_, ?_, ?_, ?_, ?_⟩, ?_, ?_⟩
 · show (0 : Int) ≤ (pos : Int)
   omega
 · show (pos : Int) ≤ ((I.length : Nat) : Int)
   omega
 · show (0 : Int) ≤ (pa : Int)
   omega
 · show (pa : Int) < 128
   omega
 · show ((G.length : Nat) : Int) ≤ (pos : Int)
   omega
 · exact Nat.zero_le _
 · show chOk (tagL · 0) false default = true
   kernel_rfl
 · show chOk (tagL · 1) false default = true
   kernel_rfl

/-- A tick of a serial line without commands. -/
def RelSt (hi : Hd) (I : List UInt8) (G : List UInt8) (r : Nat × Nat × List UInt8) (v : Value) (F : Fx) : Prop :=
 ∃ hg' k : Hd, hg'.Ok (G ++ r.2.2).length ∧ k.Ok r.2.2.length ∧ v = .tuple ⟨[.agg ⟨serC (serI hi I r.1 r.2.1 hg' (G ++ r.2.2))⟩, .slice none 0 0, k.v r.2.2.length]⟩ ∧ F = ⟨fun w => By w hg' (G ++ r.2.2) ∧ By w k r.2.2, []⟩

theorem serTick_idle (hi : Hd) (I : List UInt8) (pos pa : Nat) (hg : Hd) (G : List UInt8) (hio : hi.Ok I.length) (hI : I.length ≤ 4000) (hpos : pos ≤ I.length) (hpa : pa < 128) (hG : G.length ≤ pos) (hgo : hg.Ok G.length) :
 PureSpec Tryz.prog 29 [.agg ⟨serC (serI hi I pos pa hg G)⟩] (fun w => By w hi I ∧ By w hg G) (RelSt hi I G (arr I pos pa)) := by
 obtain ⟨e, he⟩ : ∃ e : Bool, e = true := ⟨_, rfl⟩
 obtain ⟨o, ho⟩ : ∃ o : Bool, o = false := ⟨_, rfl⟩
 have h1 := serialValid_spec (serI hi I pos pa hg G)
 rw [serValid_I hi I pos pa hg G hI hpos hpa hG, ← he] at h1
 have h2 := serCopied_idle hi I pos pa hg G hgo
 have h3 := fun b => serArrive_spec b hi I pos pa ⟨hg.a, G.length⟩ G hio hI hpos hpa hG ⟨hgo.nil, Nat.le_refl _⟩ rfl
 have hL : SerAt (serC (serI hi I pos pa hg G)) I.length hi pos pa G.length hg o := by rw [ho]; exact serI_at _ _ _ _ _ _
 have hM : SerAt (serC (serI hi I pos pa ⟨hg.a, G.length⟩ G)) I.length hi pos pa G.length ⟨hg.a, G.length⟩ o := by rw [ho]; exact serI_at _ _ _ _ _ _
 obtain ⟨r, hr⟩ : ∃ r, arr I pos pa = r := ⟨_, rfl⟩
 rw [hr] at h3 ⊢
 have hN : ∀ hg', SerAt (serC (serI hi I r.1 r.2.1 hg' (G ++ r.2.2))) I.length hi r.1 r.2.1 (G ++ r.2.2).length hg' o := fun hg' => by rw [ho]; exact serI_at _ _ _ _ _ _
 obtain ⟨L, hLe⟩ : ∃ x, serC (serI hi I pos pa hg G) = x := ⟨_, rfl⟩
 obtain ⟨M, hMe⟩ : ∃ x, serC (serI hi I pos pa ⟨hg.a, G.length⟩ G) = x := ⟨_, rfl⟩
 rw [hLe] at h1 h2 hL ⊢
 rw [hMe] at h2 h3 hM
 have hz : (serC default).length = 21 := rfl
 refine PureSpec.of_xc tabOk Tryz.func29 rfl (by decide) (n := Tryz.f29.ntmps - 1) rfl rfl fun w0 av => ?_
 conv => whnf
 repeat (first | (refine XSame.of ?_; conv => whnf) | (refine XDep.all _ _ _ _ ?_; conv => whnf))
 refine XVal.boxRow fun b1 => ?_
 conv => whnf
 repeat (first | (refine XSame.of ?_; conv => whnf) | (refine XDep.all _ _ _ _ ?_; conv => whnf))
 refine XVal.allocRow tabOk rfl (z := serC default) (by kernel_rfl) fun b2 => ?_
 obtain ⟨Z, hZ⟩ : ∃ x, serC default = x := ⟨_, rfl⟩
 rw [hZ] at hz ⊢
 conv => whnf
 repeat (first | (refine XSame.of ?_; conv => whnf) | (refine XDep.all _ _ _ _ ?_; conv => whnf))
 obtain ⟨E, hE⟩ : ∃ E : World → Prop, E = fun w => By w hi I ∧ By w hg G := ⟨_, rfl⟩
 refine XVal.ent (F' := ⟨E, [] ++ [(b1, Row.c L)] ++ [(b2, Row.c Z)]⟩) (Ent.of_le ⟨by simp [Fx.and], fun w hw => by rw [hE]; exact hw⟩) ?_
 refine XVal.of_read (XRead.loads tabOk rfl rfl (ad := ⟨b1, 0, none⟩) (k := 0) (L := L) (m := L) (Sees.row (by simp)) rfl (by rw [List.drop_zero]; exact List.take_of_length_le (by rw [hL.len]; exact Nat.le_refl _)) hL.len ?_)
 conv => whnf
 repeat (first | (refine XSame.of ?_; conv => whnf) | (refine XDep.all _ _ _ _ ?_; conv => whnf))
 refine XCall.val h1 (fun w hw => trivial) (fun v D hv => ?_)
 subst hv
 conv => whnf
 repeat (first | (refine XSame.of ?_; conv => whnf) | (refine XDep.all _ _ _ _ ?_; conv => whnf))
 refine XIf.no (by simp [he]) ?_
 conv => whnf
 repeat (first | (refine XSame.of ?_; conv => whnf) | (refine XDep.all _ _ _ _ ?_; conv => whnf))
 refine XVal.of_read (XRead.loads tabOk rfl rfl (ad := ⟨b1, 0, none⟩) (k := 0) (L := L) (m := L) (Sees.row (by simp)) rfl (by rw [List.drop_zero]; exact List.take_of_length_le (by rw [hL.len]; exact Nat.le_refl _)) hL.len ?_)
 conv => whnf
 repeat (first | (refine XSame.of ?_; conv => whnf) | (refine XDep.all _ _ _ _ ?_; conv => whnf))
 refine XCall.val h2 (fun w hw => trivial) (fun v D hv => ?_)
 subst hv
 conv => whnf
 repeat (first | (refine XSame.of ?_; conv => whnf) | (refine XDep.all _ _ _ _ ?_; conv => whnf))
 refine XUnit.ent (F' := ⟨E, [] ++ [(b1, Row.c L)] ++ [(b2, Row.c Z)]⟩) (Ent.of_le ⟨by simp, fun w hw => hw⟩) ?_
 refine XUnit.storeTo tabOk rfl (b := b1) (k := 0) (X := M) rfl (by show M.length = 21; exact hM.len) (fun u hu => hM.one u hu) (by rw [hL.len]; exact Nat.le_refl _) (laid_whole (by rw [hL.len]; exact hM.len)) ?_
 conv => whnf
 repeat (first | (refine XSame.of ?_; conv => whnf) | (refine XDep.all _ _ _ _ ?_; conv => whnf))
 refine XCall.rows (r1 := []) (r2 := [(b2, Row.c Z)]) (h3 b1) (fun w hw => by rw [hE] at hw; exact hw) (fun v F' hv => ?_)
 obtain ⟨hg', k, hg'o, hko, rfl, rfl⟩ := hv
 have hN := hN hg'
 obtain ⟨N, hNe⟩ : ∃ x, serC (serI hi I r.1 r.2.1 hg' (G ++ r.2.2)) = x := ⟨_, rfl⟩
 rw [hNe] at hN ⊢
 conv => whnf
 repeat (first | (refine XSame.of ?_; conv => whnf) | (refine XDep.all _ _ _ _ ?_; conv => whnf))
 refine XVal.of_read (XRead.loads tabOk rfl rfl (ad := ⟨b1, 0, none⟩) (k := 5) (L := N) (m := ch0 o) (Sees.row (by simp)) rfl hN.co rfl ?_)
 refine fin_of (by simp) ?_
 dsimp only [List.set_cons_succ, List.set_cons_zero, List.length_cons, List.length_nil, List.cons_append, List.nil_append, Nat.zero_add, Nat.reduceAdd]
 refine xops_allocS (z := (ch0 false)) rfl rfl rfl (by simp) fun b3 => ?_
 dsimp only [List.set_cons_succ, List.set_cons_zero, List.length_cons, List.length_nil, List.cons_append, List.nil_append, Nat.zero_add, Nat.reduceAdd]
 conv => whnf
 repeat (first | (refine XSame.of ?_; conv => whnf) | (refine XDep.all _ _ _ _ ?_; conv => whnf))
 refine XIf.no (by simp [ho]) ?_
 conv => whnf
 repeat (first | (refine XSame.of ?_; conv => whnf) | (refine XDep.all _ _ _ _ ?_; conv => whnf))
 refine XVal.of_read (XRead.loads tabOk rfl rfl (ad := ⟨b1, 0, none⟩) (k := 13) (L := N) (m := ch0 o) (Sees.row (by simp)) rfl hN.ci rfl ?_)
 refine fin_of (by simp) ?_
 dsimp only [List.set_cons_succ, List.set_cons_zero, List.length_cons, List.length_nil, List.cons_append, List.nil_append, Nat.zero_add, Nat.reduceAdd]
 refine xops_allocS (z := (ch0 false)) rfl rfl rfl (by simp) fun b4 => ?_
 dsimp only [List.set_cons_succ, List.set_cons_zero, List.length_cons, List.length_nil, List.cons_append, List.nil_append, Nat.zero_add, Nat.reduceAdd]
 conv => whnf
 repeat (first | (refine XSame.of ?_; conv => whnf) | (refine XDep.all _ _ _ _ ?_; conv => whnf))
 refine XIf.no (by simp [ho]) ?_
 conv => whnf
 repeat (first | (refine XSame.of ?_; conv => whnf) | (refine XDep.all _ _ _ _ ?_; conv => whnf))
 refine XVal.of_read (XRead.loads tabOk rfl rfl (ad := ⟨b1, 0, none⟩) (k := 0) (L := N) (m := N) (Sees.row (by simp)) rfl (by rw [List.drop_zero]; exact List.take_of_length_le (by rw [hN.len]; exact Nat.le_refl _)) hN.len ?_)
 conv => whnf
 repeat (first | (refine XSame.of ?_; conv => whnf) | (refine XDep.all _ _ _ _ ?_; conv => whnf))
 refine XUnit.ent (F' := ⟨fun w => By w hg' (G ++ r.2.2) ∧ By w k r.2.2, [(b1, Row.c N)] ++ [(b2, Row.c Z)] ++ []⟩) (Ent.of_le ⟨by simp, fun w hw => hw.2⟩) ?_
 refine XUnit.storeTo tabOk rfl (b := b2) (k := 0) (X := N) rfl (by show N.length = 21; exact hN.len) (fun u hu => hN.one u hu) (by rw [hz]; exact Nat.le_refl _) (laid_whole (by rw [hz]; exact hN.len)) ?_
 conv => whnf
 repeat (first | (refine XSame.of ?_; conv => whnf) | (refine XDep.all _ _ _ _ ?_; conv => whnf))
 refine ⟨b2, N, ⟨rfl, rfl, by simp, hN.len⟩, ?_⟩
 conv => whnf
 repeat (first | (refine XSame.of ?_; conv => whnf) | (refine XDep.all _ _ _ _ ?_; conv => whnf))
 rw [← hNe]
 exact ⟨⟨fun w => By w hg' (G ++ r.2.2) ∧ By w k r.2.2, []⟩, Ent.of_le ⟨by simp, fun w hw => hw⟩, hg', k, hg'o, hko, rfl, rfl⟩

end Go.Proofs.YtakammghcodmgaaGreatDoor
namespace Go.Proofs.YtakammghcodmgaaGreatDoor
open Go Go.Proofs Go.RowKit Go.Sx
set_option maxRecDepth 100000
set_option maxHeartbeats 4000000
set_option linter.unusedVariables false
set_option linter.unusedSimpArgs false

theorem cloneByL (h : Hd) (l : List UInt8) (hh : h.Ok l.length) (hn : l.length ≤ 1000000) : PureSpec Tryz.prog 41 [h.v l.length] (fun w => By w h l) (RelB l) := by
 refine PureSpec.of_xc tabOk Tryz.func41 rfl (by decide) (n := Tryz.f41.ntmps - 1) rfl rfl fun w0 av => ?_
 conv => whnf
 repeat (first | (refine XSame.of ?_; conv => whnf) | (refine XDep.all _ _ _ _ ?_; conv => whnf))
 refine XVal.of_read (XRead.eqNil tabOk (t := 22) rfl rfl ?_)
 conv => whnf
 repeat (first | (refine XSame.of ?_; conv => whnf) | (refine XDep.all _ _ _ _ ?_; conv => whnf))
 refine XIf.split (fun hc => ?_) (fun hc => ?_)
 · conv => whnf
   repeat (first | (refine XSame.of ?_; conv => whnf) | (refine XDep.all _ _ _ _ ?_; conv => whnf))
   have h0 : h.a = none := by simpa using hc
   have hl : l = [] := List.eq_nil_of_length_eq_zero (hh.nil h0)
   subst hl
   exact ⟨⟨fun w => By w Hd.nil [], []⟩, Ent.imp fun w _ => By.nil w, Hd.nil, rfl, Hd.nil_ok, rfl⟩
 · conv => whnf
   repeat (first | (refine XSame.of ?_; conv => whnf) | (refine XDep.all _ _ _ _ ?_; conv => whnf))
   refine XVal.build tabOk (t := 22) rfl rfl rfl [] rfl rfl (by simp) (by decide) fun b => ?_
   conv => whnf
   repeat (first | (refine XSame.of ?_; conv => whnf) | (refine XDep.all _ _ _ _ ?_; conv => whnf))
   refine XVal.append tabOk (t := 22) (xt := 22) rfl rfl rfl rfl rfl rfl (r1 := []) (r2 := []) (C := []) (L := []) (M := l.map byteV) (Sx.Owg.full (by simp)) (Sees.fact fun w h => h) (by simp) byte_one (by omega) (by simp; omega) fun a' cap' C' hO => ?_
   conv => whnf
   repeat (first | (refine XSame.of ?_; conv => whnf) | (refine XDep.all _ _ _ _ ?_; conv => whnf))
   simp only [List.nil_append, Nat.zero_add] at hO ⊢
   exact ⟨_, (hO.share (r1 := []) (r2 := [])).trans (Ent.imp fun w h => h.2), ⟨a', cap'⟩, rfl, hO.hd, rfl⟩

noncomputable def serialNewC : Code := Tryz.f21.body.getD .skip
/-- A serial line with an input. -/
def RelSN (I : List UInt8) (v : Value) (F : Fx) : Prop := ∃ (k : Hd) (X : Ser) (e : Int), v = .tuple ⟨[.agg ⟨serC X⟩, .int .i64 e]⟩ ∧ (I.length ≤ 4000 → X = serI k I 0 0 Hd.nil [] ∧ e = 0 ∧ k.Ok I.length) ∧ (4000 < I.length → e = 6) ∧ F = ⟨fun w => I.length ≤ 4000 → By w k I, []⟩
theorem serialNewL_spec (h : Hd) (I : List UInt8) (hh : h.Ok I.length) (hI : I.length ≤ 1000000) : PureSpec Tryz.prog 21 [h.v I.length] (fun w => By w h I) (RelSN I) := by
 refine PureSpec.of_stop tabOk Tryz.func21 (c := serialNewC) rfl (by decide) (n := Tryz.f21.ntmps - 1) rfl fun w0 av => ?_
 show XStop Tryz.prog w0 (fun _ _ => False) av serialNewC _ [] [] _ (kEnd tab Tryz.f21.results.toList (pureFin (RelSN I)))
 refine XStop.cutN tabOk 3 (ι := Nat × Ser × Int × Hd) (fun x => (I.length ≤ 4000 → x.2.1 = serI x.2.2.2 I 0 0 Hd.nil [] ∧ x.2.2.1 = 0 ∧ x.2.2.2.Ok I.length) ∧ (4000 < I.length → x.2.2.1 = 6)) (fun x => [.any, .any, .v (.pointer (some ⟨x.1, 0, none⟩)), .v (.int .i64 x.2.2.1)] ++ List.replicate 7 .any) (fun _ => []) (fun x => ⟨fun w => I.length ≤ 4000 → By w x.2.2.2 I, [] ++ [(x.1, Row.c (serC x.2.1))] ++ []⟩) ?_ ?_
 · conv => whnf
   repeat (first | (refine XSame.of ?_; conv => whnf) | (refine XDep.all _ _ _ _ ?_; conv => whnf))
   refine XVal.allocRow tabOk rfl (z := serC default) (by kernel_rfl) fun b => ?_
   conv => whnf
   repeat (first | (refine XSame.of ?_; conv => whnf) | (refine XDep.all _ _ _ _ ?_; conv => whnf))
   refine XIf.split (fun hc => ?_) (fun hc => ?_)
   · have hc' : 4000 < I.length := by
      simp [iGt_eq] at hc
      omega
     conv => whnf
     repeat (first | (refine XSame.of ?_; conv => whnf) | (refine XDep.all _ _ _ _ ?_; conv => whnf))
     refine XVal.of_read (XRead.buildBig tabOk rfl rfl ?_)
     conv => whnf
     repeat (first | (refine XSame.of ?_; conv => whnf) | (refine XDep.all _ _ _ _ ?_; conv => whnf))
     refine XUnit.ent (F' := ⟨fun w => True, [] ++ [(b, Row.c (serC default))] ++ []⟩) (Ent.of_le ⟨by simp [Fx.and], fun w hw => trivial⟩) ?_
     refine XUnit.storeTo tabOk rfl (b := b) (k := 0) (X := serC default) rfl rfl (List.all_eq_true.1 (by rfl)) (Nat.le_refl _) (laid_whole rfl) ?_
     conv => whnf
     repeat (first | (refine XSame.of ?_; conv => whnf) | (refine XDep.all _ _ _ _ ?_; conv => whnf))
     refine ⟨b, serC default, ⟨rfl, rfl, by simp, rfl⟩, ?_⟩
     conv => whnf
     repeat (first | (refine XSame.of ?_; conv => whnf) | (refine XDep.all _ _ _ _ ?_; conv => whnf))
     exact ⟨⟨fun w => I.length ≤ 4000 → By w Hd.nil I, []⟩, Ent.of_le ⟨by simp, fun w hw h => by omega⟩, Hd.nil, default, 6, rfl, fun h => by omega, fun _ => rfl, rfl⟩
   · have hc' : I.length ≤ 4000 := by
      simp [iGt_eq] at hc
      omega
     conv => whnf
     repeat (first | (refine XSame.of ?_; conv => whnf) | (refine XDep.all _ _ _ _ ?_; conv => whnf))
     refine XCall.pure (cloneByL h I hh hI) (fun w hw => hw) (fun v D hv => ?_)
     obtain ⟨k, rfl, hk, rfl⟩ := hv
     conv => whnf
     repeat (first | (refine XSame.of ?_; conv => whnf) | (refine XDep.all _ _ _ _ ?_; conv => whnf))
     refine XVal.of_read (XRead.buildBig tabOk rfl rfl ?_)
     conv => whnf
     repeat (first | (refine XSame.of ?_; conv => whnf) | (refine XDep.all _ _ _ _ ?_; conv => whnf))
     refine XUnit.ent (F' := ⟨fun w => By w k I, [] ++ [(b, Row.c (serC default))] ++ []⟩) (Ent.of_le ⟨by simp [Fx.and], fun w hw => hw.2⟩) ?_
     refine XUnit.storeTo tabOk rfl (b := b) (k := 0) (X := serC (serI k I 0 0 Hd.nil [])) rfl rfl (List.all_eq_true.1 (by rfl)) (Nat.le_refl _) (laid_whole rfl) ?_
     conv => whnf
     repeat (first | (refine XSame.of ?_; conv => whnf) | (refine XDep.all _ _ _ _ ?_; conv => whnf))
     refine ⟨(b, serI k I 0 0 Hd.nil [], 0, k), ⟨fun _ => ⟨rfl, rfl, hk⟩, fun h => by omega⟩, [], ⟨by decide, by simp, rfl⟩, ?_, Ent.imp fun w hw _ => hw⟩
     repeat (first | exact FLe.nil | refine FLe.any ?_ | refine FLe.cons ?_)
 · intro x hx bs' hbs'
   obtain rfl := List.eq_nil_of_length_eq_zero hbs'
   refine XStop.rowBox (j := 2) rfl ?_
   refine XStop.of_xc tabOk ?_
   conv => whnf
   exact ⟨_, Ent.refl _, x.2.2.2, x.2.1, x.2.2.1, rfl, hx.1, hx.2, rfl⟩

noncomputable def linkNewC : Code := Tryz.f22.body.getD .skip
def RelLN (n : Nat) (v : Value) (F : Fx) : Prop := ∃ (k : Hd) (X : Lnk) (e : Int), v = .tuple ⟨[.agg ⟨lnkC X⟩, .int .i64 e]⟩ ∧ (n ≤ 200 → X = lnkI ⟨k, n⟩ 0 ∧ e = 0 ∧ k.Ok n) ∧ (200 < n → e = 6) ∧ F = ⟨fun w => True, []⟩
theorem linkNewL_spec (h : Hd) (I : List UInt8) (hh : h.Ok I.length) (hI : I.length ≤ 1000000) : PureSpec Tryz.prog 22 [h.v I.length] (fun w => By w h I) (RelLN I.length) := by
 refine PureSpec.of_stop tabOk Tryz.func22 (c := linkNewC) rfl (by decide) (n := Tryz.f22.ntmps - 1) rfl fun w0 av => ?_
 show XStop Tryz.prog w0 (fun _ _ => False) av linkNewC _ [] [] _ (kEnd tab Tryz.f22.results.toList (pureFin (RelLN I.length)))
 refine XStop.cutN tabOk 3 (ι := Nat × Lnk × Int × Hd) (fun x => (I.length ≤ 200 → x.2.1 = lnkI ⟨x.2.2.2, I.length⟩ 0 ∧ x.2.2.1 = 0 ∧ x.2.2.2.Ok I.length) ∧ (200 < I.length → x.2.2.1 = 6)) (fun x => [.any, .any, .v (.pointer (some ⟨x.1, 0, none⟩)), .v (.int .i64 x.2.2.1)] ++ List.replicate 7 .any) (fun _ => []) (fun x => ⟨fun w => True, [] ++ [(x.1, Row.c (lnkC x.2.1))] ++ []⟩) ?_ ?_
 · conv => whnf
   repeat (first | (refine XSame.of ?_; conv => whnf) | (refine XDep.all _ _ _ _ ?_; conv => whnf))
   refine XVal.allocRow tabOk rfl (z := lnkC lnk0) (by kernel_rfl) fun b => ?_
   conv => whnf
   repeat (first | (refine XSame.of ?_; conv => whnf) | (refine XDep.all _ _ _ _ ?_; conv => whnf))
   refine XIf.split (fun hc => ?_) (fun hc => ?_)
   · have hc' : 200 < I.length := by
      simp [iGt_eq] at hc
      omega
     conv => whnf
     repeat (first | (refine XSame.of ?_; conv => whnf) | (refine XDep.all _ _ _ _ ?_; conv => whnf))
     refine XVal.of_read (XRead.buildBig tabOk rfl rfl ?_)
     conv => whnf
     repeat (first | (refine XSame.of ?_; conv => whnf) | (refine XDep.all _ _ _ _ ?_; conv => whnf))
     refine XUnit.ent (F' := ⟨fun w => True, [] ++ [(b, Row.c (lnkC lnk0))] ++ []⟩) (Ent.of_le ⟨by simp [Fx.and], fun w hw => trivial⟩) ?_
     refine XUnit.storeTo tabOk rfl (b := b) (k := 0) (X := lnkC lnk0) rfl rfl (List.all_eq_true.1 (by rfl)) (Nat.le_refl _) (laid_whole rfl) ?_
     conv => whnf
     repeat (first | (refine XSame.of ?_; conv => whnf) | (refine XDep.all _ _ _ _ ?_; conv => whnf))
     refine ⟨b, lnkC lnk0, ⟨rfl, rfl, by simp, rfl⟩, ?_⟩
     conv => whnf
     repeat (first | (refine XSame.of ?_; conv => whnf) | (refine XDep.all _ _ _ _ ?_; conv => whnf))
     exact ⟨⟨fun w => True, []⟩, Ent.of_le ⟨by simp, fun w hw => trivial⟩, Hd.nil, lnk0, 6, rfl, fun h => by omega, fun _ => rfl, rfl⟩
   · have hc' : I.length ≤ 200 := by
      simp [iGt_eq] at hc
      omega
     conv => whnf
     repeat (first | (refine XSame.of ?_; conv => whnf) | (refine XDep.all _ _ _ _ ?_; conv => whnf))
     refine XCall.pure (cloneByL h I hh hI) (fun w hw => hw) (fun v D hv => ?_)
     obtain ⟨k, rfl, hk, rfl⟩ := hv
     conv => whnf
     repeat (first | (refine XSame.of ?_; conv => whnf) | (refine XDep.all _ _ _ _ ?_; conv => whnf))
     refine XVal.of_read (XRead.buildBig tabOk rfl rfl ?_)
     conv => whnf
     repeat (first | (refine XSame.of ?_; conv => whnf) | (refine XDep.all _ _ _ _ ?_; conv => whnf))
     refine XUnit.ent (F' := ⟨fun w => True, [] ++ [(b, Row.c (lnkC lnk0))] ++ []⟩) (Ent.of_le ⟨by simp [Fx.and], fun w hw => trivial⟩) ?_
     refine XUnit.storeTo tabOk rfl (b := b) (k := 0) (X := lnkC (lnkI ⟨k, I.length⟩ 0)) rfl rfl (List.all_eq_true.1 (by rfl)) (Nat.le_refl _) (laid_whole rfl) ?_
     conv => whnf
     repeat (first | (refine XSame.of ?_; conv => whnf) | (refine XDep.all _ _ _ _ ?_; conv => whnf))
     refine ⟨(b, lnkI ⟨k, I.length⟩ 0, 0, k), ⟨fun _ => ⟨rfl, rfl, hk⟩, fun h => by omega⟩, [], ⟨by decide, by simp, rfl⟩, ?_, Ent.refl _⟩
     repeat (first | exact FLe.nil | refine FLe.any ?_ | refine FLe.cons ?_)
 · intro x hx bs' hbs'
   obtain rfl := List.eq_nil_of_length_eq_zero hbs'
   refine XStop.rowBox (j := 2) rfl ?_
   refine XStop.of_xc tabOk ?_
   conv => whnf
   exact ⟨_, Ent.refl _, x.2.2.2, x.2.1, x.2.2.1, rfl, hx.1, hx.2, rfl⟩

/-- The disk's bytes; a block's. -/
def dskL (C : List UInt8) : List UInt8 := C ++ List.replicate (20480 - C.length) 0
def blkL (C : List UInt8) (j : Nat) : List UInt8 := ((dskL C).drop (128 * j)).take 128
theorem dskL_len {C : List UInt8} (h : C.length ≤ 20480) : (dskL C).length = 20480 := by
 simp [dskL]
 omega
def BlkAt (C : List UInt8) (l : List Bs) (w : World) : Prop := ∀ j (hj : j < l.length), RowAt w (l[j]).h.a ((blkL C j).map byteV)

theorem rowAt_part {w : World} {b : Nat} {L : List Value} (h : RowAt w (some ⟨b, 0, none⟩) L) (o m : Nat) : RowAt w (some ⟨b, o, none⟩) ((L.drop o).take m) := by
 have := (h.drop o).take m
 rw [show (⟨b, 0, none⟩ : Addr).add o = ⟨b, o, none⟩ by rw [Addr.add_none, Nat.zero_add]] at this
 exact this

def RelDN (C : List UInt8) (v : Value) (F : Fx) : Prop := ∃ (h : Hd) (l : List Bs) (e : Int), v = .tuple ⟨[.agg ⟨h.v l.length :: dchC default⟩, .int .i64 e]⟩ ∧ (C.length ≤ 20480 → e = 0 ∧ h.Ok l.length ∧ ZsOk 160 l) ∧ (20480 < C.length → e = 6) ∧ F = ⟨fun w => C.length ≤ 20480 → RowAt w h.a (l.map bsV) ∧ BlkAt C l w, []⟩
theorem diskNewL_spec (h : Hd) (C : List UInt8) (hh : h.Ok C.length) (hC : C.length ≤ 1000000) : PureSpec Tryz.prog 20 [h.v C.length] (fun w => By w h C) (RelDN C) := by
 obtain ⟨n, hn⟩ : ∃ n : Nat, n = 20480 := ⟨_, rfl⟩
 have hn0 : (20480 : Int) = (n : Int) := by omega
 refine PureSpec.of_xc tabOk Tryz.func20 rfl (by decide) (n := Tryz.f20.ntmps - 1) rfl rfl fun w0 av => ?_
 refine padK_mk ?_
 conv => whnf
 intro b2
 conv => whnf
 repeat (first | (refine XSame.of ?_; conv => whnf) | (refine XDep.all _ _ _ _ ?_; conv => whnf))
 refine XVal.makeRow tabOk rfl rfl rfl n hn0 hn0 (by omega) (by decide) rfl (by omega) (by show 1 * n ≤ _; omega) fun b4 => ?_
 conv => whnf
 repeat (first | (refine XSame.of ?_; conv => whnf) | (refine XDep.all _ _ _ _ ?_; conv => whnf))
 refine XIf.split (fun hc => ?_) (fun hc => ?_)
 · have hc' : 20480 < C.length := by
    simp [iGt_eq] at hc
    omega
   conv => whnf
   repeat (first | (refine XSame.of ?_; conv => whnf) | (refine XDep.all _ _ _ _ ?_; conv => whnf))
   exact ⟨⟨fun w => C.length ≤ 20480 → RowAt w none [] ∧ BlkAt C [] w, []⟩, Ent.of_le ⟨by simp, fun w hw h => by omega⟩, Hd.nil, [], 6, rfl, fun h => by omega, fun _ => rfl, rfl⟩
 · have hc' : C.length ≤ 20480 := by
    simp [iGt_eq] at hc
    omega
   conv => whnf
   repeat (first | (refine XSame.of ?_; conv => whnf) | (refine XDep.all _ _ _ _ ?_; conv => whnf))
   refine XVal.ent (F' := ⟨fun w => By w h C, [] ++ [(b4, Row.c (List.replicate n [Value.int .u8 0]).flatten)] ++ []⟩) (Ent.of_le ⟨by simp [Fx.and], fun w hw => hw⟩) ?_
   refine XVal.copyIn tabOk rfl rfl rfl (M := C.map byteV) rfl (.fact fun w hw => hw) (by simp) byte_one (by rw [rep_flat]; simp; omega) ?_
   conv => whnf
   repeat (first | (refine XSame.of ?_; conv => whnf) | (refine XDep.all _ _ _ _ ?_; conv => whnf))
   have hcut := cut_spec b4 160 (by decide) (by decide)
   rw [show 128 * 160 = n from by omega] at hcut
   refine XCall.pure hcut (fun w hw => trivial) (fun v D hv => ?_)
   obtain ⟨g, c, hgc, rfl, rfl⟩ := hv
   conv => whnf
   repeat (first | (refine XSame.of ?_; conv => whnf) | (refine XDep.all _ _ _ _ ?_; conv => whnf))
   refine ⟨⟨fun w => C.length ≤ 20480 → RowAt w (some ⟨g, 0, none⟩) ((parts b4 160).map bsV) ∧ BlkAt C (parts b4 160) w, []⟩, Ent.trans Ent.shareAll (Ent.imp fun w hw _ => ?_), ⟨some ⟨g, 0, none⟩, c⟩, parts b4 160, 0, by rw [(parts_ok b4 160).1]; rfl, fun _ => ⟨rfl, ⟨fun h => (by cases h), by rw [(parts_ok b4 160).1]; exact hgc⟩, parts_ok _ _⟩, fun h => by omega, rfl⟩
   obtain ⟨⟨-, hg⟩, hr⟩ := hw
   have hb : RowAt w (some ⟨b4, 0, none⟩) ((dskL C).map byteV) := by
    have h := hr.1
    rw [rep_flat] at h
    have e : laid (List.replicate n (Value.int .u8 0)) 0 (List.take (min C.length n * 1) (C.map byteV)) = (dskL C).map byteV := by
     rw [Nat.mul_one, Nat.min_eq_left (by omega), List.take_of_length_le (by simp)]
     unfold laid dskL
     rw [List.take_zero, List.nil_append, Nat.zero_add, List.length_map, List.drop_replicate, hn, List.map_append, List.map_replicate]
     rfl
    rw [← e]
    exact h
   refine ⟨by rw [parts_v]; exact hg, fun j hj => ?_⟩
   have hj' : j < 160 := by rw [(parts_ok b4 160).1] at hj; exact hj
   have e : ((parts b4 160)[j]'hj).h.a = some ⟨b4, 128 * j, none⟩ := by simp [parts]
   show RowAt w ((parts b4 160)[j]'hj).h.a _
   rw [e]
   unfold blkL
   rw [List.map_take, List.map_drop]
   exact rowAt_part hb _ _

end Go.Proofs.YtakammghcodmgaaGreatDoor
namespace Go.Proofs.YtakammghcodmgaaGreatDoor
open Go Go.Sx
set_option maxRecDepth 100000
set_option maxHeartbeats 4000000
set_option linter.unusedVariables false
set_option linter.unusedSimpArgs false

/-- What a kernel has at boot, of a machine. -/
structure Bm where
 x : Bt
 se : Ser
 lk : Lnk
def Bm.sta (y : Bm) (T : Nat → Tsk) (qu : Sl Int) : Sta := ⟨T, fun _ => false, default, default, y.x.nx, y.x.cp, default, y.x.ti, qu, y.x.pg, fun _ => default, default, y.x.bk, default, ⟨0, 0, false, false⟩, y.lk, y.se, 0, default, fun _ => false, default, default, default, default⟩
def Bm.At (C I : List UInt8) (y : Bm) (w : World) : Prop := y.x.cp.At cpC w ∧ y.x.ti.At tiC w ∧ (y.x.bk.As bsV w ∧ BlkAt C y.x.bk.l w) ∧ By w y.se.inp.h I
structure Bm.Ok (C I : List UInt8) (np : Nat) (y : Bm) : Prop where
 cp : y.x.cp.h.Ok y.x.cp.l.length
 ti : y.x.ti.h.Ok y.x.ti.l.length
 bkh : y.x.bk.h.Ok y.x.bk.l.length
 bk : ZsOk 160 y.x.bk.l
 se : ∃ k, y.se = serI k I 0 0 Hd.nil [] ∧ k.Ok I.length
 lk : ∃ k, y.lk = lnkI ⟨k, np⟩ 0
def RelNewM (nx : Int) (cl : List Cp) (C I : List UInt8) (np : Nat) (v : Value) (F : Fx) : Prop :=
 (¬ (C.length ≤ 20480 ∧ I.length ≤ 4000 ∧ np ≤ 200) ∧ v = .pointer none ∧ F = ⟨fun _ => True, []⟩) ∨
 ((
  C.length ≤ 20480 ∧ I.length ≤ 4000 ∧ np ≤ 200) ∧ ∃ (y : Bm) (hq : Hd) (bk bs : Nat), y.x.nx = nx ∧ y.x.cp.l = cl ∧ y.x.ti.l = ti0 ∧ y.Ok C I np ∧ hq.Ok 11 ∧ v = .pointer (some ⟨bk, 0, none⟩) ∧
  F = ⟨fun w => (y.At C I w ∧ RowAt w hq.a ((quB 10 ++ [16]).map intV)) ∧ RowAt w (some ⟨bs, 0, none⟩) (staC (y.sta tskE ⟨hq, quB 10 ++ [16]⟩)), [(bk, Row.c [.pointer (some ⟨bs, 0, none⟩)])]⟩)

theorem newM_spec (nx : Int) (cl : List Cp) (hcl : cl.length ≤ 1000)
 (hB : PureSpec Tryz.prog 23 [] (fun _ => True) (fun v F => ∃ h : Hd, h.Ok cl.length ∧ v = .agg ⟨[.int .i64 nx, h.v cl.length]⟩ ∧ F = ⟨fun w => RowAt w h.a (cl.flatMap cpC), []⟩))
 (hc hi hp : Hd) (DC IN PT : List UInt8) (hco : hc.Ok DC.length) (hio : hi.Ok IN.length) (hpo : hp.Ok PT.length) (hDC : DC.length ≤ 1000000) (hIN : IN.length ≤ 1000000) (hPT : PT.length ≤ 1000000) :
 PureSpec Tryz.prog 6 [hc.v DC.length, hi.v IN.length, hp.v PT.length] (fun w => By w hc DC ∧ By w hi IN ∧ By w hp PT) (RelNewM nx cl DC IN PT.length) := by
 have h1 := diskNewL_spec hc DC hco hDC
 have h2 := serialNewL_spec hi IN hio hIN
 have h3 := linkNewL_spec hp PT hpo hPT
 have h4 := framesNew_spec
 refine PureSpec.of_xc tabOk Tryz.func6 rfl (by decide) (n := Tryz.f6.ntmps - 3) rfl rfl fun w0 av => ?_
 conv => whnf
 repeat (first | (refine XSame.of ?_; conv => whnf) | (refine XDep.all _ _ _ _ ?_; conv => whnf))
 refine XCall.pure h1 (fun w hw => hw.1) (fun v D hv => ?_)
 obtain ⟨hdb, lb, e1, rfl, hd1, hd2, rfl⟩ := hv
 conv => whnf
 repeat (first | (refine XSame.of ?_; conv => whnf) | (refine XDep.all _ _ _ _ ?_; conv => whnf))
 intro b7
 conv => whnf
 repeat (first | (refine XSame.of ?_; conv => whnf) | (refine XDep.all _ _ _ _ ?_; conv => whnf))
 refine XCall.pure h2 (fun w hw => hw.1.2.1) (fun v D hv => ?_)
 obtain ⟨hs, X2, e2, rfl, hs1, hs2, rfl⟩ := hv
 conv => whnf
 repeat (first | (refine XSame.of ?_; conv => whnf) | (refine XDep.all _ _ _ _ ?_; conv => whnf))
 refine XVal.allocRow tabOk rfl (z := serC default) (by kernel_rfl) fun b9 => ?_
 conv => whnf
 repeat (first | (refine XSame.of ?_; conv => whnf) | (refine XDep.all _ _ _ _ ?_; conv => whnf))
 obtain ⟨E, hE⟩ : ∃ E : World → Prop, E = fun w => (DC.length ≤ 20480 → RowAt w hdb.a (lb.map bsV) ∧ BlkAt DC lb w) ∧ (IN.length ≤ 4000 → By w hs IN) := ⟨_, rfl⟩
 obtain ⟨E0, hE0⟩ : ∃ E : World → Prop, E = fun w => By w hp PT := ⟨_, rfl⟩
 refine XUnit.ent (F' := ⟨fun w => E0 w ∧ E w, [] ++ [(b9, Row.c (serC default))] ++ []⟩) (Ent.of_le ⟨by simp [Fx.and], fun w hw => by rw [hE, hE0]; exact ⟨hw.1.1.2.2, hw.1.2, hw.2⟩⟩) ?_
 refine XUnit.storeTo tabOk rfl (b := b9) (k := 0) (X := serC X2) rfl rfl (List.all_eq_true.1 (by rfl)) (Nat.le_refl _) (laid_whole rfl) ?_
 conv => whnf
 repeat (first | (refine XSame.of ?_; conv => whnf) | (refine XDep.all _ _ _ _ ?_; conv => whnf))
 refine XCall.pure h3 (fun w hw => by have h := hw.1; rw [hE0] at h; exact h) (fun v D hv => ?_)
 obtain ⟨hl, X3, e3, rfl, hl1, hl2, rfl⟩ := hv
 conv => whnf
 repeat (first | (refine XSame.of ?_; conv => whnf) | (refine XDep.all _ _ _ _ ?_; conv => whnf))
 refine XVal.allocRow tabOk rfl (z := lnkC lnk0) (by kernel_rfl) fun b11 => ?_
 conv => whnf
 repeat (first | (refine XSame.of ?_; conv => whnf) | (refine XDep.all _ _ _ _ ?_; conv => whnf))
 refine XUnit.ent (F' := ⟨E, [(b9, Row.c (serC X2))] ++ [(b11, Row.c (lnkC lnk0))] ++ []⟩) (Ent.of_le ⟨by simp [Fx.and], fun w hw => hw.1.2⟩) ?_
 refine XUnit.storeTo tabOk rfl (b := b11) (k := 0) (X := lnkC X3) rfl rfl (List.all_eq_true.1 (by rfl)) (Nat.le_refl _) (laid_whole rfl) ?_
 conv => whnf
 repeat (first | (refine XSame.of ?_; conv => whnf) | (refine XDep.all _ _ _ _ ?_; conv => whnf))
 by_cases hgood : DC.length ≤ 20480 ∧ IN.length ≤ 4000 ∧ PT.length ≤ 200
 · obtain ⟨he1, hdo, hlb⟩ := hd1 hgood.1
   obtain ⟨hX2, he2, hso⟩ := hs1 hgood.2.1
   obtain ⟨hX3, he3, hlo⟩ := hl1 hgood.2.2
   refine XIf.no (by simp [iNe_eq, he1, he2, he3]) ?_
   conv => whnf
   refine XStop.draw tabOk mixed rfl rfl ?_
   conv => whnf
   repeat' (first
    | (refine And.intro ?_ ?_ <;> conv => whnf)
    | (refine XHeld.same rfl ?_; conv => whnf)
    | (refine XHeld.row rfl ?_; conv => whnf)
    | (refine XHeld.call rfl ?_; conv => whnf)
    | (refine XHeld.factCall rfl ?_; conv => whnf)
    | (refine XKeep.of ?_; conv => whnf)
    | (refine XSame.of ?_; conv => whnf)
    | (refine XDep.all _ _ _ _ ?_; conv => whnf)
    | (refine XCall.pure hB (fun w hw => trivial) (fun v D hv => ?_); obtain ⟨hcb, hhc, rfl, rfl⟩ := hv; conv => whnf)
    | (refine XCall.pure h4 (fun w hw => trivial) (fun v D hv => ?_); obtain ⟨_, ⟨ap, cp, lp, hcp, hlp, rfl, rfl⟩, rfl⟩ := hv; conv => whnf)
    | (refine XVal.build tabOk rfl rfl rfl [.agg ⟨tiC ⟨1, 1, 64⟩⟩] rfl rfl (by simp [Value.cells, tiC]) (by decide) fun b5 => ?_; conv => whnf)
    | (refine XRead.loads tabOk rfl rfl (ad := ⟨b9, 0, none⟩) (k := 0) (L := serC X2) (m := serC X2) (Sees.row (by simp [Fx.and])) rfl rfl rfl ?_; conv => whnf)
    | (refine XRead.loads tabOk rfl rfl (ad := ⟨b11, 0, none⟩) (k := 0) (L := lnkC X3) (m := lnkC X3) (Sees.row (by simp [Fx.and])) rfl rfl rfl ?_; conv => whnf)
    | (refine XHeld.mk ?_ ?_; (focus (first | exact Ent.refl _ | exact Ent.left _ _ | exact Ent.of_le ⟨List.sublist_append_left _ _, fun w h => h⟩ | exact Ent.of_le ⟨List.Sublist.refl _, fun w h => h.1⟩)); conv => whnf))
   all_goals
    refine XRead.buildBig tabOk rfl rfl (fillK_to (n := 376) (X := staC (Bm.sta ⟨⟨nx, ⟨hcb, cl⟩, ⟨⟨some ⟨b5, 0, none⟩, 1⟩, ti0⟩, ⟨⟨some ap, cp⟩, lp⟩, ⟨hdb, lb⟩⟩, X2, X3⟩ (tskB 0) default)) (by kernel_rfl) (by kernel_rfl) (by kernel_rfl) ?_)
    obtain ⟨X, hX⟩ : ∃ X : Bm, X = ⟨⟨nx, ⟨hcb, cl⟩, ⟨⟨some ⟨b5, 0, none⟩, 1⟩, ti0⟩, ⟨⟨some ap, cp⟩, lp⟩, ⟨hdb, lb⟩⟩, X2, X3⟩ := ⟨_, rfl⟩
    rw [← hX]
    conv => whnf
    repeat (first | (refine XSame.of ?_; conv => whnf) | (refine XDep.all _ _ _ _ ?_; conv => whnf))
    refine XVal.boxRow fun b13 => ?_
    conv => whnf
    repeat (first | (refine XSame.of ?_; conv => whnf) | (refine XDep.all _ _ _ _ ?_; conv => whnf))
    have hXt : X.x.ti.l = ti0 ∧ X.x.nx = nx ∧ X.x.cp.l = cl := by rw [hX]; exact ⟨rfl, rfl, rfl⟩
    have hXo : X.Ok DC IN PT.length := by
     rw [hX]
     exact ⟨hhc, ⟨fun h => (by cases h), Nat.le_refl _⟩, hdo, hlb, ⟨hs, hX2, hso⟩, ⟨hl, hX3⟩⟩
    refine XStop.loop tabOk (ι := Nat × Option Addr × Nat × List Value) ([14] ++ List.range' 49 20) (fun x => x.1 ≤ 10 ∧ Sx.Owg 1 x.1 x.2.1 x.2.2.1 x.2.2.2 ((quB x.1).map intV))
     (fun x => [(14, .v (.int .i64 ((x.1 + 1 : Nat) : Int)))]) (fun _ => [hdb.v lb.length :: dchC default]) (fun x => ⟨X.At DC IN, [] ++ [(b13, Row.c (staC (X.sta (tskB x.1) ⟨⟨x.2.1, x.2.2.1⟩, quB x.1⟩)))] ++ orow x.2.1 x.2.2.2⟩)
     (fun x => 10 - x.1) (0, none, 0, []) ⟨Nat.zero_le _, Sx.Owg.nil 1⟩ ?_ rfl ?_ fun x hx => ?_
    · conv => whnf
      repeat (first | exact FLe.nil | refine FLe.any ?_ | refine FLe.cons ?_)
    · refine Ent.trans (Ent.of_le (F' := ⟨fun w => E w ∧ RowAt w hcb.a (cl.flatMap cpC) ∧ ZsAt ap lp w, [(b5, Row.c (tiC ⟨1, 1, 64⟩)), (b13, Row.c (staC (X.sta (tskB 0) default)))]⟩) ⟨by simp [Fx.and, Value.cells], fun w hw => by simp_all [Fx.and]⟩) (Ent.trans Ent.share1 (Ent.of_le ⟨List.Sublist.refl _, fun w hw => ?_⟩))
      obtain ⟨⟨hw1, hw2, hw3⟩, hw4⟩ := hw
      rw [hE] at hw1
      rw [hX]
      exact ⟨hw2, hw4, hw1.1 hgood.1, by show By w X2.inp.h IN; rw [hX2]; exact hw1.2 hgood.2.1⟩
    obtain ⟨i, a, cap, C⟩ := x
    obtain ⟨hi, hO⟩ := hx
    dsimp only at hi hO ⊢
    conv => whnf
    repeat (first | (refine XSame.of ?_; conv => whnf) | (refine XDep.all _ _ _ _ ?_; conv => whnf))
    refine XIf.split (fun hlt => ?_) (fun hlt => ?_)
    · have hlt' : i < 10 := by
       simp [iLe_eq] at hlt
       omega
      obtain ⟨S, hS⟩ : ∃ S, X.sta (tskB i) ⟨⟨a, cap⟩, quB i⟩ = S := ⟨_, rfl⟩
      have hST : S.T = tskB i := by rw [← hS]; rfl
      have hSq : S.qu = ⟨⟨a, cap⟩, quB i⟩ := by rw [← hS]; rfl
      rw [hS]
      conv => whnf
      repeat (first | (refine XSame.of ?_; conv => whnf) | (refine XDep.all _ _ _ _ ?_; conv => whnf))
      refine XVal.of_read (XRead.indexArr tabOk rfl rfl rfl (i + 1) rfl (by omega) rfl ?_)
      conv => whnf
      repeat (first | (refine XSame.of ?_; conv => whnf) | (refine XDep.all _ _ _ _ ?_; conv => whnf))
      refine XUnit.storeTo tabOk rfl (b := b13) (k := (i + 1) * 8) (X := staC { S with T := tskB (i + 1) }) (by rw [Addr.add_none, Addr.add_none, Addr.add_none]; simp) rfl (List.all_eq_true.1 (by rfl)) (by rw [staC_len]; show _ + 1 ≤ _; omega) (by rw [← tskB_next hlt', ← hST]; exact put_Tk S 1 (i + 1) (by omega)) ?_
      obtain ⟨S1, hS1⟩ : ∃ S1 : Sta, S1 = { S with T := tskB (i + 1) } := ⟨_, rfl⟩
      rw [← hS1]
      have hq1 : (staC S1)[273]? = some (.slice a i cap) := by
       rw [get_qu, hS1]
       show some (S.qu.v) = _
       rw [hSq]
       show some (Value.slice a (quB i).length cap) = _
       rw [quB_len]
      conv => whnf
      repeat (first | (refine XSame.of ?_; conv => whnf) | (refine XDep.all _ _ _ _ ?_; conv => whnf))
      refine XVal.of_read (XRead.loadF tabOk rfl rfl (ad := ⟨b13, 0, none⟩) (k := 273) (L := staC S1) (v := .slice a i cap) (Sees.row (by simp)) (fun _ => rfl) hq1 ?_)
      conv => whnf
      repeat (first | (refine XSame.of ?_; conv => whnf) | (refine XDep.all _ _ _ _ ?_; conv => whnf))
      refine XVal.build tabOk rfl rfl rfl [.int .i64 ((i + 1 : Nat) : Int)] rfl rfl (by simp [Value.cells]) (by decide) fun b65 => ?_
      conv => whnf
      repeat (first | (refine XSame.of ?_; conv => whnf) | (refine XDep.all _ _ _ _ ?_; conv => whnf))
      refine XVal.ent (F' := ⟨X.At DC IN, [(b13, Row.c (staC S1))] ++ orow a C ++ [(b65, Row.c [.int .i64 ((i + 1 : Nat) : Int)])]⟩) (Ent.of_le ⟨by simp [Value.cells], fun w hw => hw⟩) ?_
      refine XVal.append1 tabOk rfl rfl rfl rfl rfl rfl (M := [.int .i64 ((i + 1 : Nat) : Int)]) hO (Sees.row (by simp)) rfl (List.all_eq_true.1 (by rfl)) (by omega) (by show (i + i / 4 + 600) * 8 ≤ 2 ^ 48; omega) fun a' c' C' hO' => ?_
      conv => whnf
      repeat (first | (refine XSame.of ?_; conv => whnf) | (refine XDep.all _ _ _ _ ?_; conv => whnf))
      refine XUnit.ent (F' := ⟨X.At DC IN, [] ++ [(b13, Row.c (staC S1))] ++ orow a' C'⟩) (Ent.of_le ⟨by simp, fun w hw => hw⟩) ?_
      refine XUnit.storeTo tabOk rfl (b := b13) (k := 273) (X := staC { S1 with qu := ⟨⟨a', c'⟩, quB (i + 1)⟩ }) (by rw [Addr.add_none]) rfl (List.all_eq_true.1 (by rfl)) (by rw [staC_len]; decide) (put_quL S1 (quB_len (i + 1))) ?_
      conv => whnf
      repeat (first | (refine XSame.of ?_; conv => whnf) | (refine XDep.all _ _ _ _ ?_; conv => whnf))
      refine ⟨(i + 1, a', c', C'), ⟨⟨hlt', ?_⟩, by dsimp only; omega⟩, ?_, ?_, Ent.of_le ⟨by dsimp only; rw [hS1, ← hS]; exact List.Sublist.refl _, fun w hw => hw⟩⟩
      · dsimp only
        rw [quB_next, List.map_append]
        exact hO'
      · conv => whnf
        refine ⟨?_, rfl⟩
        repeat (first | exact FLe.nil | refine FLe.any ?_ | refine FLe.cons ?_ | refine FLe.eq (congrArg (fun z => SV.v (Value.int .i64 z)) (by rw [wrap_i64 (by omega)]; omega)) ?_)
      · conv => whnf
        exact ⟨⟨rfl, rfl⟩, trivial⟩
    · have hie : i = 10 := by
       simp [iLe_eq] at hlt
       omega
      subst hie
      obtain ⟨S, hS⟩ : ∃ S, X.sta (tskB 10) ⟨⟨a, cap⟩, quB 10⟩ = S := ⟨_, rfl⟩
      have hST : S.T = tskB 10 := by rw [← hS]; rfl
      have hSq : S.qu = ⟨⟨a, cap⟩, quB 10⟩ := by rw [← hS]; rfl
      rw [hS]
      conv => whnf
      repeat (first | (refine XSame.of ?_; conv => whnf) | (refine XDep.all _ _ _ _ ?_; conv => whnf))
      refine XVal.of_read (XRead.indexArr tabOk rfl rfl rfl 16 rfl (by decide) rfl ?_)
      conv => whnf
      repeat (first | (refine XSame.of ?_; conv => whnf) | (refine XDep.all _ _ _ _ ?_; conv => whnf))
      refine XUnit.storeTo tabOk rfl (b := b13) (k := 16 * 8) (X := staC { S with T := tskE }) (by rw [Addr.add_none, Addr.add_none, Addr.add_none]; rfl) rfl (List.all_eq_true.1 (by rfl)) (by rw [staC_len]; decide) (by rw [← tskB_end, ← hST]; exact put_Tk S 2 16 (by omega)) ?_
      obtain ⟨S1, hS1⟩ : ∃ S1 : Sta, S1 = { S with T := tskE } := ⟨_, rfl⟩
      rw [← hS1]
      have hq1 : (staC S1)[273]? = some (.slice a 10 cap) := by
       rw [get_qu, hS1]
       show some (S.qu.v) = _
       rw [hSq]
       rfl
      conv => whnf
      repeat (first | (refine XSame.of ?_; conv => whnf) | (refine XDep.all _ _ _ _ ?_; conv => whnf))
      refine XVal.of_read (XRead.loadF tabOk rfl rfl (ad := ⟨b13, 0, none⟩) (k := 273) (L := staC S1) (v := .slice a 10 cap) (Sees.row (by simp)) (fun _ => rfl) hq1 ?_)
      conv => whnf
      repeat (first | (refine XSame.of ?_; conv => whnf) | (refine XDep.all _ _ _ _ ?_; conv => whnf))
      refine XVal.build tabOk rfl rfl rfl [.int .i64 16] rfl rfl (by simp [Value.cells]) (by decide) fun b65 => ?_
      conv => whnf
      repeat (first | (refine XSame.of ?_; conv => whnf) | (refine XDep.all _ _ _ _ ?_; conv => whnf))
      refine XVal.ent (F' := ⟨X.At DC IN, [(b13, Row.c (staC S1))] ++ orow a C ++ [(b65, Row.c [.int .i64 16])]⟩) (Ent.of_le ⟨by simp [Value.cells], fun w hw => hw⟩) ?_
      refine XVal.append1 tabOk rfl rfl rfl rfl rfl rfl (M := [.int .i64 16]) hO (Sees.row (by simp)) rfl (List.all_eq_true.1 (by rfl)) (by omega) (by decide) fun a' c' C' hO' => ?_
      conv => whnf
      repeat (first | (refine XSame.of ?_; conv => whnf) | (refine XDep.all _ _ _ _ ?_; conv => whnf))
      refine XUnit.ent (F' := ⟨X.At DC IN, [] ++ [(b13, Row.c (staC S1))] ++ orow a' C'⟩) (Ent.of_le ⟨by simp, fun w hw => hw⟩) ?_
      refine XUnit.storeTo tabOk rfl (b := b13) (k := 273) (X := staC { S1 with qu := ⟨⟨a', c'⟩, quB 10 ++ [16]⟩ }) (by rw [Addr.add_none]) rfl (List.all_eq_true.1 (by rfl)) (by rw [staC_len]; decide) (put_quL S1 (l := quB 10 ++ [16]) (n := 10 + 1) (by decide)) ?_
      obtain ⟨S2, hS2⟩ : ∃ S2 : Sta, S2 = { S1 with qu := ⟨⟨a', c'⟩, quB 10 ++ [16]⟩ } := ⟨_, rfl⟩
      rw [← hS2]
      have hS2' : S2 = X.sta tskE ⟨⟨a', c'⟩, quB 10 ++ [16]⟩ := by rw [hS2, hS1, ← hS]; rfl
      conv => whnf
      repeat (first | (refine XSame.of ?_; conv => whnf) | (refine XDep.all _ _ _ _ ?_; conv => whnf))
      refine XVal.of_read (XRead.buildBig tabOk rfl rfl ?_)
      conv => whnf
      repeat (first | (refine XSame.of ?_; conv => whnf) | (refine XDep.all _ _ _ _ ?_; conv => whnf))
      refine XVal.boxRow fun bk => ?_
      conv => whnf
      repeat (first | (refine XSame.of ?_; conv => whnf) | (refine XDep.all _ _ _ _ ?_; conv => whnf))
      refine ⟨_, ?_, .inr ⟨hgood, X, ⟨a', c'⟩, bk, b13, hXt.2.1, hXt.2.2, hXt.1, hXo, ⟨hO'.none_nil, hO'.fit⟩, rfl, rfl⟩⟩
      rw [← hS2']
      refine Ent.trans (Ent.of_le (F' := ⟨X.At DC IN, [(b13, Row.c (staC S2))] ++ orow a' C' ++ [(bk, Row.c [.pointer (some ⟨b13, 0, none⟩)])]⟩) ⟨by simp, fun w hw => hw⟩) ?_
      refine Ent.trans (hO'.share (r1 := [(b13, Row.c (staC S2))]) (r2 := [(bk, Row.c [.pointer (some ⟨b13, 0, none⟩)])])) ?_
      refine Ent.trans (Ent.share1 (rs := [(bk, Row.c [.pointer (some ⟨b13, 0, none⟩)])])) (Ent.imp fun w hw => ?_)
      rw [List.map_append]
      exact hw
 · have hbad : (iNe e1 0 || iNe e2 0 || iNe e3 0) = true := by
    rcases Nat.lt_or_ge 20480 DC.length with h | h
    · simp [iNe_eq, hd2 h]
    rcases Nat.lt_or_ge 4000 IN.length with h' | h'
    · simp [iNe_eq, hs2 h']
    · simp [iNe_eq, hl2 (by omega)]
   refine XIf.yes hbad ?_
   conv => whnf
   repeat (first | (refine XSame.of ?_; conv => whnf) | (refine XDep.all _ _ _ _ ?_; conv => whnf))
   exact ⟨⟨fun _ => True, []⟩, Ent.of_le ⟨by simp, fun w hw => trivial⟩, .inl ⟨hgood, rfl, rfl⟩⟩

end Go.Proofs.YtakammghcodmgaaGreatDoor
namespace Go.Proofs.YtakammghcodmgaaGreatDoor
open Go Go.Sx
set_option maxRecDepth 100000
set_option maxHeartbeats 4000000
set_option linter.unusedVariables false
set_option linter.unusedSimpArgs false

theorem r11proper0_spec (t : Int) : PureSpec Tryz.prog 212 [.int .i64 t, .int .i64 0] (fun _ => True) (fun v F => v = .bool (tagL t 0)) := by
 refine PureSpec.of_xc tabOk Tryz.func212 rfl (by decide) (n := Tryz.f212.ntmps - 2) rfl rfl fun w0 av => ?_
 conv => whnf
 repeat (first | (refine XSame.of ?_; conv => whnf) | (refine XDep.all _ _ _ _ ?_; conv => whnf))
 have e0 : tagL t 0 = (iGe t 2 && iEq (Int.tmod t 2) 0) := by
  unfold tagL
  rw [if_pos (by simp [iEq_eq])]
  rfl
 rw [e0]
 exact ⟨_, Ent.refl _, by rw [wrap_i64 (by omega)]; rfl⟩

theorem r11proper1_spec (t : Int) : PureSpec Tryz.prog 212 [.int .i64 t, .int .i64 1] (fun _ => True) (fun v F => v = .bool (tagL t 1)) := by
 refine PureSpec.of_xc tabOk Tryz.func212 rfl (by decide) (n := Tryz.f212.ntmps - 2) rfl rfl fun w0 av => ?_
 conv => whnf
 repeat (first | (refine XSame.of ?_; conv => whnf) | (refine XDep.all _ _ _ _ ?_; conv => whnf))
 have e0 : tagL t 1 = (iGe t 1 && iEq (Int.tmod t 2) 1) := by
  unfold tagL
  rw [if_neg (by simp [iEq_eq])]
  rfl
 rw [e0]
 exact ⟨_, Ent.refl _, by rw [wrap_i64 (by omega)]; rfl⟩

theorem r08same0_spec (h : Hd) (n : Nat) : PureSpec Tryz.prog 248 [h.v n, .slice none 0 0] (fun _ => True) (fun v F => v = .bool (decide (n = 0))) := by
 refine PureSpec.of_xc tabOk Tryz.func248 rfl (by decide) (n := Tryz.f248.ntmps - 2) rfl rfl fun w0 av => ?_
 conv => whnf
 repeat (first | (refine XSame.of ?_; conv => whnf) | (refine XDep.all _ _ _ _ ?_; conv => whnf))
 rcases Nat.eq_zero_or_pos n with h0 | h0
 · subst h0
   refine XIf.no (by simp [iNe_eq]) ?_
   conv => whnf
   repeat (first | (refine XSame.of ?_; conv => whnf) | (refine XDep.all _ _ _ _ ?_; conv => whnf))
   refine XStop.loop tabOk (ι := Unit) (List.range' 5 21) (fun _ => True) (fun _ => [(5, .v (.int .i64 0))]) (fun _ => []) (fun _ => ⟨fun w => True, []⟩) (fun _ => 0) () trivial ?_ rfl (Ent.of_le ⟨by simp [Value.cells], fun w hw => hw⟩) fun i hi => ?_
   · conv => whnf
     repeat (first | exact FLe.nil | refine FLe.any ?_ | refine FLe.cons ?_)
   conv => whnf
   repeat (first | (refine XSame.of ?_; conv => whnf) | (refine XDep.all _ _ _ _ ?_; conv => whnf))
   refine XIf.no (by simp [iLt_eq]) ?_
   conv => whnf
   repeat (first | (refine XSame.of ?_; conv => whnf) | (refine XDep.all _ _ _ _ ?_; conv => whnf))
   exact ⟨_, Ent.refl _, rfl⟩
 · refine XIf.yes (by simp [iNe_eq]; omega) ?_
   conv => whnf
   repeat (first | (refine XSame.of ?_; conv => whnf) | (refine XDep.all _ _ _ _ ?_; conv => whnf))
   exact ⟨_, Ent.refl _, by rw [decide_eq_false (by omega)]⟩

theorem r11cmd0_spec (tag op place : Int) (h : Hd) (n : Nat) : PureSpec Tryz.prog 213 [.agg ⟨[.int .i64 tag, .int .i64 op, .int .i64 place, h.v n]⟩, .agg ⟨[.int .i64 0, .int .i64 0, .int .i64 0, .slice none 0 0]⟩] (fun _ => True) (fun v F => v = .bool (iEq tag 0 && (iEq op 0 && (iEq place 0 && decide (n = 0))))) := by
 have h1 := r08same0_spec h n
 generalize decide (n = 0) = q1 at *
 refine PureSpec.of_xc tabOk Tryz.func213 rfl (by decide) (n := Tryz.f213.ntmps - 2) rfl rfl fun w0 av => ?_
 conv => whnf
 repeat (first | (refine XSame.of ?_; conv => whnf) | (refine XDep.all _ _ _ _ ?_; conv => whnf))
 intro b2
 conv => whnf
 repeat (first | (refine XSame.of ?_; conv => whnf) | (refine XDep.all _ _ _ _ ?_; conv => whnf))
 intro b3
 conv => whnf
 repeat (first | (refine XSame.of ?_; conv => whnf) | (refine XDep.all _ _ _ _ ?_; conv => whnf))
 repeat' (first
  | (refine And.intro ?_ ?_ <;> conv => whnf)
  | (refine XHeld.same rfl ?_; conv => whnf)
  | (refine XHeld.row rfl ?_; conv => whnf)
  | (refine XHeld.call rfl ?_; conv => whnf)
  | (refine XHeld.factCall rfl ?_; conv => whnf)
  | (refine XKeep.of ?_; conv => whnf)
  | (refine XSame.of ?_; conv => whnf)
  | (refine XDep.all _ _ _ _ ?_; conv => whnf)
  | (refine XCall.val h1 (fun w hw => trivial) (fun v D hv => ?_); subst hv; conv => whnf)
  | (split <;> conv => whnf)
  | (refine XHeld.mk ?_ ?_; (focus (first | exact Ent.refl _ | exact Ent.left _ _ | exact Ent.of_le ⟨List.sublist_append_left _ _, fun w h => h⟩ | exact Ent.of_le ⟨List.Sublist.refl _, fun w h => h.1⟩)); conv => whnf))
 all_goals refine ⟨_, Ent.refl _, ?_⟩
 all_goals first | rfl | (congr 1; done) | (congr 1; rw [Bool.eq_iff_iff]; simp_all [iGe_eq, iLt_eq, iLe_eq, iGt_eq, iEq_eq, iNe_eq, and_assoc]; done) | (congr 1; rw [Bool.eq_iff_iff]; simp_all [iGe_eq, iLt_eq, iLe_eq, iGt_eq, iEq_eq, iNe_eq, and_assoc]; omega) | (congr 1; rw [Bool.eq_iff_iff]; (try cases q1) <;> (try cases q2) <;> (try cases q3) <;> (try simp_all [iGe_eq, iLt_eq, iLe_eq, iGt_eq, iEq_eq, iNe_eq, and_assoc]) <;> (try omega); done)

theorem r11ch01_spec (x : Chn) : PureSpec Tryz.prog 154 [.agg ⟨dchC x⟩, .int .i64 0, .int .i64 1] (fun _ => True) (fun v F => v = .bool ((iEq x.ltag 0 || tagL x.ltag 0) && (if x.opn then tagL x.tag 0 && (iGe x.tag x.ltag && (iGe x.left 1 && iLe x.left 1)) else iEq x.left 0 && (iEq x.tag 0 && (iEq x.op 0 && (iEq x.place 0 && decide (x.cn = 0))))))) := by
 have h1 := r11proper0_spec x.ltag
 have h2 := r11proper0_spec x.tag
 have h3 := r11cmd0_spec x.tag x.op x.place x.ch x.cn
 generalize tagL x.ltag 0 = q1 at *
 generalize tagL x.tag 0 = q2 at *
 obtain ⟨q3, hq3⟩ : ∃ q, (iEq x.tag 0 && (iEq x.op 0 && (iEq x.place 0 && decide (x.cn = 0)))) = q := ⟨_, rfl⟩
 rw [hq3] at h3 ⊢
 obtain ⟨o, ho⟩ : ∃ o, x.opn = o := ⟨_, rfl⟩
 rw [ho]
 have hd : dchC x = [.bool o, .int .i64 x.tag, .int .i64 x.op, .int .i64 x.place, x.ch.v x.cn, .int .i64 x.left, .int .i64 x.ltag, .int .i64 x.lans, x.lh.v x.ln] := by rw [← ho]; rfl
 rw [hd]
 refine PureSpec.of_xc tabOk Tryz.func154 rfl (by decide) (n := Tryz.f154.ntmps - 3) rfl rfl fun w0 av => ?_
 conv => whnf
 repeat (first | (refine XSame.of ?_; conv => whnf) | (refine XDep.all _ _ _ _ ?_; conv => whnf))
 intro b3
 conv => whnf
 repeat (first | (refine XSame.of ?_; conv => whnf) | (refine XDep.all _ _ _ _ ?_; conv => whnf))
 cases o
 · repeat' (first
    | (refine And.intro ?_ ?_ <;> conv => whnf)
    | (refine XHeld.same rfl ?_; conv => whnf)
    | (refine XHeld.row rfl ?_; conv => whnf)
    | (refine XHeld.call rfl ?_; conv => whnf)
    | (refine XHeld.factCall rfl ?_; conv => whnf)
    | (refine XKeep.of ?_; conv => whnf)
    | (refine XSame.of ?_; conv => whnf)
    | (refine XDep.all _ _ _ _ ?_; conv => whnf)
    | (refine XCall.val h1 (fun w hw => trivial) (fun v D hv => ?_); subst hv; cases q1 <;> conv => whnf)
    | (refine XCall.val h3 (fun w hw => trivial) (fun v D hv => ?_); subst hv; cases q3 <;> conv => whnf)
    | (split <;> conv => whnf)
    | (refine XIf.split (fun hi => ?_) (fun hi => ?_) <;> conv => whnf)
    | (refine XHeld.mk ?_ ?_; (focus (first | exact Ent.refl _ | exact Ent.left _ _ | exact Ent.of_le ⟨List.sublist_append_left _ _, fun w h => h⟩ | exact Ent.of_le ⟨List.Sublist.refl _, fun w h => h.1⟩)); conv => whnf))
   all_goals refine ⟨_, Ent.refl _, ?_⟩
   all_goals first | rfl | (congr 1; done) | (congr 1; rw [Bool.eq_iff_iff]; simp_all [iGe_eq, iLt_eq, iLe_eq, iGt_eq, iEq_eq, iNe_eq, and_assoc]; done) | (congr 1; rw [Bool.eq_iff_iff]; simp_all [iGe_eq, iLt_eq, iLe_eq, iGt_eq, iEq_eq, iNe_eq, and_assoc]; omega) | (congr 1; rw [Bool.eq_iff_iff]; (try cases q1) <;> (try cases q2) <;> (try cases q3) <;> (try simp_all [iGe_eq, iLt_eq, iLe_eq, iGt_eq, iEq_eq, iNe_eq, and_assoc]) <;> (try omega); done)
 · repeat' (first
    | (refine And.intro ?_ ?_ <;> conv => whnf)
    | (refine XHeld.same rfl ?_; conv => whnf)
    | (refine XHeld.row rfl ?_; conv => whnf)
    | (refine XHeld.call rfl ?_; conv => whnf)
    | (refine XHeld.factCall rfl ?_; conv => whnf)
    | (refine XKeep.of ?_; conv => whnf)
    | (refine XSame.of ?_; conv => whnf)
    | (refine XDep.all _ _ _ _ ?_; conv => whnf)
    | (refine XCall.val h1 (fun w hw => trivial) (fun v D hv => ?_); subst hv; cases q1 <;> conv => whnf)
    | (refine XCall.val h2 (fun w hw => trivial) (fun v D hv => ?_); subst hv; cases q2 <;> conv => whnf)
    | (split <;> conv => whnf)
    | (refine XIf.split (fun hi => ?_) (fun hi => ?_) <;> conv => whnf)
    | (refine XHeld.mk ?_ ?_; (focus (first | exact Ent.refl _ | exact Ent.left _ _ | exact Ent.of_le ⟨List.sublist_append_left _ _, fun w h => h⟩ | exact Ent.of_le ⟨List.Sublist.refl _, fun w h => h.1⟩)); conv => whnf))
   all_goals refine ⟨_, Ent.refl _, ?_⟩
   all_goals first | rfl | (congr 1; done) | (congr 1; rw [Bool.eq_iff_iff]; simp_all [iGe_eq, iLt_eq, iLe_eq, iGt_eq, iEq_eq, iNe_eq, and_assoc]; done) | (congr 1; rw [Bool.eq_iff_iff]; simp_all [iGe_eq, iLt_eq, iLe_eq, iGt_eq, iEq_eq, iNe_eq, and_assoc]; omega) | (congr 1; rw [Bool.eq_iff_iff]; (try cases q1) <;> (try cases q2) <;> (try cases q3) <;> (try simp_all [iGe_eq, iLt_eq, iLe_eq, iGt_eq, iEq_eq, iNe_eq, and_assoc]) <;> (try omega); done)

theorem r11ch11_spec (x : Chn) : PureSpec Tryz.prog 154 [.agg ⟨dchC x⟩, .int .i64 1, .int .i64 1] (fun _ => True) (fun v F => v = .bool ((iEq x.ltag 0 || tagL x.ltag 1) && (if x.opn then tagL x.tag 1 && (iGe x.tag x.ltag && (iGe x.left 1 && iLe x.left 1)) else iEq x.left 0 && (iEq x.tag 0 && (iEq x.op 0 && (iEq x.place 0 && decide (x.cn = 0))))))) := by
 have h1 := r11proper1_spec x.ltag
 have h2 := r11proper1_spec x.tag
 have h3 := r11cmd0_spec x.tag x.op x.place x.ch x.cn
 generalize tagL x.ltag 1 = q1 at *
 generalize tagL x.tag 1 = q2 at *
 obtain ⟨q3, hq3⟩ : ∃ q, (iEq x.tag 0 && (iEq x.op 0 && (iEq x.place 0 && decide (x.cn = 0)))) = q := ⟨_, rfl⟩
 rw [hq3] at h3 ⊢
 obtain ⟨o, ho⟩ : ∃ o, x.opn = o := ⟨_, rfl⟩
 rw [ho]
 have hd : dchC x = [.bool o, .int .i64 x.tag, .int .i64 x.op, .int .i64 x.place, x.ch.v x.cn, .int .i64 x.left, .int .i64 x.ltag, .int .i64 x.lans, x.lh.v x.ln] := by rw [← ho]; rfl
 rw [hd]
 refine PureSpec.of_xc tabOk Tryz.func154 rfl (by decide) (n := Tryz.f154.ntmps - 3) rfl rfl fun w0 av => ?_
 conv => whnf
 repeat (first | (refine XSame.of ?_; conv => whnf) | (refine XDep.all _ _ _ _ ?_; conv => whnf))
 intro b3
 conv => whnf
 repeat (first | (refine XSame.of ?_; conv => whnf) | (refine XDep.all _ _ _ _ ?_; conv => whnf))
 cases o
 · repeat' (first
    | (refine And.intro ?_ ?_ <;> conv => whnf)
    | (refine XHeld.same rfl ?_; conv => whnf)
    | (refine XHeld.row rfl ?_; conv => whnf)
    | (refine XHeld.call rfl ?_; conv => whnf)
    | (refine XHeld.factCall rfl ?_; conv => whnf)
    | (refine XKeep.of ?_; conv => whnf)
    | (refine XSame.of ?_; conv => whnf)
    | (refine XDep.all _ _ _ _ ?_; conv => whnf)
    | (refine XCall.val h1 (fun w hw => trivial) (fun v D hv => ?_); subst hv; cases q1 <;> conv => whnf)
    | (refine XCall.val h3 (fun w hw => trivial) (fun v D hv => ?_); subst hv; cases q3 <;> conv => whnf)
    | (split <;> conv => whnf)
    | (refine XIf.split (fun hi => ?_) (fun hi => ?_) <;> conv => whnf)
    | (refine XHeld.mk ?_ ?_; (focus (first | exact Ent.refl _ | exact Ent.left _ _ | exact Ent.of_le ⟨List.sublist_append_left _ _, fun w h => h⟩ | exact Ent.of_le ⟨List.Sublist.refl _, fun w h => h.1⟩)); conv => whnf))
   all_goals refine ⟨_, Ent.refl _, ?_⟩
   all_goals first | rfl | (congr 1; done) | (congr 1; rw [Bool.eq_iff_iff]; simp_all [iGe_eq, iLt_eq, iLe_eq, iGt_eq, iEq_eq, iNe_eq, and_assoc]; done) | (congr 1; rw [Bool.eq_iff_iff]; simp_all [iGe_eq, iLt_eq, iLe_eq, iGt_eq, iEq_eq, iNe_eq, and_assoc]; omega) | (congr 1; rw [Bool.eq_iff_iff]; (try cases q1) <;> (try cases q2) <;> (try cases q3) <;> (try simp_all [iGe_eq, iLt_eq, iLe_eq, iGt_eq, iEq_eq, iNe_eq, and_assoc]) <;> (try omega); done)
 · repeat' (first
    | (refine And.intro ?_ ?_ <;> conv => whnf)
    | (refine XHeld.same rfl ?_; conv => whnf)
    | (refine XHeld.row rfl ?_; conv => whnf)
    | (refine XHeld.call rfl ?_; conv => whnf)
    | (refine XHeld.factCall rfl ?_; conv => whnf)
    | (refine XKeep.of ?_; conv => whnf)
    | (refine XSame.of ?_; conv => whnf)
    | (refine XDep.all _ _ _ _ ?_; conv => whnf)
    | (refine XCall.val h1 (fun w hw => trivial) (fun v D hv => ?_); subst hv; cases q1 <;> conv => whnf)
    | (refine XCall.val h2 (fun w hw => trivial) (fun v D hv => ?_); subst hv; cases q2 <;> conv => whnf)
    | (split <;> conv => whnf)
    | (refine XIf.split (fun hi => ?_) (fun hi => ?_) <;> conv => whnf)
    | (refine XHeld.mk ?_ ?_; (focus (first | exact Ent.refl _ | exact Ent.left _ _ | exact Ent.of_le ⟨List.sublist_append_left _ _, fun w h => h⟩ | exact Ent.of_le ⟨List.Sublist.refl _, fun w h => h.1⟩)); conv => whnf))
   all_goals refine ⟨_, Ent.refl _, ?_⟩
   all_goals first | rfl | (congr 1; done) | (congr 1; rw [Bool.eq_iff_iff]; simp_all [iGe_eq, iLt_eq, iLe_eq, iGt_eq, iEq_eq, iNe_eq, and_assoc]; done) | (congr 1; rw [Bool.eq_iff_iff]; simp_all [iGe_eq, iLt_eq, iLe_eq, iGt_eq, iEq_eq, iNe_eq, and_assoc]; omega) | (congr 1; rw [Bool.eq_iff_iff]; (try cases q1) <;> (try cases q2) <;> (try cases q3) <;> (try simp_all [iGe_eq, iLt_eq, iLe_eq, iGt_eq, iEq_eq, iNe_eq, and_assoc]) <;> (try omega); done)

theorem ch_false (T : Int → Bool) (x : Chn) : chOk T false x = ((iEq x.ltag 0 || T x.ltag) && (if x.opn then T x.tag && iGe x.tag x.ltag else iEq x.tag 0 && (iEq x.op 0 && (iEq x.place 0 && decide (x.cn = 0))))) := by
 unfold chOk
 simp

theorem r12ch0_spec (x : Chn) (hl : x.left = 0) : PureSpec Tryz.prog 87 [.agg ⟨dchC x⟩, .int .i64 0] (fun _ => True) (fun v F => v = .bool (chOk (tagL · 0) false x)) := by
 rw [ch_false]
 obtain ⟨o, tag, cop, place, ch, cn, left, ltag, lans, lh, ln⟩ := x
 dsimp only at hl ⊢
 subst hl
 cases o
 · have h0 := r11ch01_spec ⟨false, tag, cop, place, ch, cn, 0, ltag, lans, lh, ln⟩
   dsimp only at h0
   rw [if_neg (by decide), show iEq (0 : Int) 0 = true by simp [iEq_eq], Bool.true_and] at h0
   rw [if_neg (by decide)]
   generalize ((iEq ltag 0 || tagL ltag 0) && (iEq tag 0 && (iEq cop 0 && (iEq place 0 && decide (cn = 0))))) = q at *
   refine PureSpec.of_xc tabOk Tryz.func87 rfl (by decide) (n := Tryz.f87.ntmps - 2) rfl rfl fun w0 av => ?_
   conv => whnf
   repeat (first | (refine XSame.of ?_; conv => whnf) | (refine XDep.all _ _ _ _ ?_; conv => whnf))
   intro b2
   conv => whnf
   repeat (first | (refine XSame.of ?_; conv => whnf) | (refine XDep.all _ _ _ _ ?_; conv => whnf))
   refine XCall.val h0 (fun w hw => trivial) (fun v D hv => ?_)
   subst hv
   conv => whnf
   repeat (first | (refine XSame.of ?_; conv => whnf) | (refine XDep.all _ _ _ _ ?_; conv => whnf))
   exact ⟨_, Ent.refl _, rfl⟩
 · have h0 := r11ch01_spec ⟨true, tag, cop, place, ch, cn, 1, ltag, lans, lh, ln⟩
   dsimp only at h0
   rw [if_pos rfl, show (iGe (1 : Int) 1 && iLe (1 : Int) 1) = true by simp [iGe_eq, iLe_eq], Bool.and_true] at h0
   rw [if_pos rfl]
   generalize ((iEq ltag 0 || tagL ltag 0) && (tagL tag 0 && iGe tag ltag)) = q at *
   refine PureSpec.of_xc tabOk Tryz.func87 rfl (by decide) (n := Tryz.f87.ntmps - 2) rfl rfl fun w0 av => ?_
   conv => whnf
   repeat (first | (refine XSame.of ?_; conv => whnf) | (refine XDep.all _ _ _ _ ?_; conv => whnf))
   intro b2
   conv => whnf
   repeat (first | (refine XSame.of ?_; conv => whnf) | (refine XDep.all _ _ _ _ ?_; conv => whnf))
   refine XCall.val h0 (fun w hw => trivial) (fun v D hv => ?_)
   subst hv
   conv => whnf
   repeat (first | (refine XSame.of ?_; conv => whnf) | (refine XDep.all _ _ _ _ ?_; conv => whnf))
   exact ⟨_, Ent.refl _, rfl⟩

theorem r12ch1_spec (x : Chn) (hl : x.left = 0) : PureSpec Tryz.prog 87 [.agg ⟨dchC x⟩, .int .i64 1] (fun _ => True) (fun v F => v = .bool (chOk (tagL · 1) false x)) := by
 rw [ch_false]
 obtain ⟨o, tag, cop, place, ch, cn, left, ltag, lans, lh, ln⟩ := x
 dsimp only at hl ⊢
 subst hl
 cases o
 · have h0 := r11ch11_spec ⟨false, tag, cop, place, ch, cn, 0, ltag, lans, lh, ln⟩
   dsimp only at h0
   rw [if_neg (by decide), show iEq (0 : Int) 0 = true by simp [iEq_eq], Bool.true_and] at h0
   rw [if_neg (by decide)]
   generalize ((iEq ltag 0 || tagL ltag 1) && (iEq tag 0 && (iEq cop 0 && (iEq place 0 && decide (cn = 0))))) = q at *
   refine PureSpec.of_xc tabOk Tryz.func87 rfl (by decide) (n := Tryz.f87.ntmps - 2) rfl rfl fun w0 av => ?_
   conv => whnf
   repeat (first | (refine XSame.of ?_; conv => whnf) | (refine XDep.all _ _ _ _ ?_; conv => whnf))
   intro b2
   conv => whnf
   repeat (first | (refine XSame.of ?_; conv => whnf) | (refine XDep.all _ _ _ _ ?_; conv => whnf))
   refine XCall.val h0 (fun w hw => trivial) (fun v D hv => ?_)
   subst hv
   conv => whnf
   repeat (first | (refine XSame.of ?_; conv => whnf) | (refine XDep.all _ _ _ _ ?_; conv => whnf))
   exact ⟨_, Ent.refl _, rfl⟩
 · have h0 := r11ch11_spec ⟨true, tag, cop, place, ch, cn, 1, ltag, lans, lh, ln⟩
   dsimp only at h0
   rw [if_pos rfl, show (iGe (1 : Int) 1 && iLe (1 : Int) 1) = true by simp [iGe_eq, iLe_eq], Bool.and_true] at h0
   rw [if_pos rfl]
   generalize ((iEq ltag 0 || tagL ltag 1) && (tagL tag 1 && iGe tag ltag)) = q at *
   refine PureSpec.of_xc tabOk Tryz.func87 rfl (by decide) (n := Tryz.f87.ntmps - 2) rfl rfl fun w0 av => ?_
   conv => whnf
   repeat (first | (refine XSame.of ?_; conv => whnf) | (refine XDep.all _ _ _ _ ?_; conv => whnf))
   intro b2
   conv => whnf
   repeat (first | (refine XSame.of ?_; conv => whnf) | (refine XDep.all _ _ _ _ ?_; conv => whnf))
   refine XCall.val h0 (fun w hw => trivial) (fun v D hv => ?_)
   subst hv
   conv => whnf
   repeat (first | (refine XSame.of ?_; conv => whnf) | (refine XDep.all _ _ _ _ ?_; conv => whnf))
   exact ⟨_, Ent.refl _, rfl⟩

theorem r13valid_spec (x : Ser) (h0 : x.co.left = 0) (h1 : x.ci.left = 0) : PureSpec Tryz.prog 36 [.agg ⟨serR x⟩] (fun _ => True) (fun v F => v = .bool (serOk x)) := by
 have hq1 := r12ch0_spec x.co h0
 have hq2 := r12ch1_spec x.ci h1
 unfold serOk
 generalize chOk (tagL · 0) false x.co = q1 at *
 generalize chOk (tagL · 1) false x.ci = q2 at *
 refine PureSpec.of_xc tabOk Tryz.func36 rfl (by decide) (n := Tryz.f36.ntmps - 1) rfl rfl fun w0 av => ?_
 conv => whnf
 repeat (first | (refine XSame.of ?_; conv => whnf) | (refine XDep.all _ _ _ _ ?_; conv => whnf))
 intro b1
 conv => whnf
 repeat (first | (refine XSame.of ?_; conv => whnf) | (refine XDep.all _ _ _ _ ?_; conv => whnf))
 repeat' (first
  | (refine And.intro ?_ ?_ <;> conv => whnf)
  | (refine XHeld.same rfl ?_; conv => whnf)
  | (refine XHeld.row rfl ?_; conv => whnf)
  | (refine XHeld.call rfl ?_; conv => whnf)
  | (refine XHeld.factCall rfl ?_; conv => whnf)
  | (refine XKeep.of ?_; conv => whnf)
  | (refine XSame.of ?_; conv => whnf)
  | (refine XDep.all _ _ _ _ ?_; conv => whnf)
  | (refine XCall.val hq1 (fun w hw => trivial) (fun v D hv => ?_); subst hv; cases q1 <;> conv => whnf)
  | (refine XCall.val hq2 (fun w hw => trivial) (fun v D hv => ?_); subst hv; conv => whnf)
  | (split <;> conv => whnf)
  | (refine XHeld.mk ?_ ?_; (focus (first | exact Ent.refl _ | exact Ent.left _ _ | exact Ent.of_le ⟨List.sublist_append_left _ _, fun w h => h⟩ | exact Ent.of_le ⟨List.Sublist.refl _, fun w h => h.1⟩)); conv => whnf))
 all_goals refine ⟨_, Ent.refl _, ?_⟩
 all_goals first | rfl | (congr 1; done) | (congr 1; rw [Bool.eq_iff_iff]; simp_all [iGe_eq, iLt_eq, iLe_eq, iGt_eq, iEq_eq, iNe_eq, and_assoc]; done) | (congr 1; rw [Bool.eq_iff_iff]; simp_all [iGe_eq, iLt_eq, iLe_eq, iGt_eq, iEq_eq, iNe_eq, and_assoc]; omega) | (congr 1; rw [Bool.eq_iff_iff]; (try cases q1) <;> (try cases q2) <;> (try cases q3) <;> (try simp_all [iGe_eq, iLt_eq, iLe_eq, iGt_eq, iEq_eq, iNe_eq, and_assoc]) <;> (try omega); done)

end Go.Proofs.YtakammghcodmgaaGreatDoor
