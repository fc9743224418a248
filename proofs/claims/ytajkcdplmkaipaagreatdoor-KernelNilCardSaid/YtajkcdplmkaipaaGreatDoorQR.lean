/- Parts of the proof: KmD, KmE, KnE, KnK, KnL, KnM, KmF, KmG, KnN, KnO, KnP. -/
import Derived.Test.YtajkcdplmkaipaaGreatDoorQQ
import Derived.Test.YtajkcdplmkaipaaGreatDoorQP
import Derived.Test.YtajkcdplmkaipaaGreatDoorQO
namespace Go.Proofs.YtajkcdplmkaipaaGreatDoor
open Go Go.Sx
set_option maxRecDepth 100000
set_option maxHeartbeats 4000000
set_option linter.unusedVariables false
set_option linter.unusedSimpArgs false

/-- A list of n elements at nil. -/
def nl {α : Type} [Inhabited α] (n : Nat) : Sl α := ⟨Hd.nil, List.replicate n default⟩
instance : Inhabited Acc := ⟨⟨0, 0, 0, 0, 0, false⟩⟩
instance : Inhabited Nws := ⟨⟨0, 0, 0⟩⟩
/-- A state without anything; its lists have n elements. -/
def zN (n : Nat) : Sta := ⟨fun _ => default, fun _ => false, nl n, nl n, 0, nl n, nl n, nl n, nl n, nl n, fun _ => nl n, nl n, nl n, default, ⟨0, 0, false, false⟩, { lnk0 with fly := List.replicate n default, wait := List.replicate n default }, default, 0, nl n, fun _ => false, nl n, nl n, nl n, nl n⟩
theorem zN_zero : zN 0 = zS := rfl
theorem zR_T : ∀ i, i < 32 → laid (refC zS) (i * 8) (tskC default) = refC zS := fun i hi => by
 have h := put_RT zS default i hi
 rw [h]
 congr 1
 show { zS with T := upd zS.T i default } = zS
 have : upd zS.T i default = zS.T := by
  funext j
  unfold upd
  split <;> rfl
 rw [this]

noncomputable def mcCode : Code := Tryz.f58.body.getD .skip
def mcTm (b2 b3 b4 b6 b7 : Nat) : List SV := [.any, .any, .v (.pointer (some ⟨b2, 0, none⟩)), .v (.pointer (some ⟨b3, 0, none⟩)), .v (.pointer (some ⟨b4, 0, none⟩)), .any, .v (.pointer (some ⟨b6, 0, none⟩)), .v (.pointer (some ⟨b7, 0, none⟩))] ++ List.replicate 168 .any
noncomputable def mcEnd : Exit → KT := kEnd tab Tryz.f58.results.toList (pureFin fun v F => v = .agg ⟨refC zS⟩)

theorem mc14 (n : Nat) (hn : n = 0) (Z Y LK SE : List Value) (hZ : refC zS = Z) (hY : staC (zN n) = Y) (hLK : lnkC (zN n).lk = LK) (hSE : serC (default : Ser) = SE) (b2 b3 b4 b6 b7 : Nat) (w0 : World) (av : Nat → Prop) : XStop Tryz.prog w0 (fun _ _ => False) av (cTail 14 mcCode) (mcTm b2 b3 b4 b6 b7) [] [] ⟨fun w => RowAt w (some ⟨b3, 0, none⟩) Y, [(b2, Row.c Z), (b4, Row.c Z), (b6, Row.c LK), (b7, Row.c SE)]⟩ mcEnd := by
 have hZl : Z.length = 380 := by rw [← hZ]; exact refC_len zS
 have hYl : Y.length = 376 := by rw [← hY]; exact staC_len _
 refine XStop.of_xc tabOk ?_
 conv => whnf
 repeat (first | (refine XSame.of ?_; conv => whnf) | (refine XDep.all _ _ _ _ ?_; conv => whnf))
 have hZ1 : ∀ v ∈ Z, oneCell v = true := by rw [← hZ]; exact List.all_eq_true.1 (by kernel_rfl)
 refine XVal.of_read (XRead.loads tabOk rfl rfl (ad := ⟨b2, 0, none⟩) (k := 0) (L := Z) (m := Z) (Sees.row (by simp)) rfl (by rw [List.drop_zero, List.take_of_length_le (by rw [hZl]; exact Nat.le_refl _)]) hZl ?_)
 conv => whnf
 repeat (first | (refine XSame.of ?_; conv => whnf) | (refine XDep.all _ _ _ _ ?_; conv => whnf))
 refine XUnit.ent (F' := ⟨fun w => RowAt w (some ⟨b3, 0, none⟩) Y, [(b2, Row.c Z)] ++ [(b4, Row.c Z)] ++ []⟩) (Ent.of_le ⟨by simp, fun w hw => hw⟩) ?_
 refine XUnit.storeTo tabOk rfl (b := b4) (k := 0) (X := Z) rfl (by show Z.length = 380; exact hZl) (fun u hu => hZ1 u hu) (by rw [hZl]; exact Nat.le_refl _) (laid_whole (C := Z) (z := Z) rfl) ?_
 conv => whnf
 repeat (first | (refine XSame.of ?_; conv => whnf) | (refine XDep.all _ _ _ _ ?_; conv => whnf))
 refine ⟨b4, Z, ⟨rfl, rfl, by simp, hZl⟩, ?_⟩
 conv => whnf
 repeat (first | (refine XSame.of ?_; conv => whnf) | (refine XDep.all _ _ _ _ ?_; conv => whnf))
 exact ⟨_, Ent.refl _, by rw [hZ]⟩

theorem mc13 (n : Nat) (hn : n = 0) (Z Y LK SE : List Value) (hZ : refC zS = Z) (hY : staC (zN n) = Y) (hLK : lnkC (zN n).lk = LK) (hSE : serC (default : Ser) = SE) (b2 b3 b4 b6 b7 : Nat) (w0 : World) (av : Nat → Prop) : XStop Tryz.prog w0 (fun _ _ => False) av (cTail 13 mcCode) (mcTm b2 b3 b4 b6 b7) [] [] ⟨fun w => RowAt w (some ⟨b3, 0, none⟩) Y, [(b2, Row.c Z), (b4, Row.c Z), (b6, Row.c LK), (b7, Row.c SE)]⟩ mcEnd := by
 have hZl : Z.length = 380 := by rw [← hZ]; exact refC_len zS
 have hYl : Y.length = 376 := by rw [← hY]; exact staC_len _
 refine XStop.cutN tabOk 1 (ι := Unit) (fun _ => True) (fun _ => (mcTm b2 b3 b4 b6 b7)) (fun _ => []) (fun _ => ⟨fun w => RowAt w (some ⟨b3, 0, none⟩) Y, [(b2, Row.c Z), (b4, Row.c Z), (b6, Row.c LK), (b7, Row.c SE)]⟩) ?_ ?_
 · conv => whnf
   repeat (first | (refine XSame.of ?_; conv => whnf) | (refine XDep.all _ _ _ _ ?_; conv => whnf))
   refine XVal.of_read (XRead.loadF tabOk rfl rfl (ad := ⟨b3, 0, none⟩) (k := 372) (L := Y) (v := .slice none (List.replicate n (default : Lin)).length 0) (.fact fun w hw => hw) (fun _ => rfl) (by rw [← hY]; kernel_rfl) ?_)
   conv => whnf
   repeat (first | (refine XSame.of ?_; conv => whnf) | (refine XDep.all _ _ _ _ ?_; conv => whnf))
   refine XStop.once tabOk ?_
   conv => whnf
   repeat (first | (refine XSame.of ?_; conv => whnf) | (refine XDep.all _ _ _ _ ?_; conv => whnf))
   refine XIf.no (by simp [iLt_eq, hn]) ?_
   conv => whnf
   repeat (first | (refine XSame.of ?_; conv => whnf) | (refine XDep.all _ _ _ _ ?_; conv => whnf))
   refine ⟨(), trivial, [], ⟨by decide, by simp, rfl⟩, ?_, Ent.of_le ⟨by simp, fun w hw => hw⟩⟩
   repeat (first | exact FLe.nil | refine FLe.any ?_ | refine FLe.cons ?_)
 · intro _ _ bs' hbs'
   obtain rfl := List.eq_nil_of_length_eq_zero hbs'
   rw [cTail_add]
   exact mc14 n hn Z Y LK SE hZ hY hLK hSE b2 b3 b4 b6 b7 w0 av

theorem mc12 (n : Nat) (hn : n = 0) (Z Y LK SE : List Value) (hZ : refC zS = Z) (hY : staC (zN n) = Y) (hLK : lnkC (zN n).lk = LK) (hSE : serC (default : Ser) = SE) (b2 b3 b4 b6 b7 : Nat) (w0 : World) (av : Nat → Prop) : XStop Tryz.prog w0 (fun _ _ => False) av (cTail 12 mcCode) (mcTm b2 b3 b4 b6 b7) [] [] ⟨fun w => RowAt w (some ⟨b3, 0, none⟩) Y, [(b2, Row.c Z), (b4, Row.c Z), (b6, Row.c LK), (b7, Row.c SE)]⟩ mcEnd := by
 have hZl : Z.length = 380 := by rw [← hZ]; exact refC_len zS
 have hYl : Y.length = 376 := by rw [← hY]; exact staC_len _
 refine XStop.cutN tabOk 1 (ι := Unit) (fun _ => True) (fun _ => (mcTm b2 b3 b4 b6 b7)) (fun _ => []) (fun _ => ⟨fun w => RowAt w (some ⟨b3, 0, none⟩) Y, [(b2, Row.c Z), (b4, Row.c Z), (b6, Row.c LK), (b7, Row.c SE)]⟩) ?_ ?_
 · conv => whnf
   repeat (first | (refine XSame.of ?_; conv => whnf) | (refine XDep.all _ _ _ _ ?_; conv => whnf))
   refine XVal.of_read (XRead.loads tabOk rfl rfl (ad := ⟨b3, 0, none⟩) (k := 367) (L := Y) (m := [.bool false, .bool false, .bool false, .bool false, .bool false]) (.fact fun w hw => hw) rfl (by rw [← hY]; kernel_rfl) rfl ?_)
   conv => whnf
   repeat (first | (refine XSame.of ?_; conv => whnf) | (refine XDep.all _ _ _ _ ?_; conv => whnf))
   refine XUnit.ent (F' := ⟨fun w => RowAt w (some ⟨b3, 0, none⟩) Y, [] ++ [(b2, Row.c Z)] ++ [(b4, Row.c Z), (b6, Row.c LK), (b7, Row.c SE)]⟩) (Ent.of_le ⟨by simp, fun w hw => hw⟩) ?_
   refine XUnit.storeTo tabOk rfl (b := b2) (k := 371) (X := Z) rfl rfl (List.all_eq_true.1 (by rfl)) (by rw [hZl]; show 371 + 5 ≤ 380; decide) (by rw [← hZ]; subst hn; kernel_rfl) ?_
   conv => whnf
   repeat (first | (refine XSame.of ?_; conv => whnf) | (refine XDep.all _ _ _ _ ?_; conv => whnf))
   refine ⟨(), trivial, [], ⟨by decide, by simp, rfl⟩, ?_, Ent.of_le ⟨by simp, fun w hw => hw⟩⟩
   repeat (first | exact FLe.nil | refine FLe.any ?_ | refine FLe.cons ?_)
 · intro _ _ bs' hbs'
   obtain rfl := List.eq_nil_of_length_eq_zero hbs'
   rw [cTail_add]
   exact mc13 n hn Z Y LK SE hZ hY hLK hSE b2 b3 b4 b6 b7 w0 av

theorem mc11 (n : Nat) (hn : n = 0) (Z Y LK SE : List Value) (hZ : refC zS = Z) (hY : staC (zN n) = Y) (hLK : lnkC (zN n).lk = LK) (hSE : serC (default : Ser) = SE) (b2 b3 b4 b6 b7 : Nat) (w0 : World) (av : Nat → Prop) : XStop Tryz.prog w0 (fun _ _ => False) av (cTail 11 mcCode) (mcTm b2 b3 b4 b6 b7) [] [] ⟨fun w => RowAt w (some ⟨b3, 0, none⟩) Y, [(b2, Row.c Z), (b4, Row.c Z), (b6, Row.c LK), (b7, Row.c SE)]⟩ mcEnd := by
 have hZl : Z.length = 380 := by rw [← hZ]; exact refC_len zS
 have hYl : Y.length = 376 := by rw [← hY]; exact staC_len _
 refine XStop.cutN tabOk 1 (ι := Unit) (fun _ => True) (fun _ => (mcTm b2 b3 b4 b6 b7)) (fun _ => []) (fun _ => ⟨fun w => RowAt w (some ⟨b3, 0, none⟩) Y, [(b2, Row.c Z), (b4, Row.c Z), (b6, Row.c LK), (b7, Row.c SE)]⟩) ?_ ?_
 · conv => whnf
   repeat (first | (refine XSame.of ?_; conv => whnf) | (refine XDep.all _ _ _ _ ?_; conv => whnf))
   refine XVal.of_read (XRead.loadF tabOk rfl rfl (ad := ⟨b3, 0, none⟩) (k := 366) (L := Y) (v := .slice none (List.replicate n (default : Al)).length 0) (.fact fun w hw => hw) (fun _ => rfl) (by rw [← hY]; kernel_rfl) ?_)
   conv => whnf
   repeat (first | (refine XSame.of ?_; conv => whnf) | (refine XDep.all _ _ _ _ ?_; conv => whnf))
   refine XStop.once tabOk ?_
   conv => whnf
   repeat (first | (refine XSame.of ?_; conv => whnf) | (refine XDep.all _ _ _ _ ?_; conv => whnf))
   refine XIf.no (by simp [iLt_eq, hn]) ?_
   conv => whnf
   repeat (first | (refine XSame.of ?_; conv => whnf) | (refine XDep.all _ _ _ _ ?_; conv => whnf))
   refine ⟨(), trivial, [], ⟨by decide, by simp, rfl⟩, ?_, Ent.of_le ⟨by simp, fun w hw => hw⟩⟩
   repeat (first | exact FLe.nil | refine FLe.any ?_ | refine FLe.cons ?_)
 · intro _ _ bs' hbs'
   obtain rfl := List.eq_nil_of_length_eq_zero hbs'
   rw [cTail_add]
   exact mc12 n hn Z Y LK SE hZ hY hLK hSE b2 b3 b4 b6 b7 w0 av

theorem mc10 (n : Nat) (hn : n = 0) (Z Y LK SE : List Value) (hZ : refC zS = Z) (hY : staC (zN n) = Y) (hLK : lnkC (zN n).lk = LK) (hSE : serC (default : Ser) = SE) (b2 b3 b4 b6 b7 : Nat) (w0 : World) (av : Nat → Prop) : XStop Tryz.prog w0 (fun _ _ => False) av (cTail 10 mcCode) (mcTm b2 b3 b4 b6 b7) [] [] ⟨fun w => RowAt w (some ⟨b3, 0, none⟩) Y, [(b2, Row.c Z), (b4, Row.c Z), (b6, Row.c LK), (b7, Row.c SE)]⟩ mcEnd := by
 have hZl : Z.length = 380 := by rw [← hZ]; exact refC_len zS
 have hYl : Y.length = 376 := by rw [← hY]; exact staC_len _
 refine XStop.cutN tabOk 1 (ι := Unit) (fun _ => True) (fun _ => (mcTm b2 b3 b4 b6 b7)) (fun _ => []) (fun _ => ⟨fun w => RowAt w (some ⟨b3, 0, none⟩) Y, [(b2, Row.c Z), (b4, Row.c Z), (b6, Row.c LK), (b7, Row.c SE)]⟩) ?_ ?_
 · conv => whnf
   repeat (first | (refine XSame.of ?_; conv => whnf) | (refine XDep.all _ _ _ _ ?_; conv => whnf))
   refine XVal.of_read (XRead.loadF tabOk rfl rfl (ad := ⟨b3, 0, none⟩) (k := 365) (L := Y) (v := .int .i64 0) (.fact fun w hw => hw) (fun _ => rfl) (by rw [← hY]; kernel_rfl) ?_)
   conv => whnf
   repeat (first | (refine XSame.of ?_; conv => whnf) | (refine XDep.all _ _ _ _ ?_; conv => whnf))
   refine XUnit.ent (F' := ⟨fun w => RowAt w (some ⟨b3, 0, none⟩) Y, [] ++ [(b2, Row.c Z)] ++ [(b4, Row.c Z), (b6, Row.c LK), (b7, Row.c SE)]⟩) (Ent.of_le ⟨by simp, fun w hw => hw⟩) ?_
   refine XUnit.storeTo tabOk rfl (b := b2) (k := 369) (X := Z) rfl rfl (List.all_eq_true.1 (by rfl)) (by rw [hZl]; show 369 + 1 ≤ 380; decide) (by rw [← hZ]; subst hn; kernel_rfl) ?_
   conv => whnf
   repeat (first | (refine XSame.of ?_; conv => whnf) | (refine XDep.all _ _ _ _ ?_; conv => whnf))
   refine ⟨(), trivial, [], ⟨by decide, by simp, rfl⟩, ?_, Ent.of_le ⟨by simp, fun w hw => hw⟩⟩
   repeat (first | exact FLe.nil | refine FLe.any ?_ | refine FLe.cons ?_)
 · intro _ _ bs' hbs'
   obtain rfl := List.eq_nil_of_length_eq_zero hbs'
   rw [cTail_add]
   exact mc11 n hn Z Y LK SE hZ hY hLK hSE b2 b3 b4 b6 b7 w0 av

theorem mc9 (n : Nat) (hn : n = 0) (Z Y LK SE : List Value) (hZ : refC zS = Z) (hY : staC (zN n) = Y) (hLK : lnkC (zN n).lk = LK) (hSE : serC (default : Ser) = SE) (b2 b3 b4 b6 b7 : Nat) (w0 : World) (av : Nat → Prop) : XStop Tryz.prog w0 (fun _ _ => False) av (cTail 9 mcCode) (mcTm b2 b3 b4 b6 b7) [] [] ⟨fun w => RowAt w (some ⟨b3, 0, none⟩) Y, [(b2, Row.c Z), (b4, Row.c Z), (b6, Row.c LK), (b7, Row.c SE)]⟩ mcEnd := by
 have hZl : Z.length = 380 := by rw [← hZ]; exact refC_len zS
 have hYl : Y.length = 376 := by rw [← hY]; exact staC_len _
 refine XStop.cutN tabOk 1 (ι := Unit) (fun _ => True) (fun _ => (mcTm b2 b3 b4 b6 b7)) (fun _ => []) (fun _ => ⟨fun w => RowAt w (some ⟨b3, 0, none⟩) Y, [(b2, Row.c Z), (b4, Row.c Z), (b6, Row.c LK), (b7, Row.c SE)]⟩) ?_ ?_
 · conv => whnf
   repeat (first | (refine XSame.of ?_; conv => whnf) | (refine XDep.all _ _ _ _ ?_; conv => whnf))
   refine XVal.of_read (XRead.loadF tabOk rfl rfl (ad := ⟨b7, 0, none⟩) (k := 13) (L := SE) (v := .bool false) (Sees.row (by simp)) (fun _ => rfl) (by rw [← hSE]; kernel_rfl) ?_)
   conv => whnf
   repeat (first | (refine XSame.of ?_; conv => whnf) | (refine XDep.all _ _ _ _ ?_; conv => whnf))
   refine XVal.of_read (XRead.loads tabOk rfl rfl (ad := ⟨b7, 0, none⟩) (k := 14) (L := SE) (m := [.int .i64 0, .int .i64 0, .int .i64 0, .slice none 0 0]) (Sees.row (by simp)) rfl (by rw [← hSE]; kernel_rfl) rfl ?_)
   conv => whnf
   repeat (first | (refine XSame.of ?_; conv => whnf) | (refine XDep.all _ _ _ _ ?_; conv => whnf))
   refine XVal.of_read (XRead.loads tabOk rfl rfl (ad := ⟨b7, 0, none⟩) (k := 18) (L := SE) (m := [.int .i64 0, .int .i64 0, .slice none 0 0]) (Sees.row (by simp)) rfl (by rw [← hSE]; kernel_rfl) rfl ?_)
   conv => whnf
   repeat (first | (refine XSame.of ?_; conv => whnf) | (refine XDep.all _ _ _ _ ?_; conv => whnf))
   refine XUnit.ent (F' := ⟨fun w => RowAt w (some ⟨b3, 0, none⟩) Y, [] ++ [(b2, Row.c Z)] ++ [(b4, Row.c Z), (b6, Row.c LK), (b7, Row.c SE)]⟩) (Ent.of_le ⟨by simp, fun w hw => hw⟩) ?_
   refine XUnit.storeTo tabOk rfl (b := b2) (k := 360) (X := Z) rfl rfl (List.all_eq_true.1 (by rfl)) (by rw [hZl]; show 360 + 9 ≤ 380; decide) (by rw [← hZ]; subst hn; kernel_rfl) ?_
   conv => whnf
   repeat (first | (refine XSame.of ?_; conv => whnf) | (refine XDep.all _ _ _ _ ?_; conv => whnf))
   refine ⟨(), trivial, [], ⟨by decide, by simp, rfl⟩, ?_, Ent.of_le ⟨by simp, fun w hw => hw⟩⟩
   repeat (first | exact FLe.nil | refine FLe.any ?_ | refine FLe.cons ?_)
 · intro _ _ bs' hbs'
   obtain rfl := List.eq_nil_of_length_eq_zero hbs'
   rw [cTail_add]
   exact mc10 n hn Z Y LK SE hZ hY hLK hSE b2 b3 b4 b6 b7 w0 av

theorem mc8 (n : Nat) (hn : n = 0) (Z Y LK SE : List Value) (hZ : refC zS = Z) (hY : staC (zN n) = Y) (hLK : lnkC (zN n).lk = LK) (hSE : serC (default : Ser) = SE) (b2 b3 b4 b6 b7 : Nat) (w0 : World) (av : Nat → Prop) : XStop Tryz.prog w0 (fun _ _ => False) av (cTail 8 mcCode) (mcTm b2 b3 b4 b6 b7) [] [] ⟨fun w => RowAt w (some ⟨b3, 0, none⟩) Y, [(b2, Row.c Z), (b4, Row.c Z), (b6, Row.c LK), (b7, Row.c SE)]⟩ mcEnd := by
 have hZl : Z.length = 380 := by rw [← hZ]; exact refC_len zS
 have hYl : Y.length = 376 := by rw [← hY]; exact staC_len _
 refine XStop.cutN tabOk 1 (ι := Unit) (fun _ => True) (fun _ => (mcTm b2 b3 b4 b6 b7)) (fun _ => []) (fun _ => ⟨fun w => RowAt w (some ⟨b3, 0, none⟩) Y, [(b2, Row.c Z), (b4, Row.c Z), (b6, Row.c LK), (b7, Row.c SE)]⟩) ?_ ?_
 · conv => whnf
   repeat (first | (refine XSame.of ?_; conv => whnf) | (refine XDep.all _ _ _ _ ?_; conv => whnf))
   refine XVal.of_read (XRead.loadF tabOk rfl rfl (ad := ⟨b7, 0, none⟩) (k := 5) (L := SE) (v := .bool false) (Sees.row (by simp)) (fun _ => rfl) (by rw [← hSE]; kernel_rfl) ?_)
   conv => whnf
   repeat (first | (refine XSame.of ?_; conv => whnf) | (refine XDep.all _ _ _ _ ?_; conv => whnf))
   refine XVal.of_read (XRead.loads tabOk rfl rfl (ad := ⟨b7, 0, none⟩) (k := 6) (L := SE) (m := [.int .i64 0, .int .i64 0, .int .i64 0, .slice none 0 0]) (Sees.row (by simp)) rfl (by rw [← hSE]; kernel_rfl) rfl ?_)
   conv => whnf
   repeat (first | (refine XSame.of ?_; conv => whnf) | (refine XDep.all _ _ _ _ ?_; conv => whnf))
   refine XVal.of_read (XRead.loads tabOk rfl rfl (ad := ⟨b7, 0, none⟩) (k := 10) (L := SE) (m := [.int .i64 0, .int .i64 0, .slice none 0 0]) (Sees.row (by simp)) rfl (by rw [← hSE]; kernel_rfl) rfl ?_)
   conv => whnf
   repeat (first | (refine XSame.of ?_; conv => whnf) | (refine XDep.all _ _ _ _ ?_; conv => whnf))
   refine XUnit.ent (F' := ⟨fun w => RowAt w (some ⟨b3, 0, none⟩) Y, [] ++ [(b2, Row.c Z)] ++ [(b4, Row.c Z), (b6, Row.c LK), (b7, Row.c SE)]⟩) (Ent.of_le ⟨by simp, fun w hw => hw⟩) ?_
   refine XUnit.storeTo tabOk rfl (b := b2) (k := 351) (X := Z) rfl rfl (List.all_eq_true.1 (by rfl)) (by rw [hZl]; show 351 + 9 ≤ 380; decide) (by rw [← hZ]; subst hn; kernel_rfl) ?_
   conv => whnf
   repeat (first | (refine XSame.of ?_; conv => whnf) | (refine XDep.all _ _ _ _ ?_; conv => whnf))
   refine ⟨(), trivial, [], ⟨by decide, by simp, rfl⟩, ?_, Ent.of_le ⟨by simp, fun w hw => hw⟩⟩
   repeat (first | exact FLe.nil | refine FLe.any ?_ | refine FLe.cons ?_)
 · intro _ _ bs' hbs'
   obtain rfl := List.eq_nil_of_length_eq_zero hbs'
   rw [cTail_add]
   exact mc9 n hn Z Y LK SE hZ hY hLK hSE b2 b3 b4 b6 b7 w0 av

theorem mc7 (n : Nat) (hn : n = 0) (Z Y LK SE : List Value) (hZ : refC zS = Z) (hY : staC (zN n) = Y) (hLK : lnkC (zN n).lk = LK) (hSE : serC (default : Ser) = SE) (b2 b3 b4 b6 b7 : Nat) (w0 : World) (av : Nat → Prop) : XStop Tryz.prog w0 (fun _ _ => False) av (cTail 7 mcCode) (mcTm b2 b3 b4 b6 b7) [] [] ⟨fun w => RowAt w (some ⟨b3, 0, none⟩) Y, [(b2, Row.c Z), (b4, Row.c Z), (b6, Row.c LK), (b7, Row.c SE)]⟩ mcEnd := by
 have hZl : Z.length = 380 := by rw [← hZ]; exact refC_len zS
 have hYl : Y.length = 376 := by rw [← hY]; exact staC_len _
 refine XStop.cutN tabOk 1 (ι := Unit) (fun _ => True) (fun _ => (mcTm b2 b3 b4 b6 b7)) (fun _ => []) (fun _ => ⟨fun w => RowAt w (some ⟨b3, 0, none⟩) Y, [(b2, Row.c Z), (b4, Row.c Z), (b6, Row.c LK), (b7, Row.c SE)]⟩) ?_ ?_
 · conv => whnf
   repeat (first | (refine XSame.of ?_; conv => whnf) | (refine XDep.all _ _ _ _ ?_; conv => whnf))
   refine XVal.of_read (XRead.loadF tabOk rfl rfl (ad := ⟨b7, 0, none⟩) (k := 0) (L := SE) (v := .slice none 0 0) (Sees.row (by simp)) (fun _ => rfl) (by rw [← hSE]; kernel_rfl) ?_)
   conv => whnf
   repeat (first | (refine XSame.of ?_; conv => whnf) | (refine XDep.all _ _ _ _ ?_; conv => whnf))
   refine XVal.of_read (XRead.loadF tabOk rfl rfl (ad := ⟨b7, 0, none⟩) (k := 1) (L := SE) (v := .int .i64 0) (Sees.row (by simp)) (fun _ => rfl) (by rw [← hSE]; kernel_rfl) ?_)
   conv => whnf
   repeat (first | (refine XSame.of ?_; conv => whnf) | (refine XDep.all _ _ _ _ ?_; conv => whnf))
   refine XVal.of_read (XRead.loadF tabOk rfl rfl (ad := ⟨b7, 0, none⟩) (k := 2) (L := SE) (v := .int .i64 0) (Sees.row (by simp)) (fun _ => rfl) (by rw [← hSE]; kernel_rfl) ?_)
   conv => whnf
   repeat (first | (refine XSame.of ?_; conv => whnf) | (refine XDep.all _ _ _ _ ?_; conv => whnf))
   refine XVal.of_read (XRead.loadF tabOk rfl rfl (ad := ⟨b7, 0, none⟩) (k := 3) (L := SE) (v := .slice none 0 0) (Sees.row (by simp)) (fun _ => rfl) (by rw [← hSE]; kernel_rfl) ?_)
   conv => whnf
   repeat (first | (refine XSame.of ?_; conv => whnf) | (refine XDep.all _ _ _ _ ?_; conv => whnf))
   refine XVal.of_read (XRead.loadF tabOk rfl rfl (ad := ⟨b7, 0, none⟩) (k := 4) (L := SE) (v := .slice none 0 0) (Sees.row (by simp)) (fun _ => rfl) (by rw [← hSE]; kernel_rfl) ?_)
   conv => whnf
   repeat (first | (refine XSame.of ?_; conv => whnf) | (refine XDep.all _ _ _ _ ?_; conv => whnf))
   refine XUnit.ent (F' := ⟨fun w => RowAt w (some ⟨b3, 0, none⟩) Y, [] ++ [(b2, Row.c Z)] ++ [(b4, Row.c Z), (b6, Row.c LK), (b7, Row.c SE)]⟩) (Ent.of_le ⟨by simp, fun w hw => hw⟩) ?_
   refine XUnit.storeTo tabOk rfl (b := b2) (k := 346) (X := Z) rfl rfl (List.all_eq_true.1 (by rfl)) (by rw [hZl]; show 346 + 23 ≤ 380; decide) (by rw [← hZ]; subst hn; kernel_rfl) ?_
   conv => whnf
   repeat (first | (refine XSame.of ?_; conv => whnf) | (refine XDep.all _ _ _ _ ?_; conv => whnf))
   refine ⟨(), trivial, [], ⟨by decide, by simp, rfl⟩, ?_, Ent.of_le ⟨by simp, fun w hw => hw⟩⟩
   repeat (first | exact FLe.nil | refine FLe.any ?_ | refine FLe.cons ?_)
 · intro _ _ bs' hbs'
   obtain rfl := List.eq_nil_of_length_eq_zero hbs'
   rw [cTail_add]
   exact mc8 n hn Z Y LK SE hZ hY hLK hSE b2 b3 b4 b6 b7 w0 av

theorem mc6 (n : Nat) (hn : n = 0) (Z Y LK SE : List Value) (hZ : refC zS = Z) (hY : staC (zN n) = Y) (hLK : lnkC (zN n).lk = LK) (hSE : serC (default : Ser) = SE) (b2 b3 b4 b6 b7 : Nat) (w0 : World) (av : Nat → Prop) : XStop Tryz.prog w0 (fun _ _ => False) av (cTail 6 mcCode) (mcTm b2 b3 b4 b6 b7) [] [] ⟨fun w => RowAt w (some ⟨b3, 0, none⟩) Y, [(b2, Row.c Z), (b4, Row.c Z), (b6, Row.c LK), (b7, Row.c SE)]⟩ mcEnd := by
 have hZl : Z.length = 380 := by rw [← hZ]; exact refC_len zS
 have hYl : Y.length = 376 := by rw [← hY]; exact staC_len _
 refine XStop.cutN tabOk 1 (ι := Unit) (fun _ => True) (fun _ => (mcTm b2 b3 b4 b6 b7)) (fun _ => []) (fun _ => ⟨fun w => RowAt w (some ⟨b3, 0, none⟩) Y, [(b2, Row.c Z), (b4, Row.c Z), (b6, Row.c LK), (b7, Row.c SE)]⟩) ?_ ?_
 · conv => whnf
   repeat (first | (refine XSame.of ?_; conv => whnf) | (refine XDep.all _ _ _ _ ?_; conv => whnf))
   refine XVal.of_read (XRead.loadF tabOk rfl rfl (ad := ⟨b6, 0, none⟩) (k := 4) (L := LK) (v := .slice none (List.replicate n (default : Fli)).length 0) (Sees.row (by simp)) (fun _ => rfl) (by rw [← hLK]; kernel_rfl) ?_)
   conv => whnf
   repeat (first | (refine XSame.of ?_; conv => whnf) | (refine XDep.all _ _ _ _ ?_; conv => whnf))
   refine XStop.once tabOk ?_
   conv => whnf
   repeat (first | (refine XSame.of ?_; conv => whnf) | (refine XDep.all _ _ _ _ ?_; conv => whnf))
   refine XIf.no (by simp [iLt_eq, hn]) ?_
   conv => whnf
   repeat (first | (refine XSame.of ?_; conv => whnf) | (refine XDep.all _ _ _ _ ?_; conv => whnf))
   refine ⟨(), trivial, [], ⟨by decide, by simp, rfl⟩, ?_, Ent.of_le ⟨by simp, fun w hw => hw⟩⟩
   repeat (first | exact FLe.nil | refine FLe.any ?_ | refine FLe.cons ?_)
 · intro _ _ bs' hbs'
   obtain rfl := List.eq_nil_of_length_eq_zero hbs'
   rw [cTail_add]
   exact mc7 n hn Z Y LK SE hZ hY hLK hSE b2 b3 b4 b6 b7 w0 av

theorem mc5 (n : Nat) (hn : n = 0) (Z Y LK SE : List Value) (hZ : refC zS = Z) (hY : staC (zN n) = Y) (hLK : lnkC (zN n).lk = LK) (hSE : serC (default : Ser) = SE) (b2 b3 b4 b6 b7 : Nat) (w0 : World) (av : Nat → Prop) : XStop Tryz.prog w0 (fun _ _ => False) av (cTail 5 mcCode) (mcTm b2 b3 b4 b6 b7) [] [] ⟨fun w => RowAt w (some ⟨b3, 0, none⟩) Y, [(b2, Row.c Z), (b4, Row.c Z), (b6, Row.c LK), (b7, Row.c SE)]⟩ mcEnd := by
 have hZl : Z.length = 380 := by rw [← hZ]; exact refC_len zS
 have hYl : Y.length = 376 := by rw [← hY]; exact staC_len _
 refine XStop.cutN tabOk 1 (ι := Unit) (fun _ => True) (fun _ => (mcTm b2 b3 b4 b6 b7)) (fun _ => []) (fun _ => ⟨fun w => RowAt w (some ⟨b3, 0, none⟩) Y, [(b2, Row.c Z), (b4, Row.c Z), (b6, Row.c LK), (b7, Row.c SE)]⟩) ?_ ?_
 · conv => whnf
   repeat (first | (refine XSame.of ?_; conv => whnf) | (refine XDep.all _ _ _ _ ?_; conv => whnf))
   refine XVal.of_read (XRead.loadF tabOk rfl rfl (ad := ⟨b6, 0, none⟩) (k := 14) (L := LK) (v := .bool false) (Sees.row (by simp)) (fun _ => rfl) (by rw [← hLK]; kernel_rfl) ?_)
   conv => whnf
   repeat (first | (refine XSame.of ?_; conv => whnf) | (refine XDep.all _ _ _ _ ?_; conv => whnf))
   refine XVal.of_read (XRead.loads tabOk rfl rfl (ad := ⟨b6, 0, none⟩) (k := 15) (L := LK) (m := [.int .i64 0, .int .i64 0, .int .i64 0, .slice none 0 0]) (Sees.row (by simp)) rfl (by rw [← hLK]; kernel_rfl) rfl ?_)
   conv => whnf
   repeat (first | (refine XSame.of ?_; conv => whnf) | (refine XDep.all _ _ _ _ ?_; conv => whnf))
   refine XVal.of_read (XRead.loads tabOk rfl rfl (ad := ⟨b6, 0, none⟩) (k := 19) (L := LK) (m := [.int .i64 0, .int .i64 0, .slice none 0 0]) (Sees.row (by simp)) rfl (by rw [← hLK]; kernel_rfl) rfl ?_)
   conv => whnf
   repeat (first | (refine XSame.of ?_; conv => whnf) | (refine XDep.all _ _ _ _ ?_; conv => whnf))
   refine XUnit.ent (F' := ⟨fun w => RowAt w (some ⟨b3, 0, none⟩) Y, [] ++ [(b2, Row.c Z)] ++ [(b4, Row.c Z), (b6, Row.c LK), (b7, Row.c SE)]⟩) (Ent.of_le ⟨by simp, fun w hw => hw⟩) ?_
   refine XUnit.storeTo tabOk rfl (b := b2) (k := 337) (X := Z) rfl rfl (List.all_eq_true.1 (by rfl)) (by rw [hZl]; show 337 + 9 ≤ 380; decide) (by rw [← hZ]; subst hn; kernel_rfl) ?_
   conv => whnf
   repeat (first | (refine XSame.of ?_; conv => whnf) | (refine XDep.all _ _ _ _ ?_; conv => whnf))
   refine ⟨(), trivial, [], ⟨by decide, by simp, rfl⟩, ?_, Ent.of_le ⟨by simp, fun w hw => hw⟩⟩
   repeat (first | exact FLe.nil | refine FLe.any ?_ | refine FLe.cons ?_)
 · intro _ _ bs' hbs'
   obtain rfl := List.eq_nil_of_length_eq_zero hbs'
   rw [cTail_add]
   exact mc6 n hn Z Y LK SE hZ hY hLK hSE b2 b3 b4 b6 b7 w0 av

theorem mc4 (n : Nat) (hn : n = 0) (Z Y LK SE : List Value) (hZ : refC zS = Z) (hY : staC (zN n) = Y) (hLK : lnkC (zN n).lk = LK) (hSE : serC (default : Ser) = SE) (b2 b3 b4 b6 b7 : Nat) (w0 : World) (av : Nat → Prop) : XStop Tryz.prog w0 (fun _ _ => False) av (cTail 4 mcCode) (mcTm b2 b3 b4 b6 b7) [] [] ⟨fun w => RowAt w (some ⟨b3, 0, none⟩) Y, [(b2, Row.c Z), (b4, Row.c Z), (b6, Row.c LK), (b7, Row.c SE)]⟩ mcEnd := by
 have hZl : Z.length = 380 := by rw [← hZ]; exact refC_len zS
 have hYl : Y.length = 376 := by rw [← hY]; exact staC_len _
 refine XStop.cutN tabOk 1 (ι := Unit) (fun _ => True) (fun _ => (mcTm b2 b3 b4 b6 b7)) (fun _ => []) (fun _ => ⟨fun w => RowAt w (some ⟨b3, 0, none⟩) Y, [(b2, Row.c Z), (b4, Row.c Z), (b6, Row.c LK), (b7, Row.c SE)]⟩) ?_ ?_
 · conv => whnf
   repeat (first | (refine XSame.of ?_; conv => whnf) | (refine XDep.all _ _ _ _ ?_; conv => whnf))
   refine XVal.of_read (XRead.loadF tabOk rfl rfl (ad := ⟨b6, 0, none⟩) (k := 6) (L := LK) (v := .bool false) (Sees.row (by simp)) (fun _ => rfl) (by rw [← hLK]; kernel_rfl) ?_)
   conv => whnf
   repeat (first | (refine XSame.of ?_; conv => whnf) | (refine XDep.all _ _ _ _ ?_; conv => whnf))
   refine XVal.of_read (XRead.loads tabOk rfl rfl (ad := ⟨b6, 0, none⟩) (k := 7) (L := LK) (m := [.int .i64 0, .int .i64 0, .int .i64 0, .slice none 0 0]) (Sees.row (by simp)) rfl (by rw [← hLK]; kernel_rfl) rfl ?_)
   conv => whnf
   repeat (first | (refine XSame.of ?_; conv => whnf) | (refine XDep.all _ _ _ _ ?_; conv => whnf))
   refine XVal.of_read (XRead.loads tabOk rfl rfl (ad := ⟨b6, 0, none⟩) (k := 11) (L := LK) (m := [.int .i64 0, .int .i64 0, .slice none 0 0]) (Sees.row (by simp)) rfl (by rw [← hLK]; kernel_rfl) rfl ?_)
   conv => whnf
   repeat (first | (refine XSame.of ?_; conv => whnf) | (refine XDep.all _ _ _ _ ?_; conv => whnf))
   refine XUnit.ent (F' := ⟨fun w => RowAt w (some ⟨b3, 0, none⟩) Y, [] ++ [(b2, Row.c Z)] ++ [(b4, Row.c Z), (b6, Row.c LK), (b7, Row.c SE)]⟩) (Ent.of_le ⟨by simp, fun w hw => hw⟩) ?_
   refine XUnit.storeTo tabOk rfl (b := b2) (k := 328) (X := Z) rfl rfl (List.all_eq_true.1 (by rfl)) (by rw [hZl]; show 328 + 9 ≤ 380; decide) (by rw [← hZ]; subst hn; kernel_rfl) ?_
   conv => whnf
   repeat (first | (refine XSame.of ?_; conv => whnf) | (refine XDep.all _ _ _ _ ?_; conv => whnf))
   refine ⟨(), trivial, [], ⟨by decide, by simp, rfl⟩, ?_, Ent.of_le ⟨by simp, fun w hw => hw⟩⟩
   repeat (first | exact FLe.nil | refine FLe.any ?_ | refine FLe.cons ?_)
 · intro _ _ bs' hbs'
   obtain rfl := List.eq_nil_of_length_eq_zero hbs'
   rw [cTail_add]
   exact mc5 n hn Z Y LK SE hZ hY hLK hSE b2 b3 b4 b6 b7 w0 av

theorem mc3 (n : Nat) (hn : n = 0) (Z Y LK SE : List Value) (hZ : refC zS = Z) (hY : staC (zN n) = Y) (hLK : lnkC (zN n).lk = LK) (hSE : serC (default : Ser) = SE) (b2 b3 b4 b6 b7 : Nat) (w0 : World) (av : Nat → Prop) : XStop Tryz.prog w0 (fun _ _ => False) av (cTail 3 mcCode) (mcTm b2 b3 b4 b6 b7) [] [] ⟨fun w => RowAt w (some ⟨b3, 0, none⟩) Y, [(b2, Row.c Z), (b4, Row.c Z), (b6, Row.c LK), (b7, Row.c SE)]⟩ mcEnd := by
 have hZl : Z.length = 380 := by rw [← hZ]; exact refC_len zS
 have hYl : Y.length = 376 := by rw [← hY]; exact staC_len _
 refine XStop.cutN tabOk 1 (ι := Unit) (fun _ => True) (fun _ => (mcTm b2 b3 b4 b6 b7)) (fun _ => []) (fun _ => ⟨fun w => RowAt w (some ⟨b3, 0, none⟩) Y, [(b2, Row.c Z), (b4, Row.c Z), (b6, Row.c LK), (b7, Row.c SE)]⟩) ?_ ?_
 · conv => whnf
   repeat (first | (refine XSame.of ?_; conv => whnf) | (refine XDep.all _ _ _ _ ?_; conv => whnf))
   refine XVal.of_read (XRead.loadF tabOk rfl rfl (ad := ⟨b6, 0, none⟩) (k := 0) (L := LK) (v := .slice none 0 0) (Sees.row (by simp)) (fun _ => rfl) (by rw [← hLK]; kernel_rfl) ?_)
   conv => whnf
   repeat (first | (refine XSame.of ?_; conv => whnf) | (refine XDep.all _ _ _ _ ?_; conv => whnf))
   refine XVal.of_read (XRead.loadF tabOk rfl rfl (ad := ⟨b6, 0, none⟩) (k := 1) (L := LK) (v := .int .i64 0) (Sees.row (by simp)) (fun _ => rfl) (by rw [← hLK]; kernel_rfl) ?_)
   conv => whnf
   repeat (first | (refine XSame.of ?_; conv => whnf) | (refine XDep.all _ _ _ _ ?_; conv => whnf))
   refine XVal.of_read (XRead.loadF tabOk rfl rfl (ad := ⟨b6, 0, none⟩) (k := 2) (L := LK) (v := .int .i64 0) (Sees.row (by simp)) (fun _ => rfl) (by rw [← hLK]; kernel_rfl) ?_)
   conv => whnf
   repeat (first | (refine XSame.of ?_; conv => whnf) | (refine XDep.all _ _ _ _ ?_; conv => whnf))
   refine XVal.of_read (XRead.loadF tabOk rfl rfl (ad := ⟨b6, 0, none⟩) (k := 3) (L := LK) (v := .int .i64 0) (Sees.row (by simp)) (fun _ => rfl) (by rw [← hLK]; kernel_rfl) ?_)
   conv => whnf
   repeat (first | (refine XSame.of ?_; conv => whnf) | (refine XDep.all _ _ _ _ ?_; conv => whnf))
   refine XVal.of_read (XRead.loadF tabOk rfl rfl (ad := ⟨b6, 0, none⟩) (k := 5) (L := LK) (v := .slice none (List.replicate n (default : Bs)).length 0) (Sees.row (by simp)) (fun _ => rfl) (by rw [← hLK]; kernel_rfl) ?_)
   conv => whnf
   repeat (first | (refine XSame.of ?_; conv => whnf) | (refine XDep.all _ _ _ _ ?_; conv => whnf))
   refine XUnit.ent (F' := ⟨fun w => RowAt w (some ⟨b3, 0, none⟩) Y, [] ++ [(b2, Row.c Z)] ++ [(b4, Row.c Z), (b6, Row.c LK), (b7, Row.c SE)]⟩) (Ent.of_le ⟨by simp, fun w hw => hw⟩) ?_
   refine XUnit.storeTo tabOk rfl (b := b2) (k := 322) (X := Z) rfl rfl (List.all_eq_true.1 (by rfl)) (by rw [hZl]; show 322 + 24 ≤ 380; decide) (by rw [← hZ]; subst hn; kernel_rfl) ?_
   conv => whnf
   repeat (first | (refine XSame.of ?_; conv => whnf) | (refine XDep.all _ _ _ _ ?_; conv => whnf))
   refine ⟨(), trivial, [], ⟨by decide, by simp, rfl⟩, ?_, Ent.of_le ⟨by simp, fun w hw => hw⟩⟩
   repeat (first | exact FLe.nil | refine FLe.any ?_ | refine FLe.cons ?_)
 · intro _ _ bs' hbs'
   obtain rfl := List.eq_nil_of_length_eq_zero hbs'
   rw [cTail_add]
   exact mc4 n hn Z Y LK SE hZ hY hLK hSE b2 b3 b4 b6 b7 w0 av

theorem machine_zero (n : Nat) (hn : n = 0) : PureSpec Tryz.prog 58 [.agg ⟨refC zS⟩, .agg ⟨staC (zN n)⟩] (fun _ => True) (fun v F => v = .agg ⟨refC zS⟩) := by
 refine PureSpec.of_stop tabOk Tryz.func58 rfl (by decide) (n := Tryz.f58.ntmps - 2) rfl fun w0 av => ?_
 show XStop Tryz.prog w0 (fun _ _ => False) av mcCode _ [] [] _ mcEnd
 obtain ⟨Z, hZ⟩ : ∃ Z, refC zS = Z := ⟨_, rfl⟩
 obtain ⟨Y, hY⟩ : ∃ Y, staC (zN n) = Y := ⟨_, rfl⟩
 have hZl : Z.length = 380 := by rw [← hZ]; exact refC_len zS
 have hYl : Y.length = 376 := by rw [← hY]; exact staC_len _
 rw [hZ, hY]
 obtain ⟨LK, hLK⟩ : ∃ LK, lnkC (zN n).lk = LK := ⟨_, rfl⟩
 have hLKl : LK.length = 22 := by rw [← hLK]; rfl
 have hLK1 : ∀ v ∈ LK, oneCell v = true := by rw [← hLK]; exact List.all_eq_true.1 rfl
 obtain ⟨SE, hSE⟩ : ∃ SE, serC (default : Ser) = SE := ⟨_, rfl⟩
 have hSEl : SE.length = 21 := by rw [← hSE]; rfl
 have hSE1 : ∀ v ∈ SE, oneCell v = true := by rw [← hSE]; exact List.all_eq_true.1 rfl
 refine XStop.cutN tabOk 3 (ι := Nat × Nat × Nat × Nat × Nat) (fun _ => True) (fun x => mcTm x.1 x.2.1 x.2.2.1 x.2.2.2.1 x.2.2.2.2) (fun _ => []) (fun x => ⟨fun w => RowAt w (some ⟨x.2.1, 0, none⟩) Y, [(x.1, Row.c Z), (x.2.2.1, Row.c Z), (x.2.2.2.1, Row.c LK), (x.2.2.2.2, Row.c SE)]⟩) ?_ ?_
 · conv => whnf
   repeat (first | (refine XSame.of ?_; conv => whnf) | (refine XDep.all _ _ _ _ ?_; conv => whnf))
   refine XVal.boxRow fun b2 => ?_
   conv => whnf
   repeat (first | (refine XSame.of ?_; conv => whnf) | (refine XDep.all _ _ _ _ ?_; conv => whnf))
   refine XVal.boxRow fun b3 => ?_
   conv => whnf
   repeat (first | (refine XSame.of ?_; conv => whnf) | (refine XDep.all _ _ _ _ ?_; conv => whnf))
   refine XVal.allocRow tabOk rfl (z := refC zS) (by kernel_rfl) fun b4 => ?_
   rw [hZ]
   conv => whnf
   repeat (first | (refine XSame.of ?_; conv => whnf) | (refine XDep.all _ _ _ _ ?_; conv => whnf))
   refine XStop.ent (F' := ⟨fun w => RowAt w (some ⟨b3, 0, none⟩) Y, [(b2, Row.c Z), (b4, Row.c Z)]⟩) (Ent.trans (Ent.perm (rs' := (b3, Row.c Y) :: [(b2, Row.c Z), (b4, Row.c Z)]) (by simpa using List.Perm.swap _ _ _)) (Ent.trans Ent.share1 (Ent.imp fun w hw => hw.2))) ?_
   refine XStop.drawF tabOk mixed rfl rfl ?_
   conv => whnf
   refine XRead.loads tabOk rfl rfl (ad := ⟨b3, 0, none⟩) (k := 309) (L := Y) (m := [.bool false, .int .i64 0, .int .i64 0, .int .i64 0, .slice none 0 0, .int .i64 0, .int .i64 0, .int .i64 0, .slice none 0 0]) (.fact fun w hw => hw) rfl (by rw [← hY]; kernel_rfl) rfl ?_
   conv => whnf
   refine XDep.fact _ _ _ _ (XRead.loads tabOk rfl rfl (ad := ⟨b3, 0, none⟩) (k := 309) (L := Y) (m := [.bool false, .int .i64 0, .int .i64 0, .int .i64 0, .slice none 0 0, .int .i64 0, .int .i64 0, .int .i64 0, .slice none 0 0]) (.fact fun w hw => hw) rfl (by rw [← hY]; kernel_rfl) rfl rfl) ?_
   conv => whnf
   repeat (first | (refine XSame.of ?_; conv => whnf) | (refine XDep.all _ _ _ _ ?_; conv => whnf))
   refine XRead.loads tabOk rfl rfl (ad := ⟨b3, 0, none⟩) (k := 322) (L := Y) (m := LK) (.fact fun w hw => hw) rfl (by rw [← hY, ← hLK]; kernel_rfl) hLKl ?_
   conv => whnf
   refine XDep.fact _ _ _ _ (XRead.loads tabOk rfl rfl (ad := ⟨b3, 0, none⟩) (k := 322) (L := Y) (m := LK) (.fact fun w hw => hw) rfl (by rw [← hY, ← hLK]; kernel_rfl) hLKl rfl) ?_
   conv => whnf
   repeat (first | (refine XSame.of ?_; conv => whnf) | (refine XDep.all _ _ _ _ ?_; conv => whnf))
   refine XRead.loads tabOk rfl rfl (ad := ⟨b3, 0, none⟩) (k := 344) (L := Y) (m := SE) (.fact fun w hw => hw) rfl (by rw [← hY, ← hSE]; kernel_rfl) hSEl ?_
   conv => whnf
   refine XDep.fact _ _ _ _ (XRead.loads tabOk rfl rfl (ad := ⟨b3, 0, none⟩) (k := 344) (L := Y) (m := SE) (.fact fun w hw => hw) rfl (by rw [← hY, ← hSE]; kernel_rfl) hSEl rfl) ?_
   conv => whnf
   repeat (first | (refine XSame.of ?_; conv => whnf) | (refine XDep.all _ _ _ _ ?_; conv => whnf))
   repeat' (first
    | (refine And.intro ?_ ?_ <;> conv => whnf)
    | (refine XHeld.same rfl ?_; conv => whnf)
    | (refine XHeld.row rfl ?_; conv => whnf)
    | (refine XSame.of ?_; conv => whnf)
    | (intro b5; conv => whnf)
    | (refine XVal.allocRow tabOk (e := 135) rfl (z := lnkC lnk0) (by kernel_rfl) fun b6 => ?_; conv => whnf)
    | (refine XVal.allocRow tabOk (e := 141) rfl (z := serC default) (by kernel_rfl) fun b7 => ?_; conv => whnf))
   all_goals
    refine XUnit.ent (F' := ⟨fun w => RowAt w (some ⟨b3, 0, none⟩) Y, [(b2, Row.c Z), (b4, Row.c Z)] ++ [(b6, Row.c (lnkC lnk0))] ++ [(b7, Row.c (serC default))]⟩) ?ent ?_
    case ent => (first | (refine Ent.of_le ⟨?_, fun w hw => hw⟩; simp; done) | exact Ent.trans (Ent.of_le (F' := ⟨fun w => RowAt w (some ⟨b3, 0, none⟩) Y, [(b2, Row.c Z), (b4, Row.c Z), (b7, Row.c (serC default)), (b6, Row.c (lnkC lnk0))]⟩) ⟨by simp, fun w hw => hw⟩) (Ent.perm (by simpa using List.Perm.swap _ _ _)))
    refine XUnit.storeTo tabOk rfl (b := b6) (k := 0) (X := LK) rfl (by show LK.length = 22; exact hLKl) (fun u hu => hLK1 u hu) (Nat.le_refl _) (laid_whole (C := LK) (z := lnkC lnk0) (by rw [hLKl]; rfl)) ?_
    conv => whnf
    repeat (first
     | (refine XHeld.mk (Ent.refl _) ?_; conv => whnf)
     | (refine XSame.of ?_; conv => whnf))
    refine XUnit.ent (F' := ⟨fun w => RowAt w (some ⟨b3, 0, none⟩) Y, [(b2, Row.c Z), (b4, Row.c Z), (b6, Row.c LK)] ++ [(b7, Row.c (serC default))] ++ []⟩) (Ent.of_le ⟨by simp, fun w hw => hw⟩) ?_
    refine XUnit.storeTo tabOk rfl (b := b7) (k := 0) (X := SE) rfl (by show SE.length = 21; exact hSEl) (fun u hu => hSE1 u hu) (Nat.le_refl _) (laid_whole (C := SE) (z := serC default) (by rw [hSEl]; rfl)) ?_
    conv => whnf
    repeat (first | (refine XSame.of ?_; conv => whnf) | (refine XDep.all _ _ _ _ ?_; conv => whnf))
    refine XVal.of_read (XRead.loadF tabOk rfl rfl (ad := ⟨b3, 0, none⟩) (k := 308) (L := Y) (v := .slice none (List.replicate n (default : Bs)).length 0) (.fact fun w hw => hw) (fun _ => rfl) (by rw [← hY]; kernel_rfl) ?_)
    conv => whnf
    repeat (first | (refine XSame.of ?_; conv => whnf) | (refine XDep.all _ _ _ _ ?_; conv => whnf))
    refine XUnit.ent (F' := ⟨fun w => RowAt w (some ⟨b3, 0, none⟩) Y, [] ++ [(b2, Row.c Z)] ++ [(b4, Row.c Z), (b6, Row.c LK), (b7, Row.c SE)]⟩) (Ent.of_le ⟨by simp, fun w hw => hw⟩) ?_
    refine XUnit.storeTo tabOk rfl (b := b2) (k := 308) (X := Z) rfl rfl (List.all_eq_true.1 (by rfl)) (by rw [hZl]; show 308 + 10 ≤ 380; decide) (by rw [← hZ]; subst hn; kernel_rfl) ?_
    conv => whnf
    repeat (first | (refine XSame.of ?_; conv => whnf) | (refine XDep.all _ _ _ _ ?_; conv => whnf))
    refine ⟨(b2, b3, b4, b6, b7), trivial, [], ⟨by decide, by simp, rfl⟩, ?_, Ent.of_le ⟨by simp, fun w hw => hw⟩⟩
    repeat (first | exact FLe.nil | refine FLe.any ?_ | refine FLe.cons ?_)
 · intro x _ bs' hbs'
   obtain rfl := List.eq_nil_of_length_eq_zero hbs'
   exact mc3 n hn Z Y LK SE hZ hY hLK hSE x.1 x.2.1 x.2.2.1 x.2.2.2.1 x.2.2.2.2 w0 av

end Go.Proofs.YtajkcdplmkaipaaGreatDoor
namespace Go.Proofs.YtajkcdplmkaipaaGreatDoor
open Go Go.Sx
set_option maxRecDepth 100000
set_option maxHeartbeats 4000000
set_option linter.unusedVariables false
set_option linter.unusedSimpArgs false

noncomputable def frCode : Code := Tryz.f18.body.getD .skip
def frTm (b1 b2 b3 : Nat) : List SV := [.any, .v (.pointer (some ⟨b1, 0, none⟩)), .v (.pointer (some ⟨b2, 0, none⟩)), .v (.pointer (some ⟨b3, 0, none⟩))] ++ List.replicate 192 .any
noncomputable def frEnd : Exit → KT := kEnd tab Tryz.f18.results.toList (pureFin fun v F => v = .agg ⟨refC zS⟩)

theorem fr11 (n : Nat) (hn : n = 0) (Z Y : List Value) (hZ : refC zS = Z) (hY : staC (zN n) = Y) (b1 b2 b3 : Nat) (w0 : World) (av : Nat → Prop) : XStop Tryz.prog w0 (fun _ _ => False) av (cTail 11 frCode) (frTm b1 b2 b3) [] [] ⟨fun w => RowAt w (some ⟨b1, 0, none⟩) Y, [(b2, Row.c Z), (b3, Row.c Z)]⟩ frEnd := by
 have hZl : Z.length = 380 := by rw [← hZ]; exact refC_len zS
 have hYl : Y.length = 376 := by rw [← hY]; exact staC_len _
 refine XStop.of_xc tabOk ?_
 conv => whnf
 repeat (first | (refine XSame.of ?_; conv => whnf) | (refine XDep.all _ _ _ _ ?_; conv => whnf))
 have hZ1 : ∀ v ∈ Z, oneCell v = true := by rw [← hZ]; exact List.all_eq_true.1 (by kernel_rfl)
 have hm := machine_zero n hn
 rw [hZ, hY] at hm
 refine XVal.of_read (XRead.loads tabOk rfl rfl (ad := ⟨b3, 0, none⟩) (k := 0) (L := Z) (m := Z) (Sees.row (by simp)) rfl (by rw [List.drop_zero, List.take_of_length_le (by rw [hZl]; exact Nat.le_refl _)]) hZl ?_)
 conv => whnf
 repeat (first | (refine XSame.of ?_; conv => whnf) | (refine XDep.all _ _ _ _ ?_; conv => whnf))
 refine XVal.of_read (XRead.loads tabOk rfl rfl (ad := ⟨b1, 0, none⟩) (k := 0) (L := Y) (m := Y) (.fact fun w hw => hw) rfl (by rw [List.drop_zero, List.take_of_length_le (by rw [hYl]; exact Nat.le_refl _)]) hYl ?_)
 conv => whnf
 repeat (first | (refine XSame.of ?_; conv => whnf) | (refine XDep.all _ _ _ _ ?_; conv => whnf))
 refine XCall.val hm (fun w hw => trivial) (fun v D hv => ?_)
 subst hv
 conv => whnf
 repeat (first | (refine XSame.of ?_; conv => whnf) | (refine XDep.all _ _ _ _ ?_; conv => whnf))
 refine XUnit.ent (F' := ⟨fun w => RowAt w (some ⟨b1, 0, none⟩) Y, [] ++ [(b2, Row.c Z)] ++ [(b3, Row.c Z)]⟩) (Ent.of_le ⟨by simp, fun w hw => hw⟩) ?_
 refine XUnit.storeTo tabOk rfl (b := b2) (k := 0) (X := Z) rfl (by show Z.length = 380; exact hZl) (fun u hu => hZ1 u hu) (by rw [hZl]; exact Nat.le_refl _) (laid_whole (C := Z) (z := Z) rfl) ?_
 conv => whnf
 repeat (first | (refine XSame.of ?_; conv => whnf) | (refine XDep.all _ _ _ _ ?_; conv => whnf))
 refine ⟨b2, Z, ⟨rfl, rfl, by simp, hZl⟩, ?_⟩
 conv => whnf
 repeat (first | (refine XSame.of ?_; conv => whnf) | (refine XDep.all _ _ _ _ ?_; conv => whnf))
 exact ⟨_, Ent.refl _, by rw [hZ]⟩

theorem fr10 (n : Nat) (hn : n = 0) (Z Y : List Value) (hZ : refC zS = Z) (hY : staC (zN n) = Y) (b1 b2 b3 : Nat) (w0 : World) (av : Nat → Prop) : XStop Tryz.prog w0 (fun _ _ => False) av (cTail 10 frCode) (frTm b1 b2 b3) [] [] ⟨fun w => RowAt w (some ⟨b1, 0, none⟩) Y, [(b2, Row.c Z), (b3, Row.c Z)]⟩ frEnd := by
 have hZl : Z.length = 380 := by rw [← hZ]; exact refC_len zS
 have hYl : Y.length = 376 := by rw [← hY]; exact staC_len _
 refine XStop.cutN tabOk 1 (ι := Unit) (fun _ => True) (fun _ => (frTm b1 b2 b3)) (fun _ => []) (fun _ => ⟨fun w => RowAt w (some ⟨b1, 0, none⟩) Y, [(b2, Row.c Z), (b3, Row.c Z)]⟩) ?_ ?_
 · conv => whnf
   repeat (first | (refine XSame.of ?_; conv => whnf) | (refine XDep.all _ _ _ _ ?_; conv => whnf))
   refine XVal.of_read (XRead.loadF tabOk rfl rfl (ad := ⟨b1, 0, none⟩) (k := 375) (L := Y) (v := .slice none (List.replicate n (default : Nws)).length 0) (.fact fun w hw => hw) (fun _ => rfl) (by rw [← hY]; kernel_rfl) ?_)
   conv => whnf
   repeat (first | (refine XSame.of ?_; conv => whnf) | (refine XDep.all _ _ _ _ ?_; conv => whnf))
   refine XStop.once tabOk ?_
   conv => whnf
   repeat (first | (refine XSame.of ?_; conv => whnf) | (refine XDep.all _ _ _ _ ?_; conv => whnf))
   refine XIf.no (by simp [iLt_eq, hn]) ?_
   conv => whnf
   repeat (first | (refine XSame.of ?_; conv => whnf) | (refine XDep.all _ _ _ _ ?_; conv => whnf))
   refine ⟨(), trivial, [], ⟨by decide, by simp, rfl⟩, ?_, Ent.of_le ⟨by simp, fun w hw => hw⟩⟩
   repeat (first | exact FLe.nil | refine FLe.any ?_ | refine FLe.cons ?_)
 · intro _ _ bs' hbs'
   obtain rfl := List.eq_nil_of_length_eq_zero hbs'
   rw [cTail_add]
   exact fr11 n hn Z Y hZ hY b1 b2 b3 w0 av

theorem fr9 (n : Nat) (hn : n = 0) (Z Y : List Value) (hZ : refC zS = Z) (hY : staC (zN n) = Y) (b1 b2 b3 : Nat) (w0 : World) (av : Nat → Prop) : XStop Tryz.prog w0 (fun _ _ => False) av (cTail 9 frCode) (frTm b1 b2 b3) [] [] ⟨fun w => RowAt w (some ⟨b1, 0, none⟩) Y, [(b2, Row.c Z), (b3, Row.c Z)]⟩ frEnd := by
 have hZl : Z.length = 380 := by rw [← hZ]; exact refC_len zS
 have hYl : Y.length = 376 := by rw [← hY]; exact staC_len _
 refine XStop.cutN tabOk 1 (ι := Unit) (fun _ => True) (fun _ => (frTm b1 b2 b3)) (fun _ => []) (fun _ => ⟨fun w => RowAt w (some ⟨b1, 0, none⟩) Y, [(b2, Row.c Z), (b3, Row.c Z)]⟩) ?_ ?_
 · conv => whnf
   repeat (first | (refine XSame.of ?_; conv => whnf) | (refine XDep.all _ _ _ _ ?_; conv => whnf))
   refine XVal.of_read (XRead.loadF tabOk rfl rfl (ad := ⟨b1, 0, none⟩) (k := 307) (L := Y) (v := .slice none (List.replicate n (default : Win)).length 0) (.fact fun w hw => hw) (fun _ => rfl) (by rw [← hY]; kernel_rfl) ?_)
   conv => whnf
   repeat (first | (refine XSame.of ?_; conv => whnf) | (refine XDep.all _ _ _ _ ?_; conv => whnf))
   refine XStop.once tabOk ?_
   conv => whnf
   repeat (first | (refine XSame.of ?_; conv => whnf) | (refine XDep.all _ _ _ _ ?_; conv => whnf))
   refine XIf.no (by simp [iLt_eq, hn]) ?_
   conv => whnf
   repeat (first | (refine XSame.of ?_; conv => whnf) | (refine XDep.all _ _ _ _ ?_; conv => whnf))
   refine ⟨(), trivial, [], ⟨by decide, by simp, rfl⟩, ?_, Ent.of_le ⟨by simp, fun w hw => hw⟩⟩
   repeat (first | exact FLe.nil | refine FLe.any ?_ | refine FLe.cons ?_)
 · intro _ _ bs' hbs'
   obtain rfl := List.eq_nil_of_length_eq_zero hbs'
   rw [cTail_add]
   exact fr10 n hn Z Y hZ hY b1 b2 b3 w0 av

theorem fr8 (n : Nat) (hn : n = 0) (Z Y : List Value) (hZ : refC zS = Z) (hY : staC (zN n) = Y) (b1 b2 b3 : Nat) (w0 : World) (av : Nat → Prop) : XStop Tryz.prog w0 (fun _ _ => False) av (cTail 8 frCode) (frTm b1 b2 b3) [] [] ⟨fun w => RowAt w (some ⟨b1, 0, none⟩) Y, [(b2, Row.c Z), (b3, Row.c Z)]⟩ frEnd := by
 have hZl : Z.length = 380 := by rw [← hZ]; exact refC_len zS
 have hYl : Y.length = 376 := by rw [← hY]; exact staC_len _
 refine XStop.cutN tabOk 1 (ι := Unit) (fun _ => True) (fun _ => (frTm b1 b2 b3)) (fun _ => []) (fun _ => ⟨fun w => RowAt w (some ⟨b1, 0, none⟩) Y, [(b2, Row.c Z), (b3, Row.c Z)]⟩) ?_ ?_
 · conv => whnf
   repeat (first | (refine XSame.of ?_; conv => whnf) | (refine XDep.all _ _ _ _ ?_; conv => whnf))
   refine XVal.of_read (XRead.loadF tabOk rfl rfl (ad := ⟨b1, 0, none⟩) (k := 272) (L := Y) (v := .slice none (List.replicate n (default : Ti)).length 0) (.fact fun w hw => hw) (fun _ => rfl) (by rw [← hY]; kernel_rfl) ?_)
   conv => whnf
   repeat (first | (refine XSame.of ?_; conv => whnf) | (refine XDep.all _ _ _ _ ?_; conv => whnf))
   refine XStop.once tabOk ?_
   conv => whnf
   repeat (first | (refine XSame.of ?_; conv => whnf) | (refine XDep.all _ _ _ _ ?_; conv => whnf))
   refine XIf.no (by simp [iLt_eq, hn]) ?_
   conv => whnf
   repeat (first | (refine XSame.of ?_; conv => whnf) | (refine XDep.all _ _ _ _ ?_; conv => whnf))
   refine ⟨(), trivial, [], ⟨by decide, by simp, rfl⟩, ?_, Ent.of_le ⟨by simp, fun w hw => hw⟩⟩
   repeat (first | exact FLe.nil | refine FLe.any ?_ | refine FLe.cons ?_)
 · intro _ _ bs' hbs'
   obtain rfl := List.eq_nil_of_length_eq_zero hbs'
   rw [cTail_add]
   exact fr9 n hn Z Y hZ hY b1 b2 b3 w0 av

theorem fr7 (n : Nat) (hn : n = 0) (Z Y : List Value) (hZ : refC zS = Z) (hY : staC (zN n) = Y) (b1 b2 b3 : Nat) (w0 : World) (av : Nat → Prop) : XStop Tryz.prog w0 (fun _ _ => False) av (cTail 7 frCode) (frTm b1 b2 b3) [] [] ⟨fun w => RowAt w (some ⟨b1, 0, none⟩) Y, [(b2, Row.c Z), (b3, Row.c Z)]⟩ frEnd := by
 have hZl : Z.length = 380 := by rw [← hZ]; exact refC_len zS
 have hYl : Y.length = 376 := by rw [← hY]; exact staC_len _
 refine XStop.cutN tabOk 1 (ι := Unit) (fun _ => True) (fun _ => (frTm b1 b2 b3)) (fun _ => []) (fun _ => ⟨fun w => RowAt w (some ⟨b1, 0, none⟩) Y, [(b2, Row.c Z), (b3, Row.c Z)]⟩) ?_ ?_
 · conv => whnf
   repeat (first | (refine XSame.of ?_; conv => whnf) | (refine XDep.all _ _ _ _ ?_; conv => whnf))
   refine XVal.of_read (XRead.loadF tabOk rfl rfl (ad := ⟨b1, 0, none⟩) (k := 271) (L := Y) (v := .slice none (List.replicate n (default : Gr)).length 0) (.fact fun w hw => hw) (fun _ => rfl) (by rw [← hY]; kernel_rfl) ?_)
   conv => whnf
   repeat (first | (refine XSame.of ?_; conv => whnf) | (refine XDep.all _ _ _ _ ?_; conv => whnf))
   refine XStop.once tabOk ?_
   conv => whnf
   repeat (first | (refine XSame.of ?_; conv => whnf) | (refine XDep.all _ _ _ _ ?_; conv => whnf))
   refine XIf.no (by simp [iLt_eq, hn]) ?_
   conv => whnf
   repeat (first | (refine XSame.of ?_; conv => whnf) | (refine XDep.all _ _ _ _ ?_; conv => whnf))
   refine ⟨(), trivial, [], ⟨by decide, by simp, rfl⟩, ?_, Ent.of_le ⟨by simp, fun w hw => hw⟩⟩
   repeat (first | exact FLe.nil | refine FLe.any ?_ | refine FLe.cons ?_)
 · intro _ _ bs' hbs'
   obtain rfl := List.eq_nil_of_length_eq_zero hbs'
   rw [cTail_add]
   exact fr8 n hn Z Y hZ hY b1 b2 b3 w0 av

theorem fr6 (n : Nat) (hn : n = 0) (Z Y : List Value) (hZ : refC zS = Z) (hY : staC (zN n) = Y) (b1 b2 b3 : Nat) (w0 : World) (av : Nat → Prop) : XStop Tryz.prog w0 (fun _ _ => False) av (cTail 6 frCode) (frTm b1 b2 b3) [] [] ⟨fun w => RowAt w (some ⟨b1, 0, none⟩) Y, [(b2, Row.c Z), (b3, Row.c Z)]⟩ frEnd := by
 have hZl : Z.length = 380 := by rw [← hZ]; exact refC_len zS
 have hYl : Y.length = 376 := by rw [← hY]; exact staC_len _
 refine XStop.cutN tabOk 1 (ι := Unit) (fun _ => True) (fun _ => (frTm b1 b2 b3)) (fun _ => []) (fun _ => ⟨fun w => RowAt w (some ⟨b1, 0, none⟩) Y, [(b2, Row.c Z), (b3, Row.c Z)]⟩) ?_ ?_
 · conv => whnf
   repeat (first | (refine XSame.of ?_; conv => whnf) | (refine XDep.all _ _ _ _ ?_; conv => whnf))
   refine XVal.of_read (XRead.loadF tabOk rfl rfl (ad := ⟨b1, 0, none⟩) (k := 270) (L := Y) (v := .slice none (List.replicate n (default : Cp)).length 0) (.fact fun w hw => hw) (fun _ => rfl) (by rw [← hY]; kernel_rfl) ?_)
   conv => whnf
   repeat (first | (refine XSame.of ?_; conv => whnf) | (refine XDep.all _ _ _ _ ?_; conv => whnf))
   refine XStop.once tabOk ?_
   conv => whnf
   repeat (first | (refine XSame.of ?_; conv => whnf) | (refine XDep.all _ _ _ _ ?_; conv => whnf))
   refine XIf.no (by simp [iLt_eq, hn]) ?_
   conv => whnf
   repeat (first | (refine XSame.of ?_; conv => whnf) | (refine XDep.all _ _ _ _ ?_; conv => whnf))
   refine ⟨(), trivial, [], ⟨by decide, by simp, rfl⟩, ?_, Ent.of_le ⟨by simp, fun w hw => hw⟩⟩
   repeat (first | exact FLe.nil | refine FLe.any ?_ | refine FLe.cons ?_)
 · intro _ _ bs' hbs'
   obtain rfl := List.eq_nil_of_length_eq_zero hbs'
   rw [cTail_add]
   exact fr7 n hn Z Y hZ hY b1 b2 b3 w0 av

theorem fr5 (n : Nat) (hn : n = 0) (Z Y : List Value) (hZ : refC zS = Z) (hY : staC (zN n) = Y) (b1 b2 b3 : Nat) (w0 : World) (av : Nat → Prop) : XStop Tryz.prog w0 (fun _ _ => False) av (cTail 5 frCode) (frTm b1 b2 b3) [] [] ⟨fun w => RowAt w (some ⟨b1, 0, none⟩) Y, [(b2, Row.c Z), (b3, Row.c Z)]⟩ frEnd := by
 have hZl : Z.length = 380 := by rw [← hZ]; exact refC_len zS
 have hYl : Y.length = 376 := by rw [← hY]; exact staC_len _
 refine XStop.cutN tabOk 1 (ι := Unit) (fun _ => True) (fun _ => (frTm b1 b2 b3)) (fun _ => []) (fun _ => ⟨fun w => RowAt w (some ⟨b1, 0, none⟩) Y, [(b2, Row.c Z), (b3, Row.c Z)]⟩) ?_ ?_
 · conv => whnf
   repeat (first | (refine XSame.of ?_; conv => whnf) | (refine XDep.all _ _ _ _ ?_; conv => whnf))
   refine XVal.of_read (XRead.loadF tabOk rfl rfl (ad := ⟨b1, 0, none⟩) (k := 269) (L := Y) (v := .int .i64 0) (.fact fun w hw => hw) (fun _ => rfl) (by rw [← hY]; kernel_rfl) ?_)
   conv => whnf
   repeat (first | (refine XSame.of ?_; conv => whnf) | (refine XDep.all _ _ _ _ ?_; conv => whnf))
   refine XUnit.ent (F' := ⟨fun w => RowAt w (some ⟨b1, 0, none⟩) Y, [(b2, Row.c Z)] ++ [(b3, Row.c Z)] ++ []⟩) (Ent.of_le ⟨by simp, fun w hw => hw⟩) ?_
   refine XUnit.storeTo tabOk rfl (b := b3) (k := 269) (X := Z) rfl rfl (List.all_eq_true.1 (by rfl)) (by rw [hZl]; show 269 + 1 ≤ 380; decide) (by rw [← hZ]; subst hn; kernel_rfl) ?_
   conv => whnf
   repeat (first | (refine XSame.of ?_; conv => whnf) | (refine XDep.all _ _ _ _ ?_; conv => whnf))
   refine ⟨(), trivial, [], ⟨by decide, by simp, rfl⟩, ?_, Ent.of_le ⟨by simp, fun w hw => hw⟩⟩
   repeat (first | exact FLe.nil | refine FLe.any ?_ | refine FLe.cons ?_)
 · intro _ _ bs' hbs'
   obtain rfl := List.eq_nil_of_length_eq_zero hbs'
   rw [cTail_add]
   exact fr6 n hn Z Y hZ hY b1 b2 b3 w0 av

theorem fr4 (n : Nat) (hn : n = 0) (Z Y : List Value) (hZ : refC zS = Z) (hY : staC (zN n) = Y) (b1 b2 b3 : Nat) (w0 : World) (av : Nat → Prop) : XStop Tryz.prog w0 (fun _ _ => False) av (cTail 4 frCode) (frTm b1 b2 b3) [] [] ⟨fun w => RowAt w (some ⟨b1, 0, none⟩) Y, [(b2, Row.c Z), (b3, Row.c Z)]⟩ frEnd := by
 have hZl : Z.length = 380 := by rw [← hZ]; exact refC_len zS
 have hYl : Y.length = 376 := by rw [← hY]; exact staC_len _
 refine XStop.cutN tabOk 1 (ι := Unit) (fun _ => True) (fun _ => (frTm b1 b2 b3)) (fun _ => []) (fun _ => ⟨fun w => RowAt w (some ⟨b1, 0, none⟩) Y, [(b2, Row.c Z), (b3, Row.c Z)]⟩) ?_ ?_
 · conv => whnf
   repeat (first | (refine XSame.of ?_; conv => whnf) | (refine XDep.all _ _ _ _ ?_; conv => whnf))
   refine XVal.of_read (XRead.loadF tabOk rfl rfl (ad := ⟨b1, 0, none⟩) (k := 268) (L := Y) (v := .slice none (List.replicate n (default : Pr)).length 0) (.fact fun w hw => hw) (fun _ => rfl) (by rw [← hY]; kernel_rfl) ?_)
   conv => whnf
   repeat (first | (refine XSame.of ?_; conv => whnf) | (refine XDep.all _ _ _ _ ?_; conv => whnf))
   refine XStop.once tabOk ?_
   conv => whnf
   repeat (first | (refine XSame.of ?_; conv => whnf) | (refine XDep.all _ _ _ _ ?_; conv => whnf))
   refine XIf.no (by simp [iLt_eq, hn]) ?_
   conv => whnf
   repeat (first | (refine XSame.of ?_; conv => whnf) | (refine XDep.all _ _ _ _ ?_; conv => whnf))
   refine ⟨(), trivial, [], ⟨by decide, by simp, rfl⟩, ?_, Ent.of_le ⟨by simp, fun w hw => hw⟩⟩
   repeat (first | exact FLe.nil | refine FLe.any ?_ | refine FLe.cons ?_)
 · intro _ _ bs' hbs'
   obtain rfl := List.eq_nil_of_length_eq_zero hbs'
   rw [cTail_add]
   exact fr5 n hn Z Y hZ hY b1 b2 b3 w0 av

theorem fr3 (n : Nat) (hn : n = 0) (Z Y : List Value) (hZ : refC zS = Z) (hY : staC (zN n) = Y) (b1 b2 b3 : Nat) (w0 : World) (av : Nat → Prop) : XStop Tryz.prog w0 (fun _ _ => False) av (cTail 3 frCode) (frTm b1 b2 b3) [] [] ⟨fun w => RowAt w (some ⟨b1, 0, none⟩) Y, [(b2, Row.c Z), (b3, Row.c Z)]⟩ frEnd := by
 have hZl : Z.length = 380 := by rw [← hZ]; exact refC_len zS
 have hYl : Y.length = 376 := by rw [← hY]; exact staC_len _
 refine XStop.cutN tabOk 1 (ι := Unit) (fun _ => True) (fun _ => (frTm b1 b2 b3)) (fun _ => []) (fun _ => ⟨fun w => RowAt w (some ⟨b1, 0, none⟩) Y, [(b2, Row.c Z), (b3, Row.c Z)]⟩) ?_ ?_
 · conv => whnf
   repeat (first | (refine XSame.of ?_; conv => whnf) | (refine XDep.all _ _ _ _ ?_; conv => whnf))
   refine XVal.of_read (XRead.loadF tabOk rfl rfl (ad := ⟨b1, 0, none⟩) (k := 267) (L := Y) (v := .slice none (List.replicate n (default : Mg)).length 0) (.fact fun w hw => hw) (fun _ => rfl) (by rw [← hY]; kernel_rfl) ?_)
   conv => whnf
   repeat (first | (refine XSame.of ?_; conv => whnf) | (refine XDep.all _ _ _ _ ?_; conv => whnf))
   refine XUnit.ent (F' := ⟨fun w => RowAt w (some ⟨b1, 0, none⟩) Y, [(b2, Row.c Z)] ++ [(b3, Row.c Z)] ++ []⟩) (Ent.of_le ⟨by simp, fun w hw => hw⟩) ?_
   refine XUnit.storeTo tabOk rfl (b := b3) (k := 267) (X := Z) rfl rfl (List.all_eq_true.1 (by rfl)) (by rw [hZl]; show 267 + 1 ≤ 380; decide) (by rw [← hZ]; subst hn; kernel_rfl) ?_
   conv => whnf
   repeat (first | (refine XSame.of ?_; conv => whnf) | (refine XDep.all _ _ _ _ ?_; conv => whnf))
   refine ⟨(), trivial, [], ⟨by decide, by simp, rfl⟩, ?_, Ent.of_le ⟨by simp, fun w hw => hw⟩⟩
   repeat (first | exact FLe.nil | refine FLe.any ?_ | refine FLe.cons ?_)
 · intro _ _ bs' hbs'
   obtain rfl := List.eq_nil_of_length_eq_zero hbs'
   rw [cTail_add]
   exact fr4 n hn Z Y hZ hY b1 b2 b3 w0 av

theorem fr2 (n : Nat) (hn : n = 0) (Z Y : List Value) (hZ : refC zS = Z) (hY : staC (zN n) = Y) (b1 b2 b3 : Nat) (w0 : World) (av : Nat → Prop) : XStop Tryz.prog w0 (fun _ _ => False) av (cTail 2 frCode) (frTm b1 b2 b3) [] [] ⟨fun w => RowAt w (some ⟨b1, 0, none⟩) Y, [(b2, Row.c Z), (b3, Row.c Z)]⟩ frEnd := by
 have hZl : Z.length = 380 := by rw [← hZ]; exact refC_len zS
 have hYl : Y.length = 376 := by rw [← hY]; exact staC_len _
 refine XStop.cutN tabOk 1 (ι := Unit) (fun _ => True) (fun _ => (frTm b1 b2 b3)) (fun _ => []) (fun _ => ⟨fun w => RowAt w (some ⟨b1, 0, none⟩) Y, [(b2, Row.c Z), (b3, Row.c Z)]⟩) ?_ ?_
 · conv => whnf
   repeat (first | (refine XSame.of ?_; conv => whnf) | (refine XDep.all _ _ _ _ ?_; conv => whnf))
   have hT := fun i hi => staC_T (zN n) i hi
   have hS := fun i hi => staC_sp (zN n) i hi
   rw [hY] at hT hS
   refine XStop.loop tabOk (ι := Nat) ([4, 5, 28] ++ List.range' 29 35) (fun i => i ≤ 32) (fun i => [(28, .v (.int .i64 (i : Int)))]) (fun _ => []) (fun _ => ⟨fun w => RowAt w (some ⟨b1, 0, none⟩) Y, [(b2, Row.c Z), (b3, Row.c Z)]⟩) (fun i => 32 - i) 0 (Nat.zero_le _) ?_ rfl (Ent.refl _) fun i hi => ?_
   · conv => whnf
     repeat (first | exact FLe.nil | refine FLe.any ?_ | refine FLe.cons ?_)
   conv => whnf
   repeat (first | (refine XSame.of ?_; conv => whnf) | (refine XDep.all _ _ _ _ ?_; conv => whnf))
   refine XIf.split (fun hlt => ?_) (fun hlt => ?_)
   · have hlt' : i < 32 := by
      simp only [iLt_eq, decide_eq_true_eq] at hlt
      omega
     conv => whnf
     repeat (first | (refine XSame.of ?_; conv => whnf) | (refine XDep.all _ _ _ _ ?_; conv => whnf))
     refine XVal.of_read (XRead.indexArr tabOk rfl rfl rfl i rfl hlt' rfl ?_)
     conv => whnf
     repeat (first | (refine XSame.of ?_; conv => whnf) | (refine XDep.all _ _ _ _ ?_; conv => whnf))
     refine XVal.of_read (XRead.loads tabOk (t := 103) rfl rfl (ad := ⟨b1, 0, none⟩) (k := i * 8) (L := Y) (m := tskC default) (.fact fun w hw => hw) (by simp [Addr.add_none]) (hT i hlt') rfl ?_)
     conv => whnf
     repeat (first | (refine XSame.of ?_; conv => whnf) | (refine XDep.all _ _ _ _ ?_; conv => whnf))
     refine XVal.of_read (XRead.indexArr tabOk rfl rfl rfl i rfl hlt' rfl ?_)
     conv => whnf
     repeat (first | (refine XSame.of ?_; conv => whnf) | (refine XDep.all _ _ _ _ ?_; conv => whnf))
     refine XUnit.ent (F' := ⟨fun w => RowAt w (some ⟨b1, 0, none⟩) Y, [(b2, Row.c Z)] ++ [(b3, Row.c Z)] ++ []⟩) (Ent.of_le ⟨by simp, fun w hw => hw⟩) ?_
     refine XUnit.storeTo tabOk rfl (b := b3) (k := i * 8) (X := Z) (by simp [Addr.add_none]) rfl (List.all_eq_true.1 (by rfl)) (by rw [hZl]; show i * 8 + 8 ≤ 380; omega) (by rw [← hZ]; exact zR_T i hlt') ?_
     conv => whnf
     repeat (first | (refine XSame.of ?_; conv => whnf) | (refine XDep.all _ _ _ _ ?_; conv => whnf))
     refine XVal.of_read (XRead.indexArr tabOk rfl rfl rfl i rfl hlt' rfl ?_)
     conv => whnf
     repeat (first | (refine XSame.of ?_; conv => whnf) | (refine XDep.all _ _ _ _ ?_; conv => whnf))
     refine XVal.of_read (XRead.loadF tabOk rfl rfl (ad := ⟨b1, 0, none⟩) (k := 275 + i) (L := Y) (v := .slice none (List.replicate n (default : Se)).length 0) (.fact fun w hw => hw) (fun _ => by simp [Addr.add_none]) (hS i hlt') ?_)
     conv => whnf
     repeat (first | (refine XSame.of ?_; conv => whnf) | (refine XDep.all _ _ _ _ ?_; conv => whnf))
     refine XStop.once tabOk ?_
     conv => whnf
     repeat (first | (refine XSame.of ?_; conv => whnf) | (refine XDep.all _ _ _ _ ?_; conv => whnf))
     refine XIf.no (by simp [iLt_eq, hn]) ?_
     conv => whnf
     repeat (first | (refine XSame.of ?_; conv => whnf) | (refine XDep.all _ _ _ _ ?_; conv => whnf))
     refine ⟨i + 1, ⟨hlt', by dsimp only; omega⟩, ?_, ?_, Ent.of_le ⟨by simp, fun w hw => hw⟩⟩
     · conv => whnf
       refine ⟨?_, rfl⟩
       repeat (first | exact FLe.nil | refine FLe.any ?_ | refine FLe.cons ?_ | refine FLe.eq (by rw [wrap_i64 (by omega)]; rfl) ?_)
     · conv => whnf
       exact trivial
   · conv => whnf
     repeat (first | (refine XSame.of ?_; conv => whnf) | (refine XDep.all _ _ _ _ ?_; conv => whnf))
     refine ⟨(), trivial, [], ⟨by decide, by simp, rfl⟩, ?_, Ent.of_le ⟨by simp, fun w hw => hw⟩⟩
     repeat (first | exact FLe.nil | refine FLe.any ?_ | refine FLe.cons ?_)
 · intro _ _ bs' hbs'
   obtain rfl := List.eq_nil_of_length_eq_zero hbs'
   rw [cTail_add]
   exact fr3 n hn Z Y hZ hY b1 b2 b3 w0 av

theorem from_zero (n : Nat) (hn : n = 0) : PureSpec Tryz.prog 18 [.agg ⟨staC (zN n)⟩] (fun _ => True) (fun v F => v = .agg ⟨refC zS⟩) := by
 refine PureSpec.of_stop tabOk Tryz.func18 rfl (by decide) (n := Tryz.f18.ntmps - 1) rfl fun w0 av => ?_
 show XStop Tryz.prog w0 (fun _ _ => False) av frCode _ [] [] _ frEnd
 obtain ⟨Z, hZ⟩ : ∃ Z, refC zS = Z := ⟨_, rfl⟩
 obtain ⟨Y, hY⟩ : ∃ Y, staC (zN n) = Y := ⟨_, rfl⟩
 have hZl : Z.length = 380 := by rw [← hZ]; exact refC_len zS
 have hZ1 : ∀ v ∈ Z, oneCell v = true := by rw [← hZ]; exact List.all_eq_true.1 (by kernel_rfl)
 rw [hY]
 refine XStop.cutN tabOk 2 (ι := Nat × Nat × Nat) (fun _ => True) (fun x => frTm x.1 x.2.1 x.2.2) (fun _ => []) (fun x => ⟨fun w => RowAt w (some ⟨x.1, 0, none⟩) Y, [(x.2.1, Row.c Z), (x.2.2, Row.c Z)]⟩) ?_ ?_
 · conv => whnf
   repeat (first | (refine XSame.of ?_; conv => whnf) | (refine XDep.all _ _ _ _ ?_; conv => whnf))
   refine XVal.boxRow fun b1 => ?_
   conv => whnf
   repeat (first | (refine XSame.of ?_; conv => whnf) | (refine XDep.all _ _ _ _ ?_; conv => whnf))
   refine XVal.allocRow tabOk rfl (z := refC zS) (by kernel_rfl) fun b2 => ?_
   rw [hZ]
   conv => whnf
   repeat (first | (refine XSame.of ?_; conv => whnf) | (refine XDep.all _ _ _ _ ?_; conv => whnf))
   refine XVal.ent (F' := ⟨fun w => RowAt w (some ⟨b1, 0, none⟩) Y, [(b2, Row.c Z)]⟩) (Ent.trans (Ent.of_le (F' := ⟨fun _ => True, (b1, Row.c Y) :: [(b2, Row.c Z)]⟩) ⟨by simp, fun w hw => trivial⟩) (Ent.trans Ent.share1 (Ent.imp fun w hw => hw.2))) ?_
   refine XVal.of_read (XRead.loads tabOk rfl rfl (ad := ⟨b1, 0, none⟩) (k := 256) (L := Y) (m := [.bool false, .bool false, .bool false, .bool false, .bool false, .bool false, .bool false, .bool false, .bool false, .bool false, .bool false]) (.fact fun w hw => hw) rfl (by rw [← hY]; kernel_rfl) rfl ?_)
   conv => whnf
   repeat (first | (refine XSame.of ?_; conv => whnf) | (refine XDep.all _ _ _ _ ?_; conv => whnf))
   refine XVal.of_read (XRead.loads tabOk rfl rfl (ad := ⟨b1, 0, none⟩) (k := 318) (L := Y) (m := [.int .i64 0, .int .i64 0, .bool false, .bool false]) (.fact fun w hw => hw) rfl (by rw [← hY]; kernel_rfl) rfl ?_)
   conv => whnf
   repeat (first | (refine XSame.of ?_; conv => whnf) | (refine XDep.all _ _ _ _ ?_; conv => whnf))
   refine XVal.of_read (XRead.loadF tabOk rfl rfl (ad := ⟨b1, 0, none⟩) (k := 273) (L := Y) (v := .slice none (List.replicate n (default : Int)).length 0) (.fact fun w hw => hw) (fun _ => rfl) (by rw [← hY]; kernel_rfl) ?_)
   conv => whnf
   repeat (first | (refine XSame.of ?_; conv => whnf) | (refine XDep.all _ _ _ _ ?_; conv => whnf))
   refine XVal.of_read (XRead.loadF tabOk rfl rfl (ad := ⟨b1, 0, none⟩) (k := 274) (L := Y) (v := .slice none (List.replicate n (default : Bs)).length 0) (.fact fun w hw => hw) (fun _ => rfl) (by rw [← hY]; kernel_rfl) ?_)
   conv => whnf
   repeat (first | (refine XSame.of ?_; conv => whnf) | (refine XDep.all _ _ _ _ ?_; conv => whnf))
   refine XVal.of_read (XRead.loadF tabOk rfl rfl (ad := ⟨b1, 0, none⟩) (k := 373) (L := Y) (v := .slice none (List.replicate n (default : En)).length 0) (.fact fun w hw => hw) (fun _ => rfl) (by rw [← hY]; kernel_rfl) ?_)
   conv => whnf
   repeat (first | (refine XSame.of ?_; conv => whnf) | (refine XDep.all _ _ _ _ ?_; conv => whnf))
   refine XVal.of_read (XRead.loadF tabOk rfl rfl (ad := ⟨b1, 0, none⟩) (k := 374) (L := Y) (v := .slice none (List.replicate n (default : Acc)).length 0) (.fact fun w hw => hw) (fun _ => rfl) (by rw [← hY]; kernel_rfl) ?_)
   conv => whnf
   repeat (first | (refine XSame.of ?_; conv => whnf) | (refine XDep.all _ _ _ _ ?_; conv => whnf))
   refine XVal.of_read (XRead.buildBig tabOk rfl rfl (fillK_to (n := 380) (X := Z) (by kernel_rfl) (by kernel_rfl) (by rw [← hZ]; subst hn; kernel_rfl) ?_))
   conv => whnf
   repeat (first | (refine XSame.of ?_; conv => whnf) | (refine XDep.all _ _ _ _ ?_; conv => whnf))
   refine XVal.allocRow tabOk rfl (z := refC zS) (by kernel_rfl) fun b3 => ?_
   rw [hZ]
   conv => whnf
   repeat (first | (refine XSame.of ?_; conv => whnf) | (refine XDep.all _ _ _ _ ?_; conv => whnf))
   refine XUnit.ent (F' := ⟨fun w => RowAt w (some ⟨b1, 0, none⟩) Y, [(b2, Row.c Z)] ++ [(b3, Row.c Z)] ++ []⟩) (Ent.of_le ⟨by simp, fun w hw => hw⟩) ?_
   refine XUnit.storeTo tabOk rfl (b := b3) (k := 0) (X := Z) rfl (by show Z.length = 380; exact hZl) (fun u hu => hZ1 u hu) (by rw [hZl]; exact Nat.le_refl _) (laid_whole (C := Z) (z := Z) rfl) ?_
   conv => whnf
   repeat (first | (refine XSame.of ?_; conv => whnf) | (refine XDep.all _ _ _ _ ?_; conv => whnf))
   refine ⟨(b1, b2, b3), trivial, [], ⟨by decide, by simp, rfl⟩, ?_, Ent.of_le ⟨by simp, fun w hw => hw⟩⟩
   repeat (first | exact FLe.nil | refine FLe.any ?_ | refine FLe.cons ?_)
 · intro x _ bs' hbs'
   obtain rfl := List.eq_nil_of_length_eq_zero hbs'
   exact fr2 n hn Z Y hZ hY x.1 x.2.1 x.2.2 w0 av

end Go.Proofs.YtajkcdplmkaipaaGreatDoor
namespace Go.Proofs.YtajkcdplmkaipaaGreatDoor
open Go Go.Sx
set_option maxRecDepth 100000
set_option maxHeartbeats 4000000
set_option linter.unusedVariables false
set_option linter.unusedSimpArgs false

/-- Whether a task can run. -/
def runsB (s : Sta) (i : Nat) : Bool :=
 if iNe (downI s) 0 && (iNe (i : Int) 1 || iEq (downI s) 1) then false
 else if iEq (s.T i).kind 1 then iGt (cnt s.q.l (i : Int) : Int) 0
 else if iEq (s.T i).kind 2 || iEq (s.T i).kind 3 then iEq (s.T i).st 0 && (!(s.T i).stp && !(s.T i).cls)
 else false

theorem runs_spec (s : Sta) (hq : s.q.Ok) (bs i : Nat) (hi : i < 32) : PureSpec Tryz.prog 81 [.pointer (some ⟨bs, 0, none⟩), .int .i64 (i : Int)] (fun w => RowAt w (some ⟨bs, 0, none⟩) (staC s) ∧ s.q.At mgC w) (fun v F => v = .bool (runsB s i)) := by
 have h1 := down_spec s bs
 have h2 := count_spec s.q.l s.q.h hq.h hq.le s.pr.v rfl (i : Int)
 have hT := staC_T s i hi
 have hpo : ((staC s).drop 267).take 2 = [s.q.v, s.pr.v] := by kernel_rfl
 have hr : runsB s i = if iNe (downI s) 0 && (iNe (i : Int) 1 || iEq (downI s) 1) then false
  else if iEq (s.T i).kind 1 then iGt (cnt s.q.l (i : Int) : Int) 0
  else if iEq (s.T i).kind 2 || iEq (s.T i).kind 3 then iEq (s.T i).st 0 && (!(s.T i).stp && !(s.T i).cls)
  else false := rfl
 generalize runsB s i = r at *
 generalize downI s = dn at *
 generalize (cnt s.q.l (i : Int) : Int) = n at *
 generalize s.T i = T at *
 generalize staC s = C at *
 obtain ⟨k, st, call, stp, cls, dne, res, dt⟩ := T
 dsimp only at hr
 subst hr
 refine PureSpec.of_xc tabOk Tryz.func81 rfl (by decide) (n := Tryz.f81.ntmps - 2) rfl rfl fun w0 av => ?_
 conv => whnf
 repeat (first | (refine XSame.of ?_; conv => whnf) | (refine XDep.all _ _ _ _ ?_; conv => whnf))
 refine XCall.val h1 (fun w hw => hw.1) (fun v D hv => ?_)
 subst hv
 conv => whnf
 repeat (first | (refine XSame.of ?_; conv => whnf) | (refine XDep.all _ _ _ _ ?_; conv => whnf))
 repeat' (first
  | (refine And.intro ?_ ?_ <;> conv => whnf)
  | (refine XHeld.same rfl ?_; conv => whnf)
  | (refine XHeld.row rfl ?_; conv => whnf)
  | (refine XHeld.call rfl ?_; conv => whnf)
  | (refine XHeld.factCall rfl ?_; conv => whnf)
  | (refine XKeep.of ?_; conv => whnf)
  | (refine XSame.of ?_; conv => whnf)
  | (refine XDep.all _ _ _ _ ?_; conv => whnf)
  | (refine XVal.of_read (XRead.indexArr tabOk rfl rfl rfl i rfl hi rfl ?_); conv => whnf)
  | (refine XVal.of_read (XRead.loads tabOk (t := 103) rfl rfl (ad := ⟨bs, 0, none⟩) (k := i * 8) (L := C) (m := tskC ⟨k, st, call, stp, cls, dne, res, dt⟩) (.fact fun w hw => hw.1) (by simp [Addr.add_none]) hT rfl ?_); conv => whnf)
  | (refine XVal.of_read (XRead.loads tabOk (t := 107) rfl rfl (ad := ⟨bs, 0, none⟩) (k := 267) (L := C) (m := [s.q.v, s.pr.v]) (.fact fun w hw => hw.1) rfl hpo rfl ?_); conv => whnf)
  | (refine XCall.val h2 (fun w hw => hw.2) (fun v D hv => ?_); subst hv; conv => whnf)
  | (intro b6; conv => whnf)
  | (split <;> conv => whnf)
  | (refine XHeld.mk ?_ ?_; (focus (first | exact Ent.refl _ | exact Ent.left _ _ | exact Ent.of_le ⟨List.sublist_append_left _ _, fun w h => h⟩ | exact Ent.of_le ⟨List.Sublist.refl _, fun w h => h.1⟩)); conv => whnf))
 all_goals
  refine ⟨_, Ent.refl _, ?_⟩
  clear h1 h2 hT hpo hq hi
  show Value.bool _ = Value.bool _
  first
   | rfl
   | (congr 1; done)
   | (congr 1; simp [*, Bool.and_assoc]; done)
   | (congr 1; simp_all [Bool.and_assoc]; done)

end Go.Proofs.YtajkcdplmkaipaaGreatDoor
namespace Go.Proofs.YtajkcdplmkaipaaGreatDoor
open Go Go.Sx
set_option maxRecDepth 100000
set_option maxHeartbeats 4000000
set_option linter.unusedVariables false
set_option linter.unusedSimpArgs false

def Sta.quo (s : Sta) (x : Sl Int) : Sta := { s with qu := x }

theorem pick_spec (S : Sta) (bk bs : Nat) (hq : S.q.Ok) (hqu : S.qu.h.Ok S.qu.l.length) (hqul : S.qu.l.length ≤ 100000) (hv : allI S.qu.l.length (quOk S.qu.l) = true) (i : Nat) (hi : S.qu.l.findIdx? (fun t => runsB S t.toNat) = some i) :
 RowsSpec Tryz.prog 22 [.pointer (some ⟨bk, 0, none⟩)] [(bk, Row.c [.pointer (some ⟨bs, 0, none⟩)])] (fun w => RowAt w (some ⟨bs, 0, none⟩) (staC S) ∧ (S.q.At mgC w ∧ S.qu.As intV w))
  (fun v F => ∃ (bn : Nat) (h : Hd), h.Ok S.qu.l.length ∧ v = .tuple ⟨[.int .i64 S.qu.l[i]!, .bool true]⟩ ∧
   F = ⟨fun w => RowAt w (some ⟨bn, 0, none⟩) (staC (S.quo ⟨h, nextQ S.qu.l i⟩)) ∧ RowAt w h.a ((nextQ S.qu.l i).map intV), [(bk, Row.c [.pointer (some ⟨bn, 0, none⟩)])]⟩) := by
 have hil : i < S.qu.l.length := (List.findIdx?_eq_some_iff_getElem.1 hi).1
 have hrun : ∀ (bn : Nat), ∀ e ∈ S.qu.l, PureSpec Tryz.prog 81 [.pointer (some ⟨bn, 0, none⟩), intV e] (fun w => RowAt w (some ⟨bn, 0, none⟩) (staC S) ∧ S.q.At mgC w) (fun v F => v = .bool (runsB S e.toNat)) := fun bn e he => by
  obtain ⟨j, hj, rfl⟩ := List.getElem_of_mem he
  have h := (allI_iff.1 hv) j hj
  unfold quOk at h
  rw [bang hj] at h
  simp only [Bool.and_eq_true, decide_eq_true_eq] at h
  have h2 := runs_spec S hq bn S.qu.l[j].toNat (by omega)
  rw [show ((S.qu.l[j].toNat : Nat) : Int) = S.qu.l[j] from Int.toNat_of_nonneg (by omega)] at h2
  exact h2
 have h1 := fun bn => next_spec S.qu.l S.qu.h hqu hqul hv _ _ _ (.pointer (some ⟨bn, 0, none⟩)) (hrun bn) i hi
 have hg := get_qu S
 have hN : (nextQ S.qu.l i).length = S.qu.l.length := by
  unfold nextQ
  simp
  omega
 have hput : ∀ (a : Option Addr) (c : Nat), laid (staC S) 273 [.slice a S.qu.l.length c] = staC (S.quo ⟨⟨a, c⟩, nextQ S.qu.l i⟩) := fun a c => put_quL S hN
 have hlen := staC_len S
 have hone := staC_one S
 obtain ⟨X, hX⟩ : ∃ X, staC S = X := ⟨_, rfl⟩
 rw [hX] at hlen hone h1 hg hput ⊢
 obtain ⟨z, hz⟩ : ∃ z, S.qu.l[i]! = z := ⟨_, rfl⟩
 rw [hz] at h1 ⊢
 refine RowsSpec.of_xc tabOk Tryz.func22 rfl (by decide) (n := Tryz.f22.ntmps - 1) rfl rfl (by simp) fun w0 av => ?_
 conv => whnf
 repeat (first | (refine XSame.of ?_; conv => whnf) | (refine XDep.all _ _ _ _ ?_; conv => whnf))
 refine XVal.of_read (XRead.ptrNil tabOk (t := 30) rfl rfl ?_)
 conv => whnf
 repeat (first | (refine XSame.of ?_; conv => whnf) | (refine XDep.all _ _ _ _ ?_; conv => whnf))
 refine XVal.of_read (XRead.loadF tabOk rfl rfl (ad := ⟨bk, 0, none⟩) (k := 0) (L := [.pointer (some ⟨bs, 0, none⟩)]) (v := .pointer (some ⟨bs, 0, none⟩)) (Sees.row (by simp)) (fun _ => rfl) rfl ?_)
 conv => whnf
 repeat (first | (refine XSame.of ?_; conv => whnf) | (refine XDep.all _ _ _ _ ?_; conv => whnf))
 refine XVal.of_read (XRead.loads tabOk (t := 149) rfl rfl (ad := ⟨bs, 0, none⟩) (k := 0) (L := X) (m := X) (.fact fun w hw => hw.1) rfl (by rw [List.drop_zero, List.take_of_length_le (by rw [hlen]; exact Nat.le_refl _)]) hlen ?_)
 conv => whnf
 repeat (first | (refine XSame.of ?_; conv => whnf) | (refine XDep.all _ _ _ _ ?_; conv => whnf))
 refine XVal.allocRow tabOk rfl (z := staC zS) (by kernel_rfl) fun bn => ?_
 conv => whnf
 repeat (first | (refine XSame.of ?_; conv => whnf) | (refine XDep.all _ _ _ _ ?_; conv => whnf))
 obtain ⟨E, hE⟩ : ∃ E : World → Prop, E = fun w => RowAt w (some ⟨bs, 0, none⟩) X ∧ (S.q.At mgC w ∧ S.qu.As intV w) := ⟨_, rfl⟩
 refine XUnit.ent (F' := ⟨E, [(bk, Row.c [.pointer (some ⟨bs, 0, none⟩)])] ++ [(bn, Row.c (staC zS))] ++ []⟩) (Ent.of_le ⟨by simp, fun w hw => by rw [hE]; exact hw⟩) ?_
 refine XUnit.storeTo tabOk rfl (b := bn) (k := 0) (X := X) rfl (by show X.length = 376; exact hlen) (fun u hu => hone u hu) (by rw [staC_len]; exact Nat.le_refl _) (laid_whole (C := X) (z := staC zS) (by rw [hlen, staC_len])) ?_
 conv => whnf
 repeat (first | (refine XSame.of ?_; conv => whnf) | (refine XDep.all _ _ _ _ ?_; conv => whnf))
 refine XVal.of_read (XRead.loadF tabOk rfl rfl (ad := ⟨bn, 0, none⟩) (k := 273) (L := X) (v := S.qu.v) (Sees.row (by simp)) (fun _ => rfl) hg ?_)
 conv => whnf
 repeat (first | (refine XSame.of ?_; conv => whnf) | (refine XDep.all _ _ _ _ ?_; conv => whnf))
 refine XCall.from (h1 bn) ((Loc.row _ _).and ((Loc.row _ _).and (Loc.row _ _))) (fun w hst => ?_) (fun v F' hv => ?_)
 · have h2 := hst.now
   have h2 : E w := h2
   rw [hE] at h2
   exact ⟨h2.2.2, (Sees.row (b := bn) (by simp)) w hst, h2.2.1⟩
 obtain ⟨a, cap, C, hO, rfl, rfl⟩ := hv
 refine ⟨fun w => trivial, ?_⟩
 conv => whnf
 repeat (first | (refine XSame.of ?_; conv => whnf) | (refine XDep.all _ _ _ _ ?_; conv => whnf))
 refine XUnit.ent (F' := ⟨fun _ => True, [(bk, Row.c [.pointer (some ⟨bs, 0, none⟩)])] ++ [(bn, Row.c X)] ++ orow a C⟩) (Ent.of_le ⟨by simp [Fx.and], fun w hw => trivial⟩) ?_
 refine XUnit.storeTo tabOk rfl (b := bn) (k := 273) (X := staC (S.quo ⟨⟨a, cap⟩, nextQ S.qu.l i⟩)) rfl rfl (List.all_eq_true.1 (by rfl)) (by rw [hlen]; decide) (hput a cap) ?_
 conv => whnf
 repeat (first | (refine XSame.of ?_; conv => whnf) | (refine XDep.all _ _ _ _ ?_; conv => whnf))
 refine XUnit.ent (F' := ⟨fun _ => True, [] ++ [(bk, Row.c [.pointer (some ⟨bs, 0, none⟩)])] ++ ([(bn, Row.c (staC (S.quo ⟨⟨a, cap⟩, nextQ S.qu.l i⟩)))] ++ orow a C)⟩) (Ent.of_le ⟨by simp, fun w hw => hw⟩) ?_
 refine XUnit.storeTo tabOk rfl (b := bk) (k := 0) (X := [.pointer (some ⟨bn, 0, none⟩)]) rfl rfl (List.all_eq_true.1 (by rfl)) (Nat.le_refl _) rfl ?_
 conv => whnf
 repeat (first | (refine XSame.of ?_; conv => whnf) | (refine XDep.all _ _ _ _ ?_; conv => whnf))
 refine ⟨_, ?_, bn, ⟨a, cap⟩, ⟨hO.none_nil, hO.fit⟩, rfl, rfl⟩
 refine Ent.trans (Ent.perm (rs' := (bn, Row.c (staC (S.quo ⟨⟨a, cap⟩, nextQ S.qu.l i⟩))) :: ([(bk, Row.c [.pointer (some ⟨bn, 0, none⟩)])] ++ orow a C ++ [])) (by simpa using List.Perm.swap _ _ _)) (Ent.trans Ent.share1 (Ent.trans (hO.share (r1 := [(bk, Row.c [.pointer (some ⟨bn, 0, none⟩)])]) (r2 := [])) (Ent.of_le ⟨by simp, fun w hw => ⟨hw.1.2, hw.2⟩⟩)))

end Go.Proofs.YtajkcdplmkaipaaGreatDoor
namespace Go.Proofs.YtajkcdplmkaipaaGreatDoor
open Go Go.Sx
set_option maxRecDepth 100000
set_option maxHeartbeats 4000000
set_option linter.unusedVariables false
set_option linter.unusedSimpArgs false

theorem result_spec (S : Sta) (bk bs : Nat) (i : Nat) (hi : 16 ≤ i ∧ i < 32) (k st cl res : Int) (stp cls : Bool) (hT : S.T i = ⟨k, st, cl, stp, cls, true, res, default⟩) :
 RowsSpec Tryz.prog 24 [.pointer (some ⟨bk, 0, none⟩), .int .i64 (i : Int)] [(bk, Row.c [.pointer (some ⟨bs, 0, none⟩)])] (fun w => RowAt w (some ⟨bs, 0, none⟩) (staC S))
  (fun v F => v = .tuple ⟨[.int .i64 res, .slice none 0 0, .bool true]⟩) := by
 have h1 := user_spec (i : Int)
 rw [show decide (16 ≤ (i : Int) ∧ (i : Int) < 32) = true from by simp; omega] at h1
 have h2 := cloneBy_nil
 have hTc := staC_T S i hi.2
 rw [hT] at hTc
 have hlen := staC_len S
 have hone := staC_one S
 obtain ⟨X, hX⟩ : ∃ X, staC S = X := ⟨_, rfl⟩
 rw [hX] at hTc hlen hone ⊢
 have c5 : X[i * 8 + 5]? = some (.bool true) := cellOf hTc (by decide) rfl
 have c6 : X[i * 8 + 6]? = some (.int .i64 res) := cellOf hTc (by decide) rfl
 have c7 : X[i * 8 + 7]? = some (.slice none 0 0) := cellOf hTc (by decide) rfl
 refine RowsSpec.of_xc tabOk Tryz.func24 rfl (by decide) (n := Tryz.f24.ntmps - 2) rfl rfl (by simp) fun w0 av => ?_
 conv => whnf
 repeat (first | (refine XSame.of ?_; conv => whnf) | (refine XDep.all _ _ _ _ ?_; conv => whnf))
 refine XVal.of_read (XRead.ptrNil tabOk (t := 30) rfl rfl ?_)
 conv => whnf
 repeat (first | (refine XSame.of ?_; conv => whnf) | (refine XDep.all _ _ _ _ ?_; conv => whnf))
 refine XCall.val h1 (fun w hw => trivial) (fun v D hv => ?_)
 subst hv
 conv => whnf
 repeat (first | (refine XSame.of ?_; conv => whnf) | (refine XDep.all _ _ _ _ ?_; conv => whnf))
 refine XVal.of_read (XRead.loadF tabOk rfl rfl (ad := ⟨bk, 0, none⟩) (k := 0) (L := [.pointer (some ⟨bs, 0, none⟩)]) (v := .pointer (some ⟨bs, 0, none⟩)) (Sees.row (by simp)) (fun _ => rfl) rfl ?_)
 conv => whnf
 repeat (first | (refine XSame.of ?_; conv => whnf) | (refine XDep.all _ _ _ _ ?_; conv => whnf))
 refine XVal.of_read (XRead.indexArr tabOk rfl rfl rfl i rfl hi.2 rfl ?_)
 conv => whnf
 repeat (first | (refine XSame.of ?_; conv => whnf) | (refine XDep.all _ _ _ _ ?_; conv => whnf))
 refine XVal.of_read (XRead.loadF tabOk rfl rfl (ad := ⟨bs, 0, none⟩) (k := i * 8 + 5) (L := X) (v := .bool true) (.fact fun w hw => hw) (fun _ => by simp [Addr.add_none]) c5 ?_)
 conv => whnf
 repeat (first | (refine XSame.of ?_; conv => whnf) | (refine XDep.all _ _ _ _ ?_; conv => whnf))
 refine XVal.of_read (XRead.loadF tabOk rfl rfl (ad := ⟨bk, 0, none⟩) (k := 0) (L := [.pointer (some ⟨bs, 0, none⟩)]) (v := .pointer (some ⟨bs, 0, none⟩)) (Sees.row (by simp)) (fun _ => rfl) rfl ?_)
 conv => whnf
 repeat (first | (refine XSame.of ?_; conv => whnf) | (refine XDep.all _ _ _ _ ?_; conv => whnf))
 refine XVal.of_read (XRead.loads tabOk (t := 149) rfl rfl (ad := ⟨bs, 0, none⟩) (k := 0) (L := X) (m := X) (.fact fun w hw => hw) rfl (by rw [List.drop_zero, List.take_of_length_le (by rw [hlen]; exact Nat.le_refl _)]) hlen ?_)
 conv => whnf
 repeat (first | (refine XSame.of ?_; conv => whnf) | (refine XDep.all _ _ _ _ ?_; conv => whnf))
 refine XVal.allocRow tabOk rfl (z := staC zS) (by kernel_rfl) fun bn => ?_
 conv => whnf
 repeat (first | (refine XSame.of ?_; conv => whnf) | (refine XDep.all _ _ _ _ ?_; conv => whnf))
 refine XUnit.ent (F' := ⟨fun _ => True, [(bk, Row.c [.pointer (some ⟨bs, 0, none⟩)])] ++ [(bn, Row.c (staC zS))] ++ []⟩) (Ent.of_le ⟨by simp, fun w hw => trivial⟩) ?_
 refine XUnit.storeTo tabOk rfl (b := bn) (k := 0) (X := X) rfl (by show X.length = 376; exact hlen) (fun u hu => hone u hu) (by rw [staC_len]; exact Nat.le_refl _) (laid_whole (C := X) (z := staC zS) (by rw [hlen, staC_len])) ?_
 conv => whnf
 repeat (first | (refine XSame.of ?_; conv => whnf) | (refine XDep.all _ _ _ _ ?_; conv => whnf))
 refine XVal.of_read (XRead.indexArr tabOk rfl rfl rfl i rfl hi.2 rfl ?_)
 refine XStop.draw tabOk mixed rfl rfl ?_
 conv => whnf
 repeat' (first
  | (refine And.intro ?_ ?_ <;> conv => whnf)
  | (refine XHeld.same rfl ?_; conv => whnf)
  | (refine XHeld.row rfl ?_; conv => whnf)
  | (refine XHeld.call rfl ?_; conv => whnf)
  | (refine XHeld.factCall rfl ?_; conv => whnf)
  | (refine XKeep.of ?_; conv => whnf)
  | (refine XSame.of ?_; conv => whnf)
  | (refine XDep.all _ _ _ _ ?_; conv => whnf)
  | (refine XRead.loadF tabOk (t := 3) rfl rfl (ad := ⟨bn, 0, none⟩) (k := i * 8 + 6) (L := X) (v := .int .i64 res) (Sees.row (by simp)) (fun _ => by simp [Addr.add_none]) c6 ?_; conv => whnf)
  | (refine XRead.loadF tabOk (t := 23) rfl rfl (ad := ⟨bn, 0, none⟩) (k := i * 8 + 7) (L := X) (v := .slice none 0 0) (Sees.row (by simp)) (fun _ => by simp [Addr.add_none]) c7 ?_; conv => whnf)
  | (refine XCall.val h2 (fun w hw => trivial) (fun v D hv => ?_); subst hv; conv => whnf)
  | (refine XHeld.mk ?_ ?_; (focus (first | exact Ent.refl _ | exact Ent.left _ _ | exact Ent.of_le ⟨List.sublist_append_left _ _, fun w h => h⟩ | exact Ent.of_le ⟨List.Sublist.refl _, fun w h => h.1⟩)); conv => whnf))
 obtain ⟨X1, hX1⟩ : ∃ X1, laid X (i * 8 + 5) [.bool false] = X1 := ⟨_, rfl⟩
 have hl1 : X1.length = 376 := by rw [← hX1, laid_len (by rw [hlen]; show i * 8 + 5 + 1 ≤ 376; omega), hlen]
 obtain ⟨X2, hX2⟩ : ∃ X2, laid X1 (i * 8 + 6) [.int .i64 0] = X2 := ⟨_, rfl⟩
 have hl2 : X2.length = 376 := by rw [← hX2, laid_len (by rw [hl1]; show i * 8 + 6 + 1 ≤ 376; omega), hl1]
 obtain ⟨X3, hX3⟩ : ∃ X3, laid X2 (i * 8 + 7) [.slice none 0 0] = X3 := ⟨_, rfl⟩
 all_goals
  refine XUnit.storeTo tabOk rfl (b := bn) (k := i * 8 + 5) (X := X1) (by simp [Addr.add_none]) rfl (List.all_eq_true.1 (by rfl)) (by rw [hlen]; show i * 8 + 5 + 1 ≤ 376; omega) hX1 ?_
  conv => whnf
  repeat (first | (refine XSame.of ?_; conv => whnf) | (refine XDep.all _ _ _ _ ?_; conv => whnf))
  refine XUnit.storeTo tabOk rfl (b := bn) (k := i * 8 + 6) (X := X2) (by simp [Addr.add_none]) rfl (List.all_eq_true.1 (by rfl)) (by rw [hl1]; show i * 8 + 6 + 1 ≤ 376; omega) hX2 ?_
  conv => whnf
  repeat (first | (refine XSame.of ?_; conv => whnf) | (refine XDep.all _ _ _ _ ?_; conv => whnf))
  refine XUnit.storeTo tabOk rfl (b := bn) (k := i * 8 + 7) (X := X3) (by simp [Addr.add_none]) rfl (List.all_eq_true.1 (by rfl)) (by rw [hl2]; show i * 8 + 7 + 1 ≤ 376; omega) hX3 ?_
  conv => whnf
  repeat (first | (refine XSame.of ?_; conv => whnf) | (refine XDep.all _ _ _ _ ?_; conv => whnf))
  refine XUnit.ent (F' := ⟨fun _ => True, [] ++ [(bk, Row.c [.pointer (some ⟨bs, 0, none⟩)])] ++ [(bn, Row.c X3)]⟩) (Ent.of_le ⟨by simp, fun w hw => hw⟩) ?_
  refine XUnit.storeTo tabOk rfl (b := bk) (k := 0) (X := [.pointer (some ⟨bn, 0, none⟩)]) rfl rfl (List.all_eq_true.1 (by rfl)) (Nat.le_refl _) rfl ?_
  conv => whnf
  repeat (first | (refine XSame.of ?_; conv => whnf) | (refine XDep.all _ _ _ _ ?_; conv => whnf))
  exact ⟨_, Ent.refl _, rfl⟩

theorem take_spec (q : List Mg) (hqd : ∀ x ∈ q, x.data = default) (hq : Hd) (hqo : hq.Ok q.length) (hql : q.length ≤ 400) (p : List Pr) (hp : Hd) (hpo : hp.Ok p.length) (hpl : p.length ≤ 100000) (hV : porOk q p = true)
 (d : Int) (i : Nat) (hi : q.findIdx? (fun x => iEq x.dst d) = some i) (e : Int) (he : e = 0) :
 PureSpec Tryz.prog 115 [.agg ⟨[hq.v q.length, hp.v p.length]⟩, .int .i64 d] (fun w => RowAt w hq.a (q.flatMap mgC) ∧ RowAt w hp.a (p.flatMap prC))
  (fun v F => ∃ hq' hp' : Hd, (hq'.Ok (q.eraseIdx i).length ∧ hp'.Ok p.length) ∧ v = .tuple ⟨[.agg ⟨[hq'.v (q.eraseIdx i).length, hp'.v p.length]⟩, .agg ⟨mgC q[i]!⟩, .int .i64 e]⟩ ∧
   F = ⟨fun w => RowAt w hq'.a ((q.eraseIdx i).flatMap mgC) ∧ RowAt w hp'.a (p.flatMap prC), []⟩) := by
 have hil : i < q.length := (List.findIdx?_eq_some_iff_getElem.1 hi).1
 have h1 := portsValid_spec q hq hqo (by omega) p hp hpo (by omega)
 unfold porOk at hV
 rw [hV] at h1
 have h2 := first_spec q hq hqo (by omega) (hp.v p.length) rfl d
 rw [hi] at h2
 obtain ⟨z, hz⟩ : ∃ z : Int, z = (i : Int) := ⟨_, rfl⟩
 rw [show fint (some i) = z from hz.symm] at h2
 have h5 := copied_spec q hqd hq hqo (by omega) p hp hpo hpl
 obtain ⟨M, hM⟩ : ∃ M, q[i]! = M := ⟨_, rfl⟩
 have hM' : q[i] = M := by rw [← hM]; exact (bang hil).symm
 rw [hM]
 refine PureSpec.of_xc tabOk Tryz.func115 rfl (by decide) (n := Tryz.f115.ntmps - 2) rfl rfl fun w0 av => ?_
 conv => whnf
 repeat (first | (refine XSame.of ?_; conv => whnf) | (refine XDep.all _ _ _ _ ?_; conv => whnf))
 intro b2
 conv => whnf
 repeat (first | (refine XSame.of ?_; conv => whnf) | (refine XDep.all _ _ _ _ ?_; conv => whnf))
 intro b4
 conv => whnf
 repeat (first | (refine XSame.of ?_; conv => whnf) | (refine XDep.all _ _ _ _ ?_; conv => whnf))
 intro b5
 conv => whnf
 repeat (first | (refine XSame.of ?_; conv => whnf) | (refine XDep.all _ _ _ _ ?_; conv => whnf))
 refine XCall.val h1 (fun w hw => ⟨hw.2, hw.1⟩) (fun v D hv => ?_)
 subst hv
 conv => whnf
 repeat (first | (refine XSame.of ?_; conv => whnf) | (refine XDep.all _ _ _ _ ?_; conv => whnf))
 refine XCall.val h2 (fun w hw => hw.1) (fun v D hv => ?_)
 subst hv
 conv => whnf
 repeat (first | (refine XSame.of ?_; conv => whnf) | (refine XDep.all _ _ _ _ ?_; conv => whnf))
 refine XIf.no (by simp [iLt_eq]; omega) ?_
 conv => whnf
 repeat (first | (refine XSame.of ?_; conv => whnf) | (refine XDep.all _ _ _ _ ?_; conv => whnf))
 refine XCall.pure h5 (fun w hw => hw) (fun v D hv => ?_)
 obtain ⟨a, cap, C, a', cap', C', ⟨hO, hO'⟩, rfl, rfl⟩ := hv
 rw [hz]
 conv => whnf
 repeat (first | (refine XSame.of ?_; conv => whnf) | (refine XDep.all _ _ _ _ ?_; conv => whnf))
 obtain ⟨b6, rfl⟩ := own_some hO (by omega)
 have hC : C.length = cap * 9 := by
  rcases hO.alt with ⟨h, _⟩ | ⟨b', _, h, _⟩
  · cases h
  · exact h
 refine XVal.of_read (XRead.index tabOk (t := 56) rfl rfl rfl (by omega) (by omega) (fun h => by cases h) fun ad had => ?_)
 cases had
 conv => whnf
 repeat (first | (refine XSame.of ?_; conv => whnf) | (refine XDep.all _ _ _ _ ?_; conv => whnf))
 refine XVal.ent (F' := ⟨fun _ => True, [] ++ orow (some ⟨b6, 0, none⟩) C ++ orow a' C'⟩) (Ent.of_le ⟨by simp [Fx.and], fun w hw => trivial⟩) ?_
 refine XVal.of_read (XRead.loads tabOk (t := 36) rfl rfl (ad := ⟨b6, 0, none⟩) (k := i * 9) (L := q.flatMap mgC) (m := mgC M) hO.sees (by simp) (by rw [← hM']; exact fm_get (cf := mgC) (z := 9) (fun _ => rfl) hil) rfl ?_)
 conv => whnf
 repeat (first | (refine XSame.of ?_; conv => whnf) | (refine XDep.all _ _ _ _ ?_; conv => whnf))
 intro b8
 conv => whnf
 repeat (first | (refine XSame.of ?_; conv => whnf) | (refine XDep.all _ _ _ _ ?_; conv => whnf))
 rw [wrap_i64 (by omega)]
 refine XCall.ent (F' := ⟨fun _ => True, [] ++ [(b6, Row.c C)] ++ orow a' C'⟩) (Ent.of_le ⟨by simp [orow], fun w hw => trivial⟩) ?_
 refine XCall.rows (r1 := []) (r2 := orow a' C') (deleteMg mgC (fun _ => rfl) mgC_one hO hil (by omega) (fun _ => True)) (fun w hw => trivial) (fun v F' hv => ?_)
 obtain ⟨C2, hO2, rfl, rfl⟩ := hv
 conv => whnf
 repeat (first | (refine XSame.of ?_; conv => whnf) | (refine XDep.all _ _ _ _ ?_; conv => whnf))
 refine XStop.draw tabOk mixed rfl rfl ?_
 conv => whnf
 repeat' (first
  | (refine And.intro ?_ ?_ <;> conv => whnf)
  | (refine XHeld.same rfl ?_; conv => whnf)
  | (refine XHeld.row rfl ?_; conv => whnf)
  | (refine XHeld.call rfl ?_; conv => whnf)
  | (refine XHeld.factCall rfl ?_; conv => whnf)
  | (refine XKeep.of ?_; conv => whnf)
  | (refine XSame.of ?_; conv => whnf)
  | (refine XDep.all _ _ _ _ ?_; conv => whnf)
  | (intro b9; conv => whnf)
  | (refine XHeld.mk ?_ ?_; (focus (first | exact Ent.refl _ | exact Ent.left _ _ | exact Ent.of_le ⟨List.sublist_append_left _ _, fun w h => h⟩ | exact Ent.of_le ⟨List.Sublist.refl _, fun w h => h.1⟩)); conv => whnf))
 all_goals
  refine ⟨⟨fun w => RowAt w (some ⟨b6, 0, none⟩) ((q.eraseIdx i).flatMap mgC) ∧ RowAt w a' (p.flatMap prC), []⟩, ?_, ⟨some ⟨b6, 0, none⟩, cap⟩, ⟨a', cap'⟩, ⟨⟨fun h => (by cases h), hO2.fit⟩, ⟨hO'.none_nil, hO'.fit⟩⟩, by subst he; rfl, rfl⟩
  refine Ent.trans (Ent.of_le (F' := ⟨fun _ => True, [] ++ orow (some ⟨b6, 0, none⟩) C2 ++ orow a' C'⟩) ⟨by simp [orow], fun w hw => trivial⟩) (Ent.trans (hO2.share (r1 := []) (r2 := orow a' C')) (Ent.trans (Ent.of_le (F' := ⟨fun w => True ∧ RowAt w (some ⟨b6, 0, none⟩) ((q.eraseIdx i).flatMap mgC), [] ++ orow a' C' ++ []⟩) ⟨by simp, fun w hw => hw⟩) (Ent.trans (hO'.share (r1 := []) (r2 := [])) (Ent.imp fun w hw => ⟨hw.1.2, hw.2⟩))))

end Go.Proofs.YtajkcdplmkaipaaGreatDoor
namespace Go.Proofs.YtajkcdplmkaipaaGreatDoor
open Go Go.Sx
set_option maxRecDepth 100000
set_option maxHeartbeats 4000000
set_option linter.unusedVariables false
set_option linter.unusedSimpArgs false

def mg0 : Mg := ⟨0, 0, 0, 0, 0, 0, 0, 0, default⟩
/-- The cells of an effect without a message. -/
def efC (kind a0 a1 a2 a3 : Int) (d : Bs) : List Value := [.int .i64 kind, .int .i64 a0, .int .i64 a1, .int .i64 a2, .int .i64 a3, .int .i64 0, .int .i64 0, .int .i64 0, .int .i64 0, .int .i64 0, .int .i64 0, .int .i64 0, .int .i64 0, .slice none 0 0, bsV d]

theorem infoI : ∃ i, Tryz.prog.info? 3 = some i := by
 have : (Tryz.prog.info? 3).isSome = true := by kernel_rfl
 exact Option.isSome_iff_exists.1 this
theorem infoB : ∃ i, Tryz.prog.info? 4 = some i := by
 have : (Tryz.prog.info? 4).isSome = true := by kernel_rfl
 exact Option.isSome_iff_exists.1 this

theorem none_spec (m : Mg) : PureSpec Tryz.prog 248 [.agg ⟨mgC m⟩] (fun _ => True)
 (fun v F => v = .bool (iEq m.src 0 && (iEq m.dst 0 && (iEq m.kind 0 && (iEq m.seq 0 && (arrEq 4 ([m.a0, m.a1, m.a2, m.a3].map (Value.int .i64)) ([0, 0, 0, 0].map (Value.int .i64)) && iEq (m.data.n : Int) 0)))))) := by
 obtain ⟨i1, hi1⟩ := infoI
 obtain ⟨r, hr⟩ : ∃ r, arrEq 4 ([m.a0, m.a1, m.a2, m.a3].map (Value.int .i64)) ([0, 0, 0, 0].map (Value.int .i64)) = r := ⟨_, rfl⟩
 rw [hr]
 refine PureSpec.of_xc tabOk Tryz.func248 rfl (by decide) (n := Tryz.f248.ntmps - 1) rfl rfl fun w0 av => ?_
 conv => whnf
 repeat (first | (refine XSame.of ?_; conv => whnf) | (refine XDep.all _ _ _ _ ?_; conv => whnf))
 intro b1
 conv => whnf
 repeat (first | (refine XSame.of ?_; conv => whnf) | (refine XDep.all _ _ _ _ ?_; conv => whnf))
 repeat' (first
  | (refine And.intro ?_ ?_ <;> conv => whnf)
  | (refine XHeld.same rfl ?_; conv => whnf)
  | (refine XHeld.row rfl ?_; conv => whnf)
  | (refine XHeld.call rfl ?_; conv => whnf)
  | (refine XHeld.factCall rfl ?_; conv => whnf)
  | (refine XKeep.of ?_; conv => whnf)
  | (refine XSame.of ?_; conv => whnf)
  | (refine XDep.all _ _ _ _ ?_; conv => whnf)
  | (refine XVal.of_read (XRead.eqArr (t := 22) (n := 4) (e := 3) (xs := [m.a0, m.a1, m.a2, m.a3].map (Value.int .i64)) (ys := [0, 0, 0, 0].map (Value.int .i64)) (by kernel_rfl) (.inl (by kernel_rfl)) hi1 (by kernel_rfl) (by kernel_rfl) (cell1_ints (by kernel_rfl) rfl rfl) ?_); rw [hr]; conv => whnf)
  | (split <;> conv => whnf)
  | (refine XHeld.mk ?_ ?_; (focus (first | exact Ent.refl _ | exact Ent.left _ _ | exact Ent.of_le ⟨List.sublist_append_left _ _, fun w h => h⟩ | exact Ent.of_le ⟨List.Sublist.refl _, fun w h => h.1⟩)); conv => whnf))
 all_goals
  rename_i hx
  refine ⟨_, Ent.refl _, ?_⟩
  show Value.bool _ = Value.bool _
  congr 1
  revert hx
  clear hr
  generalize iEq m.src 0 = q1
  generalize iEq m.dst 0 = q2
  generalize iEq m.kind 0 = q3
  generalize iEq m.seq 0 = q4
  generalize iEq (m.data.n : Int) 0 = q5
  cases q1 <;> cases q2 <;> cases q3 <;> cases q4 <;> cases r <;> cases q5 <;> simp

/-- A reply of the process manager has a permitted form. -/
theorem effReply_ok (t kd : Int) (ht : t = 3) (hkd : kd = 2) (a0 a1 a2 a3 : Int) (ha : argsI [117, 42] [a0, a1, a2, a3] = true) (n : Nat) (hn : n = 0) :
 PureSpec Tryz.prog 175 [.int .i64 t, .agg ⟨efC kd a0 a1 a2 a3 ⟨Hd.nil, n⟩⟩] (fun _ => True) (fun v F => v = .bool true) := by
 have h1 := in_spec 99 t
 rw [show inI 99 t = true from by subst ht; kernel_rfl] at h1
 have h2 := none_spec mg0
 obtain ⟨q2, hq2⟩ : ∃ q2, (iEq mg0.src 0 && (iEq mg0.dst 0 && (iEq mg0.kind 0 && (iEq mg0.seq 0 && (arrEq 4 ([mg0.a0, mg0.a1, mg0.a2, mg0.a3].map (Value.int .i64)) ([0, 0, 0, 0].map (Value.int .i64)) && iEq (mg0.data.n : Int) 0))))) = q2 := ⟨_, rfl⟩
 have hq2t : q2 = true := by
  rw [← hq2]
  simp only [Bool.and_eq_true, iEq_eq]
  refine ⟨by decide, by decide, by decide, by decide, by decide, by decide⟩
 rw [hq2, hq2t] at h2
 have h3 := args_spec [117, 42] (by decide) [a0, a1, a2, a3] rfl
 rw [ha] at h3
 refine PureSpec.of_xc tabOk Tryz.func175 rfl (by decide) (n := Tryz.f175.ntmps - 2) rfl rfl fun w0 av => ?_
 conv => whnf
 repeat (first | (refine XSame.of ?_; conv => whnf) | (refine XDep.all _ _ _ _ ?_; conv => whnf))
 intro b3
 conv => whnf
 repeat (first | (refine XSame.of ?_; conv => whnf) | (refine XDep.all _ _ _ _ ?_; conv => whnf))
 refine XCall.val h1 (fun w hw => trivial) (fun v D hv => ?_)
 subst hv
 conv => whnf
 repeat (first | (refine XSame.of ?_; conv => whnf) | (refine XDep.all _ _ _ _ ?_; conv => whnf))
 rw [show iLt kd 1 = false from by simp [iLt_eq, hkd]]
 conv => whnf
 repeat (first | (refine XSame.of ?_; conv => whnf) | (refine XDep.all _ _ _ _ ?_; conv => whnf))
 rw [show iGe kd 17 = false from by simp [iGe_eq, hkd]]
 conv => whnf
 repeat (first | (refine XSame.of ?_; conv => whnf) | (refine XDep.all _ _ _ _ ?_; conv => whnf))
 rw [show iEq kd 1 = false from by simp [iEq_eq, hkd]]
 conv => whnf
 repeat (first | (refine XSame.of ?_; conv => whnf) | (refine XDep.all _ _ _ _ ?_; conv => whnf))
 refine XCall.val h2 (fun w hw => trivial) (fun v D hv => ?_)
 subst hv
 conv => whnf
 repeat (first | (refine XSame.of ?_; conv => whnf) | (refine XDep.all _ _ _ _ ?_; conv => whnf))
 rw [show iEq kd 2 = true from by simp [iEq_eq, hkd]]
 conv => whnf
 repeat (first | (refine XSame.of ?_; conv => whnf) | (refine XDep.all _ _ _ _ ?_; conv => whnf))
 rw [show iEq t 3 = true from by simp [iEq_eq, ht]]
 conv => whnf
 repeat (first | (refine XSame.of ?_; conv => whnf) | (refine XDep.all _ _ _ _ ?_; conv => whnf))
 refine XCall.val h3 (fun w hw => trivial) (fun v D hv => ?_)
 subst hv
 conv => whnf
 repeat (first | (refine XSame.of ?_; conv => whnf) | (refine XDep.all _ _ _ _ ?_; conv => whnf))
 exact ⟨_, Ent.refl _, by subst hn; kernel_rfl⟩

/-- Effects of which each has a permitted form. -/
theorem effects_ok (t : Int) (kd a0 a1 a2 a3 : Int) (d : Bs) (h1 : PureSpec Tryz.prog 175 [.int .i64 t, .agg ⟨efC kd a0 a1 a2 a3 d⟩] (fun _ => True) (fun v F => v = .bool true)) (b n : Nat) (hn : n = 1) :
 PureSpec Tryz.prog 116 [.int .i64 t, .slice (some ⟨b, 0, none⟩) n n] (fun w => RowAt w (some ⟨b, 0, none⟩) (efC kd a0 a1 a2 a3 d)) (fun v F => v = .bool true) := by
 refine PureSpec.of_xc tabOk Tryz.func116 rfl (by decide) (n := Tryz.f116.ntmps - 2) rfl rfl fun w0 av => ?_
 conv => whnf
 repeat (first | (refine XSame.of ?_; conv => whnf) | (refine XDep.all _ _ _ _ ?_; conv => whnf))
 refine XStop.loop tabOk (ι := Nat) ([6] ++ List.range' 9 12) (fun x => x ≤ n) (fun x => [(9, .v (.int .i64 (x : Int)))]) (fun _ => []) (fun _ => ⟨fun w => RowAt w (some ⟨b, 0, none⟩) (efC kd a0 a1 a2 a3 d), []⟩)
  (fun x => n - x) 0 (Nat.zero_le _) ?_ rfl (Ent.refl _) fun i hi => ?_
 · conv => whnf
   repeat (first | exact FLe.nil | refine FLe.any ?_ | refine FLe.cons ?_)
 conv => whnf
 repeat (first | (refine XSame.of ?_; conv => whnf) | (refine XDep.all _ _ _ _ ?_; conv => whnf))
 refine XIf.split (fun hlt => ?_) (fun hlt => ?_)
 · have hlt' : i < n := by
    simp only [iLt_eq, decide_eq_true_eq] at hlt
    omega
   have hi0 : i = 0 := by omega
   conv => whnf
   repeat (first | (refine XSame.of ?_; conv => whnf) | (refine XDep.all _ _ _ _ ?_; conv => whnf))
   refine XVal.of_read (XRead.index tabOk (t := 24) rfl rfl rfl (by omega) (by omega) (fun h => by cases h) fun ad had => ?_)
   cases had
   conv => whnf
   repeat (first | (refine XSame.of ?_; conv => whnf) | (refine XDep.all _ _ _ _ ?_; conv => whnf))
   refine XVal.of_read (XRead.loads tabOk (t := 157) rfl rfl (ad := ⟨b, 0, none⟩) (k := 0) (L := efC kd a0 a1 a2 a3 d) (m := efC kd a0 a1 a2 a3 d) (.fact fun w hw => hw) (by rw [hi0]; simp) rfl rfl ?_)
   conv => whnf
   repeat (first | (refine XSame.of ?_; conv => whnf) | (refine XDep.all _ _ _ _ ?_; conv => whnf))
   intro b7
   conv => whnf
   repeat (first | (refine XSame.of ?_; conv => whnf) | (refine XDep.all _ _ _ _ ?_; conv => whnf))
   refine XCall.val h1 (fun w hw => trivial) (fun v D hv => ?_)
   subst hv
   conv => whnf
   repeat (first | (refine XSame.of ?_; conv => whnf) | (refine XDep.all _ _ _ _ ?_; conv => whnf))
   refine ⟨i + 1, ⟨hlt', by dsimp only; omega⟩, ?_, ?_, Ent.refl _⟩
   · conv => whnf
     refine ⟨?_, rfl⟩
     repeat (first | exact FLe.nil | refine FLe.any ?_ | refine FLe.cons ?_ | refine FLe.eq (by rw [wrap_i64 (by omega)]; rfl) ?_)
   · conv => whnf
     exact trivial
 · conv => whnf
   repeat (first | (refine XSame.of ?_; conv => whnf) | (refine XDep.all _ _ _ _ ?_; conv => whnf))
   exact ⟨_, Ent.refl _, by rw [show iLe (n : Int) 160 = true from by simp [iLe_eq]; omega]⟩

/-- The rights for a reply. -/
theorem rights_reply (kd : Int) (hkd : kd = 2) (a0 a1 a2 a3 : Int) (d : Bs) : PureSpec Tryz.prog 176 [.agg ⟨efC kd a0 a1 a2 a3 d⟩] (fun _ => True)
 (fun v F => ∃ (b n : Nat), n = 1 ∧ v = .slice (some ⟨b, 0, none⟩) n n ∧ F = ⟨fun w => RowAt w (some ⟨b, 0, none⟩) (rtC ⟨2, 0, kd⟩), []⟩) := by
 refine PureSpec.of_xc tabOk Tryz.func176 rfl (by decide) (n := Tryz.f176.ntmps - 1) rfl rfl fun w0 av => ?_
 conv => whnf
 repeat (first | (refine XSame.of ?_; conv => whnf) | (refine XDep.all _ _ _ _ ?_; conv => whnf))
 intro b1
 conv => whnf
 repeat (first | (refine XSame.of ?_; conv => whnf) | (refine XDep.all _ _ _ _ ?_; conv => whnf))
 refine XVal.build tabOk rfl rfl rfl [.agg ⟨rtC ⟨2, 0, kd⟩⟩] rfl rfl (by simp [Value.cells, rtC]) (by simp) fun b5 => ?_
 conv => whnf
 repeat (first | (refine XSame.of ?_; conv => whnf) | (refine XDep.all _ _ _ _ ?_; conv => whnf))
 rw [show iEq kd 1 = false from by simp [iEq_eq, hkd]]
 conv => whnf
 repeat (first | (refine XSame.of ?_; conv => whnf) | (refine XDep.all _ _ _ _ ?_; conv => whnf))
 rw [show iEq kd 3 = false from by simp [iEq_eq, hkd]]
 conv => whnf
 repeat (first | (refine XSame.of ?_; conv => whnf) | (refine XDep.all _ _ _ _ ?_; conv => whnf))
 exact ⟨⟨fun w => RowAt w (some ⟨b5, 0, none⟩) (rtC ⟨2, 0, kd⟩), []⟩, Ent.trans (Ent.of_le (F' := ⟨fun _ => True, [(b5, Row.c (rtC ⟨2, 0, kd⟩))]⟩) ⟨by simp [Value.cells], fun w hw => trivial⟩) (Ent.trans Ent.share1 (Ent.imp fun w hw => hw.2)), b5, 1, rfl, rfl, rfl⟩

end Go.Proofs.YtajkcdplmkaipaaGreatDoor
namespace Go.Proofs.YtajkcdplmkaipaaGreatDoor
open Go Go.Sx
set_option maxRecDepth 100000
set_option maxHeartbeats 4000000
set_option linter.unusedVariables false
set_option linter.unusedSimpArgs false

theorem iEqS (a : Int) : iEq a a = true := by simp [iEq_eq]
theorem iNeS (a : Int) : iNe a a = false := by simp [iNe_eq]

theorem smBytes (n : Nat) (hn : n = 0) : PureSpec Tryz.prog 100 [.slice none n 0, .slice none n 0] (fun _ => True) (fun v F => v = .bool true) := by
 have hlt : iLt 0 (n : Int) = false := by simp [iLt_eq, hn]
 refine PureSpec.of_xc tabOk Tryz.func100 rfl (by decide) (n := Tryz.f100.ntmps - 2) rfl rfl fun w0 av => ?_
 conv => whnf
 repeat (first | (refine XSame.of ?_; conv => whnf) | (refine XDep.all _ _ _ _ ?_; conv => whnf))
 repeat' (first
  | (refine And.intro ?_ ?_ <;> conv => whnf)
  | (refine XHeld.same rfl ?_; conv => whnf)
  | (refine XHeld.row rfl ?_; conv => whnf)
  | (refine XHeld.call rfl ?_; conv => whnf)
  | (refine XHeld.factCall rfl ?_; conv => whnf)
  | (refine XKeep.of ?_; conv => whnf)
  | (refine XSame.of ?_; conv => whnf)
  | (refine XDep.all _ _ _ _ ?_; conv => whnf)
  | (intro bx; conv => whnf)
  | (refine XVal.boxRow fun bx => ?_; conv => whnf)
  | (rw [iEqS]; conv => whnf)
  | (rw [iNeS]; conv => whnf)
  | (rw [hlt]; conv => whnf)
  | (refine XStop.once tabOk ?_; conv => whnf)
  | (refine XHeld.mk ?_ ?_; (focus (first | exact Ent.refl _ | exact Ent.left _ _ | exact Ent.of_le ⟨List.sublist_append_left _ _, fun w h => h⟩ | exact Ent.of_le ⟨List.Sublist.refl _, fun w h => h.1⟩)); conv => whnf))
 all_goals exact ⟨_, Ent.refl _, rfl⟩

theorem smSp (n : Nat) (hn : n = 0) : PureSpec Tryz.prog 43 [.slice none n 0, .slice none n 0] (fun _ => True) (fun v F => v = .bool true) := by
 have hlt : iLt 0 (n : Int) = false := by simp [iLt_eq, hn]
 refine PureSpec.of_xc tabOk Tryz.func43 rfl (by decide) (n := Tryz.f43.ntmps - 2) rfl rfl fun w0 av => ?_
 conv => whnf
 repeat (first | (refine XSame.of ?_; conv => whnf) | (refine XDep.all _ _ _ _ ?_; conv => whnf))
 repeat' (first
  | (refine And.intro ?_ ?_ <;> conv => whnf)
  | (refine XHeld.same rfl ?_; conv => whnf)
  | (refine XHeld.row rfl ?_; conv => whnf)
  | (refine XHeld.call rfl ?_; conv => whnf)
  | (refine XHeld.factCall rfl ?_; conv => whnf)
  | (refine XKeep.of ?_; conv => whnf)
  | (refine XSame.of ?_; conv => whnf)
  | (refine XDep.all _ _ _ _ ?_; conv => whnf)
  | (intro bx; conv => whnf)
  | (refine XVal.boxRow fun bx => ?_; conv => whnf)
  | (rw [iEqS]; conv => whnf)
  | (rw [iNeS]; conv => whnf)
  | (rw [hlt]; conv => whnf)
  | (refine XStop.once tabOk ?_; conv => whnf)
  | (refine XHeld.mk ?_ ?_; (focus (first | exact Ent.refl _ | exact Ent.left _ _ | exact Ent.of_le ⟨List.sublist_append_left _ _, fun w h => h⟩ | exact Ent.of_le ⟨List.Sublist.refl _, fun w h => h.1⟩)); conv => whnf))
 all_goals exact ⟨_, Ent.refl _, rfl⟩

theorem smCaps (n : Nat) (hn : n = 0) : PureSpec Tryz.prog 102 [.slice none n 0, .slice none n 0] (fun _ => True) (fun v F => v = .bool true) := by
 have hlt : iLt 0 (n : Int) = false := by simp [iLt_eq, hn]
 refine PureSpec.of_xc tabOk Tryz.func102 rfl (by decide) (n := Tryz.f102.ntmps - 2) rfl rfl fun w0 av => ?_
 conv => whnf
 repeat (first | (refine XSame.of ?_; conv => whnf) | (refine XDep.all _ _ _ _ ?_; conv => whnf))
 repeat' (first
  | (refine And.intro ?_ ?_ <;> conv => whnf)
  | (refine XHeld.same rfl ?_; conv => whnf)
  | (refine XHeld.row rfl ?_; conv => whnf)
  | (refine XHeld.call rfl ?_; conv => whnf)
  | (refine XHeld.factCall rfl ?_; conv => whnf)
  | (refine XKeep.of ?_; conv => whnf)
  | (refine XSame.of ?_; conv => whnf)
  | (refine XDep.all _ _ _ _ ?_; conv => whnf)
  | (intro bx; conv => whnf)
  | (refine XVal.boxRow fun bx => ?_; conv => whnf)
  | (rw [iEqS]; conv => whnf)
  | (rw [iNeS]; conv => whnf)
  | (rw [hlt]; conv => whnf)
  | (refine XStop.once tabOk ?_; conv => whnf)
  | (refine XHeld.mk ?_ ?_; (focus (first | exact Ent.refl _ | exact Ent.left _ _ | exact Ent.of_le ⟨List.sublist_append_left _ _, fun w h => h⟩ | exact Ent.of_le ⟨List.Sublist.refl _, fun w h => h.1⟩)); conv => whnf))
 all_goals exact ⟨_, Ent.refl _, rfl⟩

theorem smGr (n : Nat) (hn : n = 0) : PureSpec Tryz.prog 46 [.slice none n 0, .slice none n 0] (fun _ => True) (fun v F => v = .bool true) := by
 have hlt : iLt 0 (n : Int) = false := by simp [iLt_eq, hn]
 refine PureSpec.of_xc tabOk Tryz.func46 rfl (by decide) (n := Tryz.f46.ntmps - 2) rfl rfl fun w0 av => ?_
 conv => whnf
 repeat (first | (refine XSame.of ?_; conv => whnf) | (refine XDep.all _ _ _ _ ?_; conv => whnf))
 repeat' (first
  | (refine And.intro ?_ ?_ <;> conv => whnf)
  | (refine XHeld.same rfl ?_; conv => whnf)
  | (refine XHeld.row rfl ?_; conv => whnf)
  | (refine XHeld.call rfl ?_; conv => whnf)
  | (refine XHeld.factCall rfl ?_; conv => whnf)
  | (refine XKeep.of ?_; conv => whnf)
  | (refine XSame.of ?_; conv => whnf)
  | (refine XDep.all _ _ _ _ ?_; conv => whnf)
  | (intro bx; conv => whnf)
  | (refine XVal.boxRow fun bx => ?_; conv => whnf)
  | (rw [iEqS]; conv => whnf)
  | (rw [iNeS]; conv => whnf)
  | (rw [hlt]; conv => whnf)
  | (refine XStop.once tabOk ?_; conv => whnf)
  | (refine XHeld.mk ?_ ?_; (focus (first | exact Ent.refl _ | exact Ent.left _ _ | exact Ent.of_le ⟨List.sublist_append_left _ _, fun w h => h⟩ | exact Ent.of_le ⟨List.Sublist.refl _, fun w h => h.1⟩)); conv => whnf))
 all_goals exact ⟨_, Ent.refl _, rfl⟩

theorem smTi (n : Nat) (hn : n = 0) : PureSpec Tryz.prog 47 [.slice none n 0, .slice none n 0] (fun _ => True) (fun v F => v = .bool true) := by
 have hlt : iLt 0 (n : Int) = false := by simp [iLt_eq, hn]
 refine PureSpec.of_xc tabOk Tryz.func47 rfl (by decide) (n := Tryz.f47.ntmps - 2) rfl rfl fun w0 av => ?_
 conv => whnf
 repeat (first | (refine XSame.of ?_; conv => whnf) | (refine XDep.all _ _ _ _ ?_; conv => whnf))
 repeat' (first
  | (refine And.intro ?_ ?_ <;> conv => whnf)
  | (refine XHeld.same rfl ?_; conv => whnf)
  | (refine XHeld.row rfl ?_; conv => whnf)
  | (refine XHeld.call rfl ?_; conv => whnf)
  | (refine XHeld.factCall rfl ?_; conv => whnf)
  | (refine XKeep.of ?_; conv => whnf)
  | (refine XSame.of ?_; conv => whnf)
  | (refine XDep.all _ _ _ _ ?_; conv => whnf)
  | (intro bx; conv => whnf)
  | (refine XVal.boxRow fun bx => ?_; conv => whnf)
  | (rw [iEqS]; conv => whnf)
  | (rw [iNeS]; conv => whnf)
  | (rw [hlt]; conv => whnf)
  | (refine XStop.once tabOk ?_; conv => whnf)
  | (refine XHeld.mk ?_ ?_; (focus (first | exact Ent.refl _ | exact Ent.left _ _ | exact Ent.of_le ⟨List.sublist_append_left _ _, fun w h => h⟩ | exact Ent.of_le ⟨List.Sublist.refl _, fun w h => h.1⟩)); conv => whnf))
 all_goals exact ⟨_, Ent.refl _, rfl⟩

theorem smInts (n : Nat) (hn : n = 0) : PureSpec Tryz.prog 48 [.slice none n 0, .slice none n 0] (fun _ => True) (fun v F => v = .bool true) := by
 have hlt : iLt 0 (n : Int) = false := by simp [iLt_eq, hn]
 refine PureSpec.of_xc tabOk Tryz.func48 rfl (by decide) (n := Tryz.f48.ntmps - 2) rfl rfl fun w0 av => ?_
 conv => whnf
 repeat (first | (refine XSame.of ?_; conv => whnf) | (refine XDep.all _ _ _ _ ?_; conv => whnf))
 repeat' (first
  | (refine And.intro ?_ ?_ <;> conv => whnf)
  | (refine XHeld.same rfl ?_; conv => whnf)
  | (refine XHeld.row rfl ?_; conv => whnf)
  | (refine XHeld.call rfl ?_; conv => whnf)
  | (refine XHeld.factCall rfl ?_; conv => whnf)
  | (refine XKeep.of ?_; conv => whnf)
  | (refine XSame.of ?_; conv => whnf)
  | (refine XDep.all _ _ _ _ ?_; conv => whnf)
  | (intro bx; conv => whnf)
  | (refine XVal.boxRow fun bx => ?_; conv => whnf)
  | (rw [iEqS]; conv => whnf)
  | (rw [iNeS]; conv => whnf)
  | (rw [hlt]; conv => whnf)
  | (refine XStop.once tabOk ?_; conv => whnf)
  | (refine XHeld.mk ?_ ?_; (focus (first | exact Ent.refl _ | exact Ent.left _ _ | exact Ent.of_le ⟨List.sublist_append_left _ _, fun w h => h⟩ | exact Ent.of_le ⟨List.Sublist.refl _, fun w h => h.1⟩)); conv => whnf))
 all_goals exact ⟨_, Ent.refl _, rfl⟩

theorem smWi (n : Nat) (hn : n = 0) : PureSpec Tryz.prog 50 [.slice none n 0, .slice none n 0] (fun _ => True) (fun v F => v = .bool true) := by
 have hlt : iLt 0 (n : Int) = false := by simp [iLt_eq, hn]
 refine PureSpec.of_xc tabOk Tryz.func50 rfl (by decide) (n := Tryz.f50.ntmps - 2) rfl rfl fun w0 av => ?_
 conv => whnf
 repeat (first | (refine XSame.of ?_; conv => whnf) | (refine XDep.all _ _ _ _ ?_; conv => whnf))
 repeat' (first
  | (refine And.intro ?_ ?_ <;> conv => whnf)
  | (refine XHeld.same rfl ?_; conv => whnf)
  | (refine XHeld.row rfl ?_; conv => whnf)
  | (refine XHeld.call rfl ?_; conv => whnf)
  | (refine XHeld.factCall rfl ?_; conv => whnf)
  | (refine XKeep.of ?_; conv => whnf)
  | (refine XSame.of ?_; conv => whnf)
  | (refine XDep.all _ _ _ _ ?_; conv => whnf)
  | (intro bx; conv => whnf)
  | (refine XVal.boxRow fun bx => ?_; conv => whnf)
  | (rw [iEqS]; conv => whnf)
  | (rw [iNeS]; conv => whnf)
  | (rw [hlt]; conv => whnf)
  | (refine XStop.once tabOk ?_; conv => whnf)
  | (refine XHeld.mk ?_ ?_; (focus (first | exact Ent.refl _ | exact Ent.left _ _ | exact Ent.of_le ⟨List.sublist_append_left _ _, fun w h => h⟩ | exact Ent.of_le ⟨List.Sublist.refl _, fun w h => h.1⟩)); conv => whnf))
 all_goals exact ⟨_, Ent.refl _, rfl⟩

theorem smRec (n : Nat) (hn : n = 0) : PureSpec Tryz.prog 56 [.slice none n 0, .slice none n 0] (fun _ => True) (fun v F => v = .bool true) := by
 have hlt : iLt 0 (n : Int) = false := by simp [iLt_eq, hn]
 refine PureSpec.of_xc tabOk Tryz.func56 rfl (by decide) (n := Tryz.f56.ntmps - 2) rfl rfl fun w0 av => ?_
 conv => whnf
 repeat (first | (refine XSame.of ?_; conv => whnf) | (refine XDep.all _ _ _ _ ?_; conv => whnf))
 repeat' (first
  | (refine And.intro ?_ ?_ <;> conv => whnf)
  | (refine XHeld.same rfl ?_; conv => whnf)
  | (refine XHeld.row rfl ?_; conv => whnf)
  | (refine XHeld.call rfl ?_; conv => whnf)
  | (refine XHeld.factCall rfl ?_; conv => whnf)
  | (refine XKeep.of ?_; conv => whnf)
  | (refine XSame.of ?_; conv => whnf)
  | (refine XDep.all _ _ _ _ ?_; conv => whnf)
  | (intro bx; conv => whnf)
  | (refine XVal.boxRow fun bx => ?_; conv => whnf)
  | (rw [iEqS]; conv => whnf)
  | (rw [iNeS]; conv => whnf)
  | (rw [hlt]; conv => whnf)
  | (refine XStop.once tabOk ?_; conv => whnf)
  | (refine XHeld.mk ?_ ?_; (focus (first | exact Ent.refl _ | exact Ent.left _ _ | exact Ent.of_le ⟨List.sublist_append_left _ _, fun w h => h⟩ | exact Ent.of_le ⟨List.Sublist.refl _, fun w h => h.1⟩)); conv => whnf))
 all_goals exact ⟨_, Ent.refl _, rfl⟩

theorem smMem (n : Nat) (hn : n = 0) : PureSpec Tryz.prog 49 [.agg ⟨[.slice none n 0]⟩, .agg ⟨[.slice none n 0]⟩] (fun _ => True) (fun v F => v = .bool true) := by
 have hlt : iLt 0 (n : Int) = false := by simp [iLt_eq, hn]
 refine PureSpec.of_xc tabOk Tryz.func49 rfl (by decide) (n := Tryz.f49.ntmps - 2) rfl rfl fun w0 av => ?_
 conv => whnf
 repeat (first | (refine XSame.of ?_; conv => whnf) | (refine XDep.all _ _ _ _ ?_; conv => whnf))
 repeat' (first
  | (refine And.intro ?_ ?_ <;> conv => whnf)
  | (refine XHeld.same rfl ?_; conv => whnf)
  | (refine XHeld.row rfl ?_; conv => whnf)
  | (refine XHeld.call rfl ?_; conv => whnf)
  | (refine XHeld.factCall rfl ?_; conv => whnf)
  | (refine XKeep.of ?_; conv => whnf)
  | (refine XSame.of ?_; conv => whnf)
  | (refine XDep.all _ _ _ _ ?_; conv => whnf)
  | (intro bx; conv => whnf)
  | (refine XVal.boxRow fun bx => ?_; conv => whnf)
  | (rw [iEqS]; conv => whnf)
  | (rw [iNeS]; conv => whnf)
  | (rw [hlt]; conv => whnf)
  | (refine XStop.once tabOk ?_; conv => whnf)
  | (refine XHeld.mk ?_ ?_; (focus (first | exact Ent.refl _ | exact Ent.left _ _ | exact Ent.of_le ⟨List.sublist_append_left _ _, fun w h => h⟩ | exact Ent.of_le ⟨List.Sublist.refl _, fun w h => h.1⟩)); conv => whnf))
 all_goals exact ⟨_, Ent.refl _, rfl⟩

theorem smPorts (n : Nat) (hn : n = 0) : PureSpec Tryz.prog 44 [.agg ⟨[.slice none n 0, .slice none n 0]⟩, .agg ⟨[.slice none n 0, .slice none n 0]⟩] (fun _ => True) (fun v F => v = .bool true) := by
 have hlt : iLt 0 (n : Int) = false := by simp [iLt_eq, hn]
 refine PureSpec.of_xc tabOk Tryz.func44 rfl (by decide) (n := Tryz.f44.ntmps - 2) rfl rfl fun w0 av => ?_
 conv => whnf
 repeat (first | (refine XSame.of ?_; conv => whnf) | (refine XDep.all _ _ _ _ ?_; conv => whnf))
 repeat' (first
  | (refine And.intro ?_ ?_ <;> conv => whnf)
  | (refine XHeld.same rfl ?_; conv => whnf)
  | (refine XHeld.row rfl ?_; conv => whnf)
  | (refine XHeld.call rfl ?_; conv => whnf)
  | (refine XHeld.factCall rfl ?_; conv => whnf)
  | (refine XKeep.of ?_; conv => whnf)
  | (refine XSame.of ?_; conv => whnf)
  | (refine XDep.all _ _ _ _ ?_; conv => whnf)
  | (intro bx; conv => whnf)
  | (refine XVal.boxRow fun bx => ?_; conv => whnf)
  | (rw [iEqS]; conv => whnf)
  | (rw [iNeS]; conv => whnf)
  | (rw [hlt]; conv => whnf)
  | (refine XStop.once tabOk ?_; conv => whnf)
  | (refine XHeld.mk ?_ ?_; (focus (first | exact Ent.refl _ | exact Ent.left _ _ | exact Ent.of_le ⟨List.sublist_append_left _ _, fun w h => h⟩ | exact Ent.of_le ⟨List.Sublist.refl _, fun w h => h.1⟩)); conv => whnf))
 all_goals exact ⟨_, Ent.refl _, rfl⟩

theorem smCap (n : Nat) (hn : n = 0) (k : Int) : PureSpec Tryz.prog 45 [.agg ⟨[.int .i64 k, .slice none n 0]⟩, .agg ⟨[.int .i64 k, .slice none n 0]⟩] (fun _ => True) (fun v F => v = .bool true) := by
 have hlt : iLt 0 (n : Int) = false := by simp [iLt_eq, hn]
 refine PureSpec.of_xc tabOk Tryz.func45 rfl (by decide) (n := Tryz.f45.ntmps - 2) rfl rfl fun w0 av => ?_
 conv => whnf
 repeat (first | (refine XSame.of ?_; conv => whnf) | (refine XDep.all _ _ _ _ ?_; conv => whnf))
 repeat' (first
  | (refine And.intro ?_ ?_ <;> conv => whnf)
  | (refine XHeld.same rfl ?_; conv => whnf)
  | (refine XHeld.row rfl ?_; conv => whnf)
  | (refine XHeld.call rfl ?_; conv => whnf)
  | (refine XHeld.factCall rfl ?_; conv => whnf)
  | (refine XKeep.of ?_; conv => whnf)
  | (refine XSame.of ?_; conv => whnf)
  | (refine XDep.all _ _ _ _ ?_; conv => whnf)
  | (intro bx; conv => whnf)
  | (refine XVal.boxRow fun bx => ?_; conv => whnf)
  | (rw [iEqS]; conv => whnf)
  | (rw [iNeS]; conv => whnf)
  | (rw [hlt]; conv => whnf)
  | (refine XStop.once tabOk ?_; conv => whnf)
  | (refine XCall.val (smCaps n hn) (fun w hw => trivial) (fun v D hv => ?_); subst hv; conv => whnf)
  | (refine XHeld.mk ?_ ?_; (focus (first | exact Ent.refl _ | exact Ent.left _ _ | exact Ent.of_le ⟨List.sublist_append_left _ _, fun w h => h⟩ | exact Ent.of_le ⟨List.Sublist.refl _, fun w h => h.1⟩)); conv => whnf))
 all_goals exact ⟨_, Ent.refl _, rfl⟩

theorem smClock (n : Nat) (hn : n = 0) (k : Int) : PureSpec Tryz.prog 54 [.agg ⟨[.int .i64 k, .slice none n 0]⟩, .agg ⟨[.int .i64 k, .slice none n 0]⟩] (fun _ => True) (fun v F => v = .bool true) := by
 have hlt : iLt 0 (n : Int) = false := by simp [iLt_eq, hn]
 refine PureSpec.of_xc tabOk Tryz.func54 rfl (by decide) (n := Tryz.f54.ntmps - 2) rfl rfl fun w0 av => ?_
 conv => whnf
 repeat (first | (refine XSame.of ?_; conv => whnf) | (refine XDep.all _ _ _ _ ?_; conv => whnf))
 repeat' (first
  | (refine And.intro ?_ ?_ <;> conv => whnf)
  | (refine XHeld.same rfl ?_; conv => whnf)
  | (refine XHeld.row rfl ?_; conv => whnf)
  | (refine XHeld.call rfl ?_; conv => whnf)
  | (refine XHeld.factCall rfl ?_; conv => whnf)
  | (refine XKeep.of ?_; conv => whnf)
  | (refine XSame.of ?_; conv => whnf)
  | (refine XDep.all _ _ _ _ ?_; conv => whnf)
  | (intro bx; conv => whnf)
  | (refine XVal.boxRow fun bx => ?_; conv => whnf)
  | (rw [iEqS]; conv => whnf)
  | (rw [iNeS]; conv => whnf)
  | (rw [hlt]; conv => whnf)
  | (refine XStop.once tabOk ?_; conv => whnf)
  | (refine XHeld.mk ?_ ?_; (focus (first | exact Ent.refl _ | exact Ent.left _ _ | exact Ent.of_le ⟨List.sublist_append_left _ _, fun w h => h⟩ | exact Ent.of_le ⟨List.Sublist.refl _, fun w h => h.1⟩)); conv => whnf))
 all_goals exact ⟨_, Ent.refl _, rfl⟩

theorem smCmd (n : Nat) (hn : n = 0) (k : Int) : PureSpec Tryz.prog 156 [.agg ⟨[.int .i64 k, .int .i64 k, .int .i64 k, .slice none n 0]⟩, .agg ⟨[.int .i64 k, .int .i64 k, .int .i64 k, .slice none n 0]⟩] (fun _ => True) (fun v F => v = .bool true) := by
 have hlt : iLt 0 (n : Int) = false := by simp [iLt_eq, hn]
 refine PureSpec.of_xc tabOk Tryz.func156 rfl (by decide) (n := Tryz.f156.ntmps - 2) rfl rfl fun w0 av => ?_
 conv => whnf
 repeat (first | (refine XSame.of ?_; conv => whnf) | (refine XDep.all _ _ _ _ ?_; conv => whnf))
 repeat' (first
  | (refine And.intro ?_ ?_ <;> conv => whnf)
  | (refine XHeld.same rfl ?_; conv => whnf)
  | (refine XHeld.row rfl ?_; conv => whnf)
  | (refine XHeld.call rfl ?_; conv => whnf)
  | (refine XHeld.factCall rfl ?_; conv => whnf)
  | (refine XKeep.of ?_; conv => whnf)
  | (refine XSame.of ?_; conv => whnf)
  | (refine XDep.all _ _ _ _ ?_; conv => whnf)
  | (intro bx; conv => whnf)
  | (refine XVal.boxRow fun bx => ?_; conv => whnf)
  | (rw [iEqS]; conv => whnf)
  | (rw [iNeS]; conv => whnf)
  | (rw [hlt]; conv => whnf)
  | (refine XStop.once tabOk ?_; conv => whnf)
  | (refine XCall.val (smBytes n hn) (fun w hw => trivial) (fun v D hv => ?_); subst hv; conv => whnf)
  | (refine XHeld.mk ?_ ?_; (focus (first | exact Ent.refl _ | exact Ent.left _ _ | exact Ent.of_le ⟨List.sublist_append_left _ _, fun w h => h⟩ | exact Ent.of_le ⟨List.Sublist.refl _, fun w h => h.1⟩)); conv => whnf))
 all_goals exact ⟨_, Ent.refl _, rfl⟩

theorem smAns (n : Nat) (hn : n = 0) (k : Int) : PureSpec Tryz.prog 157 [.agg ⟨[.int .i64 k, .int .i64 k, .slice none n 0]⟩, .agg ⟨[.int .i64 k, .int .i64 k, .slice none n 0]⟩] (fun _ => True) (fun v F => v = .bool true) := by
 have hlt : iLt 0 (n : Int) = false := by simp [iLt_eq, hn]
 refine PureSpec.of_xc tabOk Tryz.func157 rfl (by decide) (n := Tryz.f157.ntmps - 2) rfl rfl fun w0 av => ?_
 conv => whnf
 repeat (first | (refine XSame.of ?_; conv => whnf) | (refine XDep.all _ _ _ _ ?_; conv => whnf))
 repeat' (first
  | (refine And.intro ?_ ?_ <;> conv => whnf)
  | (refine XHeld.same rfl ?_; conv => whnf)
  | (refine XHeld.row rfl ?_; conv => whnf)
  | (refine XHeld.call rfl ?_; conv => whnf)
  | (refine XHeld.factCall rfl ?_; conv => whnf)
  | (refine XKeep.of ?_; conv => whnf)
  | (refine XSame.of ?_; conv => whnf)
  | (refine XDep.all _ _ _ _ ?_; conv => whnf)
  | (intro bx; conv => whnf)
  | (refine XVal.boxRow fun bx => ?_; conv => whnf)
  | (rw [iEqS]; conv => whnf)
  | (rw [iNeS]; conv => whnf)
  | (rw [hlt]; conv => whnf)
  | (refine XStop.once tabOk ?_; conv => whnf)
  | (refine XCall.val (smBytes n hn) (fun w hw => trivial) (fun v D hv => ?_); subst hv; conv => whnf)
  | (refine XHeld.mk ?_ ?_; (focus (first | exact Ent.refl _ | exact Ent.left _ _ | exact Ent.of_le ⟨List.sublist_append_left _ _, fun w h => h⟩ | exact Ent.of_le ⟨List.Sublist.refl _, fun w h => h.1⟩)); conv => whnf))
 all_goals exact ⟨_, Ent.refl _, rfl⟩

theorem smChan (n : Nat) (hn : n = 0) (k : Int) : PureSpec Tryz.prog 103 [.agg ⟨[.bool false, .int .i64 k, .int .i64 k, .int .i64 k, .slice none n 0, .int .i64 k, .int .i64 k, .int .i64 k, .slice none n 0]⟩, .agg ⟨[.bool false, .int .i64 k, .int .i64 k, .int .i64 k, .slice none n 0, .int .i64 k, .int .i64 k, .int .i64 k, .slice none n 0]⟩] (fun _ => True) (fun v F => v = .bool true) := by
 have hlt : iLt 0 (n : Int) = false := by simp [iLt_eq, hn]
 refine PureSpec.of_xc tabOk Tryz.func103 rfl (by decide) (n := Tryz.f103.ntmps - 2) rfl rfl fun w0 av => ?_
 conv => whnf
 repeat (first | (refine XSame.of ?_; conv => whnf) | (refine XDep.all _ _ _ _ ?_; conv => whnf))
 repeat' (first
  | (refine And.intro ?_ ?_ <;> conv => whnf)
  | (refine XHeld.same rfl ?_; conv => whnf)
  | (refine XHeld.row rfl ?_; conv => whnf)
  | (refine XHeld.call rfl ?_; conv => whnf)
  | (refine XHeld.factCall rfl ?_; conv => whnf)
  | (refine XKeep.of ?_; conv => whnf)
  | (refine XSame.of ?_; conv => whnf)
  | (refine XDep.all _ _ _ _ ?_; conv => whnf)
  | (intro bx; conv => whnf)
  | (refine XVal.boxRow fun bx => ?_; conv => whnf)
  | (rw [iEqS]; conv => whnf)
  | (rw [iNeS]; conv => whnf)
  | (rw [hlt]; conv => whnf)
  | (refine XStop.once tabOk ?_; conv => whnf)
  | (refine XCall.val (smBytes n hn) (fun w hw => trivial) (fun v D hv => ?_); subst hv; conv => whnf)
  | (refine XCall.val (smCmd n hn k) (fun w hw => trivial) (fun v D hv => ?_); subst hv; conv => whnf)
  | (refine XCall.val (smAns n hn k) (fun w hw => trivial) (fun v D hv => ?_); subst hv; conv => whnf)
  | (refine XHeld.mk ?_ ?_; (focus (first | exact Ent.refl _ | exact Ent.left _ _ | exact Ent.of_le ⟨List.sublist_append_left _ _, fun w h => h⟩ | exact Ent.of_le ⟨List.Sublist.refl _, fun w h => h.1⟩)); conv => whnf))
 all_goals exact ⟨_, Ent.refl _, rfl⟩

theorem smDisk (n : Nat) (hn : n = 0) (k : Int) : PureSpec Tryz.prog 51 [.agg ⟨[.slice none n 0, .bool false, .int .i64 k, .int .i64 k, .int .i64 k, .slice none n 0, .int .i64 k, .int .i64 k, .int .i64 k, .slice none n 0]⟩, .agg ⟨[.slice none n 0, .bool false, .int .i64 k, .int .i64 k, .int .i64 k, .slice none n 0, .int .i64 k, .int .i64 k, .int .i64 k, .slice none n 0]⟩] (fun _ => True) (fun v F => v = .bool true) := by
 have hlt : iLt 0 (n : Int) = false := by simp [iLt_eq, hn]
 refine PureSpec.of_xc tabOk Tryz.func51 rfl (by decide) (n := Tryz.f51.ntmps - 2) rfl rfl fun w0 av => ?_
 conv => whnf
 repeat (first | (refine XSame.of ?_; conv => whnf) | (refine XDep.all _ _ _ _ ?_; conv => whnf))
 repeat' (first
  | (refine And.intro ?_ ?_ <;> conv => whnf)
  | (refine XHeld.same rfl ?_; conv => whnf)
  | (refine XHeld.row rfl ?_; conv => whnf)
  | (refine XHeld.call rfl ?_; conv => whnf)
  | (refine XHeld.factCall rfl ?_; conv => whnf)
  | (refine XKeep.of ?_; conv => whnf)
  | (refine XSame.of ?_; conv => whnf)
  | (refine XDep.all _ _ _ _ ?_; conv => whnf)
  | (intro bx; conv => whnf)
  | (refine XVal.boxRow fun bx => ?_; conv => whnf)
  | (rw [iEqS]; conv => whnf)
  | (rw [iNeS]; conv => whnf)
  | (rw [hlt]; conv => whnf)
  | (refine XStop.once tabOk ?_; conv => whnf)
  | (refine XCall.val (smChan n hn k) (fun w hw => trivial) (fun v D hv => ?_); subst hv; conv => whnf)
  | (refine XCall.val (smMem n hn) (fun w hw => trivial) (fun v D hv => ?_); subst hv; conv => whnf)
  | (refine XHeld.mk ?_ ?_; (focus (first | exact Ent.refl _ | exact Ent.left _ _ | exact Ent.of_le ⟨List.sublist_append_left _ _, fun w h => h⟩ | exact Ent.of_le ⟨List.Sublist.refl _, fun w h => h.1⟩)); conv => whnf))
 all_goals exact ⟨_, Ent.refl _, rfl⟩

theorem smLink (n : Nat) (hn : n = 0) (k : Int) : PureSpec Tryz.prog 52 [.agg ⟨[.slice none n 0, .int .i64 k, .int .i64 k, .int .i64 k, .slice none n 0, .slice none n 0, .bool false, .int .i64 k, .int .i64 k, .int .i64 k, .slice none n 0, .int .i64 k, .int .i64 k, .int .i64 k, .slice none n 0, .bool false, .int .i64 k, .int .i64 k, .int .i64 k, .slice none n 0, .int .i64 k, .int .i64 k, .int .i64 k, .slice none n 0]⟩, .agg ⟨[.slice none n 0, .int .i64 k, .int .i64 k, .int .i64 k, .slice none n 0, .slice none n 0, .bool false, .int .i64 k, .int .i64 k, .int .i64 k, .slice none n 0, .int .i64 k, .int .i64 k, .int .i64 k, .slice none n 0, .bool false, .int .i64 k, .int .i64 k, .int .i64 k, .slice none n 0, .int .i64 k, .int .i64 k, .int .i64 k, .slice none n 0]⟩] (fun _ => True) (fun v F => v = .bool true) := by
 have hlt : iLt 0 (n : Int) = false := by simp [iLt_eq, hn]
 refine PureSpec.of_xc tabOk Tryz.func52 rfl (by decide) (n := Tryz.f52.ntmps - 2) rfl rfl fun w0 av => ?_
 conv => whnf
 repeat (first | (refine XSame.of ?_; conv => whnf) | (refine XDep.all _ _ _ _ ?_; conv => whnf))
 repeat' (first
  | (refine And.intro ?_ ?_ <;> conv => whnf)
  | (refine XHeld.same rfl ?_; conv => whnf)
  | (refine XHeld.row rfl ?_; conv => whnf)
  | (refine XHeld.call rfl ?_; conv => whnf)
  | (refine XHeld.factCall rfl ?_; conv => whnf)
  | (refine XKeep.of ?_; conv => whnf)
  | (refine XSame.of ?_; conv => whnf)
  | (refine XDep.all _ _ _ _ ?_; conv => whnf)
  | (intro bx; conv => whnf)
  | (refine XVal.boxRow fun bx => ?_; conv => whnf)
  | (rw [iEqS]; conv => whnf)
  | (rw [iNeS]; conv => whnf)
  | (rw [hlt]; conv => whnf)
  | (refine XStop.once tabOk ?_; conv => whnf)
  | (refine XCall.val (smBytes n hn) (fun w hw => trivial) (fun v D hv => ?_); subst hv; conv => whnf)
  | (refine XCall.val (smChan n hn k) (fun w hw => trivial) (fun v D hv => ?_); subst hv; conv => whnf)
  | (refine XCall.val (smMem n hn) (fun w hw => trivial) (fun v D hv => ?_); subst hv; conv => whnf)
  | (refine XHeld.mk ?_ ?_; (focus (first | exact Ent.refl _ | exact Ent.left _ _ | exact Ent.of_le ⟨List.sublist_append_left _ _, fun w h => h⟩ | exact Ent.of_le ⟨List.Sublist.refl _, fun w h => h.1⟩)); conv => whnf))
 all_goals exact ⟨_, Ent.refl _, rfl⟩

theorem smSer (n : Nat) (hn : n = 0) (k : Int) : PureSpec Tryz.prog 53 [.agg ⟨[.slice none n 0, .int .i64 k, .int .i64 k, .slice none n 0, .slice none n 0, .bool false, .int .i64 k, .int .i64 k, .int .i64 k, .slice none n 0, .int .i64 k, .int .i64 k, .int .i64 k, .slice none n 0, .bool false, .int .i64 k, .int .i64 k, .int .i64 k, .slice none n 0, .int .i64 k, .int .i64 k, .int .i64 k, .slice none n 0]⟩, .agg ⟨[.slice none n 0, .int .i64 k, .int .i64 k, .slice none n 0, .slice none n 0, .bool false, .int .i64 k, .int .i64 k, .int .i64 k, .slice none n 0, .int .i64 k, .int .i64 k, .int .i64 k, .slice none n 0, .bool false, .int .i64 k, .int .i64 k, .int .i64 k, .slice none n 0, .int .i64 k, .int .i64 k, .int .i64 k, .slice none n 0]⟩] (fun _ => True) (fun v F => v = .bool true) := by
 have hlt : iLt 0 (n : Int) = false := by simp [iLt_eq, hn]
 refine PureSpec.of_xc tabOk Tryz.func53 rfl (by decide) (n := Tryz.f53.ntmps - 2) rfl rfl fun w0 av => ?_
 conv => whnf
 repeat (first | (refine XSame.of ?_; conv => whnf) | (refine XDep.all _ _ _ _ ?_; conv => whnf))
 repeat' (first
  | (refine And.intro ?_ ?_ <;> conv => whnf)
  | (refine XHeld.same rfl ?_; conv => whnf)
  | (refine XHeld.row rfl ?_; conv => whnf)
  | (refine XHeld.call rfl ?_; conv => whnf)
  | (refine XHeld.factCall rfl ?_; conv => whnf)
  | (refine XKeep.of ?_; conv => whnf)
  | (refine XSame.of ?_; conv => whnf)
  | (refine XDep.all _ _ _ _ ?_; conv => whnf)
  | (intro bx; conv => whnf)
  | (refine XVal.boxRow fun bx => ?_; conv => whnf)
  | (rw [iEqS]; conv => whnf)
  | (rw [iNeS]; conv => whnf)
  | (rw [hlt]; conv => whnf)
  | (refine XStop.once tabOk ?_; conv => whnf)
  | (refine XCall.val (smBytes n hn) (fun w hw => trivial) (fun v D hv => ?_); subst hv; conv => whnf)
  | (refine XCall.val (smChan n hn k) (fun w hw => trivial) (fun v D hv => ?_); subst hv; conv => whnf)
  | (refine XHeld.mk ?_ ?_; (focus (first | exact Ent.refl _ | exact Ent.left _ _ | exact Ent.of_le ⟨List.sublist_append_left _ _, fun w h => h⟩ | exact Ent.of_le ⟨List.Sublist.refl _, fun w h => h.1⟩)); conv => whnf))
 all_goals exact ⟨_, Ent.refl _, rfl⟩

theorem smTask (n : Nat) (hn : n = 0) (k : Int) : PureSpec Tryz.prog 42 [.agg ⟨[.int .i64 k, .int .i64 k, .int .i64 k, .bool false, .bool false, .bool false, .int .i64 k, .slice none n 0]⟩, .agg ⟨[.int .i64 k, .int .i64 k, .int .i64 k, .bool false, .bool false, .bool false, .int .i64 k, .slice none n 0]⟩] (fun _ => True) (fun v F => v = .bool true) := by
 have hlt : iLt 0 (n : Int) = false := by simp [iLt_eq, hn]
 refine PureSpec.of_xc tabOk Tryz.func42 rfl (by decide) (n := Tryz.f42.ntmps - 2) rfl rfl fun w0 av => ?_
 conv => whnf
 repeat (first | (refine XSame.of ?_; conv => whnf) | (refine XDep.all _ _ _ _ ?_; conv => whnf))
 repeat' (first
  | (refine And.intro ?_ ?_ <;> conv => whnf)
  | (refine XHeld.same rfl ?_; conv => whnf)
  | (refine XHeld.row rfl ?_; conv => whnf)
  | (refine XHeld.call rfl ?_; conv => whnf)
  | (refine XHeld.factCall rfl ?_; conv => whnf)
  | (refine XKeep.of ?_; conv => whnf)
  | (refine XSame.of ?_; conv => whnf)
  | (refine XDep.all _ _ _ _ ?_; conv => whnf)
  | (intro bx; conv => whnf)
  | (refine XVal.boxRow fun bx => ?_; conv => whnf)
  | (rw [iEqS]; conv => whnf)
  | (rw [iNeS]; conv => whnf)
  | (rw [hlt]; conv => whnf)
  | (refine XStop.once tabOk ?_; conv => whnf)
  | (refine XCall.val (smBytes n hn) (fun w hw => trivial) (fun v D hv => ?_); subst hv; conv => whnf)
  | (refine XHeld.mk ?_ ?_; (focus (first | exact Ent.refl _ | exact Ent.left _ _ | exact Ent.of_le ⟨List.sublist_append_left _ _, fun w h => h⟩ | exact Ent.of_le ⟨List.Sublist.refl _, fun w h => h.1⟩)); conv => whnf))
 all_goals exact ⟨_, Ent.refl _, rfl⟩

theorem arr5 : arrEq 5 ([false, false, false, false, false].map Value.bool) ([false, false, false, false, false].map Value.bool) = true := by decide
theorem arr11 : arrEq 11 ((List.replicate 11 false).map Value.bool) ((List.replicate 11 false).map Value.bool) = true := by decide

theorem smIrq (n : Nat) (hn : n = 0) : PureSpec Tryz.prog 55 [.agg ⟨[.bool false, .bool false, .bool false, .bool false, .bool false, .slice none n 0]⟩, .agg ⟨[.bool false, .bool false, .bool false, .bool false, .bool false, .slice none n 0]⟩] (fun _ => True) (fun v F => v = .bool true) := by
 have hlt : iLt 0 (n : Int) = false := by simp [iLt_eq, hn]
 obtain ⟨ib, hib⟩ := infoB
 refine PureSpec.of_xc tabOk Tryz.func55 rfl (by decide) (n := Tryz.f55.ntmps - 2) rfl rfl fun w0 av => ?_
 conv => whnf
 repeat (first | (refine XSame.of ?_; conv => whnf) | (refine XDep.all _ _ _ _ ?_; conv => whnf))
 repeat' (first
  | (refine And.intro ?_ ?_ <;> conv => whnf)
  | (refine XHeld.same rfl ?_; conv => whnf)
  | (refine XHeld.row rfl ?_; conv => whnf)
  | (refine XHeld.call rfl ?_; conv => whnf)
  | (refine XHeld.factCall rfl ?_; conv => whnf)
  | (refine XKeep.of ?_; conv => whnf)
  | (refine XSame.of ?_; conv => whnf)
  | (refine XDep.all _ _ _ _ ?_; conv => whnf)
  | (intro bx; conv => whnf)
  | (refine XVal.boxRow fun bx => ?_; conv => whnf)
  | (rw [iEqS]; conv => whnf)
  | (rw [iNeS]; conv => whnf)
  | (rw [hlt]; conv => whnf)
  | (refine XStop.once tabOk ?_; conv => whnf)
  | (refine XVal.of_read (XRead.neArr (t := 95) (n := 5) (e := 4) (xs := [false, false, false, false, false].map Value.bool) (ys := [false, false, false, false, false].map Value.bool) (by kernel_rfl) (.inr (by kernel_rfl)) hib (by kernel_rfl) (by kernel_rfl) (cell1_bools (by kernel_rfl) rfl rfl) ?_); rw [arr5]; conv => whnf)
  | (refine XHeld.mk ?_ ?_; (focus (first | exact Ent.refl _ | exact Ent.left _ _ | exact Ent.of_le ⟨List.sublist_append_left _ _, fun w h => h⟩ | exact Ent.of_le ⟨List.Sublist.refl _, fun w h => h.1⟩)); conv => whnf))
 all_goals exact ⟨_, Ent.refl _, rfl⟩

theorem smNotes (n : Nat) (hn : n = 0) (Z : List Value) (h1 : Z[378]? = some (.slice none n 0)) (h2 : Z[379]? = some (.slice none n 0)) : PureSpec Tryz.prog 57 [.agg ⟨Z⟩, .agg ⟨Z⟩] (fun _ => True) (fun v F => v = .bool true) := by
 have hlt : iLt 0 (n : Int) = false := by simp [iLt_eq, hn]
 refine PureSpec.of_xc tabOk Tryz.func57 rfl (by decide) (n := Tryz.f57.ntmps - 2) rfl rfl fun w0 av => ?_
 conv => whnf
 repeat (first | (refine XSame.of ?_; conv => whnf) | (refine XDep.all _ _ _ _ ?_; conv => whnf))
 repeat' (first
  | (refine And.intro ?_ ?_ <;> conv => whnf)
  | (refine XHeld.same rfl ?_; conv => whnf)
  | (refine XHeld.row rfl ?_; conv => whnf)
  | (refine XHeld.call rfl ?_; conv => whnf)
  | (refine XHeld.factCall rfl ?_; conv => whnf)
  | (refine XKeep.of ?_; conv => whnf)
  | (refine XSame.of ?_; conv => whnf)
  | (refine XDep.all _ _ _ _ ?_; conv => whnf)
  | (intro bx; conv => whnf)
  | (refine XVal.boxRow fun bx => ?_; conv => whnf)
  | (rw [iEqS]; conv => whnf)
  | (rw [iNeS]; conv => whnf)
  | (rw [hlt]; conv => whnf)
  | (refine XStop.once tabOk ?_; conv => whnf)
  | (refine XVal.of_read (XRead.loadF tabOk rfl rfl (ad := ⟨_, 0, none⟩) (k := 378) (L := Z) (v := .slice none n 0) (Sees.row (by simp)) (fun _ => rfl) h1 ?_); conv => whnf)
  | (refine XVal.of_read (XRead.loadF tabOk rfl rfl (ad := ⟨_, 0, none⟩) (k := 379) (L := Z) (v := .slice none n 0) (Sees.row (by simp)) (fun _ => rfl) h2 ?_); conv => whnf)
  | (refine XHeld.mk ?_ ?_; (focus (first | exact Ent.refl _ | exact Ent.left _ _ | exact Ent.of_le ⟨List.sublist_append_left _ _, fun w h => h⟩ | exact Ent.of_le ⟨List.Sublist.refl _, fun w h => h.1⟩)); conv => whnf))
 all_goals exact ⟨_, Ent.refl _, rfl⟩

end Go.Proofs.YtajkcdplmkaipaaGreatDoor
namespace Go.Proofs.YtajkcdplmkaipaaGreatDoor
open Go Go.Sx
set_option maxRecDepth 100000
set_option maxHeartbeats 4000000
set_option linter.unusedVariables false
set_option linter.unusedSimpArgs false

theorem zR_task : ∀ i, i < 32 → ((refC zS).drop (i * 8)).take 8 = tskC default
 | 0, _ => by kernel_rfl
 | 1, _ => by kernel_rfl
 | 2, _ => by kernel_rfl
 | 3, _ => by kernel_rfl
 | 4, _ => by kernel_rfl
 | 5, _ => by kernel_rfl
 | 6, _ => by kernel_rfl
 | 7, _ => by kernel_rfl
 | 8, _ => by kernel_rfl
 | 9, _ => by kernel_rfl
 | 10, _ => by kernel_rfl
 | 11, _ => by kernel_rfl
 | 12, _ => by kernel_rfl
 | 13, _ => by kernel_rfl
 | 14, _ => by kernel_rfl
 | 15, _ => by kernel_rfl
 | 16, _ => by kernel_rfl
 | 17, _ => by kernel_rfl
 | 18, _ => by kernel_rfl
 | 19, _ => by kernel_rfl
 | 20, _ => by kernel_rfl
 | 21, _ => by kernel_rfl
 | 22, _ => by kernel_rfl
 | 23, _ => by kernel_rfl
 | 24, _ => by kernel_rfl
 | 25, _ => by kernel_rfl
 | 26, _ => by kernel_rfl
 | 27, _ => by kernel_rfl
 | 28, _ => by kernel_rfl
 | 29, _ => by kernel_rfl
 | 30, _ => by kernel_rfl
 | 31, _ => by kernel_rfl
 | i + 32, h => absurd h (by omega)
theorem zR_space : ∀ i, i < 32 → (refC zS)[275 + i]? = some (.slice none 0 0)
 | 0, _ => by kernel_rfl
 | 1, _ => by kernel_rfl
 | 2, _ => by kernel_rfl
 | 3, _ => by kernel_rfl
 | 4, _ => by kernel_rfl
 | 5, _ => by kernel_rfl
 | 6, _ => by kernel_rfl
 | 7, _ => by kernel_rfl
 | 8, _ => by kernel_rfl
 | 9, _ => by kernel_rfl
 | 10, _ => by kernel_rfl
 | 11, _ => by kernel_rfl
 | 12, _ => by kernel_rfl
 | 13, _ => by kernel_rfl
 | 14, _ => by kernel_rfl
 | 15, _ => by kernel_rfl
 | 16, _ => by kernel_rfl
 | 17, _ => by kernel_rfl
 | 18, _ => by kernel_rfl
 | 19, _ => by kernel_rfl
 | 20, _ => by kernel_rfl
 | 21, _ => by kernel_rfl
 | 22, _ => by kernel_rfl
 | 23, _ => by kernel_rfl
 | 24, _ => by kernel_rfl
 | 25, _ => by kernel_rfl
 | 26, _ => by kernel_rfl
 | 27, _ => by kernel_rfl
 | 28, _ => by kernel_rfl
 | 29, _ => by kernel_rfl
 | 30, _ => by kernel_rfl
 | 31, _ => by kernel_rfl
 | i + 32, h => absurd h (by omega)

theorem trf_u : Tryz.prog.underlying 86 = some (.struct (Tryz.prog.fieldsOf 86)) := by
 unfold Program.fieldsOf
 rw [Tryz.underlying86]
theorem trf_flat : FlatT Tryz.prog (Tryz.prog.fieldsOf 86).toList 0 [.int .i64 0, .int .i64 0, .bool false, .bool false] [.int .i64 0, .int .i64 0, .bool false, .bool false] := by
 unfold Program.fieldsOf
 rw [Tryz.underlying86]
 exact ⟨⟨by decide, rfl, .inl ⟨by kernel_rfl, 0, 0, rfl, rfl⟩⟩, ⟨by decide, rfl, .inl ⟨by kernel_rfl, 0, 0, rfl, rfl⟩⟩, ⟨by decide, rfl, .inr ⟨by kernel_rfl, false, false, rfl, rfl⟩⟩, ⟨by decide, rfl, .inr ⟨by kernel_rfl, false, false, rfl, rfl⟩⟩, trivial⟩

noncomputable def smCode : Code := Tryz.f17.body.getD .skip
def smTm (b2 b3 : Nat) : List SV := [.any, .any, .v (.pointer (some ⟨b2, 0, none⟩)), .v (.pointer (some ⟨b3, 0, none⟩))] ++ List.replicate 144 .any
noncomputable def smEnd : Exit → KT := kEnd tab Tryz.f17.results.toList (pureFin fun v F => v = .bool true)

theorem same4 (Z : List Value) (hZ : refC zS = Z) (b2 b3 : Nat) (w0 : World) (av : Nat → Prop) : XStop Tryz.prog w0 (fun _ _ => False) av (cTail 4 smCode) (smTm b2 b3) [] [] ⟨fun _ => True, [(b2, Row.c Z), (b3, Row.c Z)]⟩ smEnd := by
 have hn := smNotes 0 rfl Z (by rw [← hZ]; kernel_rfl) (by rw [← hZ]; kernel_rfl)
 have hZl : Z.length = 380 := by rw [← hZ]; exact refC_len zS
 have hZ377 : Z[377]? = some (.slice none 0 0) := by rw [← hZ]; kernel_rfl
 refine XStop.of_xc tabOk ?_
 conv => whnf
 repeat (first | (refine XSame.of ?_; conv => whnf) | (refine XDep.all _ _ _ _ ?_; conv => whnf))
 refine XVal.of_read (XRead.loadF tabOk rfl rfl (ad := ⟨b2, 0, none⟩) (k := 377) (L := Z) (v := .slice none 0 0) (Sees.row (by simp)) (fun _ => rfl) hZ377 ?_)
 conv => whnf
 repeat (first | (refine XSame.of ?_; conv => whnf) | (refine XDep.all _ _ _ _ ?_; conv => whnf))
 refine XVal.of_read (XRead.loadF tabOk rfl rfl (ad := ⟨b3, 0, none⟩) (k := 377) (L := Z) (v := .slice none 0 0) (Sees.row (by simp)) (fun _ => rfl) hZ377 ?_)
 conv => whnf
 repeat (first | (refine XSame.of ?_; conv => whnf) | (refine XDep.all _ _ _ _ ?_; conv => whnf))
 refine XCall.val (smRec 0 rfl) (fun w hw => trivial) (fun v D hv => ?_)
 subst hv
 conv => whnf
 repeat (first | (refine XSame.of ?_; conv => whnf) | (refine XDep.all _ _ _ _ ?_; conv => whnf))
 refine XVal.of_read (XRead.loads tabOk rfl rfl (ad := ⟨b2, 0, none⟩) (k := 0) (L := Z) (m := Z) (Sees.row (by simp)) rfl (by rw [List.drop_zero, List.take_of_length_le (by rw [hZl]; exact Nat.le_refl _)]) hZl ?_)
 conv => whnf
 repeat (first | (refine XSame.of ?_; conv => whnf) | (refine XDep.all _ _ _ _ ?_; conv => whnf))
 refine XVal.of_read (XRead.loads tabOk rfl rfl (ad := ⟨b3, 0, none⟩) (k := 0) (L := Z) (m := Z) (Sees.row (by simp)) rfl (by rw [List.drop_zero, List.take_of_length_le (by rw [hZl]; exact Nat.le_refl _)]) hZl ?_)
 conv => whnf
 repeat (first | (refine XSame.of ?_; conv => whnf) | (refine XDep.all _ _ _ _ ?_; conv => whnf))
 refine XCall.val (hn) (fun w hw => trivial) (fun v D hv => ?_)
 subst hv
 conv => whnf
 repeat (first | (refine XSame.of ?_; conv => whnf) | (refine XDep.all _ _ _ _ ?_; conv => whnf))
 exact ⟨_, Ent.refl _, rfl⟩

theorem same3 (Z : List Value) (hZ : refC zS = Z) (b2 b3 : Nat) (w0 : World) (av : Nat → Prop) : XStop Tryz.prog w0 (fun _ _ => False) av (cTail 3 smCode) (smTm b2 b3) [] [] ⟨fun _ => True, [(b2, Row.c Z), (b3, Row.c Z)]⟩ smEnd := by
 have hZ274 : (Z.drop 274).take 1 = [.slice none 0 0] := by rw [← hZ]; kernel_rfl
 have hZ307 : Z[307]? = some (.slice none 0 0) := by rw [← hZ]; kernel_rfl
 have hZ308 : (Z.drop 308).take 10 = [.slice none 0 0, .bool false, .int .i64 0, .int .i64 0, .int .i64 0, .slice none 0 0, .int .i64 0, .int .i64 0, .int .i64 0, .slice none 0 0] := by rw [← hZ]; kernel_rfl
 have hZ322 : (Z.drop 322).take 24 = [.slice none 0 0, .int .i64 0, .int .i64 0, .int .i64 0, .slice none 0 0, .slice none 0 0, .bool false, .int .i64 0, .int .i64 0, .int .i64 0, .slice none 0 0, .int .i64 0, .int .i64 0, .int .i64 0, .slice none 0 0, .bool false, .int .i64 0, .int .i64 0, .int .i64 0, .slice none 0 0, .int .i64 0, .int .i64 0, .int .i64 0, .slice none 0 0] := by rw [← hZ]; kernel_rfl
 have hZ346 : (Z.drop 346).take 23 = [.slice none 0 0, .int .i64 0, .int .i64 0, .slice none 0 0, .slice none 0 0, .bool false, .int .i64 0, .int .i64 0, .int .i64 0, .slice none 0 0, .int .i64 0, .int .i64 0, .int .i64 0, .slice none 0 0, .bool false, .int .i64 0, .int .i64 0, .int .i64 0, .slice none 0 0, .int .i64 0, .int .i64 0, .int .i64 0, .slice none 0 0] := by rw [← hZ]; kernel_rfl
 have hZ369 : (Z.drop 369).take 2 = [.int .i64 0, .slice none 0 0] := by rw [← hZ]; kernel_rfl
 have hZ371 : (Z.drop 371).take 6 = [.bool false, .bool false, .bool false, .bool false, .bool false, .slice none 0 0] := by rw [← hZ]; kernel_rfl
 refine XStop.cutN tabOk 1 (ι := Unit) (fun _ => True) (fun _ => smTm b2 b3) (fun _ => []) (fun _ => ⟨fun _ => True, [(b2, Row.c Z), (b3, Row.c Z)]⟩) ?_ ?_
 · conv => whnf
   repeat (first | (refine XSame.of ?_; conv => whnf) | (refine XDep.all _ _ _ _ ?_; conv => whnf))
   refine XVal.of_read (XRead.loads tabOk rfl rfl (ad := ⟨b2, 0, none⟩) (k := 274) (L := Z) (m := [.slice none 0 0]) (Sees.row (by simp)) rfl hZ274 rfl ?_)
   conv => whnf
   repeat (first | (refine XSame.of ?_; conv => whnf) | (refine XDep.all _ _ _ _ ?_; conv => whnf))
   refine XVal.of_read (XRead.loads tabOk rfl rfl (ad := ⟨b3, 0, none⟩) (k := 274) (L := Z) (m := [.slice none 0 0]) (Sees.row (by simp)) rfl hZ274 rfl ?_)
   conv => whnf
   repeat (first | (refine XSame.of ?_; conv => whnf) | (refine XDep.all _ _ _ _ ?_; conv => whnf))
   refine XCall.val (smMem 0 rfl) (fun w hw => trivial) (fun v D hv => ?_)
   subst hv
   conv => whnf
   repeat (first | (refine XSame.of ?_; conv => whnf) | (refine XDep.all _ _ _ _ ?_; conv => whnf))
   refine XVal.of_read (XRead.loadF tabOk rfl rfl (ad := ⟨b2, 0, none⟩) (k := 307) (L := Z) (v := .slice none 0 0) (Sees.row (by simp)) (fun _ => rfl) hZ307 ?_)
   conv => whnf
   repeat (first | (refine XSame.of ?_; conv => whnf) | (refine XDep.all _ _ _ _ ?_; conv => whnf))
   refine XVal.of_read (XRead.loadF tabOk rfl rfl (ad := ⟨b3, 0, none⟩) (k := 307) (L := Z) (v := .slice none 0 0) (Sees.row (by simp)) (fun _ => rfl) hZ307 ?_)
   conv => whnf
   repeat (first | (refine XSame.of ?_; conv => whnf) | (refine XDep.all _ _ _ _ ?_; conv => whnf))
   refine XCall.val (smWi 0 rfl) (fun w hw => trivial) (fun v D hv => ?_)
   subst hv
   conv => whnf
   repeat (first | (refine XSame.of ?_; conv => whnf) | (refine XDep.all _ _ _ _ ?_; conv => whnf))
   refine XVal.of_read (XRead.loads tabOk rfl rfl (ad := ⟨b2, 0, none⟩) (k := 308) (L := Z) (m := [.slice none 0 0, .bool false, .int .i64 0, .int .i64 0, .int .i64 0, .slice none 0 0, .int .i64 0, .int .i64 0, .int .i64 0, .slice none 0 0]) (Sees.row (by simp)) rfl hZ308 rfl ?_)
   conv => whnf
   repeat (first | (refine XSame.of ?_; conv => whnf) | (refine XDep.all _ _ _ _ ?_; conv => whnf))
   refine XVal.of_read (XRead.loads tabOk rfl rfl (ad := ⟨b3, 0, none⟩) (k := 308) (L := Z) (m := [.slice none 0 0, .bool false, .int .i64 0, .int .i64 0, .int .i64 0, .slice none 0 0, .int .i64 0, .int .i64 0, .int .i64 0, .slice none 0 0]) (Sees.row (by simp)) rfl hZ308 rfl ?_)
   conv => whnf
   repeat (first | (refine XSame.of ?_; conv => whnf) | (refine XDep.all _ _ _ _ ?_; conv => whnf))
   refine XCall.val (smDisk 0 rfl 0) (fun w hw => trivial) (fun v D hv => ?_)
   subst hv
   conv => whnf
   repeat (first | (refine XSame.of ?_; conv => whnf) | (refine XDep.all _ _ _ _ ?_; conv => whnf))
   refine XVal.of_read (XRead.loads tabOk rfl rfl (ad := ⟨b2, 0, none⟩) (k := 322) (L := Z) (m := [.slice none 0 0, .int .i64 0, .int .i64 0, .int .i64 0, .slice none 0 0, .slice none 0 0, .bool false, .int .i64 0, .int .i64 0, .int .i64 0, .slice none 0 0, .int .i64 0, .int .i64 0, .int .i64 0, .slice none 0 0, .bool false, .int .i64 0, .int .i64 0, .int .i64 0, .slice none 0 0, .int .i64 0, .int .i64 0, .int .i64 0, .slice none 0 0]) (Sees.row (by simp)) rfl hZ322 rfl ?_)
   conv => whnf
   repeat (first | (refine XSame.of ?_; conv => whnf) | (refine XDep.all _ _ _ _ ?_; conv => whnf))
   refine XVal.of_read (XRead.loads tabOk rfl rfl (ad := ⟨b3, 0, none⟩) (k := 322) (L := Z) (m := [.slice none 0 0, .int .i64 0, .int .i64 0, .int .i64 0, .slice none 0 0, .slice none 0 0, .bool false, .int .i64 0, .int .i64 0, .int .i64 0, .slice none 0 0, .int .i64 0, .int .i64 0, .int .i64 0, .slice none 0 0, .bool false, .int .i64 0, .int .i64 0, .int .i64 0, .slice none 0 0, .int .i64 0, .int .i64 0, .int .i64 0, .slice none 0 0]) (Sees.row (by simp)) rfl hZ322 rfl ?_)
   conv => whnf
   repeat (first | (refine XSame.of ?_; conv => whnf) | (refine XDep.all _ _ _ _ ?_; conv => whnf))
   refine XCall.val (smLink 0 rfl 0) (fun w hw => trivial) (fun v D hv => ?_)
   subst hv
   conv => whnf
   repeat (first | (refine XSame.of ?_; conv => whnf) | (refine XDep.all _ _ _ _ ?_; conv => whnf))
   refine XVal.of_read (XRead.loads tabOk rfl rfl (ad := ⟨b2, 0, none⟩) (k := 346) (L := Z) (m := [.slice none 0 0, .int .i64 0, .int .i64 0, .slice none 0 0, .slice none 0 0, .bool false, .int .i64 0, .int .i64 0, .int .i64 0, .slice none 0 0, .int .i64 0, .int .i64 0, .int .i64 0, .slice none 0 0, .bool false, .int .i64 0, .int .i64 0, .int .i64 0, .slice none 0 0, .int .i64 0, .int .i64 0, .int .i64 0, .slice none 0 0]) (Sees.row (by simp)) rfl hZ346 rfl ?_)
   conv => whnf
   repeat (first | (refine XSame.of ?_; conv => whnf) | (refine XDep.all _ _ _ _ ?_; conv => whnf))
   refine XVal.of_read (XRead.loads tabOk rfl rfl (ad := ⟨b3, 0, none⟩) (k := 346) (L := Z) (m := [.slice none 0 0, .int .i64 0, .int .i64 0, .slice none 0 0, .slice none 0 0, .bool false, .int .i64 0, .int .i64 0, .int .i64 0, .slice none 0 0, .int .i64 0, .int .i64 0, .int .i64 0, .slice none 0 0, .bool false, .int .i64 0, .int .i64 0, .int .i64 0, .slice none 0 0, .int .i64 0, .int .i64 0, .int .i64 0, .slice none 0 0]) (Sees.row (by simp)) rfl hZ346 rfl ?_)
   conv => whnf
   repeat (first | (refine XSame.of ?_; conv => whnf) | (refine XDep.all _ _ _ _ ?_; conv => whnf))
   refine XCall.val (smSer 0 rfl 0) (fun w hw => trivial) (fun v D hv => ?_)
   subst hv
   conv => whnf
   repeat (first | (refine XSame.of ?_; conv => whnf) | (refine XDep.all _ _ _ _ ?_; conv => whnf))
   refine XVal.of_read (XRead.loads tabOk rfl rfl (ad := ⟨b2, 0, none⟩) (k := 369) (L := Z) (m := [.int .i64 0, .slice none 0 0]) (Sees.row (by simp)) rfl hZ369 rfl ?_)
   conv => whnf
   repeat (first | (refine XSame.of ?_; conv => whnf) | (refine XDep.all _ _ _ _ ?_; conv => whnf))
   refine XVal.of_read (XRead.loads tabOk rfl rfl (ad := ⟨b3, 0, none⟩) (k := 369) (L := Z) (m := [.int .i64 0, .slice none 0 0]) (Sees.row (by simp)) rfl hZ369 rfl ?_)
   conv => whnf
   repeat (first | (refine XSame.of ?_; conv => whnf) | (refine XDep.all _ _ _ _ ?_; conv => whnf))
   refine XCall.val (smClock 0 rfl 0) (fun w hw => trivial) (fun v D hv => ?_)
   subst hv
   conv => whnf
   repeat (first | (refine XSame.of ?_; conv => whnf) | (refine XDep.all _ _ _ _ ?_; conv => whnf))
   refine XVal.of_read (XRead.loads tabOk rfl rfl (ad := ⟨b2, 0, none⟩) (k := 371) (L := Z) (m := [.bool false, .bool false, .bool false, .bool false, .bool false, .slice none 0 0]) (Sees.row (by simp)) rfl hZ371 rfl ?_)
   conv => whnf
   repeat (first | (refine XSame.of ?_; conv => whnf) | (refine XDep.all _ _ _ _ ?_; conv => whnf))
   refine XVal.of_read (XRead.loads tabOk rfl rfl (ad := ⟨b3, 0, none⟩) (k := 371) (L := Z) (m := [.bool false, .bool false, .bool false, .bool false, .bool false, .slice none 0 0]) (Sees.row (by simp)) rfl hZ371 rfl ?_)
   conv => whnf
   repeat (first | (refine XSame.of ?_; conv => whnf) | (refine XDep.all _ _ _ _ ?_; conv => whnf))
   refine XCall.val (smIrq 0 rfl) (fun w hw => trivial) (fun v D hv => ?_)
   subst hv
   conv => whnf
   repeat (first | (refine XSame.of ?_; conv => whnf) | (refine XDep.all _ _ _ _ ?_; conv => whnf))
   refine ⟨(), trivial, [], ⟨by decide, by simp, rfl⟩, ?_, Ent.of_le ⟨by simp, fun w hw => hw⟩⟩
   repeat (first | exact FLe.nil | refine FLe.any ?_ | refine FLe.cons ?_)
 · intro _ _ bs' hbs'
   obtain rfl := List.eq_nil_of_length_eq_zero hbs'
   rw [cTail_add]
   exact same4 Z hZ b2 b3 w0 av

theorem same2 (Z : List Value) (hZ : refC zS = Z) (b2 b3 : Nat) (w0 : World) (av : Nat → Prop) : XStop Tryz.prog w0 (fun _ _ => False) av (cTail 2 smCode) (smTm b2 b3) [] [] ⟨fun _ => True, [(b2, Row.c Z), (b3, Row.c Z)]⟩ smEnd := by
 obtain ⟨ib, hib⟩ := infoB
 have hZ256 : (Z.drop 256).take 11 = [.bool false, .bool false, .bool false, .bool false, .bool false, .bool false, .bool false, .bool false, .bool false, .bool false, .bool false] := by rw [← hZ]; kernel_rfl
 have hZ318 : (Z.drop 318).take 4 = [.int .i64 0, .int .i64 0, .bool false, .bool false] := by rw [← hZ]; kernel_rfl
 have hZ267 : (Z.drop 267).take 2 = [.slice none 0 0, .slice none 0 0] := by rw [← hZ]; kernel_rfl
 have hZ269 : (Z.drop 269).take 2 = [.int .i64 0, .slice none 0 0] := by rw [← hZ]; kernel_rfl
 have hZ271 : Z[271]? = some (.slice none 0 0) := by rw [← hZ]; kernel_rfl
 have hZ272 : Z[272]? = some (.slice none 0 0) := by rw [← hZ]; kernel_rfl
 have hZ273 : Z[273]? = some (.slice none 0 0) := by rw [← hZ]; kernel_rfl
 refine XStop.cutN tabOk 1 (ι := Unit) (fun _ => True) (fun _ => smTm b2 b3) (fun _ => []) (fun _ => ⟨fun _ => True, [(b2, Row.c Z), (b3, Row.c Z)]⟩) ?_ ?_
 · conv => whnf
   repeat (first | (refine XSame.of ?_; conv => whnf) | (refine XDep.all _ _ _ _ ?_; conv => whnf))
   refine XVal.of_read (XRead.loads tabOk rfl rfl (ad := ⟨b2, 0, none⟩) (k := 256) (L := Z) (m := [.bool false, .bool false, .bool false, .bool false, .bool false, .bool false, .bool false, .bool false, .bool false, .bool false, .bool false]) (Sees.row (by simp)) rfl hZ256 rfl ?_)
   conv => whnf
   repeat (first | (refine XSame.of ?_; conv => whnf) | (refine XDep.all _ _ _ _ ?_; conv => whnf))
   refine XVal.of_read (XRead.loads tabOk rfl rfl (ad := ⟨b3, 0, none⟩) (k := 256) (L := Z) (m := [.bool false, .bool false, .bool false, .bool false, .bool false, .bool false, .bool false, .bool false, .bool false, .bool false, .bool false]) (Sees.row (by simp)) rfl hZ256 rfl ?_)
   conv => whnf
   repeat (first | (refine XSame.of ?_; conv => whnf) | (refine XDep.all _ _ _ _ ?_; conv => whnf))
   refine XVal.of_read (XRead.neArr (t := 55) (n := 11) (e := 4) (xs := (List.replicate 11 false).map Value.bool) (ys := (List.replicate 11 false).map Value.bool) (by kernel_rfl) (.inr (by kernel_rfl)) hib (by kernel_rfl) (by kernel_rfl) (cell1_bools (by kernel_rfl) rfl rfl) ?_)
   rw [arr11]
   conv => whnf
   repeat (first | (refine XSame.of ?_; conv => whnf) | (refine XDep.all _ _ _ _ ?_; conv => whnf))
   refine XVal.of_read (XRead.loads tabOk rfl rfl (ad := ⟨b2, 0, none⟩) (k := 318) (L := Z) (m := [.int .i64 0, .int .i64 0, .bool false, .bool false]) (Sees.row (by simp)) rfl hZ318 rfl ?_)
   conv => whnf
   repeat (first | (refine XSame.of ?_; conv => whnf) | (refine XDep.all _ _ _ _ ?_; conv => whnf))
   refine XVal.of_read (XRead.loads tabOk rfl rfl (ad := ⟨b3, 0, none⟩) (k := 318) (L := Z) (m := [.int .i64 0, .int .i64 0, .bool false, .bool false]) (Sees.row (by simp)) rfl hZ318 rfl ?_)
   conv => whnf
   repeat (first | (refine XSame.of ?_; conv => whnf) | (refine XDep.all _ _ _ _ ?_; conv => whnf))
   refine XVal.of_read (XRead.neCells (t := 86) (xs := [.int .i64 0, .int .i64 0, .bool false, .bool false]) (ys := [.int .i64 0, .int .i64 0, .bool false, .bool false]) trf_u (by kernel_rfl) (by kernel_rfl) trf_flat ?_)
   rw [show cellsEq [.int .i64 0, .int .i64 0, .bool false, .bool false] [.int .i64 0, .int .i64 0, .bool false, .bool false] = true from by decide]
   conv => whnf
   repeat (first | (refine XSame.of ?_; conv => whnf) | (refine XDep.all _ _ _ _ ?_; conv => whnf))
   refine XVal.of_read (XRead.loads tabOk rfl rfl (ad := ⟨b2, 0, none⟩) (k := 267) (L := Z) (m := [.slice none 0 0, .slice none 0 0]) (Sees.row (by simp)) rfl hZ267 rfl ?_)
   conv => whnf
   repeat (first | (refine XSame.of ?_; conv => whnf) | (refine XDep.all _ _ _ _ ?_; conv => whnf))
   refine XVal.of_read (XRead.loads tabOk rfl rfl (ad := ⟨b3, 0, none⟩) (k := 267) (L := Z) (m := [.slice none 0 0, .slice none 0 0]) (Sees.row (by simp)) rfl hZ267 rfl ?_)
   conv => whnf
   repeat (first | (refine XSame.of ?_; conv => whnf) | (refine XDep.all _ _ _ _ ?_; conv => whnf))
   refine XCall.val (smPorts 0 rfl) (fun w hw => trivial) (fun v D hv => ?_)
   subst hv
   conv => whnf
   repeat (first | (refine XSame.of ?_; conv => whnf) | (refine XDep.all _ _ _ _ ?_; conv => whnf))
   refine XVal.of_read (XRead.loads tabOk rfl rfl (ad := ⟨b2, 0, none⟩) (k := 269) (L := Z) (m := [.int .i64 0, .slice none 0 0]) (Sees.row (by simp)) rfl hZ269 rfl ?_)
   conv => whnf
   repeat (first | (refine XSame.of ?_; conv => whnf) | (refine XDep.all _ _ _ _ ?_; conv => whnf))
   refine XVal.of_read (XRead.loads tabOk rfl rfl (ad := ⟨b3, 0, none⟩) (k := 269) (L := Z) (m := [.int .i64 0, .slice none 0 0]) (Sees.row (by simp)) rfl hZ269 rfl ?_)
   conv => whnf
   repeat (first | (refine XSame.of ?_; conv => whnf) | (refine XDep.all _ _ _ _ ?_; conv => whnf))
   refine XCall.val (smCap 0 rfl 0) (fun w hw => trivial) (fun v D hv => ?_)
   subst hv
   conv => whnf
   repeat (first | (refine XSame.of ?_; conv => whnf) | (refine XDep.all _ _ _ _ ?_; conv => whnf))
   refine XVal.of_read (XRead.loadF tabOk rfl rfl (ad := ⟨b2, 0, none⟩) (k := 271) (L := Z) (v := .slice none 0 0) (Sees.row (by simp)) (fun _ => rfl) hZ271 ?_)
   conv => whnf
   repeat (first | (refine XSame.of ?_; conv => whnf) | (refine XDep.all _ _ _ _ ?_; conv => whnf))
   refine XVal.of_read (XRead.loadF tabOk rfl rfl (ad := ⟨b3, 0, none⟩) (k := 271) (L := Z) (v := .slice none 0 0) (Sees.row (by simp)) (fun _ => rfl) hZ271 ?_)
   conv => whnf
   repeat (first | (refine XSame.of ?_; conv => whnf) | (refine XDep.all _ _ _ _ ?_; conv => whnf))
   refine XCall.val (smGr 0 rfl) (fun w hw => trivial) (fun v D hv => ?_)
   subst hv
   conv => whnf
   repeat (first | (refine XSame.of ?_; conv => whnf) | (refine XDep.all _ _ _ _ ?_; conv => whnf))
   refine XVal.of_read (XRead.loadF tabOk rfl rfl (ad := ⟨b2, 0, none⟩) (k := 272) (L := Z) (v := .slice none 0 0) (Sees.row (by simp)) (fun _ => rfl) hZ272 ?_)
   conv => whnf
   repeat (first | (refine XSame.of ?_; conv => whnf) | (refine XDep.all _ _ _ _ ?_; conv => whnf))
   refine XVal.of_read (XRead.loadF tabOk rfl rfl (ad := ⟨b3, 0, none⟩) (k := 272) (L := Z) (v := .slice none 0 0) (Sees.row (by simp)) (fun _ => rfl) hZ272 ?_)
   conv => whnf
   repeat (first | (refine XSame.of ?_; conv => whnf) | (refine XDep.all _ _ _ _ ?_; conv => whnf))
   refine XCall.val (smTi 0 rfl) (fun w hw => trivial) (fun v D hv => ?_)
   subst hv
   conv => whnf
   repeat (first | (refine XSame.of ?_; conv => whnf) | (refine XDep.all _ _ _ _ ?_; conv => whnf))
   refine XVal.of_read (XRead.loadF tabOk rfl rfl (ad := ⟨b2, 0, none⟩) (k := 273) (L := Z) (v := .slice none 0 0) (Sees.row (by simp)) (fun _ => rfl) hZ273 ?_)
   conv => whnf
   repeat (first | (refine XSame.of ?_; conv => whnf) | (refine XDep.all _ _ _ _ ?_; conv => whnf))
   refine XVal.of_read (XRead.loadF tabOk rfl rfl (ad := ⟨b3, 0, none⟩) (k := 273) (L := Z) (v := .slice none 0 0) (Sees.row (by simp)) (fun _ => rfl) hZ273 ?_)
   conv => whnf
   repeat (first | (refine XSame.of ?_; conv => whnf) | (refine XDep.all _ _ _ _ ?_; conv => whnf))
   refine XCall.val (smInts 0 rfl) (fun w hw => trivial) (fun v D hv => ?_)
   subst hv
   conv => whnf
   repeat (first | (refine XSame.of ?_; conv => whnf) | (refine XDep.all _ _ _ _ ?_; conv => whnf))
   refine ⟨(), trivial, [], ⟨by decide, by simp, rfl⟩, ?_, Ent.of_le ⟨by simp, fun w hw => hw⟩⟩
   repeat (first | exact FLe.nil | refine FLe.any ?_ | refine FLe.cons ?_)
 · intro _ _ bs' hbs'
   obtain rfl := List.eq_nil_of_length_eq_zero hbs'
   rw [cTail_add]
   exact same3 Z hZ b2 b3 w0 av

theorem same_zero : PureSpec Tryz.prog 17 [.agg ⟨refC zS⟩, .agg ⟨refC zS⟩] (fun _ => True) (fun v F => v = .bool true) := by
 refine PureSpec.of_stop tabOk Tryz.func17 rfl (by decide) (n := Tryz.f17.ntmps - 2) rfl fun w0 av => ?_
 show XStop Tryz.prog w0 (fun _ _ => False) av smCode _ [] [] _ smEnd
 have hT := zR_task
 have hS := zR_space
 obtain ⟨Z, hZ⟩ : ∃ Z, refC zS = Z := ⟨_, rfl⟩
 rw [hZ] at hT hS ⊢
 have h1 := smTask 0 rfl 0
 have h2 := smSp 0 rfl
 refine XStop.cutN tabOk 2 (ι := Nat × Nat) (fun _ => True) (fun x => smTm x.1 x.2) (fun _ => []) (fun x => ⟨fun _ => True, [(x.1, Row.c Z), (x.2, Row.c Z)]⟩) ?_ ?_
 · conv => whnf
   repeat (first | (refine XSame.of ?_; conv => whnf) | (refine XDep.all _ _ _ _ ?_; conv => whnf))
   refine XVal.boxRow fun b2 => ?_
   conv => whnf
   repeat (first | (refine XSame.of ?_; conv => whnf) | (refine XDep.all _ _ _ _ ?_; conv => whnf))
   refine XVal.boxRow fun b3 => ?_
   conv => whnf
   repeat (first | (refine XSame.of ?_; conv => whnf) | (refine XDep.all _ _ _ _ ?_; conv => whnf))
   refine XStop.loop tabOk (ι := Nat) ([5] ++ List.range' 6 26) (fun i => i ≤ 32) (fun i => [(5, .v (.int .i64 (i : Int)))]) (fun _ => []) (fun _ => ⟨fun _ => True, [(b2, Row.c Z), (b3, Row.c Z)]⟩) (fun i => 32 - i) 0 (Nat.zero_le _) ?_ rfl (Ent.of_le ⟨by simp, fun w hw => trivial⟩) fun i hi => ?_
   · conv => whnf
     repeat (first | exact FLe.nil | refine FLe.any ?_ | refine FLe.cons ?_)
   conv => whnf
   repeat (first | (refine XSame.of ?_; conv => whnf) | (refine XDep.all _ _ _ _ ?_; conv => whnf))
   refine XIf.split (fun hlt => ?_) (fun hlt => ?_)
   · have hlt' : i < 32 := by
      simp only [iLt_eq, decide_eq_true_eq] at hlt
      omega
     conv => whnf
     repeat (first | (refine XSame.of ?_; conv => whnf) | (refine XDep.all _ _ _ _ ?_; conv => whnf))
     refine XStop.draw tabOk mixed rfl rfl ?_
     conv => whnf
     repeat' (first
      | (refine And.intro ?_ ?_ <;> conv => whnf)
      | (refine XHeld.same rfl ?_; conv => whnf)
      | (refine XHeld.row rfl ?_; conv => whnf)
      | (refine XHeld.call rfl ?_; conv => whnf)
      | (refine XHeld.factCall rfl ?_; conv => whnf)
      | (refine XKeep.of ?_; conv => whnf)
      | (refine XSame.of ?_; conv => whnf)
      | (refine XDep.all _ _ _ _ ?_; conv => whnf)
      | (refine XRead.indexArr tabOk rfl rfl rfl i rfl hlt' rfl ?_; conv => whnf)
      | (refine XRead.loads tabOk (t := 53) rfl rfl (ad := ⟨b2, 0, none⟩) (k := i * 8) (L := Z) (m := tskC default) (Sees.row (by simp)) ?adr (hT i hlt') rfl ?_; (case adr => (simp [Addr.add_none]; done)); conv => whnf)
      | (refine XRead.loads tabOk (t := 53) rfl rfl (ad := ⟨b3, 0, none⟩) (k := i * 8) (L := Z) (m := tskC default) (Sees.row (by simp)) ?adr (hT i hlt') rfl ?_; (case adr => (simp [Addr.add_none]; done)); conv => whnf)
      | (refine XRead.loadF tabOk (t := 73) rfl rfl (ad := ⟨b2, 0, none⟩) (k := 275 + i) (L := Z) (v := .slice none 0 0) (Sees.row (by simp)) ?adr (hS i hlt') ?_; (case adr => (intro _; simp [Addr.add_none]; done)); conv => whnf)
      | (refine XRead.loadF tabOk (t := 73) rfl rfl (ad := ⟨b3, 0, none⟩) (k := 275 + i) (L := Z) (v := .slice none 0 0) (Sees.row (by simp)) ?adr (hS i hlt') ?_; (case adr => (intro _; simp [Addr.add_none]; done)); conv => whnf)
      | (refine XCall.val h1 (fun w hw => trivial) (fun v D hv => ?_); subst hv; conv => whnf)
      | (refine XCall.val h2 (fun w hw => trivial) (fun v D hv => ?_); subst hv; conv => whnf)
      | (refine XHeld.mk ?_ ?_; (focus (first | exact Ent.refl _ | exact Ent.left _ _ | exact Ent.of_le ⟨List.sublist_append_left _ _, fun w h => h⟩ | exact Ent.of_le ⟨List.Sublist.refl _, fun w h => h.1⟩)); conv => whnf))
     refine ⟨i + 1, ⟨hlt', by dsimp only; omega⟩, ?_, ?_, Ent.of_le ⟨by simp, fun w hw => hw⟩⟩
     · conv => whnf
       refine ⟨?_, rfl⟩
       repeat (first | exact FLe.nil | refine FLe.any ?_ | refine FLe.cons ?_ | refine FLe.eq (by rw [wrap_i64 (by omega)]; rfl) ?_)
     · conv => whnf
       exact trivial
   · conv => whnf
     repeat (first | (refine XSame.of ?_; conv => whnf) | (refine XDep.all _ _ _ _ ?_; conv => whnf))
     refine ⟨(b2, b3), trivial, [], ⟨by decide, by simp, rfl⟩, ?_, Ent.of_le ⟨by simp, fun w hw => hw⟩⟩
     repeat (first | exact FLe.nil | refine FLe.any ?_ | refine FLe.cons ?_)
 · intro x _ bs' hbs'
   obtain rfl := List.eq_nil_of_length_eq_zero hbs'
   exact same2 Z hZ x.1 x.2 w0 av

end Go.Proofs.YtajkcdplmkaipaaGreatDoor
namespace Go.Proofs.YtajkcdplmkaipaaGreatDoor
open Go Go.Sx
set_option maxRecDepth 100000
set_option maxHeartbeats 4000000
set_option linter.unusedVariables false
set_option linter.unusedSimpArgs false

theorem get_ca (s : Sta) : ((staC s).drop 269).take 2 = [.int .i64 s.nx, s.cp.v] := by kernel_rfl

theorem permitted_ok (S : Sta) (hcp : S.cp.Ok) (bs : Nat) (t kd : Int) (hkd : kd = 2) (a0 a1 a2 a3 : Int) (d : Bs) (hh : capHas S.cp.l t ⟨2, 0, kd⟩ = true) (b n : Nat) (hn : n = 1) :
 PureSpec Tryz.prog 117 [.pointer (some ⟨bs, 0, none⟩), .int .i64 t, .slice (some ⟨b, 0, none⟩) n n] (fun w => RowAt w (some ⟨bs, 0, none⟩) (staC S) ∧ (S.cp.At cpC w ∧ RowAt w (some ⟨b, 0, none⟩) (efC kd a0 a1 a2 a3 d))) (fun v F => v = .bool true) := by
 have h1 := rights_reply kd hkd a0 a1 a2 a3 d
 have h2 := capsHas_spec S.nx S.cp.l S.cp.h hcp.h hcp.le t ⟨2, 0, kd⟩
 rw [hh] at h2
 have hg := get_ca S
 obtain ⟨X, hX⟩ : ∃ X, staC S = X := ⟨_, rfl⟩
 rw [hX] at hg ⊢
 obtain ⟨E, hE⟩ : ∃ E : World → Prop, E = fun w => RowAt w (some ⟨bs, 0, none⟩) X ∧ (S.cp.At cpC w ∧ RowAt w (some ⟨b, 0, none⟩) (efC kd a0 a1 a2 a3 d)) := ⟨_, rfl⟩
 rw [← hE]
 refine PureSpec.of_xc tabOk Tryz.func117 rfl (by decide) (n := Tryz.f117.ntmps - 3) rfl rfl fun w0 av => ?_
 conv => whnf
 repeat (first | (refine XSame.of ?_; conv => whnf) | (refine XDep.all _ _ _ _ ?_; conv => whnf))
 refine XStop.loop tabOk (ι := Nat) ([8, 10] ++ List.range' 13 21) (fun x => x ≤ n) (fun x => [(13, .v (.int .i64 (x : Int)))]) (fun _ => []) (fun _ => ⟨E, []⟩)
  (fun x => n - x) 0 (Nat.zero_le _) ?_ rfl (Ent.refl _) fun i hi => ?_
 · conv => whnf
   repeat (first | exact FLe.nil | refine FLe.any ?_ | refine FLe.cons ?_)
 conv => whnf
 repeat (first | (refine XSame.of ?_; conv => whnf) | (refine XDep.all _ _ _ _ ?_; conv => whnf))
 refine XIf.split (fun hlt => ?_) (fun hlt => ?_)
 · have hlt' : i < n := by
    simp only [iLt_eq, decide_eq_true_eq] at hlt
    omega
   have hi0 : i = 0 := by omega
   conv => whnf
   repeat (first | (refine XSame.of ?_; conv => whnf) | (refine XDep.all _ _ _ _ ?_; conv => whnf))
   refine XVal.of_read (XRead.index tabOk (t := 24) rfl rfl rfl (by omega) (by omega) (fun h => by cases h) fun ad had => ?_)
   cases had
   conv => whnf
   repeat (first | (refine XSame.of ?_; conv => whnf) | (refine XDep.all _ _ _ _ ?_; conv => whnf))
   refine XVal.of_read (XRead.loads tabOk (t := 157) rfl rfl (ad := ⟨b, 0, none⟩) (k := 0) (L := efC kd a0 a1 a2 a3 d) (m := efC kd a0 a1 a2 a3 d) (.fact fun w hw => by rw [hE] at hw; exact hw.2.2) (by rw [hi0]; simp) rfl rfl ?_)
   conv => whnf
   repeat (first | (refine XSame.of ?_; conv => whnf) | (refine XDep.all _ _ _ _ ?_; conv => whnf))
   intro b7
   conv => whnf
   repeat (first | (refine XSame.of ?_; conv => whnf) | (refine XDep.all _ _ _ _ ?_; conv => whnf))
   refine XCall.pure h1 (fun w hw => trivial) (fun v D hv => ?_)
   obtain ⟨rb, m, hm, rfl, rfl⟩ := hv
   conv => whnf
   repeat (first | (refine XSame.of ?_; conv => whnf) | (refine XDep.all _ _ _ _ ?_; conv => whnf))
   refine XStop.loop tabOk (ι := Nat) ([10] ++ List.range' 20 13) (fun x => x ≤ m) (fun x => [(20, .v (.int .i64 (x : Int)))]) (fun _ => [efC kd a0 a1 a2 a3 d]) (fun _ => ⟨fun w => E w ∧ RowAt w (some ⟨rb, 0, none⟩) (rtC ⟨2, 0, kd⟩), []⟩)
    (fun x => m - x) 0 (Nat.zero_le _) ?_ rfl (Ent.refl _) fun j hj => ?_
   · conv => whnf
     repeat (first | exact FLe.nil | refine FLe.any ?_ | refine FLe.cons ?_)
   conv => whnf
   repeat (first | (refine XSame.of ?_; conv => whnf) | (refine XDep.all _ _ _ _ ?_; conv => whnf))
   refine XIf.split (fun hjt => ?_) (fun hjt => ?_)
   · have hjt' : j < m := by
      simp only [iLt_eq, decide_eq_true_eq] at hjt
      omega
     have hj0 : j = 0 := by omega
     conv => whnf
     repeat (first | (refine XSame.of ?_; conv => whnf) | (refine XDep.all _ _ _ _ ?_; conv => whnf))
     refine XVal.of_read (XRead.index tabOk (t := 380) rfl rfl rfl (by omega) (by omega) (fun h => by cases h) fun ad had => ?_)
     cases had
     conv => whnf
     repeat (first | (refine XSame.of ?_; conv => whnf) | (refine XDep.all _ _ _ _ ?_; conv => whnf))
     refine XVal.of_read (XRead.loads tabOk (t := 204) rfl rfl (ad := ⟨rb, 0, none⟩) (k := 0) (L := rtC ⟨2, 0, kd⟩) (m := rtC ⟨2, 0, kd⟩) (.fact fun w hw => hw.2) (by rw [hj0]; simp) rfl rfl ?_)
     conv => whnf
     repeat (first | (refine XSame.of ?_; conv => whnf) | (refine XDep.all _ _ _ _ ?_; conv => whnf))
     intro b9
     refine XStop.draw tabOk mixed rfl rfl ?_
     conv => whnf
     repeat' (first
      | (refine And.intro ?_ ?_ <;> conv => whnf)
      | (refine XHeld.same rfl ?_; conv => whnf)
      | (refine XHeld.row rfl ?_; conv => whnf)
      | (refine XHeld.call rfl ?_; conv => whnf)
      | (refine XHeld.factCall rfl ?_; conv => whnf)
      | (refine XKeep.of ?_; conv => whnf)
      | (refine XSame.of ?_; conv => whnf)
      | (refine XDep.all _ _ _ _ ?_; conv => whnf)
      | (refine XRead.loads tabOk (t := 110) rfl rfl (ad := ⟨bs, 0, none⟩) (k := 269) (L := X) (m := [.int .i64 S.nx, S.cp.v]) (.fact fun w hw => by have h := hw.1; rw [hE] at h; exact h.1) rfl hg rfl ?_; conv => whnf)
      | (refine XCall.val h2 (fun w hw => by have h := hw.1; rw [hE] at h; exact h.2.1) (fun v D hv => ?_); subst hv; conv => whnf)
      | (refine XHeld.mk ?_ ?_; (focus (first | exact Ent.refl _ | exact Ent.left _ _ | exact Ent.of_le ⟨List.sublist_append_left _ _, fun w h => h⟩ | exact Ent.of_le ⟨List.Sublist.refl _, fun w h => h.1⟩)); conv => whnf))
     all_goals
      conv => whnf
      repeat (first | (refine XSame.of ?_; conv => whnf) | (refine XDep.all _ _ _ _ ?_; conv => whnf))
      refine ⟨j + 1, ⟨hjt', by dsimp only; omega⟩, ?_, ?_, Ent.refl _⟩
      · conv => whnf
        refine ⟨?_, rfl⟩
        repeat (first | exact FLe.nil | refine FLe.any ?_ | refine FLe.cons ?_ | refine FLe.eq (by rw [wrap_i64 (by omega)]; rfl) ?_)
      · conv => whnf
        exact ⟨⟨rfl, rfl⟩, trivial⟩
   · conv => whnf
     repeat (first | (refine XSame.of ?_; conv => whnf) | (refine XDep.all _ _ _ _ ?_; conv => whnf))
     refine ⟨i + 1, ⟨hlt', by dsimp only; omega⟩, ?_, ?_, Ent.of_le ⟨List.Sublist.refl _, fun w hw => hw.1⟩⟩
     · conv => whnf
       refine ⟨?_, rfl⟩
       repeat (first | exact FLe.nil | refine FLe.any ?_ | refine FLe.cons ?_ | refine FLe.eq (by rw [wrap_i64 (by omega)]; rfl) ?_)
     · conv => whnf
       exact trivial
 · conv => whnf
   repeat (first | (refine XSame.of ?_; conv => whnf) | (refine XDep.all _ _ _ _ ?_; conv => whnf))
   exact ⟨_, Ent.refl _, rfl⟩

theorem end_spec (S : Sta) (bs : Nat) (i : Nat) (hi : i < 32) (k st c res r : Int) (stp cls dn : Bool) (dt : Bs) (hT : S.T i = ⟨k, st, c, stp, cls, dn, res, dt⟩) (a : Option Addr) (cap : Nat) (C : List Value) (hO : Sx.Owg 8 S.rc.l.length a cap C (S.rc.l.flatMap enC)) (hrc : S.rc.h = ⟨a, cap⟩) (hl : S.rc.l.length ≤ 100000000) :
 RowsSpec Tryz.prog 252 [.pointer (some ⟨bs, 0, none⟩), .int .i64 (i : Int), .int .i64 r, .slice none 0 0] ([(bs, Row.c (staC S))] ++ orow a C) (fun _ => True)
  (fun v F => ∃ a' cap' C', Sx.Owg 8 (S.rc.l.length + 1) a' cap' C' ((S.rc.l ++ [(⟨2, (i : Int), c, 0, 0, 0, r, default⟩ : En)]).flatMap enC) ∧ v = .tuple ⟨[]⟩ ∧
   F = ⟨fun _ => True, [(bs, Row.c (staC ((S.rec' ⟨⟨a', cap'⟩, S.rc.l ++ [(⟨2, (i : Int), c, 0, 0, 0, r, default⟩ : En)]⟩).tsk i ⟨k, 0, 0, stp, cls, dn, res, dt⟩)))] ++ orow a' C'⟩) := by
 have h1 := note_spec S bs 2 (i : Int) c 0 0 0 r a cap C hO hrc hl
 have hTc := staC_T S i hi
 rw [hT] at hTc
 have c2 : (staC S)[i * 8 + 2]? = some (.int .i64 c) := cellOf hTc (by decide) rfl
 obtain ⟨L, hL⟩ : ∃ L, L = S.rc.l ++ [(⟨2, (i : Int), c, 0, 0, 0, r, default⟩ : En)] := ⟨_, rfl⟩
 rw [← hL] at h1 ⊢
 obtain ⟨X, hX⟩ : ∃ X, staC S = X := ⟨_, rfl⟩
 rw [hX] at h1 c2 ⊢
 refine RowsSpec.of_xc tabOk Tryz.func252 rfl (by decide) (n := Tryz.f252.ntmps - 4) rfl rfl rows_CM fun w0 av => ?_
 conv => whnf
 repeat (first | (refine XSame.of ?_; conv => whnf) | (refine XDep.all _ _ _ _ ?_; conv => whnf))
 refine XVal.of_read (XRead.indexArr tabOk rfl rfl rfl i rfl hi rfl ?_)
 conv => whnf
 repeat (first | (refine XSame.of ?_; conv => whnf) | (refine XDep.all _ _ _ _ ?_; conv => whnf))
 refine XVal.of_read (XRead.loadF tabOk rfl rfl (ad := ⟨bs, 0, none⟩) (k := i * 8 + 2) (L := X) (v := .int .i64 c) (Sees.row (by simp)) (fun _ => by simp [Addr.add_none]) c2 ?_)
 conv => whnf
 repeat (first | (refine XSame.of ?_; conv => whnf) | (refine XDep.all _ _ _ _ ?_; conv => whnf))
 refine XCall.ent (F' := ⟨fun _ => True, [] ++ ([(bs, Row.c X)] ++ orow a C) ++ []⟩) (Ent.of_le ⟨by simp, fun w hw => trivial⟩) ?_
 refine XCall.rows (r1 := []) (r2 := []) h1 (fun w hw => trivial) (fun v F' hv => ?_)
 obtain ⟨a', c', C', hO', rfl, rfl⟩ := hv
 conv => whnf
 repeat (first | (refine XSame.of ?_; conv => whnf) | (refine XDep.all _ _ _ _ ?_; conv => whnf))
 obtain ⟨S1, hS1⟩ : ∃ S1, S1 = S.rec' ⟨⟨a', c'⟩, L⟩ := ⟨_, rfl⟩
 have hT1 : S1.T i = ⟨k, st, c, stp, cls, dn, res, dt⟩ := by rw [hS1]; exact hT
 rw [← hS1]
 refine XUnit.ent (F' := ⟨fun _ => True, [] ++ [(bs, Row.c (staC S1))] ++ orow a' C'⟩) (Ent.of_le ⟨by simp, fun w hw => trivial⟩) ?_
 refine XUnit.storeTo tabOk rfl (b := bs) (k := i * 8 + 1) (X := staC (S1.tsk i ⟨k, 0, c, stp, cls, dn, res, dt⟩)) (by simp [Addr.add_none]) rfl (List.all_eq_true.1 (by rfl)) (by rw [staC_len]; show i * 8 + 1 + 1 ≤ 376; omega) (put_cell S1 hi (j := 1) (by decide) _ _ (by rw [hT1]; rfl)) ?_
 conv => whnf
 repeat (first | (refine XSame.of ?_; conv => whnf) | (refine XDep.all _ _ _ _ ?_; conv => whnf))
 obtain ⟨S2, hS2⟩ : ∃ S2, S2 = S1.tsk i ⟨k, 0, c, stp, cls, dn, res, dt⟩ := ⟨_, rfl⟩
 have hT2 : S2.T i = ⟨k, 0, c, stp, cls, dn, res, dt⟩ := by rw [hS2]; exact if_pos rfl
 rw [← hS2]
 refine XUnit.storeTo tabOk rfl (b := bs) (k := i * 8 + 2) (X := staC (S2.tsk i ⟨k, 0, 0, stp, cls, dn, res, dt⟩)) (by simp [Addr.add_none]) rfl (List.all_eq_true.1 (by rfl)) (by rw [staC_len]; show i * 8 + 2 + 1 ≤ 376; omega) (put_cell S2 hi (j := 2) (by decide) _ _ (by rw [hT2]; rfl)) ?_
 conv => whnf
 repeat (first | (refine XSame.of ?_; conv => whnf) | (refine XDep.all _ _ _ _ ?_; conv => whnf))
 have hfin : S2.tsk i ⟨k, 0, 0, stp, cls, dn, res, dt⟩ = (S.rec' ⟨⟨a', c'⟩, L⟩).tsk i ⟨k, 0, 0, stp, cls, dn, res, dt⟩ := by
  rw [hS2, hS1]
  unfold Sta.tsk
  congr 1
  funext j
  simp only [upd]
  split <;> rfl
 rw [hfin]
 exact ⟨_, Ent.of_le ⟨by simp, fun w hw => trivial⟩, a', c', C', by rw [hL, List.flatMap_append] at *; exact hO', rfl, rfl⟩

end Go.Proofs.YtajkcdplmkaipaaGreatDoor
namespace Go.Proofs.YtajkcdplmkaipaaGreatDoor
open Go Go.Sx
set_option maxRecDepth 100000
set_option maxHeartbeats 4000000
set_option linter.unusedVariables false
set_option linter.unusedSimpArgs false

theorem tsk_tsk (s : Sta) (i : Nat) (x y : Tsk) : (s.tsk i x).tsk i y = s.tsk i y := by
 unfold Sta.tsk
 congr 1
 funext j
 simp only [upd]
 split <;> rfl
theorem tsk_at (s : Sta) (i : Nat) (x : Tsk) : (s.tsk i x).T i = x := if_pos rfl

theorem effReply_spec (S : Sta) (bs : Nat) (t kd : Int) (i : Nat) (hi : i < 32) (k st c res r a2 a3 : Int) (dn : Bool) (dt : Bs) (hT : S.T i = ⟨k, st, c, false, false, dn, res, dt⟩) (hk : k ≠ 0) (hst : st = 1) (e : Int) (he : e = 0) (a : Option Addr) (cap : Nat) (C : List Value) (hO : Sx.Owg 8 S.rc.l.length a cap C (S.rc.l.flatMap enC)) (hrc : S.rc.h = ⟨a, cap⟩) (hl : S.rc.l.length ≤ 100000000) :
 RowsSpec Tryz.prog 178 [.pointer (some ⟨bs, 0, none⟩), .int .i64 t, .agg ⟨efC kd (i : Int) r a2 a3 default⟩] ([(bs, Row.c (staC S))] ++ orow a C) (fun _ => True)
  (fun v F => ∃ a' cap' C', Sx.Owg 8 (S.rc.l.length + 1) a' cap' C' ((S.rc.l ++ [(⟨2, (i : Int), c, 0, 0, 0, r, default⟩ : En)]).flatMap enC) ∧ v = .int .i64 e ∧
   F = ⟨fun _ => True, [(bs, Row.c (staC ((S.rec' ⟨⟨a', cap'⟩, S.rc.l ++ [(⟨2, (i : Int), c, 0, 0, 0, r, default⟩ : En)]⟩).tsk i ⟨k, 0, 0, false, false, true, r, default⟩)))] ++ orow a' C'⟩) := by
 have h1 := end_spec S bs i hi k st c res r false false dn dt hT a cap C hO hrc hl
 have h2 := cloneBy_nil
 have hTc := staC_T S i hi
 rw [hT] at hTc
 have c0 : (staC S)[i * 8 + 0]? = some (.int .i64 k) := cellOf hTc (by decide) rfl
 have c1 : (staC S)[i * 8 + 1]? = some (.int .i64 st) := cellOf hTc (by decide) rfl
 have c4 : (staC S)[i * 8 + 4]? = some (.bool false) := cellOf hTc (by decide) rfl
 obtain ⟨L, hL⟩ : ∃ L, L = S.rc.l ++ [(⟨2, (i : Int), c, 0, 0, 0, r, default⟩ : En)] := ⟨_, rfl⟩
 rw [← hL] at h1 ⊢
 obtain ⟨X, hX⟩ : ∃ X, staC S = X := ⟨_, rfl⟩
 rw [hX] at h1 c0 c1 c4 ⊢
 refine RowsSpec.of_xc tabOk Tryz.func178 rfl (by decide) (n := Tryz.f178.ntmps - 3) rfl rfl rows_CM fun w0 av => ?_
 conv => whnf
 repeat (first | (refine XSame.of ?_; conv => whnf) | (refine XDep.all _ _ _ _ ?_; conv => whnf))
 intro b5
 conv => whnf
 repeat (first | (refine XSame.of ?_; conv => whnf) | (refine XDep.all _ _ _ _ ?_; conv => whnf))
 refine XVal.of_read (XRead.indexArr tabOk rfl rfl rfl i rfl hi rfl ?_)
 conv => whnf
 repeat (first | (refine XSame.of ?_; conv => whnf) | (refine XDep.all _ _ _ _ ?_; conv => whnf))
 refine XVal.of_read (XRead.loadF tabOk rfl rfl (ad := ⟨bs, 0, none⟩) (k := i * 8 + 0) (L := X) (v := .int .i64 k) (Sees.row (by simp)) (fun _ => by simp [Addr.add_none]) c0 ?_)
 conv => whnf
 repeat (first | (refine XSame.of ?_; conv => whnf) | (refine XDep.all _ _ _ _ ?_; conv => whnf))
 rw [show iEq k 0 = false from by simp [iEq_eq, hk]]
 conv => whnf
 repeat (first | (refine XSame.of ?_; conv => whnf) | (refine XDep.all _ _ _ _ ?_; conv => whnf))
 refine XVal.of_read (XRead.loadF tabOk rfl rfl (ad := ⟨bs, 0, none⟩) (k := i * 8 + 1) (L := X) (v := .int .i64 st) (Sees.row (by simp)) (fun _ => by simp [Addr.add_none]) c1 ?_)
 conv => whnf
 repeat (first | (refine XSame.of ?_; conv => whnf) | (refine XDep.all _ _ _ _ ?_; conv => whnf))
 rw [show iNe st 1 = false from by simp [iNe_eq, hst]]
 conv => whnf
 repeat (first | (refine XSame.of ?_; conv => whnf) | (refine XDep.all _ _ _ _ ?_; conv => whnf))
 refine XVal.of_read (XRead.loadF tabOk rfl rfl (ad := ⟨bs, 0, none⟩) (k := i * 8 + 4) (L := X) (v := .bool false) (Sees.row (by simp)) (fun _ => by simp [Addr.add_none]) c4 ?_)
 conv => whnf
 repeat (first | (refine XSame.of ?_; conv => whnf) | (refine XDep.all _ _ _ _ ?_; conv => whnf))
 refine XCall.ent (F' := ⟨fun _ => True, [] ++ ([(bs, Row.c X)] ++ orow a C) ++ []⟩) (Ent.of_le ⟨by simp, fun w hw => trivial⟩) ?_
 refine XCall.rows (r1 := []) (r2 := []) h1 (fun w hw => trivial) (fun v F' hv => ?_)
 obtain ⟨a', c', C', hO', rfl, rfl⟩ := hv
 obtain ⟨S0, hS0⟩ : ∃ S0, S0 = S.rec' ⟨⟨a', c'⟩, L⟩ := ⟨_, rfl⟩
 rw [← hS0]
 obtain ⟨S1, hS1⟩ : ∃ S1, S1 = S0.tsk i ⟨k, 0, 0, false, false, dn, res, dt⟩ := ⟨_, rfl⟩
 rw [← hS1]
 have hT1 : S1.T i = ⟨k, 0, 0, false, false, dn, res, dt⟩ := by rw [hS1]; exact tsk_at _ _ _
 have hTc1 := staC_T S1 i hi
 rw [hT1] at hTc1
 have d3 : (staC S1)[i * 8 + 3]? = some (.bool false) := cellOf hTc1 (by decide) rfl
 have p1 := put_cell S1 hi (j := 5) (by decide) (.bool true) ⟨k, 0, 0, false, false, true, res, dt⟩ (by rw [hT1]; rfl)
 obtain ⟨S2, hS2⟩ : ∃ S2, S2 = S1.tsk i ⟨k, 0, 0, false, false, true, res, dt⟩ := ⟨_, rfl⟩
 rw [← hS2] at p1
 have hT2 : S2.T i = ⟨k, 0, 0, false, false, true, res, dt⟩ := by rw [hS2]; exact tsk_at _ _ _
 have p2 := put_cell S2 hi (j := 6) (by decide) (.int .i64 r) ⟨k, 0, 0, false, false, true, r, dt⟩ (by rw [hT2]; rfl)
 obtain ⟨S3, hS3⟩ : ∃ S3, S3 = S2.tsk i ⟨k, 0, 0, false, false, true, r, dt⟩ := ⟨_, rfl⟩
 rw [← hS3] at p2
 have hT3 : S3.T i = ⟨k, 0, 0, false, false, true, r, dt⟩ := by rw [hS3]; exact tsk_at _ _ _
 have p3 := put_cell S3 hi (j := 7) (by decide) (.slice none 0 0) ⟨k, 0, 0, false, false, true, r, default⟩ (by rw [hT3]; rfl)
 have hfin : S3.tsk i ⟨k, 0, 0, false, false, true, r, default⟩ = S0.tsk i ⟨k, 0, 0, false, false, true, r, default⟩ := by rw [hS3, tsk_tsk, hS2, tsk_tsk, hS1, tsk_tsk]
 rw [hfin] at p3
 have hl1 := staC_len S1
 have hl2 := staC_len S2
 have hl3 := staC_len S3
 obtain ⟨X1, hX1⟩ : ∃ X1, staC S1 = X1 := ⟨_, rfl⟩
 obtain ⟨X2, hX2⟩ : ∃ X2, staC S2 = X2 := ⟨_, rfl⟩
 obtain ⟨X3, hX3⟩ : ∃ X3, staC S3 = X3 := ⟨_, rfl⟩
 rw [hX1] at d3 p1 hl1 ⊢
 rw [hX2] at p1 p2 hl2
 rw [hX3] at p2 p3 hl3
 conv => whnf
 repeat (first | (refine XSame.of ?_; conv => whnf) | (refine XDep.all _ _ _ _ ?_; conv => whnf))
 refine XVal.of_read (XRead.loadF tabOk rfl rfl (ad := ⟨bs, 0, none⟩) (k := i * 8 + 3) (L := X1) (v := .bool false) (Sees.row (by simp)) (fun _ => by simp [Addr.add_none]) d3 ?_)
 conv => whnf
 repeat (first | (refine XSame.of ?_; conv => whnf) | (refine XDep.all _ _ _ _ ?_; conv => whnf))
 refine XStop.draw tabOk mixed rfl rfl ?_
 conv => whnf
 refine XCall.val h2 (fun w hw => trivial) (fun v D hv => ?_)
 subst hv
 conv => whnf
 repeat (first
  | (refine XKeep.of ?_; conv => whnf)
  | (refine XSame.of ?_; conv => whnf))
 refine XUnit.ent (F' := ⟨fun _ => True, [] ++ [(bs, Row.c X1)] ++ orow a' C'⟩) (Ent.of_le ⟨by simp, fun w hw => trivial⟩) ?_
 refine XUnit.storeTo tabOk rfl (b := bs) (k := i * 8 + 5) (X := X2) (by simp [Addr.add_none]) rfl (List.all_eq_true.1 (by rfl)) (by rw [hl1]; show i * 8 + 5 + 1 ≤ 376; omega) p1 ?_
 conv => whnf
 repeat (first
  | (refine XKeep.of ?_; conv => whnf)
  | (refine XSame.of ?_; conv => whnf))
 refine XUnit.storeTo tabOk rfl (b := bs) (k := i * 8 + 6) (X := X3) (by simp [Addr.add_none]) rfl (List.all_eq_true.1 (by rfl)) (by rw [hl2]; show i * 8 + 6 + 1 ≤ 376; omega) p2 ?_
 conv => whnf
 repeat (first
  | (refine XKeep.of ?_; conv => whnf)
  | (refine XSame.of ?_; conv => whnf))
 refine XUnit.storeTo tabOk rfl (b := bs) (k := i * 8 + 7) (X := staC (S0.tsk i ⟨k, 0, 0, false, false, true, r, default⟩)) (by simp [Addr.add_none]) rfl (List.all_eq_true.1 (by rfl)) (by rw [hl3]; show i * 8 + 7 + 1 ≤ 376; omega) p3 ?_
 conv => whnf
 repeat (first | (refine XSame.of ?_; conv => whnf) | (refine XDep.all _ _ _ _ ?_; conv => whnf))
 subst he
 rw [hS0]
 exact ⟨_, Ent.of_le ⟨by simp, fun w hw => trivial⟩, a', c', C', by rw [hL, List.flatMap_append] at *; exact hO', rfl, rfl⟩

end Go.Proofs.YtajkcdplmkaipaaGreatDoor
namespace Go.Proofs.YtajkcdplmkaipaaGreatDoor
open Go Go.Sx
set_option maxRecDepth 100000
set_option maxHeartbeats 4000000
set_option linter.unusedVariables false
set_option linter.unusedSimpArgs false

def fnV (f : FuncId) : Value := .func (.func f) #[] #[]
def HANDL : List Value := [.nilFunc, fnV 177, fnV 178, fnV 179, fnV 180, fnV 181, fnV 182, fnV 183, fnV 184, fnV 185, fnV 186,
 fnV 187, fnV 188, fnV 189, fnV 190, fnV 191, fnV 192]

theorem handlers_spec : PureSpec Tryz.prog 118 [] (fun _ => True) (fun v F => v = .agg ⟨HANDL⟩) := by
 refine PureSpec.of_xc tabOk Tryz.func118 rfl (by decide) (n := Tryz.f118.ntmps - 0) rfl rfl fun w0 av => ?_
 conv => whnf
 repeat (first | (refine XSame.of ?_; conv => whnf) | (refine XDep.all _ _ _ _ ?_; conv => whnf))
 intro b0
 conv => whnf
 repeat (first | (refine XSame.of ?_; conv => whnf) | (refine XDep.all _ _ _ _ ?_; conv => whnf))
 exact ⟨_, Ent.refl _, rfl⟩

theorem commit_spec (S : Sta) (bk bs : Nat) (tn : Nat) (htn : tn = 3) (hD : S.D tn = false) (kd : Int) (hkd : kd = 2) (i : Nat) (hi : 16 ≤ i ∧ i < 32) (k st c res r a2 a3 : Int) (dn : Bool) (dt : Bs) (hT : S.T i = ⟨k, st, c, false, false, dn, res, dt⟩) (hk : k ≠ 0) (hst : st = 1)
 (hargs : argsI [117, 42] [(i : Int), r, a2, a3] = true) (hcp : S.cp.Ok) (hcap : capHas S.cp.l (tn : Int) ⟨2, 0, kd⟩ = true)
 (hqd : ∀ x ∈ S.q.l, x.data = default) (hqo : S.q.h.Ok S.q.l.length) (hql : S.q.l.length ≤ 400) (hpo : S.pr.h.Ok S.pr.l.length) (hpl : S.pr.l.length ≤ 100000) (hV : porOk S.q.l S.pr.l = true) (j : Nat) (hj : S.q.l.findIdx? (fun x => iEq x.dst (tn : Int)) = some j)
 (e : Int) (he : e = 0) (a : Option Addr) (cap : Nat) (C : List Value) (hO : Sx.Owg 8 S.rc.l.length a cap C (S.rc.l.flatMap enC)) (hrc : S.rc.h = ⟨a, cap⟩) (hl : S.rc.l.length ≤ 100000000) (b n : Nat) (hn : n = 1) :
 RowsSpec Tryz.prog 82 [.pointer (some ⟨bk, 0, none⟩), .int .i64 (tn : Int), .slice (some ⟨b, 0, none⟩) n n] ([(bk, Row.c [.pointer (some ⟨bs, 0, none⟩)])] ++ orow a C)
  (fun w => RowAt w (some ⟨bs, 0, none⟩) (staC S) ∧ ((RowAt w S.q.h.a (S.q.l.flatMap mgC) ∧ RowAt w S.pr.h.a (S.pr.l.flatMap prC)) ∧ (S.cp.At cpC w ∧ RowAt w (some ⟨b, 0, none⟩) (efC kd (i : Int) r a2 a3 default))))
  (fun v F => ∃ (bn : Nat) (S' : Sta) (a' : Option Addr) (cap' : Nat) (C' : List Value), S'.T i = ⟨k, 0, 0, false, false, true, r, default⟩ ∧ v = .tuple ⟨[.pointer (some ⟨bn, 0, none⟩), .int .i64 e]⟩ ∧
   F = ⟨fun w => RowAt w (some ⟨bn, 0, none⟩) (staC S'), [(bk, Row.c [.pointer (some ⟨bs, 0, none⟩)])] ++ orow a' C'⟩) := by
 have h1 := comp_spec (tn : Int)
 rw [show decide (1 ≤ (tn : Int) ∧ (tn : Int) ≤ 10) = true from by simp; omega] at h1
 have h2 := take_spec S.q.l hqd S.q.h hqo hql S.pr.l S.pr.h hpo hpl hV (tn : Int) j hj e he
 have h3 := effects_ok (tn : Int) kd (i : Int) r a2 a3 default (effReply_ok (tn : Int) kd (by omega) hkd (i : Int) r a2 a3 hargs 0 rfl) b n hn
 have h4 := fun bn => permitted_ok S hcp bn (tn : Int) kd hkd (i : Int) r a2 a3 default hcap b n hn
 have hDc := staC_D S tn (by omega)
 rw [hD] at hDc
 have hg := get_po S
 have hlen := staC_len S
 have hone := staC_one S
 obtain ⟨X, hX⟩ : ∃ X, staC S = X := ⟨_, rfl⟩
 rw [hX] at hlen hone hDc hg h4 ⊢
 obtain ⟨E, hE⟩ : ∃ E : World → Prop, E = fun w => RowAt w (some ⟨bs, 0, none⟩) X ∧ ((RowAt w S.q.h.a (S.q.l.flatMap mgC) ∧ RowAt w S.pr.h.a (S.pr.l.flatMap prC)) ∧ (S.cp.At cpC w ∧ RowAt w (some ⟨b, 0, none⟩) (efC kd (i : Int) r a2 a3 default))) := ⟨_, rfl⟩
 rw [← hE]
 obtain ⟨MJ, hMJ⟩ : ∃ MJ, S.q.l[j]! = MJ := ⟨_, rfl⟩
 rw [hMJ] at h2
 refine RowsSpec.of_xc tabOk Tryz.func82 rfl (by decide) (n := Tryz.f82.ntmps - 3) rfl rfl rows_CM fun w0 av => ?_
 conv => whnf
 repeat (first | (refine XSame.of ?_; conv => whnf) | (refine XDep.all _ _ _ _ ?_; conv => whnf))
 refine XVal.of_read (XRead.ptrNil tabOk (t := 30) rfl rfl ?_)
 conv => whnf
 repeat (first | (refine XSame.of ?_; conv => whnf) | (refine XDep.all _ _ _ _ ?_; conv => whnf))
 refine XCall.val h1 (fun w hw => trivial) (fun v D hv => ?_)
 subst hv
 conv => whnf
 repeat (first | (refine XSame.of ?_; conv => whnf) | (refine XDep.all _ _ _ _ ?_; conv => whnf))
 refine XVal.of_read (XRead.loadF tabOk rfl rfl (ad := ⟨bk, 0, none⟩) (k := 0) (L := [.pointer (some ⟨bs, 0, none⟩)]) (v := .pointer (some ⟨bs, 0, none⟩)) (Sees.row (by simp)) (fun _ => rfl) rfl ?_)
 conv => whnf
 repeat (first | (refine XSame.of ?_; conv => whnf) | (refine XDep.all _ _ _ _ ?_; conv => whnf))
 refine XVal.of_read (XRead.indexArr tabOk rfl rfl rfl tn rfl (by omega) rfl ?_)
 conv => whnf
 repeat (first | (refine XSame.of ?_; conv => whnf) | (refine XDep.all _ _ _ _ ?_; conv => whnf))
 refine XVal.of_read (XRead.loadF tabOk rfl rfl (ad := ⟨bs, 0, none⟩) (k := 256 + tn) (L := X) (v := .bool false) (.fact fun w hw => by have hw : E w := hw; rw [hE] at hw; exact hw.1) (fun _ => by simp [Addr.add_none]) hDc ?_)
 conv => whnf
 repeat (first | (refine XSame.of ?_; conv => whnf) | (refine XDep.all _ _ _ _ ?_; conv => whnf))
 refine XVal.of_read (XRead.loadF tabOk rfl rfl (ad := ⟨bk, 0, none⟩) (k := 0) (L := [.pointer (some ⟨bs, 0, none⟩)]) (v := .pointer (some ⟨bs, 0, none⟩)) (Sees.row (by simp)) (fun _ => rfl) rfl ?_)
 conv => whnf
 repeat (first | (refine XSame.of ?_; conv => whnf) | (refine XDep.all _ _ _ _ ?_; conv => whnf))
 refine XVal.of_read (XRead.loads tabOk (t := 149) rfl rfl (ad := ⟨bs, 0, none⟩) (k := 0) (L := X) (m := X) (.fact fun w hw => by have hw : E w := hw; rw [hE] at hw; exact hw.1) rfl (by rw [List.drop_zero, List.take_of_length_le (by rw [hlen]; exact Nat.le_refl _)]) hlen ?_)
 conv => whnf
 repeat (first | (refine XSame.of ?_; conv => whnf) | (refine XDep.all _ _ _ _ ?_; conv => whnf))
 refine XVal.allocRow tabOk rfl (z := staC zS) (by kernel_rfl) fun bn => ?_
 conv => whnf
 repeat (first | (refine XSame.of ?_; conv => whnf) | (refine XDep.all _ _ _ _ ?_; conv => whnf))
 refine XUnit.ent (F' := ⟨E, ([(bk, Row.c [.pointer (some ⟨bs, 0, none⟩)])] ++ orow a C) ++ [(bn, Row.c (staC zS))] ++ []⟩) (Ent.of_le ⟨by simp, fun w hw => hw⟩) ?_
 refine XUnit.storeTo tabOk rfl (b := bn) (k := 0) (X := X) rfl (by show X.length = 376; exact hlen) (fun u hu => hone u hu) (by rw [staC_len]; exact Nat.le_refl _) (laid_whole (C := X) (z := staC zS) (by rw [hlen, staC_len])) ?_
 conv => whnf
 repeat (first | (refine XSame.of ?_; conv => whnf) | (refine XDep.all _ _ _ _ ?_; conv => whnf))
 refine XVal.of_read (XRead.loads tabOk (t := 107) rfl rfl (ad := ⟨bn, 0, none⟩) (k := 267) (L := X) (m := [S.q.v, S.pr.v]) (Sees.row (by simp)) rfl hg rfl ?_)
 conv => whnf
 repeat (first | (refine XSame.of ?_; conv => whnf) | (refine XDep.all _ _ _ _ ?_; conv => whnf))
 refine XCall.pure h2 (fun w hw => by have hw : E w := hw; rw [hE] at hw; exact hw.2.1) (fun v D hv => ?_)
 obtain ⟨hq', hp', ⟨hqo', hpo'⟩, rfl, rfl⟩ := hv
 conv => whnf
 repeat (first | (refine XSame.of ?_; conv => whnf) | (refine XDep.all _ _ _ _ ?_; conv => whnf))
 intro b9
 conv => whnf
 repeat (first | (refine XSame.of ?_; conv => whnf) | (refine XDep.all _ _ _ _ ?_; conv => whnf))
 intro b10
 conv => whnf
 repeat (first | (refine XSame.of ?_; conv => whnf) | (refine XDep.all _ _ _ _ ?_; conv => whnf))
 rw [show iNe e 0 = false from by simp [iNe_eq, he]]
 conv => whnf
 repeat (first | (refine XSame.of ?_; conv => whnf) | (refine XDep.all _ _ _ _ ?_; conv => whnf))
 refine XCall.val h3 (fun w hw => by have hw : E w := hw.1; rw [hE] at hw; exact hw.2.2.2) (fun v D hv => ?_)
 subst hv
 conv => whnf
 repeat (first | (refine XSame.of ?_; conv => whnf) | (refine XDep.all _ _ _ _ ?_; conv => whnf))
 obtain ⟨Q, hQ⟩ : ∃ Q, S.q.l.eraseIdx j = Q := ⟨_, rfl⟩
 rw [hQ]
 refine XCall.ent (F' := ⟨fun w => E w ∧ (RowAt w hq'.a (Q.flatMap mgC) ∧ RowAt w hp'.a (S.pr.l.flatMap prC)), ([(bk, Row.c [.pointer (some ⟨bs, 0, none⟩)])] ++ orow a C) ++ [(bn, Row.c X)] ++ []⟩) (Ent.of_le ⟨by simp [Fx.and], fun w hw => hw⟩) ?_
 refine XCall.look (h4 bn) ((Loc.row _ _).and ((Loc.row _ _).and (Loc.row _ _))) (fun w hst => ?_) ?_
 · have h5 := hst.now
   have h5 : E w ∧ _ := h5
   have h6 := h5.1
   rw [hE] at h6
   exact ⟨(Sees.row (b := bn) (by simp)) w hst, h6.2.2.1, h6.2.2.2⟩
 conv => whnf
 repeat (first | (refine XSame.of ?_; conv => whnf) | (refine XDep.all _ _ _ _ ?_; conv => whnf))
 have hput : laid X 267 [hq'.v Q.length, hp'.v S.pr.l.length] = staC (S.po ⟨hq', Q⟩ ⟨hp', S.pr.l⟩) := by rw [← hX]; exact put_po S ⟨hq', Q⟩ ⟨hp', S.pr.l⟩
 refine XUnit.storeTo tabOk rfl (b := bn) (k := 267) (X := staC (S.po ⟨hq', Q⟩ ⟨hp', S.pr.l⟩)) rfl rfl (List.all_eq_true.1 (by rfl)) (by rw [hlen]; decide) hput ?_
 obtain ⟨S1, hS1⟩ : ∃ S1, S1 = S.po ⟨hq', Q⟩ ⟨hp', S.pr.l⟩ := ⟨_, rfl⟩
 rw [← hS1]
 have hT1 : S1.T i = ⟨k, st, c, false, false, dn, res, dt⟩ := by rw [hS1]; exact hT
 have hrc1 : S1.rc = S.rc := by rw [hS1]; rfl
 conv => whnf
 repeat (first | (refine XSame.of ?_; conv => whnf) | (refine XDep.all _ _ _ _ ?_; conv => whnf))
 refine XCall.val handlers_spec (fun w hw => trivial) (fun v D hv => ?_)
 subst hv
 conv => whnf
 repeat (first | (refine XSame.of ?_; conv => whnf) | (refine XDep.all _ _ _ _ ?_; conv => whnf))
 intro b12
 conv => whnf
 repeat (first | (refine XSame.of ?_; conv => whnf) | (refine XDep.all _ _ _ _ ?_; conv => whnf))
 refine XStop.rounds tabOk 2 ?_
 conv => whnf
 repeat (first | (refine XSame.of ?_; conv => whnf) | (refine XDep.all _ _ _ _ ?_; conv => whnf))
 refine XIf.yes (by simp [iLt_eq]; omega) ?_
 conv => whnf
 repeat (first | (refine XSame.of ?_; conv => whnf) | (refine XDep.all _ _ _ _ ?_; conv => whnf))
 refine XVal.of_read (XRead.index tabOk (t := 24) rfl rfl rfl (by omega) (by omega) (fun h => by cases h) fun ad had => ?_)
 cases had
 conv => whnf
 repeat (first | (refine XSame.of ?_; conv => whnf) | (refine XDep.all _ _ _ _ ?_; conv => whnf))
 refine XVal.of_read (XRead.loads tabOk (t := 157) rfl rfl (ad := ⟨b, 0, none⟩) (k := 0) (L := efC kd (i : Int) r a2 a3 default) (m := efC kd (i : Int) r a2 a3 default) (.fact fun w hw => by have hw : E w := hw.1; rw [hE] at hw; exact hw.2.2.2) (by simp) rfl rfl ?_)
 subst hkd
 conv => whnf
 repeat (first | (refine XSame.of ?_; conv => whnf) | (refine XDep.all _ _ _ _ ?_; conv => whnf))
 intro b14
 conv => whnf
 repeat (first | (refine XSame.of ?_; conv => whnf) | (refine XDep.all _ _ _ _ ?_; conv => whnf))
 refine XStop.draw tabOk mixed rfl rfl ?_
 conv => whnf
 have h6 := effReply_spec S1 bn (tn : Int) 2 i hi.2 k st c res r a2 a3 dn dt hT1 hk hst e he a cap C (by rw [hrc1]; exact hO) (by rw [hrc1]; exact hrc) (by rw [hrc1]; exact hl)
 refine XCall.ent (F' := ⟨fun _ => True, [(bk, Row.c [.pointer (some ⟨bs, 0, none⟩)])] ++ ([(bn, Row.c (staC S1))] ++ orow a C) ++ []⟩) (Ent.trans (Ent.of_le (F' := ⟨fun _ => True, [(bk, Row.c [.pointer (some ⟨bs, 0, none⟩)])] ++ (orow a C ++ [(bn, Row.c (staC S1))])⟩) ⟨by simp, fun w hw => trivial⟩) (Ent.perm (by rw [List.append_nil]; exact List.Perm.append_left _ List.perm_append_comm))) ?_
 refine XCall.rows (r1 := [(bk, Row.c [.pointer (some ⟨bs, 0, none⟩)])]) (r2 := []) h6 (fun w hw => trivial) (fun v F' hv => ?_)
 obtain ⟨a', c', C', hO', rfl, rfl⟩ := hv
 conv => whnf
 repeat (first | (refine XSame.of ?_; conv => whnf) | (refine XDep.all _ _ _ _ ?_; conv => whnf))
 repeat' (first
  | (refine And.intro ?_ ?_ <;> conv => whnf)
  | (refine XHeld.same rfl ?_; conv => whnf)
  | (refine XHeld.row rfl ?_; conv => whnf)
  | (refine XHeld.call rfl ?_; conv => whnf)
  | (refine XHeld.factCall rfl ?_; conv => whnf)
  | (refine XKeep.of ?_; conv => whnf)
  | (refine XSame.of ?_; conv => whnf)
  | (refine XDep.all _ _ _ _ ?_; conv => whnf)
  | (rw [show iNe e 0 = false from by simp [iNe_eq, he]]; conv => whnf)
  | (refine XHeld.mk ?_ ?_; (focus (first | exact Ent.refl _ | exact Ent.left _ _ | exact Ent.of_le ⟨List.sublist_append_left _ _, fun w h => h⟩ | exact Ent.of_le ⟨List.Sublist.refl _, fun w h => h.1⟩)); conv => whnf))
 refine XIf.no (by rw [wrap_i64 (by omega)]; simp [iLt_eq]; omega) ?_
 conv => whnf
 repeat (first | (refine XSame.of ?_; conv => whnf) | (refine XDep.all _ _ _ _ ?_; conv => whnf))
 obtain ⟨S2, hS2⟩ : ∃ S2, S2 = (S1.rec' ⟨⟨a', c'⟩, S1.rc.l ++ [(⟨2, (i : Int), c, 0, 0, 0, r, default⟩ : En)]⟩).tsk i ⟨k, 0, 0, false, false, true, r, default⟩ := ⟨_, rfl⟩
 rw [← hS2]
 subst he
 refine ⟨_, ?_, bn, S2, a', c', C', by rw [hS2]; exact tsk_at _ _ _, rfl, rfl⟩
 exact Ent.trans (Ent.perm (rs' := (bn, Row.c (staC S2)) :: ([(bk, Row.c [.pointer (some ⟨bs, 0, none⟩)])] ++ orow a' C')) (by simpa using List.Perm.swap _ _ _)) (Ent.trans Ent.share1 (Ent.imp fun w hw => hw.2))

/-- A transaction of one reply. -/
theorem commitK_spec (S : Sta) (bk bs : Nat) (tn : Nat) (htn : tn = 3) (hD : S.D tn = false) (kd : Int) (hkd : kd = 2) (i : Nat) (hi : 16 ≤ i ∧ i < 32) (k st c res r a2 a3 : Int) (dn : Bool) (dt : Bs) (hT : S.T i = ⟨k, st, c, false, false, dn, res, dt⟩) (hk : k ≠ 0) (hst : st = 1)
 (hargs : argsI [117, 42] [(i : Int), r, a2, a3] = true) (hcp : S.cp.Ok) (hcap : capHas S.cp.l (tn : Int) ⟨2, 0, kd⟩ = true)
 (hqd : ∀ x ∈ S.q.l, x.data = default) (hqo : S.q.h.Ok S.q.l.length) (hql : S.q.l.length ≤ 400) (hpo : S.pr.h.Ok S.pr.l.length) (hpl : S.pr.l.length ≤ 100000) (hV : porOk S.q.l S.pr.l = true) (j : Nat) (hj : S.q.l.findIdx? (fun x => iEq x.dst (tn : Int)) = some j)
 (e : Int) (he : e = 0) (a : Option Addr) (cap : Nat) (C : List Value) (hO : Sx.Owg 8 S.rc.l.length a cap C (S.rc.l.flatMap enC)) (hrc : S.rc.h = ⟨a, cap⟩) (hl : S.rc.l.length ≤ 100000000) (b n : Nat) (hn : n = 1) :
 RowsSpec Tryz.prog 23 [.pointer (some ⟨bk, 0, none⟩), .int .i64 (tn : Int), .slice (some ⟨b, 0, none⟩) n n] ([(bk, Row.c [.pointer (some ⟨bs, 0, none⟩)])] ++ orow a C)
  (fun w => RowAt w (some ⟨bs, 0, none⟩) (staC S) ∧ ((RowAt w S.q.h.a (S.q.l.flatMap mgC) ∧ RowAt w S.pr.h.a (S.pr.l.flatMap prC)) ∧ (S.cp.At cpC w ∧ RowAt w (some ⟨b, 0, none⟩) (efC kd (i : Int) r a2 a3 default))))
  (fun v F => ∃ (bn : Nat) (S' : Sta) (a' : Option Addr) (cap' : Nat) (C' : List Value), S'.T i = ⟨k, 0, 0, false, false, true, r, default⟩ ∧ v = .int .i64 e ∧
   F = ⟨fun w => RowAt w (some ⟨bn, 0, none⟩) (staC S'), [(bk, Row.c [.pointer (some ⟨bn, 0, none⟩)])] ++ orow a' C'⟩) := by
 have h1 := commit_spec S bk bs tn htn hD kd hkd i hi k st c res r a2 a3 dn dt hT hk hst hargs hcp hcap hqd hqo hql hpo hpl hV j hj e he a cap C hO hrc hl b n hn
 obtain ⟨E, hE⟩ : ∃ E : World → Prop, E = fun w => RowAt w (some ⟨bs, 0, none⟩) (staC S) ∧ ((RowAt w S.q.h.a (S.q.l.flatMap mgC) ∧ RowAt w S.pr.h.a (S.pr.l.flatMap prC)) ∧ (S.cp.At cpC w ∧ RowAt w (some ⟨b, 0, none⟩) (efC kd (i : Int) r a2 a3 default))) := ⟨_, rfl⟩
 rw [← hE] at h1 ⊢
 refine RowsSpec.of_xc tabOk Tryz.func23 rfl (by decide) (n := Tryz.f23.ntmps - 3) rfl rfl rows_CM fun w0 av => ?_
 conv => whnf
 repeat (first | (refine XSame.of ?_; conv => whnf) | (refine XDep.all _ _ _ _ ?_; conv => whnf))
 refine XCall.ent (F' := ⟨E, [] ++ ([(bk, Row.c [.pointer (some ⟨bs, 0, none⟩)])] ++ orow a C) ++ []⟩) (Ent.of_le ⟨by simp, fun w hw => hw⟩) ?_
 refine XCall.rows (r1 := []) (r2 := []) h1 (fun w hw => hw) (fun v F' hv => ?_)
 obtain ⟨bn, S', a', c', C', hT', rfl, rfl⟩ := hv
 conv => whnf
 repeat (first | (refine XSame.of ?_; conv => whnf) | (refine XDep.all _ _ _ _ ?_; conv => whnf))
 refine XIf.yes (by simp [iEq_eq, he]) ?_
 conv => whnf
 repeat (first | (refine XSame.of ?_; conv => whnf) | (refine XDep.all _ _ _ _ ?_; conv => whnf))
 refine XUnit.ent (F' := ⟨fun w => RowAt w (some ⟨bn, 0, none⟩) (staC S'), [] ++ [(bk, Row.c [.pointer (some ⟨bs, 0, none⟩)])] ++ orow a' C'⟩) (Ent.of_le ⟨by simp, fun w hw => hw.2⟩) ?_
 refine XUnit.storeTo tabOk rfl (b := bk) (k := 0) (X := [.pointer (some ⟨bn, 0, none⟩)]) rfl rfl (List.all_eq_true.1 (by rfl)) (Nat.le_refl _) rfl ?_
 conv => whnf
 repeat (first | (refine XSame.of ?_; conv => whnf) | (refine XDep.all _ _ _ _ ?_; conv => whnf))
 exact ⟨_, Ent.of_le ⟨by simp, fun w hw => hw⟩, bn, S', a', c', C', hT', rfl, rfl⟩

end Go.Proofs.YtajkcdplmkaipaaGreatDoor
