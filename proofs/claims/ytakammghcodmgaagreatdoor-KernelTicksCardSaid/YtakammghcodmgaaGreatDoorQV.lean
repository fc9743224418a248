/- Parts of the proof: KnN, KnO, KnP, AdY, AdG, AdH, AdI, AdJ, KnQ, KuC, KuD, KuE, KuF, KuG. -/
import Derived.Test.YtakammghcodmgaaGreatDoorQS
import Derived.Test.YtakammghcodmgaaGreatDoorQO
import Derived.Test.YtakammghcodmgaaGreatDoorQK
import Derived.Test.YtakammghcodmgaaGreatDoorQU
import Derived.Test.YtakammghcodmgaaGreatDoorZShF
namespace Go.Proofs.YtakammghcodmgaaGreatDoor
open Go Go.Sx
set_option maxRecDepth 100000
set_option maxHeartbeats 4000000
set_option linter.unusedVariables false
set_option linter.unusedSimpArgs false

theorem get_ca (s : Sta) : ((staC s).drop 269).take 2 = [.int .i64 s.nx, s.cp.v] := by kernel_rfl

theorem permitted_ok (S : Sta) (hcp : S.cp.Ok) (bs : Nat) (t kd : Int) (hkd : kd = 2) (a0 a1 a2 a3 : Int) (d : Bs) (hh : capHas S.cp.l t ⟨2, 0, kd⟩ = true) (b n : Nat) (hn : n = 1) :
 PureSpec Tryz.prog 99 [.pointer (some ⟨bs, 0, none⟩), .int .i64 t, .slice (some ⟨b, 0, none⟩) n n] (fun w => RowAt w (some ⟨bs, 0, none⟩) (staC S) ∧ (S.cp.At cpC w ∧ RowAt w (some ⟨b, 0, none⟩) (efC kd a0 a1 a2 a3 d))) (fun v F => v = .bool true) := by
 have h1 := rights_reply kd hkd a0 a1 a2 a3 d
 have h2 := capsHas_spec S.nx S.cp.l S.cp.h hcp.h hcp.le t ⟨2, 0, kd⟩
 rw [hh] at h2
 have hg := get_ca S
 obtain ⟨X, hX⟩ : ∃ X, staC S = X := ⟨_, rfl⟩
 rw [hX] at hg ⊢
 obtain ⟨E, hE⟩ : ∃ E : World → Prop, E = fun w => RowAt w (some ⟨bs, 0, none⟩) X ∧ (S.cp.At cpC w ∧ RowAt w (some ⟨b, 0, none⟩) (efC kd a0 a1 a2 a3 d)) := ⟨_, rfl⟩
 rw [← hE]
 refine PureSpec.of_xc tabOk Tryz.func99 rfl (by decide) (n := Tryz.f99.ntmps - 3) rfl rfl fun w0 av => ?_
 conv => whnf
 repeat (first | (refine XSame.of ?_; conv => whnf) | (refine XDep.all _ _ _ _ ?_; conv => whnf))
 refine XStop.loop tabOk (ι := Nat) ([8, 10] ++ List.range' 13 21) (fun x => x ≤ n) (fun x => [(13, .v (.int .i64 (x : Int)))]) (fun _ => []) (fun _ => ⟨E, []⟩)
  (fun x => n - x) 0 (Nat.zero_le _) ?_ rfl (Ent.refl _) fun i hi => ?_
 · conv => whnf
   repeat (first | exact FLe.nil | refine FLe.any ?_ | refine FLe.cons ?_)
 conv => whnf
 repeat (first | (refine XSame.of ?_; conv => whnf) | (refine XDep.all _ _ _ _ ?_; conv => whnf))
 refine XIf.split (fun hlt => ?_) (fun hlt => ?_)
 · have hlt' : i < n := by
    simp only [iLt_eq, decide_eq_true_eq] at hlt
    omega
   have hi0 : i = 0 := by omega
   conv => whnf
   repeat (first | (refine XSame.of ?_; conv => whnf) | (refine XDep.all _ _ _ _ ?_; conv => whnf))
   refine XVal.of_read (XRead.index tabOk (t := 63) rfl rfl rfl (by omega) (by omega) (fun h => by cases h) fun ad had => ?_)
   cases had
   conv => whnf
   repeat (first | (refine XSame.of ?_; conv => whnf) | (refine XDep.all _ _ _ _ ?_; conv => whnf))
   refine XVal.of_read (XRead.loads tabOk (t := 62) rfl rfl (ad := ⟨b, 0, none⟩) (k := 0) (L := efC kd a0 a1 a2 a3 d) (m := efC kd a0 a1 a2 a3 d) (.fact fun w hw => by rw [hE] at hw; exact hw.2.2) (by rw [hi0]; simp) rfl rfl ?_)
   conv => whnf
   repeat (first | (refine XSame.of ?_; conv => whnf) | (refine XDep.all _ _ _ _ ?_; conv => whnf))
   intro b7
   conv => whnf
   repeat (first | (refine XSame.of ?_; conv => whnf) | (refine XDep.all _ _ _ _ ?_; conv => whnf))
   refine XCall.pure h1 (fun w hw => trivial) (fun v D hv => ?_)
   obtain ⟨rb, m, hm, rfl, rfl⟩ := hv
   conv => whnf
   repeat (first | (refine XSame.of ?_; conv => whnf) | (refine XDep.all _ _ _ _ ?_; conv => whnf))
   refine XStop.loop tabOk (ι := Nat) ([10] ++ List.range' 20 13) (fun x => x ≤ m) (fun x => [(20, .v (.int .i64 (x : Int)))]) (fun _ => [efC kd a0 a1 a2 a3 d]) (fun _ => ⟨fun w => E w ∧ RowAt w (some ⟨rb, 0, none⟩) (rtC ⟨2, 0, kd⟩), []⟩)
    (fun x => m - x) 0 (Nat.zero_le _) ?_ rfl (Ent.refl _) fun j hj => ?_
   · conv => whnf
     repeat (first | exact FLe.nil | refine FLe.any ?_ | refine FLe.cons ?_)
   conv => whnf
   repeat (first | (refine XSame.of ?_; conv => whnf) | (refine XDep.all _ _ _ _ ?_; conv => whnf))
   refine XIf.split (fun hjt => ?_) (fun hjt => ?_)
   · have hjt' : j < m := by
      simp only [iLt_eq, decide_eq_true_eq] at hjt
      omega
     have hj0 : j = 0 := by omega
     conv => whnf
     repeat (first | (refine XSame.of ?_; conv => whnf) | (refine XDep.all _ _ _ _ ?_; conv => whnf))
     refine XVal.of_read (XRead.index tabOk (t := 304) rfl rfl rfl (by omega) (by omega) (fun h => by cases h) fun ad had => ?_)
     cases had
     conv => whnf
     repeat (first | (refine XSame.of ?_; conv => whnf) | (refine XDep.all _ _ _ _ ?_; conv => whnf))
     refine XVal.of_read (XRead.loads tabOk (t := 177) rfl rfl (ad := ⟨rb, 0, none⟩) (k := 0) (L := rtC ⟨2, 0, kd⟩) (m := rtC ⟨2, 0, kd⟩) (.fact fun w hw => hw.2) (by rw [hj0]; simp) rfl rfl ?_)
     conv => whnf
     repeat (first | (refine XSame.of ?_; conv => whnf) | (refine XDep.all _ _ _ _ ?_; conv => whnf))
     intro b9
     refine XStop.draw tabOk mixed rfl rfl ?_
     conv => whnf
     repeat' (first
      | (refine And.intro ?_ ?_ <;> conv => whnf)
      | (refine XHeld.same rfl ?_; conv => whnf)
      | (refine XHeld.row rfl ?_; conv => whnf)
      | (refine XHeld.call rfl ?_; conv => whnf)
      | (refine XHeld.factCall rfl ?_; conv => whnf)
      | (refine XKeep.of ?_; conv => whnf)
      | (refine XSame.of ?_; conv => whnf)
      | (refine XDep.all _ _ _ _ ?_; conv => whnf)
      | (refine XRead.loads tabOk (t := 95) rfl rfl (ad := ⟨bs, 0, none⟩) (k := 269) (L := X) (m := [.int .i64 S.nx, S.cp.v]) (.fact fun w hw => by have h := hw.1; rw [hE] at h; exact h.1) rfl hg rfl ?_; conv => whnf)
      | (refine XCall.val h2 (fun w hw => by have h := hw.1; rw [hE] at h; exact h.2.1) (fun v D hv => ?_); subst hv; conv => whnf)
      | (refine XHeld.mk ?_ ?_; (focus (first | exact Ent.refl _ | exact Ent.left _ _ | exact Ent.of_le ⟨List.sublist_append_left _ _, fun w h => h⟩ | exact Ent.of_le ⟨List.Sublist.refl _, fun w h => h.1⟩)); conv => whnf))
     all_goals
      conv => whnf
      repeat (first | (refine XSame.of ?_; conv => whnf) | (refine XDep.all _ _ _ _ ?_; conv => whnf))
      refine ⟨j + 1, ⟨hjt', by dsimp only; omega⟩, ?_, ?_, Ent.refl _⟩
      · conv => whnf
        refine ⟨?_, rfl⟩
        repeat (first | exact FLe.nil | refine FLe.any ?_ | refine FLe.cons ?_ | refine FLe.eq (by rw [wrap_i64 (by omega)]; rfl) ?_)
      · conv => whnf
        exact ⟨⟨rfl, rfl⟩, trivial⟩
   · conv => whnf
     repeat (first | (refine XSame.of ?_; conv => whnf) | (refine XDep.all _ _ _ _ ?_; conv => whnf))
     refine ⟨i + 1, ⟨hlt', by dsimp only; omega⟩, ?_, ?_, Ent.of_le ⟨List.Sublist.refl _, fun w hw => hw.1⟩⟩
     · conv => whnf
       refine ⟨?_, rfl⟩
       repeat (first | exact FLe.nil | refine FLe.any ?_ | refine FLe.cons ?_ | refine FLe.eq (by rw [wrap_i64 (by omega)]; rfl) ?_)
     · conv => whnf
       exact trivial
 · conv => whnf
   repeat (first | (refine XSame.of ?_; conv => whnf) | (refine XDep.all _ _ _ _ ?_; conv => whnf))
   exact ⟨_, Ent.refl _, rfl⟩

theorem end_spec (S : Sta) (bs : Nat) (i : Nat) (hi : i < 32) (k st c res r : Int) (stp cls dn : Bool) (dt : Bs) (hT : S.T i = ⟨k, st, c, stp, cls, dn, res, dt⟩) (a : Option Addr) (cap : Nat) (C : List Value) (hO : Sx.Owg 8 S.rc.l.length a cap C (S.rc.l.flatMap enC)) (hrc : S.rc.h = ⟨a, cap⟩) (hl : S.rc.l.length ≤ 100000000) :
 RowsSpec Tryz.prog 222 [.pointer (some ⟨bs, 0, none⟩), .int .i64 (i : Int), .int .i64 r, .slice none 0 0] ([(bs, Row.c (staC S))] ++ orow a C) (fun _ => True)
  (fun v F => ∃ a' cap' C', Sx.Owg 8 (S.rc.l.length + 1) a' cap' C' ((S.rc.l ++ [(⟨2, (i : Int), c, 0, 0, 0, r, default⟩ : En)]).flatMap enC) ∧ v = .tuple ⟨[]⟩ ∧
   F = ⟨fun _ => True, [(bs, Row.c (staC ((S.rec' ⟨⟨a', cap'⟩, S.rc.l ++ [(⟨2, (i : Int), c, 0, 0, 0, r, default⟩ : En)]⟩).tsk i ⟨k, 0, 0, stp, cls, dn, res, dt⟩)))] ++ orow a' C'⟩) := by
 have h1 := note_spec S bs 2 (i : Int) c 0 0 0 r a cap C hO hrc hl
 have hTc := staC_T S i hi
 rw [hT] at hTc
 have c2 : (staC S)[i * 8 + 2]? = some (.int .i64 c) := cellOf hTc (by decide) rfl
 obtain ⟨L, hL⟩ : ∃ L, L = S.rc.l ++ [(⟨2, (i : Int), c, 0, 0, 0, r, default⟩ : En)] := ⟨_, rfl⟩
 rw [← hL] at h1 ⊢
 obtain ⟨X, hX⟩ : ∃ X, staC S = X := ⟨_, rfl⟩
 rw [hX] at h1 c2 ⊢
 refine RowsSpec.of_xc tabOk Tryz.func222 rfl (by decide) (n := Tryz.f222.ntmps - 4) rfl rfl rows_CM fun w0 av => ?_
 conv => whnf
 repeat (first | (refine XSame.of ?_; conv => whnf) | (refine XDep.all _ _ _ _ ?_; conv => whnf))
 refine XVal.of_read (XRead.indexArr tabOk rfl rfl rfl i rfl hi rfl ?_)
 conv => whnf
 repeat (first | (refine XSame.of ?_; conv => whnf) | (refine XDep.all _ _ _ _ ?_; conv => whnf))
 refine XVal.of_read (XRead.loadF tabOk rfl rfl (ad := ⟨bs, 0, none⟩) (k := i * 8 + 2) (L := X) (v := .int .i64 c) (Sees.row (by simp)) (fun _ => by simp [Addr.add_none]) c2 ?_)
 conv => whnf
 repeat (first | (refine XSame.of ?_; conv => whnf) | (refine XDep.all _ _ _ _ ?_; conv => whnf))
 refine XCall.ent (F' := ⟨fun _ => True, [] ++ ([(bs, Row.c X)] ++ orow a C) ++ []⟩) (Ent.of_le ⟨by simp, fun w hw => trivial⟩) ?_
 refine XCall.rows (r1 := []) (r2 := []) h1 (fun w hw => trivial) (fun v F' hv => ?_)
 obtain ⟨a', c', C', hO', rfl, rfl⟩ := hv
 conv => whnf
 repeat (first | (refine XSame.of ?_; conv => whnf) | (refine XDep.all _ _ _ _ ?_; conv => whnf))
 obtain ⟨S1, hS1⟩ : ∃ S1, S1 = S.rec' ⟨⟨a', c'⟩, L⟩ := ⟨_, rfl⟩
 have hT1 : S1.T i = ⟨k, st, c, stp, cls, dn, res, dt⟩ := by rw [hS1]; exact hT
 rw [← hS1]
 refine XUnit.ent (F' := ⟨fun _ => True, [] ++ [(bs, Row.c (staC S1))] ++ orow a' C'⟩) (Ent.of_le ⟨by simp, fun w hw => trivial⟩) ?_
 refine XUnit.storeTo tabOk rfl (b := bs) (k := i * 8 + 1) (X := staC (S1.tsk i ⟨k, 0, c, stp, cls, dn, res, dt⟩)) (by simp [Addr.add_none]) rfl (List.all_eq_true.1 (by rfl)) (by rw [staC_len]; show i * 8 + 1 + 1 ≤ 376; omega) (put_cell S1 hi (j := 1) (by decide) _ _ (by rw [hT1]; rfl)) ?_
 conv => whnf
 repeat (first | (refine XSame.of ?_; conv => whnf) | (refine XDep.all _ _ _ _ ?_; conv => whnf))
 obtain ⟨S2, hS2⟩ : ∃ S2, S2 = S1.tsk i ⟨k, 0, c, stp, cls, dn, res, dt⟩ := ⟨_, rfl⟩
 have hT2 : S2.T i = ⟨k, 0, c, stp, cls, dn, res, dt⟩ := by rw [hS2]; exact if_pos rfl
 rw [← hS2]
 refine XUnit.storeTo tabOk rfl (b := bs) (k := i * 8 + 2) (X := staC (S2.tsk i ⟨k, 0, 0, stp, cls, dn, res, dt⟩)) (by simp [Addr.add_none]) rfl (List.all_eq_true.1 (by rfl)) (by rw [staC_len]; show i * 8 + 2 + 1 ≤ 376; omega) (put_cell S2 hi (j := 2) (by decide) _ _ (by rw [hT2]; rfl)) ?_
 conv => whnf
 repeat (first | (refine XSame.of ?_; conv => whnf) | (refine XDep.all _ _ _ _ ?_; conv => whnf))
 have hfin : S2.tsk i ⟨k, 0, 0, stp, cls, dn, res, dt⟩ = (S.rec' ⟨⟨a', c'⟩, L⟩).tsk i ⟨k, 0, 0, stp, cls, dn, res, dt⟩ := by
  rw [hS2, hS1]
  unfold Sta.tsk
  congr 1
  funext j
  simp only [upd]
  split <;> rfl
 rw [hfin]
 exact ⟨_, Ent.of_le ⟨by simp, fun w hw => trivial⟩, a', c', C', by rw [hL, List.flatMap_append] at *; exact hO', rfl, rfl⟩

end Go.Proofs.YtakammghcodmgaaGreatDoor
namespace Go.Proofs.YtakammghcodmgaaGreatDoor
open Go Go.Sx
set_option maxRecDepth 100000
set_option maxHeartbeats 4000000
set_option linter.unusedVariables false
set_option linter.unusedSimpArgs false

theorem tsk_tsk (s : Sta) (i : Nat) (x y : Tsk) : (s.tsk i x).tsk i y = s.tsk i y := by
 unfold Sta.tsk
 congr 1
 funext j
 simp only [upd]
 split <;> rfl
theorem tsk_at (s : Sta) (i : Nat) (x : Tsk) : (s.tsk i x).T i = x := if_pos rfl

theorem effReply_spec (S : Sta) (bs : Nat) (t kd : Int) (i : Nat) (hi : i < 32) (k st c res r a2 a3 : Int) (dn : Bool) (dt : Bs) (hT : S.T i = ⟨k, st, c, false, false, dn, res, dt⟩) (hk : k ≠ 0) (hst : st = 1) (e : Int) (he : e = 0) (a : Option Addr) (cap : Nat) (C : List Value) (hO : Sx.Owg 8 S.rc.l.length a cap C (S.rc.l.flatMap enC)) (hrc : S.rc.h = ⟨a, cap⟩) (hl : S.rc.l.length ≤ 100000000) :
 RowsSpec Tryz.prog 163 [.pointer (some ⟨bs, 0, none⟩), .int .i64 t, .agg ⟨efC kd (i : Int) r a2 a3 default⟩] ([(bs, Row.c (staC S))] ++ orow a C) (fun _ => True)
  (fun v F => ∃ a' cap' C', Sx.Owg 8 (S.rc.l.length + 1) a' cap' C' ((S.rc.l ++ [(⟨2, (i : Int), c, 0, 0, 0, r, default⟩ : En)]).flatMap enC) ∧ v = .int .i64 e ∧
   F = ⟨fun _ => True, [(bs, Row.c (staC ((S.rec' ⟨⟨a', cap'⟩, S.rc.l ++ [(⟨2, (i : Int), c, 0, 0, 0, r, default⟩ : En)]⟩).tsk i ⟨k, 0, 0, false, false, true, r, default⟩)))] ++ orow a' C'⟩) := by
 have h1 := end_spec S bs i hi k st c res r false false dn dt hT a cap C hO hrc hl
 have h2 := cloneBy_nil
 have hTc := staC_T S i hi
 rw [hT] at hTc
 have c0 : (staC S)[i * 8 + 0]? = some (.int .i64 k) := cellOf hTc (by decide) rfl
 have c1 : (staC S)[i * 8 + 1]? = some (.int .i64 st) := cellOf hTc (by decide) rfl
 have c4 : (staC S)[i * 8 + 4]? = some (.bool false) := cellOf hTc (by decide) rfl
 obtain ⟨L, hL⟩ : ∃ L, L = S.rc.l ++ [(⟨2, (i : Int), c, 0, 0, 0, r, default⟩ : En)] := ⟨_, rfl⟩
 rw [← hL] at h1 ⊢
 obtain ⟨X, hX⟩ : ∃ X, staC S = X := ⟨_, rfl⟩
 rw [hX] at h1 c0 c1 c4 ⊢
 refine RowsSpec.of_xc tabOk Tryz.func163 rfl (by decide) (n := Tryz.f163.ntmps - 3) rfl rfl rows_CM fun w0 av => ?_
 conv => whnf
 repeat (first | (refine XSame.of ?_; conv => whnf) | (refine XDep.all _ _ _ _ ?_; conv => whnf))
 intro b5
 conv => whnf
 repeat (first | (refine XSame.of ?_; conv => whnf) | (refine XDep.all _ _ _ _ ?_; conv => whnf))
 refine XVal.of_read (XRead.indexArr tabOk rfl rfl rfl i rfl hi rfl ?_)
 conv => whnf
 repeat (first | (refine XSame.of ?_; conv => whnf) | (refine XDep.all _ _ _ _ ?_; conv => whnf))
 refine XVal.of_read (XRead.loadF tabOk rfl rfl (ad := ⟨bs, 0, none⟩) (k := i * 8 + 0) (L := X) (v := .int .i64 k) (Sees.row (by simp)) (fun _ => by simp [Addr.add_none]) c0 ?_)
 conv => whnf
 repeat (first | (refine XSame.of ?_; conv => whnf) | (refine XDep.all _ _ _ _ ?_; conv => whnf))
 rw [show iEq k 0 = false from by simp [iEq_eq, hk]]
 conv => whnf
 repeat (first | (refine XSame.of ?_; conv => whnf) | (refine XDep.all _ _ _ _ ?_; conv => whnf))
 refine XVal.of_read (XRead.loadF tabOk rfl rfl (ad := ⟨bs, 0, none⟩) (k := i * 8 + 1) (L := X) (v := .int .i64 st) (Sees.row (by simp)) (fun _ => by simp [Addr.add_none]) c1 ?_)
 conv => whnf
 repeat (first | (refine XSame.of ?_; conv => whnf) | (refine XDep.all _ _ _ _ ?_; conv => whnf))
 rw [show iNe st 1 = false from by simp [iNe_eq, hst]]
 conv => whnf
 repeat (first | (refine XSame.of ?_; conv => whnf) | (refine XDep.all _ _ _ _ ?_; conv => whnf))
 refine XVal.of_read (XRead.loadF tabOk rfl rfl (ad := ⟨bs, 0, none⟩) (k := i * 8 + 4) (L := X) (v := .bool false) (Sees.row (by simp)) (fun _ => by simp [Addr.add_none]) c4 ?_)
 conv => whnf
 repeat (first | (refine XSame.of ?_; conv => whnf) | (refine XDep.all _ _ _ _ ?_; conv => whnf))
 refine XCall.ent (F' := ⟨fun _ => True, [] ++ ([(bs, Row.c X)] ++ orow a C) ++ []⟩) (Ent.of_le ⟨by simp, fun w hw => trivial⟩) ?_
 refine XCall.rows (r1 := []) (r2 := []) h1 (fun w hw => trivial) (fun v F' hv => ?_)
 obtain ⟨a', c', C', hO', rfl, rfl⟩ := hv
 obtain ⟨S0, hS0⟩ : ∃ S0, S0 = S.rec' ⟨⟨a', c'⟩, L⟩ := ⟨_, rfl⟩
 rw [← hS0]
 obtain ⟨S1, hS1⟩ : ∃ S1, S1 = S0.tsk i ⟨k, 0, 0, false, false, dn, res, dt⟩ := ⟨_, rfl⟩
 rw [← hS1]
 have hT1 : S1.T i = ⟨k, 0, 0, false, false, dn, res, dt⟩ := by rw [hS1]; exact tsk_at _ _ _
 have hTc1 := staC_T S1 i hi
 rw [hT1] at hTc1
 have d3 : (staC S1)[i * 8 + 3]? = some (.bool false) := cellOf hTc1 (by decide) rfl
 have p1 := put_cell S1 hi (j := 5) (by decide) (.bool true) ⟨k, 0, 0, false, false, true, res, dt⟩ (by rw [hT1]; rfl)
 obtain ⟨S2, hS2⟩ : ∃ S2, S2 = S1.tsk i ⟨k, 0, 0, false, false, true, res, dt⟩ := ⟨_, rfl⟩
 rw [← hS2] at p1
 have hT2 : S2.T i = ⟨k, 0, 0, false, false, true, res, dt⟩ := by rw [hS2]; exact tsk_at _ _ _
 have p2 := put_cell S2 hi (j := 6) (by decide) (.int .i64 r) ⟨k, 0, 0, false, false, true, r, dt⟩ (by rw [hT2]; rfl)
 obtain ⟨S3, hS3⟩ : ∃ S3, S3 = S2.tsk i ⟨k, 0, 0, false, false, true, r, dt⟩ := ⟨_, rfl⟩
 rw [← hS3] at p2
 have hT3 : S3.T i = ⟨k, 0, 0, false, false, true, r, dt⟩ := by rw [hS3]; exact tsk_at _ _ _
 have p3 := put_cell S3 hi (j := 7) (by decide) (.slice none 0 0) ⟨k, 0, 0, false, false, true, r, default⟩ (by rw [hT3]; rfl)
 have hfin : S3.tsk i ⟨k, 0, 0, false, false, true, r, default⟩ = S0.tsk i ⟨k, 0, 0, false, false, true, r, default⟩ := by rw [hS3, tsk_tsk, hS2, tsk_tsk, hS1, tsk_tsk]
 rw [hfin] at p3
 have hl1 := staC_len S1
 have hl2 := staC_len S2
 have hl3 := staC_len S3
 obtain ⟨X1, hX1⟩ : ∃ X1, staC S1 = X1 := ⟨_, rfl⟩
 obtain ⟨X2, hX2⟩ : ∃ X2, staC S2 = X2 := ⟨_, rfl⟩
 obtain ⟨X3, hX3⟩ : ∃ X3, staC S3 = X3 := ⟨_, rfl⟩
 rw [hX1] at d3 p1 hl1 ⊢
 rw [hX2] at p1 p2 hl2
 rw [hX3] at p2 p3 hl3
 conv => whnf
 repeat (first | (refine XSame.of ?_; conv => whnf) | (refine XDep.all _ _ _ _ ?_; conv => whnf))
 refine XVal.of_read (XRead.loadF tabOk rfl rfl (ad := ⟨bs, 0, none⟩) (k := i * 8 + 3) (L := X1) (v := .bool false) (Sees.row (by simp)) (fun _ => by simp [Addr.add_none]) d3 ?_)
 conv => whnf
 repeat (first | (refine XSame.of ?_; conv => whnf) | (refine XDep.all _ _ _ _ ?_; conv => whnf))
 refine XStop.draw tabOk mixed rfl rfl ?_
 conv => whnf
 refine XCall.val h2 (fun w hw => trivial) (fun v D hv => ?_)
 subst hv
 conv => whnf
 repeat (first
  | (refine XKeep.of ?_; conv => whnf)
  | (refine XSame.of ?_; conv => whnf))
 refine XUnit.ent (F' := ⟨fun _ => True, [] ++ [(bs, Row.c X1)] ++ orow a' C'⟩) (Ent.of_le ⟨by simp, fun w hw => trivial⟩) ?_
 refine XUnit.storeTo tabOk rfl (b := bs) (k := i * 8 + 5) (X := X2) (by simp [Addr.add_none]) rfl (List.all_eq_true.1 (by rfl)) (by rw [hl1]; show i * 8 + 5 + 1 ≤ 376; omega) p1 ?_
 conv => whnf
 repeat (first
  | (refine XKeep.of ?_; conv => whnf)
  | (refine XSame.of ?_; conv => whnf))
 refine XUnit.storeTo tabOk rfl (b := bs) (k := i * 8 + 6) (X := X3) (by simp [Addr.add_none]) rfl (List.all_eq_true.1 (by rfl)) (by rw [hl2]; show i * 8 + 6 + 1 ≤ 376; omega) p2 ?_
 conv => whnf
 repeat (first
  | (refine XKeep.of ?_; conv => whnf)
  | (refine XSame.of ?_; conv => whnf))
 refine XUnit.storeTo tabOk rfl (b := bs) (k := i * 8 + 7) (X := staC (S0.tsk i ⟨k, 0, 0, false, false, true, r, default⟩)) (by simp [Addr.add_none]) rfl (List.all_eq_true.1 (by rfl)) (by rw [hl3]; show i * 8 + 7 + 1 ≤ 376; omega) p3 ?_
 conv => whnf
 repeat (first | (refine XSame.of ?_; conv => whnf) | (refine XDep.all _ _ _ _ ?_; conv => whnf))
 subst he
 rw [hS0]
 exact ⟨_, Ent.of_le ⟨by simp, fun w hw => trivial⟩, a', c', C', by rw [hL, List.flatMap_append] at *; exact hO', rfl, rfl⟩

end Go.Proofs.YtakammghcodmgaaGreatDoor
namespace Go.Proofs.YtakammghcodmgaaGreatDoor
open Go Go.Sx
set_option maxRecDepth 100000
set_option maxHeartbeats 4000000
set_option linter.unusedVariables false
set_option linter.unusedSimpArgs false

def fnV (f : FuncId) : Value := .func (.func f) #[] #[]
def HANDL : List Value := [.nilFunc, fnV 162, fnV 163, fnV 164, fnV 165, fnV 166, fnV 167, fnV 168, fnV 169, fnV 170, fnV 171,
 fnV 172, fnV 173, fnV 174, fnV 175, fnV 176, fnV 177]

theorem handlers_spec : PureSpec Tryz.prog 100 [] (fun _ => True) (fun v F => v = .agg ⟨HANDL⟩) := by
 refine PureSpec.of_xc tabOk Tryz.func100 rfl (by decide) (n := Tryz.f100.ntmps - 0) rfl rfl fun w0 av => ?_
 conv => whnf
 repeat (first | (refine XSame.of ?_; conv => whnf) | (refine XDep.all _ _ _ _ ?_; conv => whnf))
 intro b0
 conv => whnf
 repeat (first | (refine XSame.of ?_; conv => whnf) | (refine XDep.all _ _ _ _ ?_; conv => whnf))
 exact ⟨_, Ent.refl _, rfl⟩

theorem commit_spec (S : Sta) (bk bs : Nat) (tn : Nat) (htn : tn = 3) (hD : S.D tn = false) (kd : Int) (hkd : kd = 2) (i : Nat) (hi : 16 ≤ i ∧ i < 32) (k st c res r a2 a3 : Int) (dn : Bool) (dt : Bs) (hT : S.T i = ⟨k, st, c, false, false, dn, res, dt⟩) (hk : k ≠ 0) (hst : st = 1)
 (hargs : argsI [117, 42] [(i : Int), r, a2, a3] = true) (hcp : S.cp.Ok) (hcap : capHas S.cp.l (tn : Int) ⟨2, 0, kd⟩ = true)
 (hqd : ∀ x ∈ S.q.l, x.data = default) (hqo : S.q.h.Ok S.q.l.length) (hql : S.q.l.length ≤ 400) (hpo : S.pr.h.Ok S.pr.l.length) (hpl : S.pr.l.length ≤ 100000) (hV : porOk S.q.l S.pr.l = true) (j : Nat) (hj : S.q.l.findIdx? (fun x => iEq x.dst (tn : Int)) = some j)
 (e : Int) (he : e = 0) (a : Option Addr) (cap : Nat) (C : List Value) (hO : Sx.Owg 8 S.rc.l.length a cap C (S.rc.l.flatMap enC)) (hrc : S.rc.h = ⟨a, cap⟩) (hl : S.rc.l.length ≤ 100000000) (b n : Nat) (hn : n = 1) :
 RowsSpec Tryz.prog 50 [.pointer (some ⟨bk, 0, none⟩), .int .i64 (tn : Int), .slice (some ⟨b, 0, none⟩) n n] ([(bk, Row.c [.pointer (some ⟨bs, 0, none⟩)])] ++ orow a C)
  (fun w => RowAt w (some ⟨bs, 0, none⟩) (staC S) ∧ ((RowAt w S.q.h.a (S.q.l.flatMap mgC) ∧ RowAt w S.pr.h.a (S.pr.l.flatMap prC)) ∧ (S.cp.At cpC w ∧ RowAt w (some ⟨b, 0, none⟩) (efC kd (i : Int) r a2 a3 default))))
  (fun v F => ∃ (bn : Nat) (S' : Sta) (a' : Option Addr) (cap' : Nat) (C' : List Value), S'.T i = ⟨k, 0, 0, false, false, true, r, default⟩ ∧ v = .tuple ⟨[.pointer (some ⟨bn, 0, none⟩), .int .i64 e]⟩ ∧
   F = ⟨fun w => RowAt w (some ⟨bn, 0, none⟩) (staC S'), [(bk, Row.c [.pointer (some ⟨bs, 0, none⟩)])] ++ orow a' C'⟩) := by
 have h1 := comp_spec (tn : Int)
 rw [show decide (1 ≤ (tn : Int) ∧ (tn : Int) ≤ 10) = true from by simp; omega] at h1
 have h2 := take_spec S.q.l hqd S.q.h hqo hql S.pr.l S.pr.h hpo hpl hV (tn : Int) j hj e he
 have h3 := effects_ok (tn : Int) kd (i : Int) r a2 a3 default (effReply_ok (tn : Int) kd (by omega) hkd (i : Int) r a2 a3 hargs 0 rfl) b n hn
 have h4 := fun bn => permitted_ok S hcp bn (tn : Int) kd hkd (i : Int) r a2 a3 default hcap b n hn
 have hDc := staC_D S tn (by omega)
 rw [hD] at hDc
 have hg := get_po S
 have hlen := staC_len S
 have hone := staC_one S
 obtain ⟨X, hX⟩ : ∃ X, staC S = X := ⟨_, rfl⟩
 rw [hX] at hlen hone hDc hg h4 ⊢
 obtain ⟨E, hE⟩ : ∃ E : World → Prop, E = fun w => RowAt w (some ⟨bs, 0, none⟩) X ∧ ((RowAt w S.q.h.a (S.q.l.flatMap mgC) ∧ RowAt w S.pr.h.a (S.pr.l.flatMap prC)) ∧ (S.cp.At cpC w ∧ RowAt w (some ⟨b, 0, none⟩) (efC kd (i : Int) r a2 a3 default))) := ⟨_, rfl⟩
 rw [← hE]
 obtain ⟨MJ, hMJ⟩ : ∃ MJ, S.q.l[j]! = MJ := ⟨_, rfl⟩
 rw [hMJ] at h2
 refine RowsSpec.of_xc tabOk Tryz.func50 rfl (by decide) (n := Tryz.f50.ntmps - 3) rfl rfl rows_CM fun w0 av => ?_
 conv => whnf
 repeat (first | (refine XSame.of ?_; conv => whnf) | (refine XDep.all _ _ _ _ ?_; conv => whnf))
 refine XVal.of_read (XRead.ptrNil tabOk (t := 26) rfl rfl ?_)
 conv => whnf
 repeat (first | (refine XSame.of ?_; conv => whnf) | (refine XDep.all _ _ _ _ ?_; conv => whnf))
 refine XCall.val h1 (fun w hw => trivial) (fun v D hv => ?_)
 subst hv
 conv => whnf
 repeat (first | (refine XSame.of ?_; conv => whnf) | (refine XDep.all _ _ _ _ ?_; conv => whnf))
 refine XVal.of_read (XRead.loadF tabOk rfl rfl (ad := ⟨bk, 0, none⟩) (k := 0) (L := [.pointer (some ⟨bs, 0, none⟩)]) (v := .pointer (some ⟨bs, 0, none⟩)) (Sees.row (by simp)) (fun _ => rfl) rfl ?_)
 conv => whnf
 repeat (first | (refine XSame.of ?_; conv => whnf) | (refine XDep.all _ _ _ _ ?_; conv => whnf))
 refine XVal.of_read (XRead.indexArr tabOk rfl rfl rfl tn rfl (by omega) rfl ?_)
 conv => whnf
 repeat (first | (refine XSame.of ?_; conv => whnf) | (refine XDep.all _ _ _ _ ?_; conv => whnf))
 refine XVal.of_read (XRead.loadF tabOk rfl rfl (ad := ⟨bs, 0, none⟩) (k := 256 + tn) (L := X) (v := .bool false) (.fact fun w hw => by have hw : E w := hw; rw [hE] at hw; exact hw.1) (fun _ => by simp [Addr.add_none]) hDc ?_)
 conv => whnf
 repeat (first | (refine XSame.of ?_; conv => whnf) | (refine XDep.all _ _ _ _ ?_; conv => whnf))
 refine XVal.of_read (XRead.loadF tabOk rfl rfl (ad := ⟨bk, 0, none⟩) (k := 0) (L := [.pointer (some ⟨bs, 0, none⟩)]) (v := .pointer (some ⟨bs, 0, none⟩)) (Sees.row (by simp)) (fun _ => rfl) rfl ?_)
 conv => whnf
 repeat (first | (refine XSame.of ?_; conv => whnf) | (refine XDep.all _ _ _ _ ?_; conv => whnf))
 refine XVal.of_read (XRead.loads tabOk (t := 132) rfl rfl (ad := ⟨bs, 0, none⟩) (k := 0) (L := X) (m := X) (.fact fun w hw => by have hw : E w := hw; rw [hE] at hw; exact hw.1) rfl (by rw [List.drop_zero, List.take_of_length_le (by rw [hlen]; exact Nat.le_refl _)]) hlen ?_)
 conv => whnf
 repeat (first | (refine XSame.of ?_; conv => whnf) | (refine XDep.all _ _ _ _ ?_; conv => whnf))
 refine XVal.allocRow tabOk rfl (z := staC zS) (by kernel_rfl) fun bn => ?_
 conv => whnf
 repeat (first | (refine XSame.of ?_; conv => whnf) | (refine XDep.all _ _ _ _ ?_; conv => whnf))
 refine XUnit.ent (F' := ⟨E, ([(bk, Row.c [.pointer (some ⟨bs, 0, none⟩)])] ++ orow a C) ++ [(bn, Row.c (staC zS))] ++ []⟩) (Ent.of_le ⟨by simp, fun w hw => hw⟩) ?_
 refine XUnit.storeTo tabOk rfl (b := bn) (k := 0) (X := X) rfl (by show X.length = 376; exact hlen) (fun u hu => hone u hu) (by rw [staC_len]; exact Nat.le_refl _) (laid_whole (C := X) (z := staC zS) (by rw [hlen, staC_len])) ?_
 conv => whnf
 repeat (first | (refine XSame.of ?_; conv => whnf) | (refine XDep.all _ _ _ _ ?_; conv => whnf))
 refine XVal.of_read (XRead.loads tabOk (t := 111) rfl rfl (ad := ⟨bn, 0, none⟩) (k := 267) (L := X) (m := [S.q.v, S.pr.v]) (Sees.row (by simp)) rfl hg rfl ?_)
 conv => whnf
 repeat (first | (refine XSame.of ?_; conv => whnf) | (refine XDep.all _ _ _ _ ?_; conv => whnf))
 refine XCall.pure h2 (fun w hw => by have hw : E w := hw; rw [hE] at hw; exact hw.2.1) (fun v D hv => ?_)
 obtain ⟨hq', hp', ⟨hqo', hpo'⟩, rfl, rfl⟩ := hv
 conv => whnf
 repeat (first | (refine XSame.of ?_; conv => whnf) | (refine XDep.all _ _ _ _ ?_; conv => whnf))
 intro b9
 conv => whnf
 repeat (first | (refine XSame.of ?_; conv => whnf) | (refine XDep.all _ _ _ _ ?_; conv => whnf))
 intro b10
 conv => whnf
 repeat (first | (refine XSame.of ?_; conv => whnf) | (refine XDep.all _ _ _ _ ?_; conv => whnf))
 rw [show iNe e 0 = false from by simp [iNe_eq, he]]
 conv => whnf
 repeat (first | (refine XSame.of ?_; conv => whnf) | (refine XDep.all _ _ _ _ ?_; conv => whnf))
 refine XCall.val h3 (fun w hw => by have hw : E w := hw.1; rw [hE] at hw; exact hw.2.2.2) (fun v D hv => ?_)
 subst hv
 conv => whnf
 repeat (first | (refine XSame.of ?_; conv => whnf) | (refine XDep.all _ _ _ _ ?_; conv => whnf))
 obtain ⟨Q, hQ⟩ : ∃ Q, S.q.l.eraseIdx j = Q := ⟨_, rfl⟩
 rw [hQ]
 refine XCall.ent (F' := ⟨fun w => E w ∧ (RowAt w hq'.a (Q.flatMap mgC) ∧ RowAt w hp'.a (S.pr.l.flatMap prC)), ([(bk, Row.c [.pointer (some ⟨bs, 0, none⟩)])] ++ orow a C) ++ [(bn, Row.c X)] ++ []⟩) (Ent.of_le ⟨by simp [Fx.and], fun w hw => hw⟩) ?_
 refine XCall.look (h4 bn) ((Loc.row _ _).and ((Loc.row _ _).and (Loc.row _ _))) (fun w hst => ?_) ?_
 · have h5 := hst.now
   have h5 : E w ∧ _ := h5
   have h6 := h5.1
   rw [hE] at h6
   exact ⟨(Sees.row (b := bn) (by simp)) w hst, h6.2.2.1, h6.2.2.2⟩
 conv => whnf
 repeat (first | (refine XSame.of ?_; conv => whnf) | (refine XDep.all _ _ _ _ ?_; conv => whnf))
 have hput : laid X 267 [hq'.v Q.length, hp'.v S.pr.l.length] = staC (S.po ⟨hq', Q⟩ ⟨hp', S.pr.l⟩) := by rw [← hX]; exact put_po S ⟨hq', Q⟩ ⟨hp', S.pr.l⟩
 refine XUnit.storeTo tabOk rfl (b := bn) (k := 267) (X := staC (S.po ⟨hq', Q⟩ ⟨hp', S.pr.l⟩)) rfl rfl (List.all_eq_true.1 (by rfl)) (by rw [hlen]; decide) hput ?_
 obtain ⟨S1, hS1⟩ : ∃ S1, S1 = S.po ⟨hq', Q⟩ ⟨hp', S.pr.l⟩ := ⟨_, rfl⟩
 rw [← hS1]
 have hT1 : S1.T i = ⟨k, st, c, false, false, dn, res, dt⟩ := by rw [hS1]; exact hT
 have hrc1 : S1.rc = S.rc := by rw [hS1]; rfl
 conv => whnf
 repeat (first | (refine XSame.of ?_; conv => whnf) | (refine XDep.all _ _ _ _ ?_; conv => whnf))
 refine XCall.val handlers_spec (fun w hw => trivial) (fun v D hv => ?_)
 subst hv
 conv => whnf
 repeat (first | (refine XSame.of ?_; conv => whnf) | (refine XDep.all _ _ _ _ ?_; conv => whnf))
 intro b12
 conv => whnf
 repeat (first | (refine XSame.of ?_; conv => whnf) | (refine XDep.all _ _ _ _ ?_; conv => whnf))
 refine XStop.rounds tabOk 2 ?_
 conv => whnf
 repeat (first | (refine XSame.of ?_; conv => whnf) | (refine XDep.all _ _ _ _ ?_; conv => whnf))
 refine XIf.yes (by simp [iLt_eq]; omega) ?_
 conv => whnf
 repeat (first | (refine XSame.of ?_; conv => whnf) | (refine XDep.all _ _ _ _ ?_; conv => whnf))
 refine XVal.of_read (XRead.index tabOk (t := 63) rfl rfl rfl (by omega) (by omega) (fun h => by cases h) fun ad had => ?_)
 cases had
 conv => whnf
 repeat (first | (refine XSame.of ?_; conv => whnf) | (refine XDep.all _ _ _ _ ?_; conv => whnf))
 refine XVal.of_read (XRead.loads tabOk (t := 62) rfl rfl (ad := ⟨b, 0, none⟩) (k := 0) (L := efC kd (i : Int) r a2 a3 default) (m := efC kd (i : Int) r a2 a3 default) (.fact fun w hw => by have hw : E w := hw.1; rw [hE] at hw; exact hw.2.2.2) (by simp) rfl rfl ?_)
 subst hkd
 conv => whnf
 repeat (first | (refine XSame.of ?_; conv => whnf) | (refine XDep.all _ _ _ _ ?_; conv => whnf))
 intro b14
 conv => whnf
 repeat (first | (refine XSame.of ?_; conv => whnf) | (refine XDep.all _ _ _ _ ?_; conv => whnf))
 refine XStop.draw tabOk mixed rfl rfl ?_
 conv => whnf
 have h6 := effReply_spec S1 bn (tn : Int) 2 i hi.2 k st c res r a2 a3 dn dt hT1 hk hst e he a cap C (by rw [hrc1]; exact hO) (by rw [hrc1]; exact hrc) (by rw [hrc1]; exact hl)
 refine XCall.ent (F' := ⟨fun _ => True, [(bk, Row.c [.pointer (some ⟨bs, 0, none⟩)])] ++ ([(bn, Row.c (staC S1))] ++ orow a C) ++ []⟩) (Ent.trans (Ent.of_le (F' := ⟨fun _ => True, [(bk, Row.c [.pointer (some ⟨bs, 0, none⟩)])] ++ (orow a C ++ [(bn, Row.c (staC S1))])⟩) ⟨by simp, fun w hw => trivial⟩) (Ent.perm (by rw [List.append_nil]; exact List.Perm.append_left _ List.perm_append_comm))) ?_
 refine XCall.rows (r1 := [(bk, Row.c [.pointer (some ⟨bs, 0, none⟩)])]) (r2 := []) h6 (fun w hw => trivial) (fun v F' hv => ?_)
 obtain ⟨a', c', C', hO', rfl, rfl⟩ := hv
 conv => whnf
 repeat (first | (refine XSame.of ?_; conv => whnf) | (refine XDep.all _ _ _ _ ?_; conv => whnf))
 repeat' (first
  | (refine And.intro ?_ ?_ <;> conv => whnf)
  | (refine XHeld.same rfl ?_; conv => whnf)
  | (refine XHeld.row rfl ?_; conv => whnf)
  | (refine XHeld.call rfl ?_; conv => whnf)
  | (refine XHeld.factCall rfl ?_; conv => whnf)
  | (refine XKeep.of ?_; conv => whnf)
  | (refine XSame.of ?_; conv => whnf)
  | (refine XDep.all _ _ _ _ ?_; conv => whnf)
  | (rw [show iNe e 0 = false from by simp [iNe_eq, he]]; conv => whnf)
  | (refine XHeld.mk ?_ ?_; (focus (first | exact Ent.refl _ | exact Ent.left _ _ | exact Ent.of_le ⟨List.sublist_append_left _ _, fun w h => h⟩ | exact Ent.of_le ⟨List.Sublist.refl _, fun w h => h.1⟩)); conv => whnf))
 refine XIf.no (by rw [wrap_i64 (by omega)]; simp [iLt_eq]; omega) ?_
 conv => whnf
 repeat (first | (refine XSame.of ?_; conv => whnf) | (refine XDep.all _ _ _ _ ?_; conv => whnf))
 obtain ⟨S2, hS2⟩ : ∃ S2, S2 = (S1.rec' ⟨⟨a', c'⟩, S1.rc.l ++ [(⟨2, (i : Int), c, 0, 0, 0, r, default⟩ : En)]⟩).tsk i ⟨k, 0, 0, false, false, true, r, default⟩ := ⟨_, rfl⟩
 rw [← hS2]
 subst he
 refine ⟨_, ?_, bn, S2, a', c', C', by rw [hS2]; exact tsk_at _ _ _, rfl, rfl⟩
 exact Ent.trans (Ent.perm (rs' := (bn, Row.c (staC S2)) :: ([(bk, Row.c [.pointer (some ⟨bs, 0, none⟩)])] ++ orow a' C')) (by simpa using List.Perm.swap _ _ _)) (Ent.trans Ent.share1 (Ent.imp fun w hw => hw.2))

/-- A transaction of one reply. -/
theorem commitK_spec (S : Sta) (bk bs : Nat) (tn : Nat) (htn : tn = 3) (hD : S.D tn = false) (kd : Int) (hkd : kd = 2) (i : Nat) (hi : 16 ≤ i ∧ i < 32) (k st c res r a2 a3 : Int) (dn : Bool) (dt : Bs) (hT : S.T i = ⟨k, st, c, false, false, dn, res, dt⟩) (hk : k ≠ 0) (hst : st = 1)
 (hargs : argsI [117, 42] [(i : Int), r, a2, a3] = true) (hcp : S.cp.Ok) (hcap : capHas S.cp.l (tn : Int) ⟨2, 0, kd⟩ = true)
 (hqd : ∀ x ∈ S.q.l, x.data = default) (hqo : S.q.h.Ok S.q.l.length) (hql : S.q.l.length ≤ 400) (hpo : S.pr.h.Ok S.pr.l.length) (hpl : S.pr.l.length ≤ 100000) (hV : porOk S.q.l S.pr.l = true) (j : Nat) (hj : S.q.l.findIdx? (fun x => iEq x.dst (tn : Int)) = some j)
 (e : Int) (he : e = 0) (a : Option Addr) (cap : Nat) (C : List Value) (hO : Sx.Owg 8 S.rc.l.length a cap C (S.rc.l.flatMap enC)) (hrc : S.rc.h = ⟨a, cap⟩) (hl : S.rc.l.length ≤ 100000000) (b n : Nat) (hn : n = 1) :
 RowsSpec Tryz.prog 18 [.pointer (some ⟨bk, 0, none⟩), .int .i64 (tn : Int), .slice (some ⟨b, 0, none⟩) n n] ([(bk, Row.c [.pointer (some ⟨bs, 0, none⟩)])] ++ orow a C)
  (fun w => RowAt w (some ⟨bs, 0, none⟩) (staC S) ∧ ((RowAt w S.q.h.a (S.q.l.flatMap mgC) ∧ RowAt w S.pr.h.a (S.pr.l.flatMap prC)) ∧ (S.cp.At cpC w ∧ RowAt w (some ⟨b, 0, none⟩) (efC kd (i : Int) r a2 a3 default))))
  (fun v F => ∃ (bn : Nat) (S' : Sta) (a' : Option Addr) (cap' : Nat) (C' : List Value), S'.T i = ⟨k, 0, 0, false, false, true, r, default⟩ ∧ v = .int .i64 e ∧
   F = ⟨fun w => RowAt w (some ⟨bn, 0, none⟩) (staC S'), [(bk, Row.c [.pointer (some ⟨bn, 0, none⟩)])] ++ orow a' C'⟩) := by
 have h1 := commit_spec S bk bs tn htn hD kd hkd i hi k st c res r a2 a3 dn dt hT hk hst hargs hcp hcap hqd hqo hql hpo hpl hV j hj e he a cap C hO hrc hl b n hn
 obtain ⟨E, hE⟩ : ∃ E : World → Prop, E = fun w => RowAt w (some ⟨bs, 0, none⟩) (staC S) ∧ ((RowAt w S.q.h.a (S.q.l.flatMap mgC) ∧ RowAt w S.pr.h.a (S.pr.l.flatMap prC)) ∧ (S.cp.At cpC w ∧ RowAt w (some ⟨b, 0, none⟩) (efC kd (i : Int) r a2 a3 default))) := ⟨_, rfl⟩
 rw [← hE] at h1 ⊢
 refine RowsSpec.of_xc tabOk Tryz.func18 rfl (by decide) (n := Tryz.f18.ntmps - 3) rfl rfl rows_CM fun w0 av => ?_
 conv => whnf
 repeat (first | (refine XSame.of ?_; conv => whnf) | (refine XDep.all _ _ _ _ ?_; conv => whnf))
 refine XCall.ent (F' := ⟨E, [] ++ ([(bk, Row.c [.pointer (some ⟨bs, 0, none⟩)])] ++ orow a C) ++ []⟩) (Ent.of_le ⟨by simp, fun w hw => hw⟩) ?_
 refine XCall.rows (r1 := []) (r2 := []) h1 (fun w hw => hw) (fun v F' hv => ?_)
 obtain ⟨bn, S', a', c', C', hT', rfl, rfl⟩ := hv
 conv => whnf
 repeat (first | (refine XSame.of ?_; conv => whnf) | (refine XDep.all _ _ _ _ ?_; conv => whnf))
 refine XIf.yes (by simp [iEq_eq, he]) ?_
 conv => whnf
 repeat (first | (refine XSame.of ?_; conv => whnf) | (refine XDep.all _ _ _ _ ?_; conv => whnf))
 refine XUnit.ent (F' := ⟨fun w => RowAt w (some ⟨bn, 0, none⟩) (staC S'), [] ++ [(bk, Row.c [.pointer (some ⟨bs, 0, none⟩)])] ++ orow a' C'⟩) (Ent.of_le ⟨by simp, fun w hw => hw.2⟩) ?_
 refine XUnit.storeTo tabOk rfl (b := bk) (k := 0) (X := [.pointer (some ⟨bn, 0, none⟩)]) rfl rfl (List.all_eq_true.1 (by rfl)) (Nat.le_refl _) rfl ?_
 conv => whnf
 repeat (first | (refine XSame.of ?_; conv => whnf) | (refine XDep.all _ _ _ _ ?_; conv => whnf))
 exact ⟨_, Ent.of_le ⟨by simp, fun w hw => hw⟩, bn, S', a', c', C', hT', rfl, rfl⟩

end Go.Proofs.YtakammghcodmgaaGreatDoor
namespace Go.Proofs.YtakammghcodmgaaGreatDoor
open Go Go.Sx
set_option maxRecDepth 100000
set_option maxHeartbeats 4000000
set_option linter.unusedVariables false
set_option linter.unusedSimpArgs false

noncomputable def lnCode : Code := Tryz.f52.body.getD .skip
def lnTm (b1 : Nat) : List SV := [.any, .v (.pointer (some ⟨b1, 0, none⟩))] ++ List.replicate 135 .any
def lnTm2 (b1 : Nat) (hl : Hd) : List SV := [.any, .v (.pointer (some ⟨b1, 0, none⟩)), .any, .any, .any, .any, .any, .any, .any, .any, .any, .any, .v (hl.v 10)] ++ List.replicate 124 .any
def RelLn (v : Value) (F : Fx) : Prop := ∃ (P : List (Ln × Hd)) (a : Addr) (c : Nat), P.map Prod.fst = bootLns ∧ (∀ x ∈ P, x.2.Ok x.1.l.length) ∧ 63 ≤ c ∧ v = .slice (some a) 63 c ∧ F = ⟨fun w => RowAt w (some a) (P.flatMap lhC) ∧ PAt P w, []⟩
noncomputable def lnEnd : Exit → KT := kEnd tab Tryz.f52.results.toList (pureFin RelLn)
def LA (n k : Nat) (w0 : World) (av : Nat → Prop) (b1 : Nat) : Prop := ∀ a cap C P, PG k P a cap C → XStop Tryz.prog w0 (fun _ _ => False) av (cTail n lnCode) (lnTm b1) [] [] ⟨PAt P, [] ++ slotRows b1 k a cap C ++ []⟩ lnEnd
def LB (n k : Nat) (w0 : World) (av : Nat → Prop) (b1 : Nat) : Prop := ∀ hl a cap C P, hl.Ok 10 → PG k P a cap C → XStop Tryz.prog w0 (fun _ _ => False) av (cTail n lnCode) (lnTm2 b1 hl) [] [] ⟨fun w => PAt P w ∧ RowAt w hl.a ((compL 1).map numV), [] ++ slotRows b1 k a cap C ++ []⟩ lnEnd

section
variable {w0 : World} {av : Nat → Prop} {b1 : Nat}
theorem hv_ok (h : Hd) (m : Nat) : (h.v m).cells.toList = [h.v m] ∧ oneCell (h.v m) = true ∧ ∃ h' m', h.v m = Hd.v h' m' := ⟨rfl, rfl, h, m, rfl⟩
theorem hd_new (b m : Nat) : (⟨some ⟨b, 0, none⟩, m⟩ : Hd).Ok m := ⟨fun h => (by cases h), Nat.le_refl _⟩

theorem ln2 (h : LA 3 4 w0 av b1) : LA 2 0 w0 av b1 := by
 intro a cap C P g
 refine XStop.cutN tabOk 1 (ι := Option Addr × Nat × List Value × List (Ln × Hd)) (fun x => PG 4 x.2.2.2 x.1 x.2.1 x.2.2.1) (fun _ => lnTm b1) (fun _ => []) (fun x => ⟨PAt x.2.2.2, [] ++ slotRows b1 4 x.1 x.2.1 x.2.2.1 ++ []⟩) ?_ ?_
 rotate_left
 · intro x hx bs' hbs'
   obtain rfl := List.eq_nil_of_length_eq_zero hbs'
   rw [cTail_add]
   exact h x.1 x.2.1 x.2.2.1 x.2.2.2 hx
 · conv => whnf
   repeat (first | (refine XSame.of ?_; conv => whnf) | (refine XDep.all _ _ _ _ ?_; conv => whnf))
   refine XVal.build tabOk rfl rfl rfl [.int .i64 3, .int .i64 4, .int .i64 5, .int .i64 10] rfl rfl (by simp [Value.cells]) (by decide) fun bv => ?_
   conv => whnf
   repeat (first | (refine XSame.of ?_; conv => whnf) | (refine XDep.all _ _ _ _ ?_; conv => whnf))
   obtain ⟨hv, hhv⟩ : ∃ hv : Hd, hv = ⟨some ⟨bv, 0, none⟩, 4⟩ := ⟨_, rfl⟩
   have hvo : hv.Ok 4 := by rw [hhv]; exact hd_new _ _
   have hva : hv.a = some ⟨bv, 0, none⟩ := by rw [hhv]
   obtain ⟨L, hL⟩ : ∃ L : List Int, L = [3, 4, 5, 10] := ⟨_, rfl⟩
   have hE : Ent (⟨PAt P, ([] ++ slotRows b1 0 a cap C ++ []) ++ [(bv, Row.c [.int .i64 3, .int .i64 4, .int .i64 5, .int .i64 10])]⟩ : Fx) ⟨fun w => PAt P w ∧ RowAt w hv.a (L.map numV), [] ++ slotRows b1 (0 + 0) a cap C ++ []⟩ := by rw [hhv, hL]; exact Ent.shareLast
   have hLl : L.length = 4 := by rw [hL]; decide
   have hLn : ∀ i, i < 4 → bootLns[0 + i]? = some ⟨1, L[i]!, 1, []⟩ := by rw [hL]; decide
   refine XStop.loop tabOk (ι := Nat × Option Addr × Nat × List Value × List (Ln × Hd)) ([3, 17] ++ List.range' 18 7) (fun x => x.1 ≤ 4 ∧ PG (0 + x.1) x.2.2.2.2 x.2.1 x.2.2.1 x.2.2.2.1) (fun x => [(17, .v (.int .i64 (x.1 : Int)))]) (fun _ => [])
    (fun x => ⟨fun w => PAt x.2.2.2.2 w ∧ RowAt w hv.a (L.map numV), [] ++ slotRows b1 (0 + x.1) x.2.1 x.2.2.1 x.2.2.2.1 ++ []⟩) (fun x => 4 - x.1) (0, a, cap, C, P) ⟨Nat.zero_le _, g⟩ ?_ rfl (Ent.trans (Ent.of_le ⟨by simp [Value.cells], fun w hw => hw⟩) hE) fun x hx => ?_
   · conv => whnf
     repeat (first | exact FLe.nil | refine FLe.any ?_ | refine FLe.cons ?_)
   clear g hE
   obtain ⟨i, a, cap, C, P⟩ := x
   obtain ⟨hi, g⟩ := hx
   dsimp only at hi g ⊢
   have hl := g.len
   have hO := g.own
   rw [hl] at hO
   conv => whnf
   repeat (first | (refine XSame.of ?_; conv => whnf) | (refine XDep.all _ _ _ _ ?_; conv => whnf))
   refine XIf.split (fun hlt => ?_) (fun hlt => ?_)
   · have hlt' : i < 4 := by
      simp [iLt_eq] at hlt
      omega
     have hx := hLn i hlt'
     have hLi : L[i]! = L[i] := by simp [hLl, hlt']
     rw [hLi] at hx
     conv => whnf
     repeat (first | (refine XSame.of ?_; conv => whnf) | (refine XDep.all _ _ _ _ ?_; conv => whnf))
     refine XVal.of_read (XRead.index tabOk rfl rfl rfl (by omega) (by omega) (fun h => by cases h) fun ad had => ?_)
     conv => whnf
     repeat (first | (refine XSame.of ?_; conv => whnf) | (refine XDep.all _ _ _ _ ?_; conv => whnf))
     refine XVal.of_read (XRead.load tabOk rfl rfl (ad := ad) (k := i) (L := L.map numV) (v := .int .i64 L[i]) (.fact fun w hw => by rw [← had, ← hva]; exact hw.2) (by simp) (by rw [List.getElem?_map, List.getElem?_eq_getElem (by omega)]; rfl) ?_)
     conv => whnf
     repeat (first | (refine XSame.of ?_; conv => whnf) | (refine XDep.all _ _ _ _ ?_; conv => whnf))
     refine XCall.rows (send_spec b1 (0 + i) a cap C _ hO (by omega) 1 L[i] (Hd.v Hd.nil 0) (hv_ok _ _)) (fun w hw => trivial) (fun v F hv' => ?_)
     obtain ⟨a', c', C', hO', rfl⟩ := hv'
     conv => whnf
     repeat (first | (refine XSame.of ?_; conv => whnf) | (refine XDep.all _ _ _ _ ?_; conv => whnf))
     refine ⟨(i + 1, a', c', C', P ++ [(⟨1, L[i], 1, []⟩, Hd.nil)]), ⟨⟨hlt', g.next hx Hd.nil_ok (by rw [hl]; exact hO')⟩, by dsimp only; omega⟩, ?_, ?_, Ent.of_le ⟨by first | exact List.Sublist.refl _ | simp, fun w hw => ⟨hw.1.1.next (show RowAt w Hd.nil.a (([] : List Int).map numV) from rfl), hw.1.2⟩⟩⟩
     · conv => whnf
       refine ⟨?_, rfl⟩
       repeat (first | exact FLe.nil | refine FLe.any ?_ | refine FLe.cons ?_ | refine FLe.eq (by rw [wrap_i64 (by omega)]; rfl) ?_)
     · conv => whnf
       exact trivial
   · have hie : i = 4 := by
      simp [iLt_eq] at hlt
      omega
     subst hie
     conv => whnf
     repeat (first | (refine XSame.of ?_; conv => whnf) | (refine XDep.all _ _ _ _ ?_; conv => whnf))
     refine ⟨(a, cap, C, P), g, [], ⟨by decide, by simp, rfl⟩, ?_, Ent.of_le ⟨List.Sublist.refl _, fun w hw => hw.1⟩⟩
     repeat (first | exact FLe.nil | refine FLe.any ?_ | refine FLe.cons ?_)

theorem ln3 (h : LA 4 13 w0 av b1) : LA 3 4 w0 av b1 := by
 intro a cap C P g
 refine XStop.cutN tabOk 1 (ι := Option Addr × Nat × List Value × List (Ln × Hd)) (fun x => PG 13 x.2.2.2 x.1 x.2.1 x.2.2.1) (fun _ => lnTm b1) (fun _ => []) (fun x => ⟨PAt x.2.2.2, [] ++ slotRows b1 13 x.1 x.2.1 x.2.2.1 ++ []⟩) ?_ ?_
 rotate_left
 · intro x hx bs' hbs'
   obtain rfl := List.eq_nil_of_length_eq_zero hbs'
   rw [cTail_add]
   exact h x.1 x.2.1 x.2.2.1 x.2.2.2 hx
 · conv => whnf
   repeat (first | (refine XSame.of ?_; conv => whnf) | (refine XDep.all _ _ _ _ ?_; conv => whnf))
   refine XCall.pure (components_spec 2 (by decide)) (fun w hw => trivial) (fun v F hv => ?_)
   obtain ⟨hv, hvo, rfl, rfl⟩ := hv
   conv => whnf
   repeat (first | (refine XSame.of ?_; conv => whnf) | (refine XDep.all _ _ _ _ ?_; conv => whnf))
   obtain ⟨L, hL⟩ : ∃ L : List Int, L = compL 2 := ⟨_, rfl⟩
   have hE : Ent (⟨fun w => PAt P w ∧ RowAt w hv.a ((compL 2).map numV), [] ++ slotRows b1 4 a cap C ++ []⟩ : Fx) ⟨fun w => PAt P w ∧ RowAt w hv.a (L.map numV), [] ++ slotRows b1 (4 + 0) a cap C ++ []⟩ := by rw [hL]; exact Ent.refl _
   have hLl : L.length = 9 := by rw [hL]; decide
   have hLn : ∀ i, i < 9 → bootLns[4 + i]? = some ⟨1, L[i]!, 6, [1]⟩ := by rw [hL]; decide
   refine XStop.loop tabOk (ι := Nat × Option Addr × Nat × List Value × List (Ln × Hd)) ([5, 26] ++ List.range' 27 7) (fun x => x.1 ≤ 9 ∧ PG (4 + x.1) x.2.2.2.2 x.2.1 x.2.2.1 x.2.2.2.1) (fun x => [(26, .v (.int .i64 (x.1 : Int)))]) (fun _ => [])
    (fun x => ⟨fun w => PAt x.2.2.2.2 w ∧ RowAt w hv.a (L.map numV), [] ++ slotRows b1 (4 + x.1) x.2.1 x.2.2.1 x.2.2.2.1 ++ []⟩) (fun x => 9 - x.1) (0, a, cap, C, P) ⟨Nat.zero_le _, g⟩ ?_ rfl (Ent.trans (Ent.of_le (F' := ⟨fun w => PAt P w ∧ RowAt w hv.a ((compL 2).map numV), [] ++ slotRows b1 4 a cap C ++ []⟩) ⟨by simp [Fx.and], fun w hw => hw⟩) hE) fun x hx => ?_
   · conv => whnf
     repeat (first | exact FLe.nil | refine FLe.any ?_ | refine FLe.cons ?_)
   clear g hE
   obtain ⟨i, a, cap, C, P⟩ := x
   obtain ⟨hi, g⟩ := hx
   dsimp only at hi g ⊢
   have hl := g.len
   have hO := g.own
   rw [hl] at hO
   conv => whnf
   repeat (first | (refine XSame.of ?_; conv => whnf) | (refine XDep.all _ _ _ _ ?_; conv => whnf))
   refine XIf.split (fun hlt => ?_) (fun hlt => ?_)
   · have hlt' : i < 9 := by
      simp [iLt_eq, compL] at hlt
      omega
     have hx := hLn i hlt'
     have hLi : L[i]! = L[i] := by simp [hLl, hlt']
     rw [hLi] at hx
     conv => whnf
     repeat (first | (refine XSame.of ?_; conv => whnf) | (refine XDep.all _ _ _ _ ?_; conv => whnf))
     refine XVal.of_read (XRead.index tabOk rfl rfl rfl (by omega) (by show (i : Int) < (((compL 2).length : Nat) : Int); rw [← hL, hLl]; omega) hvo.nil fun ad had => ?_)
     conv => whnf
     repeat (first | (refine XSame.of ?_; conv => whnf) | (refine XDep.all _ _ _ _ ?_; conv => whnf))
     refine XVal.of_read (XRead.load tabOk rfl rfl (ad := ad) (k := i) (L := L.map numV) (v := .int .i64 L[i]) (.fact fun w hw => had ▸ hw.2) (by simp) (by rw [List.getElem?_map, List.getElem?_eq_getElem (by omega)]; rfl) ?_)
     conv => whnf
     repeat (first | (refine XSame.of ?_; conv => whnf) | (refine XDep.all _ _ _ _ ?_; conv => whnf))
     refine XVal.build tabOk rfl rfl rfl [.int .i64 1] rfl rfl (by simp [Value.cells]) (by decide) fun bh => ?_
     conv => whnf
     repeat (first | (refine XSame.of ?_; conv => whnf) | (refine XDep.all _ _ _ _ ?_; conv => whnf))
     refine XCall.ent (F' := ⟨fun w => (PAt P w ∧ RowAt w hv.a (L.map numV)) ∧ RowAt w (some ⟨bh, 0, none⟩) [.int .i64 1], [] ++ slotRows b1 (4 + i) a cap C ++ []⟩) (Ent.trans (Ent.of_le (F' := ⟨fun w => PAt P w ∧ RowAt w hv.a (L.map numV), ([] ++ slotRows b1 (4 + i) a cap C ++ []) ++ [(bh, Row.c [.int .i64 1])]⟩) ⟨by simp [Value.cells], fun w hw => hw⟩) Ent.shareLast) ?_
     refine XCall.rows (send_spec b1 (4 + i) a cap C _ hO (by omega) 6 L[i] (Hd.v ⟨some ⟨bh, 0, none⟩, 1⟩ 1) (hv_ok _ _)) (fun w hw => trivial) (fun v F hv' => ?_)
     obtain ⟨a', c', C', hO', rfl⟩ := hv'
     conv => whnf
     repeat (first | (refine XSame.of ?_; conv => whnf) | (refine XDep.all _ _ _ _ ?_; conv => whnf))
     refine ⟨(i + 1, a', c', C', P ++ [(⟨1, L[i], 6, [1]⟩, ⟨some ⟨bh, 0, none⟩, 1⟩)]), ⟨⟨hlt', g.next hx (hd_new _ _) (by rw [hl]; exact hO')⟩, by dsimp only; omega⟩, ?_, ?_, Ent.of_le ⟨by first | exact List.Sublist.refl _ | simp, fun w hw => ⟨hw.1.1.1.next hw.1.2, hw.1.1.2⟩⟩⟩
     · conv => whnf
       refine ⟨?_, rfl⟩
       repeat (first | exact FLe.nil | refine FLe.any ?_ | refine FLe.cons ?_ | refine FLe.eq (by rw [wrap_i64 (by omega)]; rfl) ?_)
     · conv => whnf
       exact trivial
   · have hie : i = 9 := by
      simp [iLt_eq, compL] at hlt
      omega
     subst hie
     conv => whnf
     repeat (first | (refine XSame.of ?_; conv => whnf) | (refine XDep.all _ _ _ _ ?_; conv => whnf))
     refine ⟨(a, cap, C, P), g, [], ⟨by decide, by simp, rfl⟩, ?_, Ent.of_le ⟨List.Sublist.refl _, fun w hw => hw.1⟩⟩
     repeat (first | exact FLe.nil | refine FLe.any ?_ | refine FLe.cons ?_)

theorem ln4 (h : LA 5 14 w0 av b1) : LA 4 13 w0 av b1 := by
 intro a cap C P g
 refine XStop.cutN tabOk 1 (ι := Option Addr × Nat × List Value × List (Ln × Hd)) (fun x => PG 14 x.2.2.2 x.1 x.2.1 x.2.2.1) (fun _ => lnTm b1) (fun _ => []) (fun x => ⟨PAt x.2.2.2, [] ++ slotRows b1 14 x.1 x.2.1 x.2.2.1 ++ []⟩) ?_ ?_
 rotate_left
 · intro x hx bs' hbs'
   obtain rfl := List.eq_nil_of_length_eq_zero hbs'
   rw [cTail_add]
   exact h x.1 x.2.1 x.2.2.1 x.2.2.2 hx
 · have hl := g.len
   have hO := g.own
   rw [hl] at hO
   conv => whnf
   repeat (first | (refine XSame.of ?_; conv => whnf) | (refine XDep.all _ _ _ _ ?_; conv => whnf))
   refine XCall.pure (components_spec 2 (by decide)) (fun w hw => trivial) (fun v F hv => ?_)
   obtain ⟨hh, hho, rfl, rfl⟩ := hv
   conv => whnf
   repeat (first | (refine XSame.of ?_; conv => whnf) | (refine XDep.all _ _ _ _ ?_; conv => whnf))
   refine XCall.ent (F' := ⟨fun w => PAt P w ∧ RowAt w hh.a ((compL 2).map numV), [] ++ slotRows b1 13 a cap C ++ []⟩) (Ent.of_le ⟨by simp [Fx.and], fun w hw => hw⟩) ?_
   refine XCall.rows (send_spec b1 13 a cap C _ hO (by decide) 7 1 (Hd.v hh (compL 2).length) (hv_ok _ _)) (fun w hw => trivial) (fun v F hv => ?_)
   obtain ⟨a', c', C', hO', rfl⟩ := hv
   conv => whnf
   repeat (first | (refine XSame.of ?_; conv => whnf) | (refine XDep.all _ _ _ _ ?_; conv => whnf))
   refine ⟨(a', c', C', P ++ [(⟨1, 1, 7, compL 2⟩, hh)]), g.next rfl hho (by rw [hl]; exact hO'), [], ⟨by decide, by simp, rfl⟩, ?_, Ent.of_le ⟨by simp, fun w hw => hw.1.1.next hw.1.2⟩⟩
   repeat (first | exact FLe.nil | refine FLe.any ?_ | refine FLe.cons ?_)

theorem ln5 (h : LA 6 17 w0 av b1) : LA 5 14 w0 av b1 := by
 intro a cap C P g
 refine XStop.cutN tabOk 1 (ι := Option Addr × Nat × List Value × List (Ln × Hd)) (fun x => PG 17 x.2.2.2 x.1 x.2.1 x.2.2.1) (fun _ => lnTm b1) (fun _ => []) (fun x => ⟨PAt x.2.2.2, [] ++ slotRows b1 17 x.1 x.2.1 x.2.2.1 ++ []⟩) ?_ ?_
 rotate_left
 · intro x hx bs' hbs'
   obtain rfl := List.eq_nil_of_length_eq_zero hbs'
   rw [cTail_add]
   exact h x.1 x.2.1 x.2.2.1 x.2.2.2 hx
 · conv => whnf
   repeat (first | (refine XSame.of ?_; conv => whnf) | (refine XDep.all _ _ _ _ ?_; conv => whnf))
   refine XVal.build tabOk rfl rfl rfl [.int .i64 8, .int .i64 9, .int .i64 10] rfl rfl (by simp [Value.cells]) (by decide) fun bv => ?_
   conv => whnf
   repeat (first | (refine XSame.of ?_; conv => whnf) | (refine XDep.all _ _ _ _ ?_; conv => whnf))
   obtain ⟨hv, hhv⟩ : ∃ hv : Hd, hv = ⟨some ⟨bv, 0, none⟩, 3⟩ := ⟨_, rfl⟩
   have hvo : hv.Ok 3 := by rw [hhv]; exact hd_new _ _
   have hva : hv.a = some ⟨bv, 0, none⟩ := by rw [hhv]
   obtain ⟨L, hL⟩ : ∃ L : List Int, L = [8, 9, 10] := ⟨_, rfl⟩
   have hE : Ent (⟨PAt P, ([] ++ slotRows b1 14 a cap C ++ []) ++ [(bv, Row.c [.int .i64 8, .int .i64 9, .int .i64 10])]⟩ : Fx) ⟨fun w => PAt P w ∧ RowAt w hv.a (L.map numV), [] ++ slotRows b1 (14 + 0) a cap C ++ []⟩ := by rw [hhv, hL]; exact Ent.shareLast
   have hLl : L.length = 3 := by rw [hL]; decide
   have hLn : ∀ i, i < 3 → bootLns[14 + i]? = some ⟨1, 4, L[i]!, [3]⟩ := by rw [hL]; decide
   refine XStop.loop tabOk (ι := Nat × Option Addr × Nat × List Value × List (Ln × Hd)) ([7, 38] ++ List.range' 39 7) (fun x => x.1 ≤ 3 ∧ PG (14 + x.1) x.2.2.2.2 x.2.1 x.2.2.1 x.2.2.2.1) (fun x => [(38, .v (.int .i64 (x.1 : Int)))]) (fun _ => [])
    (fun x => ⟨fun w => PAt x.2.2.2.2 w ∧ RowAt w hv.a (L.map numV), [] ++ slotRows b1 (14 + x.1) x.2.1 x.2.2.1 x.2.2.2.1 ++ []⟩) (fun x => 3 - x.1) (0, a, cap, C, P) ⟨Nat.zero_le _, g⟩ ?_ rfl (Ent.trans (Ent.of_le ⟨by simp [Value.cells], fun w hw => hw⟩) hE) fun x hx => ?_
   · conv => whnf
     repeat (first | exact FLe.nil | refine FLe.any ?_ | refine FLe.cons ?_)
   clear g hE
   obtain ⟨i, a, cap, C, P⟩ := x
   obtain ⟨hi, g⟩ := hx
   dsimp only at hi g ⊢
   have hl := g.len
   have hO := g.own
   rw [hl] at hO
   conv => whnf
   repeat (first | (refine XSame.of ?_; conv => whnf) | (refine XDep.all _ _ _ _ ?_; conv => whnf))
   refine XIf.split (fun hlt => ?_) (fun hlt => ?_)
   · have hlt' : i < 3 := by
      simp [iLt_eq] at hlt
      omega
     have hx := hLn i hlt'
     have hLi : L[i]! = L[i] := by simp [hLl, hlt']
     rw [hLi] at hx
     conv => whnf
     repeat (first | (refine XSame.of ?_; conv => whnf) | (refine XDep.all _ _ _ _ ?_; conv => whnf))
     refine XVal.of_read (XRead.index tabOk rfl rfl rfl (by omega) (by omega) (fun h => by cases h) fun ad had => ?_)
     conv => whnf
     repeat (first | (refine XSame.of ?_; conv => whnf) | (refine XDep.all _ _ _ _ ?_; conv => whnf))
     refine XVal.of_read (XRead.load tabOk rfl rfl (ad := ad) (k := i) (L := L.map numV) (v := .int .i64 L[i]) (.fact fun w hw => by rw [← had, ← hva]; exact hw.2) (by simp) (by rw [List.getElem?_map, List.getElem?_eq_getElem (by omega)]; rfl) ?_)
     conv => whnf
     repeat (first | (refine XSame.of ?_; conv => whnf) | (refine XDep.all _ _ _ _ ?_; conv => whnf))
     refine XVal.build tabOk rfl rfl rfl [.int .i64 3] rfl rfl (by simp [Value.cells]) (by decide) fun bh => ?_
     conv => whnf
     repeat (first | (refine XSame.of ?_; conv => whnf) | (refine XDep.all _ _ _ _ ?_; conv => whnf))
     refine XCall.ent (F' := ⟨fun w => (PAt P w ∧ RowAt w hv.a (L.map numV)) ∧ RowAt w (some ⟨bh, 0, none⟩) [.int .i64 3], [] ++ slotRows b1 (14 + i) a cap C ++ []⟩) (Ent.trans (Ent.of_le (F' := ⟨fun w => PAt P w ∧ RowAt w hv.a (L.map numV), ([] ++ slotRows b1 (14 + i) a cap C ++ []) ++ [(bh, Row.c [.int .i64 3])]⟩) ⟨by simp [Value.cells], fun w hw => hw⟩) Ent.shareLast) ?_
     refine XCall.rows (send_spec b1 (14 + i) a cap C _ hO (by omega) L[i] 4 (Hd.v ⟨some ⟨bh, 0, none⟩, 1⟩ 1) (hv_ok _ _)) (fun w hw => trivial) (fun v F hv' => ?_)
     obtain ⟨a', c', C', hO', rfl⟩ := hv'
     conv => whnf
     repeat (first | (refine XSame.of ?_; conv => whnf) | (refine XDep.all _ _ _ _ ?_; conv => whnf))
     refine ⟨(i + 1, a', c', C', P ++ [(⟨1, 4, L[i], [3]⟩, ⟨some ⟨bh, 0, none⟩, 1⟩)]), ⟨⟨hlt', g.next hx (hd_new _ _) (by rw [hl]; exact hO')⟩, by dsimp only; omega⟩, ?_, ?_, Ent.of_le ⟨by first | exact List.Sublist.refl _ | simp, fun w hw => ⟨hw.1.1.1.next hw.1.2, hw.1.1.2⟩⟩⟩
     · conv => whnf
       refine ⟨?_, rfl⟩
       repeat (first | exact FLe.nil | refine FLe.any ?_ | refine FLe.cons ?_ | refine FLe.eq (by rw [wrap_i64 (by omega)]; rfl) ?_)
     · conv => whnf
       exact trivial
   · have hie : i = 3 := by
      simp [iLt_eq] at hlt
      omega
     subst hie
     conv => whnf
     repeat (first | (refine XSame.of ?_; conv => whnf) | (refine XDep.all _ _ _ _ ?_; conv => whnf))
     refine ⟨(a, cap, C, P), g, [], ⟨by decide, by simp, rfl⟩, ?_, Ent.of_le ⟨List.Sublist.refl _, fun w hw => hw.1⟩⟩
     repeat (first | exact FLe.nil | refine FLe.any ?_ | refine FLe.cons ?_)

theorem ln6 (h : LA 7 18 w0 av b1) : LA 6 17 w0 av b1 := by
 intro a cap C P g
 refine XStop.cutN tabOk 1 (ι := Option Addr × Nat × List Value × List (Ln × Hd)) (fun x => PG 18 x.2.2.2 x.1 x.2.1 x.2.2.1) (fun _ => lnTm b1) (fun _ => []) (fun x => ⟨PAt x.2.2.2, [] ++ slotRows b1 18 x.1 x.2.1 x.2.2.1 ++ []⟩) ?_ ?_
 rotate_left
 · intro x hx bs' hbs'
   obtain rfl := List.eq_nil_of_length_eq_zero hbs'
   rw [cTail_add]
   exact h x.1 x.2.1 x.2.2.1 x.2.2.2 hx
 · have hl := g.len
   have hO := g.own
   rw [hl] at hO
   conv => whnf
   repeat (first | (refine XSame.of ?_; conv => whnf) | (refine XDep.all _ _ _ _ ?_; conv => whnf))
   refine XVal.build tabOk rfl rfl rfl [.int .i64 4] rfl rfl (by simp [Value.cells]) (by decide) fun bh => ?_
   conv => whnf
   repeat (first | (refine XSame.of ?_; conv => whnf) | (refine XDep.all _ _ _ _ ?_; conv => whnf))
   refine XCall.ent (F' := ⟨fun w => PAt P w ∧ RowAt w (some ⟨bh, 0, none⟩) [.int .i64 4], [] ++ slotRows b1 17 a cap C ++ []⟩) (Ent.trans (Ent.of_le (F' := ⟨PAt P, ([] ++ slotRows b1 17 a cap C ++ []) ++ [(bh, Row.c [.int .i64 4])]⟩) ⟨by simp [Value.cells], fun w hw => hw⟩) Ent.shareLast) ?_
   refine XCall.rows (send_spec b1 17 a cap C _ hO (by decide) 11 3 (Hd.v ⟨some ⟨bh, 0, none⟩, 1⟩ 1) (hv_ok _ _)) (fun w hw => trivial) (fun v F hv => ?_)
   obtain ⟨a', c', C', hO', rfl⟩ := hv
   conv => whnf
   repeat (first | (refine XSame.of ?_; conv => whnf) | (refine XDep.all _ _ _ _ ?_; conv => whnf))
   refine ⟨(a', c', C', P ++ [(⟨1, 3, 11, [4]⟩, ⟨some ⟨bh, 0, none⟩, 1⟩)]), g.next rfl (hd_new _ _) (by rw [hl]; exact hO'), [], ⟨by decide, by simp, rfl⟩, ?_, Ent.of_le ⟨by simp, fun w hw => hw.1.1.next hw.1.2⟩⟩
   repeat (first | exact FLe.nil | refine FLe.any ?_ | refine FLe.cons ?_)

theorem ln7 (h : LA 8 21 w0 av b1) : LA 7 18 w0 av b1 := by
 intro a cap C P g
 refine XStop.cutN tabOk 1 (ι := Option Addr × Nat × List Value × List (Ln × Hd)) (fun x => PG 21 x.2.2.2 x.1 x.2.1 x.2.2.1) (fun _ => lnTm b1) (fun _ => []) (fun x => ⟨PAt x.2.2.2, [] ++ slotRows b1 21 x.1 x.2.1 x.2.2.1 ++ []⟩) ?_ ?_
 rotate_left
 · intro x hx bs' hbs'
   obtain rfl := List.eq_nil_of_length_eq_zero hbs'
   rw [cTail_add]
   exact h x.1 x.2.1 x.2.2.1 x.2.2.2 hx
 · conv => whnf
   repeat (first | (refine XSame.of ?_; conv => whnf) | (refine XDep.all _ _ _ _ ?_; conv => whnf))
   refine XVal.build tabOk rfl rfl rfl [.int .i64 12, .int .i64 13, .int .i64 14] rfl rfl (by simp [Value.cells]) (by decide) fun bv => ?_
   conv => whnf
   repeat (first | (refine XSame.of ?_; conv => whnf) | (refine XDep.all _ _ _ _ ?_; conv => whnf))
   obtain ⟨hv, hhv⟩ : ∃ hv : Hd, hv = ⟨some ⟨bv, 0, none⟩, 3⟩ := ⟨_, rfl⟩
   have hvo : hv.Ok 3 := by rw [hhv]; exact hd_new _ _
   have hva : hv.a = some ⟨bv, 0, none⟩ := by rw [hhv]
   obtain ⟨L, hL⟩ : ∃ L : List Int, L = [12, 13, 14] := ⟨_, rfl⟩
   have hE : Ent (⟨PAt P, ([] ++ slotRows b1 18 a cap C ++ []) ++ [(bv, Row.c [.int .i64 12, .int .i64 13, .int .i64 14])]⟩ : Fx) ⟨fun w => PAt P w ∧ RowAt w hv.a (L.map numV), [] ++ slotRows b1 (18 + 0) a cap C ++ []⟩ := by rw [hhv, hL]; exact Ent.shareLast
   have hLl : L.length = 3 := by rw [hL]; decide
   have hLn : ∀ i, i < 3 → bootLns[18 + i]? = some ⟨1, 5, L[i]!, [3]⟩ := by rw [hL]; decide
   refine XStop.loop tabOk (ι := Nat × Option Addr × Nat × List Value × List (Ln × Hd)) ([9, 50] ++ List.range' 51 7) (fun x => x.1 ≤ 3 ∧ PG (18 + x.1) x.2.2.2.2 x.2.1 x.2.2.1 x.2.2.2.1) (fun x => [(50, .v (.int .i64 (x.1 : Int)))]) (fun _ => [])
    (fun x => ⟨fun w => PAt x.2.2.2.2 w ∧ RowAt w hv.a (L.map numV), [] ++ slotRows b1 (18 + x.1) x.2.1 x.2.2.1 x.2.2.2.1 ++ []⟩) (fun x => 3 - x.1) (0, a, cap, C, P) ⟨Nat.zero_le _, g⟩ ?_ rfl (Ent.trans (Ent.of_le ⟨by simp [Value.cells], fun w hw => hw⟩) hE) fun x hx => ?_
   · conv => whnf
     repeat (first | exact FLe.nil | refine FLe.any ?_ | refine FLe.cons ?_)
   clear g hE
   obtain ⟨i, a, cap, C, P⟩ := x
   obtain ⟨hi, g⟩ := hx
   dsimp only at hi g ⊢
   have hl := g.len
   have hO := g.own
   rw [hl] at hO
   conv => whnf
   repeat (first | (refine XSame.of ?_; conv => whnf) | (refine XDep.all _ _ _ _ ?_; conv => whnf))
   refine XIf.split (fun hlt => ?_) (fun hlt => ?_)
   · have hlt' : i < 3 := by
      simp [iLt_eq] at hlt
      omega
     have hx := hLn i hlt'
     have hLi : L[i]! = L[i] := by simp [hLl, hlt']
     rw [hLi] at hx
     conv => whnf
     repeat (first | (refine XSame.of ?_; conv => whnf) | (refine XDep.all _ _ _ _ ?_; conv => whnf))
     refine XVal.of_read (XRead.index tabOk rfl rfl rfl (by omega) (by omega) (fun h => by cases h) fun ad had => ?_)
     conv => whnf
     repeat (first | (refine XSame.of ?_; conv => whnf) | (refine XDep.all _ _ _ _ ?_; conv => whnf))
     refine XVal.of_read (XRead.load tabOk rfl rfl (ad := ad) (k := i) (L := L.map numV) (v := .int .i64 L[i]) (.fact fun w hw => by rw [← had, ← hva]; exact hw.2) (by simp) (by rw [List.getElem?_map, List.getElem?_eq_getElem (by omega)]; rfl) ?_)
     conv => whnf
     repeat (first | (refine XSame.of ?_; conv => whnf) | (refine XDep.all _ _ _ _ ?_; conv => whnf))
     refine XVal.build tabOk rfl rfl rfl [.int .i64 3] rfl rfl (by simp [Value.cells]) (by decide) fun bh => ?_
     conv => whnf
     repeat (first | (refine XSame.of ?_; conv => whnf) | (refine XDep.all _ _ _ _ ?_; conv => whnf))
     refine XCall.ent (F' := ⟨fun w => (PAt P w ∧ RowAt w hv.a (L.map numV)) ∧ RowAt w (some ⟨bh, 0, none⟩) [.int .i64 3], [] ++ slotRows b1 (18 + i) a cap C ++ []⟩) (Ent.trans (Ent.of_le (F' := ⟨fun w => PAt P w ∧ RowAt w hv.a (L.map numV), ([] ++ slotRows b1 (18 + i) a cap C ++ []) ++ [(bh, Row.c [.int .i64 3])]⟩) ⟨by simp [Value.cells], fun w hw => hw⟩) Ent.shareLast) ?_
     refine XCall.rows (send_spec b1 (18 + i) a cap C _ hO (by omega) L[i] 5 (Hd.v ⟨some ⟨bh, 0, none⟩, 1⟩ 1) (hv_ok _ _)) (fun w hw => trivial) (fun v F hv' => ?_)
     obtain ⟨a', c', C', hO', rfl⟩ := hv'
     conv => whnf
     repeat (first | (refine XSame.of ?_; conv => whnf) | (refine XDep.all _ _ _ _ ?_; conv => whnf))
     refine ⟨(i + 1, a', c', C', P ++ [(⟨1, 5, L[i], [3]⟩, ⟨some ⟨bh, 0, none⟩, 1⟩)]), ⟨⟨hlt', g.next hx (hd_new _ _) (by rw [hl]; exact hO')⟩, by dsimp only; omega⟩, ?_, ?_, Ent.of_le ⟨by first | exact List.Sublist.refl _ | simp, fun w hw => ⟨hw.1.1.1.next hw.1.2, hw.1.1.2⟩⟩⟩
     · conv => whnf
       refine ⟨?_, rfl⟩
       repeat (first | exact FLe.nil | refine FLe.any ?_ | refine FLe.cons ?_ | refine FLe.eq (by rw [wrap_i64 (by omega)]; rfl) ?_)
     · conv => whnf
       exact trivial
   · have hie : i = 3 := by
      simp [iLt_eq] at hlt
      omega
     subst hie
     conv => whnf
     repeat (first | (refine XSame.of ?_; conv => whnf) | (refine XDep.all _ _ _ _ ?_; conv => whnf))
     refine ⟨(a, cap, C, P), g, [], ⟨by decide, by simp, rfl⟩, ?_, Ent.of_le ⟨List.Sublist.refl _, fun w hw => hw.1⟩⟩
     repeat (first | exact FLe.nil | refine FLe.any ?_ | refine FLe.cons ?_)

theorem ln8 (h : LA 9 22 w0 av b1) : LA 8 21 w0 av b1 := by
 intro a cap C P g
 refine XStop.cutN tabOk 1 (ι := Option Addr × Nat × List Value × List (Ln × Hd)) (fun x => PG 22 x.2.2.2 x.1 x.2.1 x.2.2.1) (fun _ => lnTm b1) (fun _ => []) (fun x => ⟨PAt x.2.2.2, [] ++ slotRows b1 22 x.1 x.2.1 x.2.2.1 ++ []⟩) ?_ ?_
 rotate_left
 · intro x hx bs' hbs'
   obtain rfl := List.eq_nil_of_length_eq_zero hbs'
   rw [cTail_add]
   exact h x.1 x.2.1 x.2.2.1 x.2.2.2 hx
 · have hl := g.len
   have hO := g.own
   rw [hl] at hO
   conv => whnf
   repeat (first | (refine XSame.of ?_; conv => whnf) | (refine XDep.all _ _ _ _ ?_; conv => whnf))
   refine XVal.build tabOk rfl rfl rfl [.int .i64 5] rfl rfl (by simp [Value.cells]) (by decide) fun bh => ?_
   conv => whnf
   repeat (first | (refine XSame.of ?_; conv => whnf) | (refine XDep.all _ _ _ _ ?_; conv => whnf))
   refine XCall.ent (F' := ⟨fun w => PAt P w ∧ RowAt w (some ⟨bh, 0, none⟩) [.int .i64 5], [] ++ slotRows b1 21 a cap C ++ []⟩) (Ent.trans (Ent.of_le (F' := ⟨PAt P, ([] ++ slotRows b1 21 a cap C ++ []) ++ [(bh, Row.c [.int .i64 5])]⟩) ⟨by simp [Value.cells], fun w hw => hw⟩) Ent.shareLast) ?_
   refine XCall.rows (send_spec b1 21 a cap C _ hO (by decide) 15 3 (Hd.v ⟨some ⟨bh, 0, none⟩, 1⟩ 1) (hv_ok _ _)) (fun w hw => trivial) (fun v F hv => ?_)
   obtain ⟨a', c', C', hO', rfl⟩ := hv
   conv => whnf
   repeat (first | (refine XSame.of ?_; conv => whnf) | (refine XDep.all _ _ _ _ ?_; conv => whnf))
   refine ⟨(a', c', C', P ++ [(⟨1, 3, 15, [5]⟩, ⟨some ⟨bh, 0, none⟩, 1⟩)]), g.next rfl (hd_new _ _) (by rw [hl]; exact hO'), [], ⟨by decide, by simp, rfl⟩, ?_, Ent.of_le ⟨by simp, fun w hw => hw.1.1.next hw.1.2⟩⟩
   repeat (first | exact FLe.nil | refine FLe.any ?_ | refine FLe.cons ?_)

theorem ln9 (h : LA 10 23 w0 av b1) : LA 9 22 w0 av b1 := by
 intro a cap C P g
 refine XStop.cutN tabOk 1 (ι := Option Addr × Nat × List Value × List (Ln × Hd)) (fun x => PG 23 x.2.2.2 x.1 x.2.1 x.2.2.1) (fun _ => lnTm b1) (fun _ => []) (fun x => ⟨PAt x.2.2.2, [] ++ slotRows b1 23 x.1 x.2.1 x.2.2.1 ++ []⟩) ?_ ?_
 rotate_left
 · intro x hx bs' hbs'
   obtain rfl := List.eq_nil_of_length_eq_zero hbs'
   rw [cTail_add]
   exact h x.1 x.2.1 x.2.2.1 x.2.2.2 hx
 · have hl := g.len
   have hO := g.own
   rw [hl] at hO
   conv => whnf
   repeat (first | (refine XSame.of ?_; conv => whnf) | (refine XDep.all _ _ _ _ ?_; conv => whnf))
   refine XVal.build tabOk rfl rfl rfl [.int .i64 3] rfl rfl (by simp [Value.cells]) (by decide) fun bh => ?_
   conv => whnf
   repeat (first | (refine XSame.of ?_; conv => whnf) | (refine XDep.all _ _ _ _ ?_; conv => whnf))
   refine XCall.ent (F' := ⟨fun w => PAt P w ∧ RowAt w (some ⟨bh, 0, none⟩) [.int .i64 3], [] ++ slotRows b1 22 a cap C ++ []⟩) (Ent.trans (Ent.of_le (F' := ⟨PAt P, ([] ++ slotRows b1 22 a cap C ++ []) ++ [(bh, Row.c [.int .i64 3])]⟩) ⟨by simp [Value.cells], fun w hw => hw⟩) Ent.shareLast) ?_
   refine XCall.rows (send_spec b1 22 a cap C _ hO (by decide) 16 10 (Hd.v ⟨some ⟨bh, 0, none⟩, 1⟩ 1) (hv_ok _ _)) (fun w hw => trivial) (fun v F hv => ?_)
   obtain ⟨a', c', C', hO', rfl⟩ := hv
   conv => whnf
   repeat (first | (refine XSame.of ?_; conv => whnf) | (refine XDep.all _ _ _ _ ?_; conv => whnf))
   refine ⟨(a', c', C', P ++ [(⟨1, 10, 16, [3]⟩, ⟨some ⟨bh, 0, none⟩, 1⟩)]), g.next rfl (hd_new _ _) (by rw [hl]; exact hO'), [], ⟨by decide, by simp, rfl⟩, ?_, Ent.of_le ⟨by simp, fun w hw => hw.1.1.next hw.1.2⟩⟩
   repeat (first | exact FLe.nil | refine FLe.any ?_ | refine FLe.cons ?_)

theorem ln10 (h : LA 11 24 w0 av b1) : LA 10 23 w0 av b1 := by
 intro a cap C P g
 refine XStop.cutN tabOk 1 (ι := Option Addr × Nat × List Value × List (Ln × Hd)) (fun x => PG 24 x.2.2.2 x.1 x.2.1 x.2.2.1) (fun _ => lnTm b1) (fun _ => []) (fun x => ⟨PAt x.2.2.2, [] ++ slotRows b1 24 x.1 x.2.1 x.2.2.1 ++ []⟩) ?_ ?_
 rotate_left
 · intro x hx bs' hbs'
   obtain rfl := List.eq_nil_of_length_eq_zero hbs'
   rw [cTail_add]
   exact h x.1 x.2.1 x.2.2.1 x.2.2.2 hx
 · have hl := g.len
   have hO := g.own
   rw [hl] at hO
   conv => whnf
   repeat (first | (refine XSame.of ?_; conv => whnf) | (refine XDep.all _ _ _ _ ?_; conv => whnf))
   refine XVal.build tabOk rfl rfl rfl [.int .i64 10] rfl rfl (by simp [Value.cells]) (by decide) fun bh => ?_
   conv => whnf
   repeat (first | (refine XSame.of ?_; conv => whnf) | (refine XDep.all _ _ _ _ ?_; conv => whnf))
   refine XCall.ent (F' := ⟨fun w => PAt P w ∧ RowAt w (some ⟨bh, 0, none⟩) [.int .i64 10], [] ++ slotRows b1 23 a cap C ++ []⟩) (Ent.trans (Ent.of_le (F' := ⟨PAt P, ([] ++ slotRows b1 23 a cap C ++ []) ++ [(bh, Row.c [.int .i64 10])]⟩) ⟨by simp [Value.cells], fun w hw => hw⟩) Ent.shareLast) ?_
   refine XCall.rows (send_spec b1 23 a cap C _ hO (by decide) 17 3 (Hd.v ⟨some ⟨bh, 0, none⟩, 1⟩ 1) (hv_ok _ _)) (fun w hw => trivial) (fun v F hv => ?_)
   obtain ⟨a', c', C', hO', rfl⟩ := hv
   conv => whnf
   repeat (first | (refine XSame.of ?_; conv => whnf) | (refine XDep.all _ _ _ _ ?_; conv => whnf))
   refine ⟨(a', c', C', P ++ [(⟨1, 3, 17, [10]⟩, ⟨some ⟨bh, 0, none⟩, 1⟩)]), g.next rfl (hd_new _ _) (by rw [hl]; exact hO'), [], ⟨by decide, by simp, rfl⟩, ?_, Ent.of_le ⟨by simp, fun w hw => hw.1.1.next hw.1.2⟩⟩
   repeat (first | exact FLe.nil | refine FLe.any ?_ | refine FLe.cons ?_)

theorem ln11 (h : LA 12 25 w0 av b1) : LA 11 24 w0 av b1 := by
 intro a cap C P g
 refine XStop.cutN tabOk 1 (ι := Option Addr × Nat × List Value × List (Ln × Hd)) (fun x => PG 25 x.2.2.2 x.1 x.2.1 x.2.2.1) (fun _ => lnTm b1) (fun _ => []) (fun x => ⟨PAt x.2.2.2, [] ++ slotRows b1 25 x.1 x.2.1 x.2.2.1 ++ []⟩) ?_ ?_
 rotate_left
 · intro x hx bs' hbs'
   obtain rfl := List.eq_nil_of_length_eq_zero hbs'
   rw [cTail_add]
   exact h x.1 x.2.1 x.2.2.1 x.2.2.2 hx
 · have hl := g.len
   have hO := g.own
   rw [hl] at hO
   conv => whnf
   repeat (first | (refine XSame.of ?_; conv => whnf) | (refine XDep.all _ _ _ _ ?_; conv => whnf))
   refine XVal.build tabOk rfl rfl rfl [.int .i64 5] rfl rfl (by simp [Value.cells]) (by decide) fun bh => ?_
   conv => whnf
   repeat (first | (refine XSame.of ?_; conv => whnf) | (refine XDep.all _ _ _ _ ?_; conv => whnf))
   refine XCall.ent (F' := ⟨fun w => PAt P w ∧ RowAt w (some ⟨bh, 0, none⟩) [.int .i64 5], [] ++ slotRows b1 24 a cap C ++ []⟩) (Ent.trans (Ent.of_le (F' := ⟨PAt P, ([] ++ slotRows b1 24 a cap C ++ []) ++ [(bh, Row.c [.int .i64 5])]⟩) ⟨by simp [Value.cells], fun w hw => hw⟩) Ent.shareLast) ?_
   refine XCall.rows (send_spec b1 24 a cap C _ hO (by decide) 18 6 (Hd.v ⟨some ⟨bh, 0, none⟩, 1⟩ 1) (hv_ok _ _)) (fun w hw => trivial) (fun v F hv => ?_)
   obtain ⟨a', c', C', hO', rfl⟩ := hv
   conv => whnf
   repeat (first | (refine XSame.of ?_; conv => whnf) | (refine XDep.all _ _ _ _ ?_; conv => whnf))
   refine ⟨(a', c', C', P ++ [(⟨1, 6, 18, [5]⟩, ⟨some ⟨bh, 0, none⟩, 1⟩)]), g.next rfl (hd_new _ _) (by rw [hl]; exact hO'), [], ⟨by decide, by simp, rfl⟩, ?_, Ent.of_le ⟨by simp, fun w hw => hw.1.1.next hw.1.2⟩⟩
   repeat (first | exact FLe.nil | refine FLe.any ?_ | refine FLe.cons ?_)

theorem ln12 (h : LA 13 26 w0 av b1) : LA 12 25 w0 av b1 := by
 intro a cap C P g
 refine XStop.cutN tabOk 1 (ι := Option Addr × Nat × List Value × List (Ln × Hd)) (fun x => PG 26 x.2.2.2 x.1 x.2.1 x.2.2.1) (fun _ => lnTm b1) (fun _ => []) (fun x => ⟨PAt x.2.2.2, [] ++ slotRows b1 26 x.1 x.2.1 x.2.2.1 ++ []⟩) ?_ ?_
 rotate_left
 · intro x hx bs' hbs'
   obtain rfl := List.eq_nil_of_length_eq_zero hbs'
   rw [cTail_add]
   exact h x.1 x.2.1 x.2.2.1 x.2.2.2 hx
 · have hl := g.len
   have hO := g.own
   rw [hl] at hO
   conv => whnf
   repeat (first | (refine XSame.of ?_; conv => whnf) | (refine XDep.all _ _ _ _ ?_; conv => whnf))
   refine XVal.build tabOk rfl rfl rfl [.int .i64 6] rfl rfl (by simp [Value.cells]) (by decide) fun bh => ?_
   conv => whnf
   repeat (first | (refine XSame.of ?_; conv => whnf) | (refine XDep.all _ _ _ _ ?_; conv => whnf))
   refine XCall.ent (F' := ⟨fun w => PAt P w ∧ RowAt w (some ⟨bh, 0, none⟩) [.int .i64 6], [] ++ slotRows b1 25 a cap C ++ []⟩) (Ent.trans (Ent.of_le (F' := ⟨PAt P, ([] ++ slotRows b1 25 a cap C ++ []) ++ [(bh, Row.c [.int .i64 6])]⟩) ⟨by simp [Value.cells], fun w hw => hw⟩) Ent.shareLast) ?_
   refine XCall.rows (send_spec b1 25 a cap C _ hO (by decide) 19 5 (Hd.v ⟨some ⟨bh, 0, none⟩, 1⟩ 1) (hv_ok _ _)) (fun w hw => trivial) (fun v F hv => ?_)
   obtain ⟨a', c', C', hO', rfl⟩ := hv
   conv => whnf
   repeat (first | (refine XSame.of ?_; conv => whnf) | (refine XDep.all _ _ _ _ ?_; conv => whnf))
   refine ⟨(a', c', C', P ++ [(⟨1, 5, 19, [6]⟩, ⟨some ⟨bh, 0, none⟩, 1⟩)]), g.next rfl (hd_new _ _) (by rw [hl]; exact hO'), [], ⟨by decide, by simp, rfl⟩, ?_, Ent.of_le ⟨by simp, fun w hw => hw.1.1.next hw.1.2⟩⟩
   repeat (first | exact FLe.nil | refine FLe.any ?_ | refine FLe.cons ?_)

theorem ln13 (h : LA 14 27 w0 av b1) : LA 13 26 w0 av b1 := by
 intro a cap C P g
 refine XStop.cutN tabOk 1 (ι := Option Addr × Nat × List Value × List (Ln × Hd)) (fun x => PG 27 x.2.2.2 x.1 x.2.1 x.2.2.1) (fun _ => lnTm b1) (fun _ => []) (fun x => ⟨PAt x.2.2.2, [] ++ slotRows b1 27 x.1 x.2.1 x.2.2.1 ++ []⟩) ?_ ?_
 rotate_left
 · intro x hx bs' hbs'
   obtain rfl := List.eq_nil_of_length_eq_zero hbs'
   rw [cTail_add]
   exact h x.1 x.2.1 x.2.2.1 x.2.2.2 hx
 · have hl := g.len
   have hO := g.own
   rw [hl] at hO
   conv => whnf
   repeat (first | (refine XSame.of ?_; conv => whnf) | (refine XDep.all _ _ _ _ ?_; conv => whnf))
   refine XVal.build tabOk rfl rfl rfl [.int .i64 4, .int .i64 6] rfl rfl (by simp [Value.cells]) (by decide) fun bh => ?_
   conv => whnf
   repeat (first | (refine XSame.of ?_; conv => whnf) | (refine XDep.all _ _ _ _ ?_; conv => whnf))
   refine XCall.ent (F' := ⟨fun w => PAt P w ∧ RowAt w (some ⟨bh, 0, none⟩) [.int .i64 4, .int .i64 6], [] ++ slotRows b1 26 a cap C ++ []⟩) (Ent.trans (Ent.of_le (F' := ⟨PAt P, ([] ++ slotRows b1 26 a cap C ++ []) ++ [(bh, Row.c [.int .i64 4, .int .i64 6])]⟩) ⟨by simp [Value.cells], fun w hw => hw⟩) Ent.shareLast) ?_
   refine XCall.rows (send_spec b1 26 a cap C _ hO (by decide) 20 7 (Hd.v ⟨some ⟨bh, 0, none⟩, 2⟩ 2) (hv_ok _ _)) (fun w hw => trivial) (fun v F hv => ?_)
   obtain ⟨a', c', C', hO', rfl⟩ := hv
   conv => whnf
   repeat (first | (refine XSame.of ?_; conv => whnf) | (refine XDep.all _ _ _ _ ?_; conv => whnf))
   refine ⟨(a', c', C', P ++ [(⟨1, 7, 20, [4, 6]⟩, ⟨some ⟨bh, 0, none⟩, 2⟩)]), g.next rfl (hd_new _ _) (by rw [hl]; exact hO'), [], ⟨by decide, by simp, rfl⟩, ?_, Ent.of_le ⟨by simp, fun w hw => hw.1.1.next hw.1.2⟩⟩
   repeat (first | exact FLe.nil | refine FLe.any ?_ | refine FLe.cons ?_)

theorem ln14 (h : LA 15 28 w0 av b1) : LA 14 27 w0 av b1 := by
 intro a cap C P g
 refine XStop.cutN tabOk 1 (ι := Option Addr × Nat × List Value × List (Ln × Hd)) (fun x => PG 28 x.2.2.2 x.1 x.2.1 x.2.2.1) (fun _ => lnTm b1) (fun _ => []) (fun x => ⟨PAt x.2.2.2, [] ++ slotRows b1 28 x.1 x.2.1 x.2.2.1 ++ []⟩) ?_ ?_
 rotate_left
 · intro x hx bs' hbs'
   obtain rfl := List.eq_nil_of_length_eq_zero hbs'
   rw [cTail_add]
   exact h x.1 x.2.1 x.2.2.1 x.2.2.2 hx
 · have hl := g.len
   have hO := g.own
   rw [hl] at hO
   conv => whnf
   repeat (first | (refine XSame.of ?_; conv => whnf) | (refine XDep.all _ _ _ _ ?_; conv => whnf))
   refine XVal.build tabOk rfl rfl rfl [.int .i64 7] rfl rfl (by simp [Value.cells]) (by decide) fun bh => ?_
   conv => whnf
   repeat (first | (refine XSame.of ?_; conv => whnf) | (refine XDep.all _ _ _ _ ?_; conv => whnf))
   refine XCall.ent (F' := ⟨fun w => PAt P w ∧ RowAt w (some ⟨bh, 0, none⟩) [.int .i64 7], [] ++ slotRows b1 27 a cap C ++ []⟩) (Ent.trans (Ent.of_le (F' := ⟨PAt P, ([] ++ slotRows b1 27 a cap C ++ []) ++ [(bh, Row.c [.int .i64 7])]⟩) ⟨by simp [Value.cells], fun w hw => hw⟩) Ent.shareLast) ?_
   refine XCall.rows (send_spec b1 27 a cap C _ hO (by decide) 21 4 (Hd.v ⟨some ⟨bh, 0, none⟩, 1⟩ 1) (hv_ok _ _)) (fun w hw => trivial) (fun v F hv => ?_)
   obtain ⟨a', c', C', hO', rfl⟩ := hv
   conv => whnf
   repeat (first | (refine XSame.of ?_; conv => whnf) | (refine XDep.all _ _ _ _ ?_; conv => whnf))
   refine ⟨(a', c', C', P ++ [(⟨1, 4, 21, [7]⟩, ⟨some ⟨bh, 0, none⟩, 1⟩)]), g.next rfl (hd_new _ _) (by rw [hl]; exact hO'), [], ⟨by decide, by simp, rfl⟩, ?_, Ent.of_le ⟨by simp, fun w hw => hw.1.1.next hw.1.2⟩⟩
   repeat (first | exact FLe.nil | refine FLe.any ?_ | refine FLe.cons ?_)

theorem ln15 (h : LA 16 29 w0 av b1) : LA 15 28 w0 av b1 := by
 intro a cap C P g
 refine XStop.cutN tabOk 1 (ι := Option Addr × Nat × List Value × List (Ln × Hd)) (fun x => PG 29 x.2.2.2 x.1 x.2.1 x.2.2.1) (fun _ => lnTm b1) (fun _ => []) (fun x => ⟨PAt x.2.2.2, [] ++ slotRows b1 29 x.1 x.2.1 x.2.2.1 ++ []⟩) ?_ ?_
 rotate_left
 · intro x hx bs' hbs'
   obtain rfl := List.eq_nil_of_length_eq_zero hbs'
   rw [cTail_add]
   exact h x.1 x.2.1 x.2.2.1 x.2.2.2 hx
 · have hl := g.len
   have hO := g.own
   rw [hl] at hO
   conv => whnf
   repeat (first | (refine XSame.of ?_; conv => whnf) | (refine XDep.all _ _ _ _ ?_; conv => whnf))
   refine XVal.build tabOk rfl rfl rfl [.int .i64 7] rfl rfl (by simp [Value.cells]) (by decide) fun bh => ?_
   conv => whnf
   repeat (first | (refine XSame.of ?_; conv => whnf) | (refine XDep.all _ _ _ _ ?_; conv => whnf))
   refine XCall.ent (F' := ⟨fun w => PAt P w ∧ RowAt w (some ⟨bh, 0, none⟩) [.int .i64 7], [] ++ slotRows b1 28 a cap C ++ []⟩) (Ent.trans (Ent.of_le (F' := ⟨PAt P, ([] ++ slotRows b1 28 a cap C ++ []) ++ [(bh, Row.c [.int .i64 7])]⟩) ⟨by simp [Value.cells], fun w hw => hw⟩) Ent.shareLast) ?_
   refine XCall.rows (send_spec b1 28 a cap C _ hO (by decide) 21 6 (Hd.v ⟨some ⟨bh, 0, none⟩, 1⟩ 1) (hv_ok _ _)) (fun w hw => trivial) (fun v F hv => ?_)
   obtain ⟨a', c', C', hO', rfl⟩ := hv
   conv => whnf
   repeat (first | (refine XSame.of ?_; conv => whnf) | (refine XDep.all _ _ _ _ ?_; conv => whnf))
   refine ⟨(a', c', C', P ++ [(⟨1, 6, 21, [7]⟩, ⟨some ⟨bh, 0, none⟩, 1⟩)]), g.next rfl (hd_new _ _) (by rw [hl]; exact hO'), [], ⟨by decide, by simp, rfl⟩, ?_, Ent.of_le ⟨by simp, fun w hw => hw.1.1.next hw.1.2⟩⟩
   repeat (first | exact FLe.nil | refine FLe.any ?_ | refine FLe.cons ?_)

theorem ln16 (h : LA 17 30 w0 av b1) : LA 16 29 w0 av b1 := by
 intro a cap C P g
 refine XStop.cutN tabOk 1 (ι := Option Addr × Nat × List Value × List (Ln × Hd)) (fun x => PG 30 x.2.2.2 x.1 x.2.1 x.2.2.1) (fun _ => lnTm b1) (fun _ => []) (fun x => ⟨PAt x.2.2.2, [] ++ slotRows b1 30 x.1 x.2.1 x.2.2.1 ++ []⟩) ?_ ?_
 rotate_left
 · intro x hx bs' hbs'
   obtain rfl := List.eq_nil_of_length_eq_zero hbs'
   rw [cTail_add]
   exact h x.1 x.2.1 x.2.2.1 x.2.2.2 hx
 · have hl := g.len
   have hO := g.own
   rw [hl] at hO
   conv => whnf
   repeat (first | (refine XSame.of ?_; conv => whnf) | (refine XDep.all _ _ _ _ ?_; conv => whnf))
   refine XVal.build tabOk rfl rfl rfl [.int .i64 5] rfl rfl (by simp [Value.cells]) (by decide) fun bh => ?_
   conv => whnf
   repeat (first | (refine XSame.of ?_; conv => whnf) | (refine XDep.all _ _ _ _ ?_; conv => whnf))
   refine XCall.ent (F' := ⟨fun w => PAt P w ∧ RowAt w (some ⟨bh, 0, none⟩) [.int .i64 5], [] ++ slotRows b1 29 a cap C ++ []⟩) (Ent.trans (Ent.of_le (F' := ⟨PAt P, ([] ++ slotRows b1 29 a cap C ++ []) ++ [(bh, Row.c [.int .i64 5])]⟩) ⟨by simp [Value.cells], fun w hw => hw⟩) Ent.shareLast) ?_
   refine XCall.rows (send_spec b1 29 a cap C _ hO (by decide) 22 9 (Hd.v ⟨some ⟨bh, 0, none⟩, 1⟩ 1) (hv_ok _ _)) (fun w hw => trivial) (fun v F hv => ?_)
   obtain ⟨a', c', C', hO', rfl⟩ := hv
   conv => whnf
   repeat (first | (refine XSame.of ?_; conv => whnf) | (refine XDep.all _ _ _ _ ?_; conv => whnf))
   refine ⟨(a', c', C', P ++ [(⟨1, 9, 22, [5]⟩, ⟨some ⟨bh, 0, none⟩, 1⟩)]), g.next rfl (hd_new _ _) (by rw [hl]; exact hO'), [], ⟨by decide, by simp, rfl⟩, ?_, Ent.of_le ⟨by simp, fun w hw => hw.1.1.next hw.1.2⟩⟩
   repeat (first | exact FLe.nil | refine FLe.any ?_ | refine FLe.cons ?_)

theorem ln17 (h : LA 18 31 w0 av b1) : LA 17 30 w0 av b1 := by
 intro a cap C P g
 refine XStop.cutN tabOk 1 (ι := Option Addr × Nat × List Value × List (Ln × Hd)) (fun x => PG 31 x.2.2.2 x.1 x.2.1 x.2.2.1) (fun _ => lnTm b1) (fun _ => []) (fun x => ⟨PAt x.2.2.2, [] ++ slotRows b1 31 x.1 x.2.1 x.2.2.1 ++ []⟩) ?_ ?_
 rotate_left
 · intro x hx bs' hbs'
   obtain rfl := List.eq_nil_of_length_eq_zero hbs'
   rw [cTail_add]
   exact h x.1 x.2.1 x.2.2.1 x.2.2.2 hx
 · have hl := g.len
   have hO := g.own
   rw [hl] at hO
   conv => whnf
   repeat (first | (refine XSame.of ?_; conv => whnf) | (refine XDep.all _ _ _ _ ?_; conv => whnf))
   refine XVal.build tabOk rfl rfl rfl [.int .i64 9] rfl rfl (by simp [Value.cells]) (by decide) fun bh => ?_
   conv => whnf
   repeat (first | (refine XSame.of ?_; conv => whnf) | (refine XDep.all _ _ _ _ ?_; conv => whnf))
   refine XCall.ent (F' := ⟨fun w => PAt P w ∧ RowAt w (some ⟨bh, 0, none⟩) [.int .i64 9], [] ++ slotRows b1 30 a cap C ++ []⟩) (Ent.trans (Ent.of_le (F' := ⟨PAt P, ([] ++ slotRows b1 30 a cap C ++ []) ++ [(bh, Row.c [.int .i64 9])]⟩) ⟨by simp [Value.cells], fun w hw => hw⟩) Ent.shareLast) ?_
   refine XCall.rows (send_spec b1 30 a cap C _ hO (by decide) 23 5 (Hd.v ⟨some ⟨bh, 0, none⟩, 1⟩ 1) (hv_ok _ _)) (fun w hw => trivial) (fun v F hv => ?_)
   obtain ⟨a', c', C', hO', rfl⟩ := hv
   conv => whnf
   repeat (first | (refine XSame.of ?_; conv => whnf) | (refine XDep.all _ _ _ _ ?_; conv => whnf))
   refine ⟨(a', c', C', P ++ [(⟨1, 5, 23, [9]⟩, ⟨some ⟨bh, 0, none⟩, 1⟩)]), g.next rfl (hd_new _ _) (by rw [hl]; exact hO'), [], ⟨by decide, by simp, rfl⟩, ?_, Ent.of_le ⟨by simp, fun w hw => hw.1.1.next hw.1.2⟩⟩
   repeat (first | exact FLe.nil | refine FLe.any ?_ | refine FLe.cons ?_)

theorem ln18 (h : LA 19 32 w0 av b1) : LA 18 31 w0 av b1 := by
 intro a cap C P g
 refine XStop.cutN tabOk 1 (ι := Option Addr × Nat × List Value × List (Ln × Hd)) (fun x => PG 32 x.2.2.2 x.1 x.2.1 x.2.2.1) (fun _ => lnTm b1) (fun _ => []) (fun x => ⟨PAt x.2.2.2, [] ++ slotRows b1 32 x.1 x.2.1 x.2.2.1 ++ []⟩) ?_ ?_
 rotate_left
 · intro x hx bs' hbs'
   obtain rfl := List.eq_nil_of_length_eq_zero hbs'
   rw [cTail_add]
   exact h x.1 x.2.1 x.2.2.1 x.2.2.2 hx
 · have hl := g.len
   have hO := g.own
   rw [hl] at hO
   conv => whnf
   repeat (first | (refine XSame.of ?_; conv => whnf) | (refine XDep.all _ _ _ _ ?_; conv => whnf))
   refine XVal.build tabOk rfl rfl rfl [.int .i64 5] rfl rfl (by simp [Value.cells]) (by decide) fun bh => ?_
   conv => whnf
   repeat (first | (refine XSame.of ?_; conv => whnf) | (refine XDep.all _ _ _ _ ?_; conv => whnf))
   refine XCall.ent (F' := ⟨fun w => PAt P w ∧ RowAt w (some ⟨bh, 0, none⟩) [.int .i64 5], [] ++ slotRows b1 31 a cap C ++ []⟩) (Ent.trans (Ent.of_le (F' := ⟨PAt P, ([] ++ slotRows b1 31 a cap C ++ []) ++ [(bh, Row.c [.int .i64 5])]⟩) ⟨by simp [Value.cells], fun w hw => hw⟩) Ent.shareLast) ?_
   refine XCall.rows (send_spec b1 31 a cap C _ hO (by decide) 24 8 (Hd.v ⟨some ⟨bh, 0, none⟩, 1⟩ 1) (hv_ok _ _)) (fun w hw => trivial) (fun v F hv => ?_)
   obtain ⟨a', c', C', hO', rfl⟩ := hv
   conv => whnf
   repeat (first | (refine XSame.of ?_; conv => whnf) | (refine XDep.all _ _ _ _ ?_; conv => whnf))
   refine ⟨(a', c', C', P ++ [(⟨1, 8, 24, [5]⟩, ⟨some ⟨bh, 0, none⟩, 1⟩)]), g.next rfl (hd_new _ _) (by rw [hl]; exact hO'), [], ⟨by decide, by simp, rfl⟩, ?_, Ent.of_le ⟨by simp, fun w hw => hw.1.1.next hw.1.2⟩⟩
   repeat (first | exact FLe.nil | refine FLe.any ?_ | refine FLe.cons ?_)

theorem ln19 (h : LA 20 33 w0 av b1) : LA 19 32 w0 av b1 := by
 intro a cap C P g
 refine XStop.cutN tabOk 1 (ι := Option Addr × Nat × List Value × List (Ln × Hd)) (fun x => PG 33 x.2.2.2 x.1 x.2.1 x.2.2.1) (fun _ => lnTm b1) (fun _ => []) (fun x => ⟨PAt x.2.2.2, [] ++ slotRows b1 33 x.1 x.2.1 x.2.2.1 ++ []⟩) ?_ ?_
 rotate_left
 · intro x hx bs' hbs'
   obtain rfl := List.eq_nil_of_length_eq_zero hbs'
   rw [cTail_add]
   exact h x.1 x.2.1 x.2.2.1 x.2.2.2 hx
 · have hl := g.len
   have hO := g.own
   rw [hl] at hO
   conv => whnf
   repeat (first | (refine XSame.of ?_; conv => whnf) | (refine XDep.all _ _ _ _ ?_; conv => whnf))
   refine XVal.build tabOk rfl rfl rfl [.int .i64 8] rfl rfl (by simp [Value.cells]) (by decide) fun bh => ?_
   conv => whnf
   repeat (first | (refine XSame.of ?_; conv => whnf) | (refine XDep.all _ _ _ _ ?_; conv => whnf))
   refine XCall.ent (F' := ⟨fun w => PAt P w ∧ RowAt w (some ⟨bh, 0, none⟩) [.int .i64 8], [] ++ slotRows b1 32 a cap C ++ []⟩) (Ent.trans (Ent.of_le (F' := ⟨PAt P, ([] ++ slotRows b1 32 a cap C ++ []) ++ [(bh, Row.c [.int .i64 8])]⟩) ⟨by simp [Value.cells], fun w hw => hw⟩) Ent.shareLast) ?_
   refine XCall.rows (send_spec b1 32 a cap C _ hO (by decide) 25 5 (Hd.v ⟨some ⟨bh, 0, none⟩, 1⟩ 1) (hv_ok _ _)) (fun w hw => trivial) (fun v F hv => ?_)
   obtain ⟨a', c', C', hO', rfl⟩ := hv
   conv => whnf
   repeat (first | (refine XSame.of ?_; conv => whnf) | (refine XDep.all _ _ _ _ ?_; conv => whnf))
   refine ⟨(a', c', C', P ++ [(⟨1, 5, 25, [8]⟩, ⟨some ⟨bh, 0, none⟩, 1⟩)]), g.next rfl (hd_new _ _) (by rw [hl]; exact hO'), [], ⟨by decide, by simp, rfl⟩, ?_, Ent.of_le ⟨by simp, fun w hw => hw.1.1.next hw.1.2⟩⟩
   repeat (first | exact FLe.nil | refine FLe.any ?_ | refine FLe.cons ?_)

theorem ln20 (h : LA 21 34 w0 av b1) : LA 20 33 w0 av b1 := by
 intro a cap C P g
 refine XStop.cutN tabOk 1 (ι := Option Addr × Nat × List Value × List (Ln × Hd)) (fun x => PG 34 x.2.2.2 x.1 x.2.1 x.2.2.1) (fun _ => lnTm b1) (fun _ => []) (fun x => ⟨PAt x.2.2.2, [] ++ slotRows b1 34 x.1 x.2.1 x.2.2.1 ++ []⟩) ?_ ?_
 rotate_left
 · intro x hx bs' hbs'
   obtain rfl := List.eq_nil_of_length_eq_zero hbs'
   rw [cTail_add]
   exact h x.1 x.2.1 x.2.2.1 x.2.2.2 hx
 · have hl := g.len
   have hO := g.own
   rw [hl] at hO
   conv => whnf
   repeat (first | (refine XSame.of ?_; conv => whnf) | (refine XDep.all _ _ _ _ ?_; conv => whnf))
   refine XCall.pure (components_spec 1 (by decide)) (fun w hw => trivial) (fun v F hv => ?_)
   obtain ⟨hh, hho, rfl, rfl⟩ := hv
   conv => whnf
   repeat (first | (refine XSame.of ?_; conv => whnf) | (refine XDep.all _ _ _ _ ?_; conv => whnf))
   refine XCall.ent (F' := ⟨fun w => PAt P w ∧ RowAt w hh.a ((compL 1).map numV), [] ++ slotRows b1 33 a cap C ++ []⟩) (Ent.of_le ⟨by simp [Fx.and], fun w hw => hw⟩) ?_
   refine XCall.rows (send_spec b1 33 a cap C _ hO (by decide) 26 2 (Hd.v hh (compL 1).length) (hv_ok _ _)) (fun w hw => trivial) (fun v F hv => ?_)
   obtain ⟨a', c', C', hO', rfl⟩ := hv
   conv => whnf
   repeat (first | (refine XSame.of ?_; conv => whnf) | (refine XDep.all _ _ _ _ ?_; conv => whnf))
   refine ⟨(a', c', C', P ++ [(⟨1, 2, 26, compL 1⟩, hh)]), g.next rfl hho (by rw [hl]; exact hO'), [], ⟨by decide, by simp, rfl⟩, ?_, Ent.of_le ⟨by simp, fun w hw => hw.1.1.next hw.1.2⟩⟩
   repeat (first | exact FLe.nil | refine FLe.any ?_ | refine FLe.cons ?_)

theorem ln21 (h : LA 22 44 w0 av b1) : LA 21 34 w0 av b1 := by
 intro a cap C P g
 refine XStop.cutN tabOk 1 (ι := Option Addr × Nat × List Value × List (Ln × Hd)) (fun x => PG 44 x.2.2.2 x.1 x.2.1 x.2.2.1) (fun _ => lnTm b1) (fun _ => []) (fun x => ⟨PAt x.2.2.2, [] ++ slotRows b1 44 x.1 x.2.1 x.2.2.1 ++ []⟩) ?_ ?_
 rotate_left
 · intro x hx bs' hbs'
   obtain rfl := List.eq_nil_of_length_eq_zero hbs'
   rw [cTail_add]
   exact h x.1 x.2.1 x.2.2.1 x.2.2.2 hx
 · conv => whnf
   repeat (first | (refine XSame.of ?_; conv => whnf) | (refine XDep.all _ _ _ _ ?_; conv => whnf))
   refine XCall.pure (components_spec 1 (by decide)) (fun w hw => trivial) (fun v F hv => ?_)
   obtain ⟨hv, hvo, rfl, rfl⟩ := hv
   conv => whnf
   repeat (first | (refine XSame.of ?_; conv => whnf) | (refine XDep.all _ _ _ _ ?_; conv => whnf))
   obtain ⟨L, hL⟩ : ∃ L : List Int, L = compL 1 := ⟨_, rfl⟩
   have hE : Ent (⟨fun w => PAt P w ∧ RowAt w hv.a ((compL 1).map numV), [] ++ slotRows b1 34 a cap C ++ []⟩ : Fx) ⟨fun w => PAt P w ∧ RowAt w hv.a (L.map numV), [] ++ slotRows b1 (34 + 0) a cap C ++ []⟩ := by rw [hL]; exact Ent.refl _
   have hLl : L.length = 10 := by rw [hL]; decide
   have hLn : ∀ i, i < 10 → bootLns[34 + i]? = some ⟨1, L[i]!, 27, [2]⟩ := by rw [hL]; decide
   refine XStop.loop tabOk (ι := Nat × Option Addr × Nat × List Value × List (Ln × Hd)) ([11, 86] ++ List.range' 87 7) (fun x => x.1 ≤ 10 ∧ PG (34 + x.1) x.2.2.2.2 x.2.1 x.2.2.1 x.2.2.2.1) (fun x => [(86, .v (.int .i64 (x.1 : Int)))]) (fun _ => [])
    (fun x => ⟨fun w => PAt x.2.2.2.2 w ∧ RowAt w hv.a (L.map numV), [] ++ slotRows b1 (34 + x.1) x.2.1 x.2.2.1 x.2.2.2.1 ++ []⟩) (fun x => 10 - x.1) (0, a, cap, C, P) ⟨Nat.zero_le _, g⟩ ?_ rfl (Ent.trans (Ent.of_le (F' := ⟨fun w => PAt P w ∧ RowAt w hv.a ((compL 1).map numV), [] ++ slotRows b1 34 a cap C ++ []⟩) ⟨by simp [Fx.and], fun w hw => hw⟩) hE) fun x hx => ?_
   · conv => whnf
     repeat (first | exact FLe.nil | refine FLe.any ?_ | refine FLe.cons ?_)
   clear g hE
   obtain ⟨i, a, cap, C, P⟩ := x
   obtain ⟨hi, g⟩ := hx
   dsimp only at hi g ⊢
   have hl := g.len
   have hO := g.own
   rw [hl] at hO
   conv => whnf
   repeat (first | (refine XSame.of ?_; conv => whnf) | (refine XDep.all _ _ _ _ ?_; conv => whnf))
   refine XIf.split (fun hlt => ?_) (fun hlt => ?_)
   · have hlt' : i < 10 := by
      simp [iLt_eq, compL] at hlt
      omega
     have hx := hLn i hlt'
     have hLi : L[i]! = L[i] := by simp [hLl, hlt']
     rw [hLi] at hx
     conv => whnf
     repeat (first | (refine XSame.of ?_; conv => whnf) | (refine XDep.all _ _ _ _ ?_; conv => whnf))
     refine XVal.of_read (XRead.index tabOk rfl rfl rfl (by omega) (by show (i : Int) < (((compL 1).length : Nat) : Int); rw [← hL, hLl]; omega) hvo.nil fun ad had => ?_)
     conv => whnf
     repeat (first | (refine XSame.of ?_; conv => whnf) | (refine XDep.all _ _ _ _ ?_; conv => whnf))
     refine XVal.of_read (XRead.load tabOk rfl rfl (ad := ad) (k := i) (L := L.map numV) (v := .int .i64 L[i]) (.fact fun w hw => had ▸ hw.2) (by simp) (by rw [List.getElem?_map, List.getElem?_eq_getElem (by omega)]; rfl) ?_)
     conv => whnf
     repeat (first | (refine XSame.of ?_; conv => whnf) | (refine XDep.all _ _ _ _ ?_; conv => whnf))
     refine XVal.build tabOk rfl rfl rfl [.int .i64 2] rfl rfl (by simp [Value.cells]) (by decide) fun bh => ?_
     conv => whnf
     repeat (first | (refine XSame.of ?_; conv => whnf) | (refine XDep.all _ _ _ _ ?_; conv => whnf))
     refine XCall.ent (F' := ⟨fun w => (PAt P w ∧ RowAt w hv.a (L.map numV)) ∧ RowAt w (some ⟨bh, 0, none⟩) [.int .i64 2], [] ++ slotRows b1 (34 + i) a cap C ++ []⟩) (Ent.trans (Ent.of_le (F' := ⟨fun w => PAt P w ∧ RowAt w hv.a (L.map numV), ([] ++ slotRows b1 (34 + i) a cap C ++ []) ++ [(bh, Row.c [.int .i64 2])]⟩) ⟨by simp [Value.cells], fun w hw => hw⟩) Ent.shareLast) ?_
     refine XCall.rows (send_spec b1 (34 + i) a cap C _ hO (by omega) 27 L[i] (Hd.v ⟨some ⟨bh, 0, none⟩, 1⟩ 1) (hv_ok _ _)) (fun w hw => trivial) (fun v F hv' => ?_)
     obtain ⟨a', c', C', hO', rfl⟩ := hv'
     conv => whnf
     repeat (first | (refine XSame.of ?_; conv => whnf) | (refine XDep.all _ _ _ _ ?_; conv => whnf))
     refine ⟨(i + 1, a', c', C', P ++ [(⟨1, L[i], 27, [2]⟩, ⟨some ⟨bh, 0, none⟩, 1⟩)]), ⟨⟨hlt', g.next hx (hd_new _ _) (by rw [hl]; exact hO')⟩, by dsimp only; omega⟩, ?_, ?_, Ent.of_le ⟨by first | exact List.Sublist.refl _ | simp, fun w hw => ⟨hw.1.1.1.next hw.1.2, hw.1.1.2⟩⟩⟩
     · conv => whnf
       refine ⟨?_, rfl⟩
       repeat (first | exact FLe.nil | refine FLe.any ?_ | refine FLe.cons ?_ | refine FLe.eq (by rw [wrap_i64 (by omega)]; rfl) ?_)
     · conv => whnf
       exact trivial
   · have hie : i = 10 := by
      simp [iLt_eq, compL] at hlt
      omega
     subst hie
     conv => whnf
     repeat (first | (refine XSame.of ?_; conv => whnf) | (refine XDep.all _ _ _ _ ?_; conv => whnf))
     refine ⟨(a, cap, C, P), g, [], ⟨by decide, by simp, rfl⟩, ?_, Ent.of_le ⟨List.Sublist.refl _, fun w hw => hw.1⟩⟩
     repeat (first | exact FLe.nil | refine FLe.any ?_ | refine FLe.cons ?_)

theorem PG.many {k m : Nat} {P Q : List (Ln × Hd)} {a : Option Addr} {cap : Nat} {C : List Value} (h : PG k P a cap C) (hm : Q.length = m) (hok : ∀ x ∈ Q, x.2.Ok x.1.l.length) (he : bootLns.take k ++ Q.map Prod.fst = bootLns.take (k + m)) (hlt : k + m ≤ 63) {a' : Option Addr} {cap' : Nat} {C' : List Value} (hO : Sx.Owg 4 (k + m) a' cap' C' (P.flatMap lhC ++ Q.flatMap lhC)) : PG (k + m) (P ++ Q) a' cap' C' := by
 have hl := h.len
 refine ⟨?_, fun y hy => (List.mem_append.1 hy).elim (h.ok y) (hok y), by rw [List.map_append, h.eq]; exact he, hlt⟩
 rw [List.length_append, hl, hm, List.flatMap_append]
 exact hO
theorem PAt.many {P Q : List (Ln × Hd)} {w : World} (h : PAt P w) (hr : ∀ x ∈ Q, RowAt w x.2.a (x.1.l.map numV)) : PAt (P ++ Q) w := fun y hy => (List.mem_append.1 hy).elim (h y) (hr y)

/-- The lines of effects. -/
def efQ (ks hs : List Int) (h : Hd) : List (Ln × Hd) := ks.map fun q => (⟨2, 0, q, hs⟩, h)
theorem efQ_len (ks hs : List Int) (h : Hd) : (efQ ks hs h).length = ks.length := by simp [efQ]
theorem efQ_all {ks hs : List Int} {h : Hd} {p : Ln × Hd → Prop} (hp : ∀ q, p (⟨2, 0, q, hs⟩, h)) : ∀ x ∈ efQ ks hs h, p x := by
 intro x hx
 obtain ⟨q, -, rfl⟩ := List.mem_map.1 hx
 exact hp q

theorem ln22 (h : LB 23 44 w0 av b1) : LA 22 44 w0 av b1 := by
 intro a cap C P g
 refine XStop.cutN tabOk 1 (ι := Hd) (fun x => x.Ok 10) (fun x => lnTm2 b1 x) (fun _ => []) (fun x => ⟨fun w => PAt P w ∧ RowAt w x.a ((compL 1).map numV), [] ++ slotRows b1 44 a cap C ++ []⟩) ?_ ?_
 rotate_left
 · intro x hx bs' hbs'
   obtain rfl := List.eq_nil_of_length_eq_zero hbs'
   rw [cTail_add]
   exact h x a cap C P hx g
 · conv => whnf
   repeat (first | (refine XSame.of ?_; conv => whnf) | (refine XDep.all _ _ _ _ ?_; conv => whnf))
   refine XCall.pure (components_spec 1 (by decide)) (fun w hw => trivial) (fun v F hv => ?_)
   obtain ⟨hh, hho, rfl, rfl⟩ := hv
   conv => whnf
   repeat (first | (refine XSame.of ?_; conv => whnf) | (refine XDep.all _ _ _ _ ?_; conv => whnf))
   refine ⟨hh, hho, [], ⟨by decide, by simp, rfl⟩, ?_, Ent.of_le ⟨by simp [Fx.and], fun w hw => hw⟩⟩
   repeat (first | exact FLe.nil | refine FLe.any ?_ | refine FLe.cons ?_)

theorem ln23 (h : LB 24 45 w0 av b1) : LB 23 44 w0 av b1 := by
 intro hl a cap C P hlo g
 refine XStop.cutN tabOk 1 (ι := Option Addr × Nat × List Value × List (Ln × Hd)) (fun x => PG 45 x.2.2.2 x.1 x.2.1 x.2.2.1) (fun _ => lnTm2 b1 hl) (fun _ => []) (fun x => ⟨fun w => PAt x.2.2.2 w ∧ RowAt w hl.a ((compL 1).map numV), [] ++ slotRows b1 45 x.1 x.2.1 x.2.2.1 ++ []⟩) ?_ ?_
 rotate_left
 · intro x hx bs' hbs'
   obtain rfl := List.eq_nil_of_length_eq_zero hbs'
   rw [cTail_add]
   exact h hl x.1 x.2.1 x.2.2.1 x.2.2.2 hlo hx
 · have hlen := g.len
   have hO := g.own
   rw [hlen] at hO
   conv => whnf
   repeat (first | (refine XSame.of ?_; conv => whnf) | (refine XDep.all _ _ _ _ ?_; conv => whnf))
   refine XVal.build tabOk rfl rfl rfl [.int .i64 1] rfl rfl (by simp [Value.cells]) (by decide) fun bk => ?_
   conv => whnf
   repeat (first | (refine XSame.of ?_; conv => whnf) | (refine XDep.all _ _ _ _ ?_; conv => whnf))
   refine XCall.ent (F' := ⟨fun w => (PAt P w ∧ RowAt w hl.a ((compL 1).map numV)) ∧ RowAt w (some ⟨bk, 0, none⟩) [.int .i64 1], [] ++ slotRows b1 44 a cap C ++ []⟩) (Ent.trans (Ent.of_le (F' := ⟨fun w => (PAt P w ∧ RowAt w hl.a ((compL 1).map numV)), ([] ++ slotRows b1 44 a cap C ++ []) ++ [(bk, Row.c [.int .i64 1])]⟩) ⟨by simp [Value.cells], fun w hw => hw⟩) Ent.shareLast) ?_
   refine XCall.rows (effect_spec b1 44 a cap C _ hO (by decide) hl 10 ⟨some ⟨bk, 0, none⟩, 1⟩ [1] (hd_new _ _) (by decide)) (fun w hw => hw.2) (fun v F hv => ?_)
   obtain ⟨a', c', C', hO', rfl⟩ := hv
   have hO2 : Sx.Owg 4 (44 + 1) a' c' C' (P.flatMap lhC ++ (efQ [1] (compL 1) hl).flatMap lhC) := hO'
   conv => whnf
   repeat (first | (refine XSame.of ?_; conv => whnf) | (refine XDep.all _ _ _ _ ?_; conv => whnf))
   refine ⟨(a', c', C', P ++ efQ [1] (compL 1) hl), g.many (m := 1) (Q := efQ [1] (compL 1) hl) (efQ_len _ _ _) (efQ_all fun _ => hlo) rfl (by decide) hO2, [], ⟨by decide, by simp, rfl⟩, ?_, Ent.of_le ⟨by simp, fun w hw => ⟨(hw.1.1.1).many (efQ_all fun _ => hw.1.1.2), hw.1.1.2⟩⟩⟩
   repeat (first | exact FLe.nil | refine FLe.any ?_ | refine FLe.cons ?_)

theorem ln24 (h : LB 25 46 w0 av b1) : LB 24 45 w0 av b1 := by
 intro hl a cap C P hlo g
 refine XStop.cutN tabOk 1 (ι := Option Addr × Nat × List Value × List (Ln × Hd)) (fun x => PG 46 x.2.2.2 x.1 x.2.1 x.2.2.1) (fun _ => lnTm2 b1 hl) (fun _ => []) (fun x => ⟨fun w => PAt x.2.2.2 w ∧ RowAt w hl.a ((compL 1).map numV), [] ++ slotRows b1 46 x.1 x.2.1 x.2.2.1 ++ []⟩) ?_ ?_
 rotate_left
 · intro x hx bs' hbs'
   obtain rfl := List.eq_nil_of_length_eq_zero hbs'
   rw [cTail_add]
   exact h hl x.1 x.2.1 x.2.2.1 x.2.2.2 hlo hx
 · have hlen := g.len
   have hO := g.own
   rw [hlen] at hO
   conv => whnf
   repeat (first | (refine XSame.of ?_; conv => whnf) | (refine XDep.all _ _ _ _ ?_; conv => whnf))
   refine XVal.build tabOk rfl rfl rfl [.int .i64 3, .int .i64 4, .int .i64 5, .int .i64 10] rfl rfl (by simp [Value.cells]) (by decide) fun bh => ?_
   conv => whnf
   repeat (first | (refine XSame.of ?_; conv => whnf) | (refine XDep.all _ _ _ _ ?_; conv => whnf))
   refine XVal.build tabOk rfl rfl rfl [.int .i64 2] rfl rfl (by simp [Value.cells]) (by decide) fun bk => ?_
   conv => whnf
   repeat (first | (refine XSame.of ?_; conv => whnf) | (refine XDep.all _ _ _ _ ?_; conv => whnf))
   refine XCall.ent (F' := ⟨fun w => ((PAt P w ∧ RowAt w hl.a ((compL 1).map numV)) ∧ RowAt w (some ⟨bh, 0, none⟩) [.int .i64 3, .int .i64 4, .int .i64 5, .int .i64 10]) ∧ RowAt w (some ⟨bk, 0, none⟩) [.int .i64 2], [] ++ slotRows b1 45 a cap C ++ []⟩) (Ent.trans (Ent.of_le (F' := ⟨fun w => (PAt P w ∧ RowAt w hl.a ((compL 1).map numV)), (([] ++ slotRows b1 45 a cap C ++ []) ++ [(bh, Row.c [.int .i64 3, .int .i64 4, .int .i64 5, .int .i64 10])]) ++ [(bk, Row.c [.int .i64 2])]⟩) ⟨by simp [Value.cells], fun w hw => hw⟩) (Ent.trans Ent.shareLast (Ent.trans Ent.shareLast (Ent.imp fun w hw => ⟨⟨hw.1.1, hw.2⟩, hw.1.2⟩)))) ?_
   refine XCall.rows (effect_spec b1 45 a cap C _ hO (by decide) (⟨some ⟨bh, 0, none⟩, 4⟩ : Hd) 4 ⟨some ⟨bk, 0, none⟩, 1⟩ [2] (hd_new _ _) (by decide)) (fun w hw => hw.2) (fun v F hv => ?_)
   obtain ⟨a', c', C', hO', rfl⟩ := hv
   have hO2 : Sx.Owg 4 (45 + 1) a' c' C' (P.flatMap lhC ++ (efQ [2] [3, 4, 5, 10] (⟨some ⟨bh, 0, none⟩, 4⟩ : Hd)).flatMap lhC) := hO'
   conv => whnf
   repeat (first | (refine XSame.of ?_; conv => whnf) | (refine XDep.all _ _ _ _ ?_; conv => whnf))
   refine ⟨(a', c', C', P ++ efQ [2] [3, 4, 5, 10] (⟨some ⟨bh, 0, none⟩, 4⟩ : Hd)), g.many (m := 1) (Q := efQ [2] [3, 4, 5, 10] (⟨some ⟨bh, 0, none⟩, 4⟩ : Hd)) (efQ_len _ _ _) (efQ_all fun _ => hd_new _ _) rfl (by decide) hO2, [], ⟨by decide, by simp, rfl⟩, ?_, Ent.of_le ⟨by simp, fun w hw => ⟨(hw.1.1.1.1).many (efQ_all fun _ => hw.1.1.2), hw.1.1.1.2⟩⟩⟩
   repeat (first | exact FLe.nil | refine FLe.any ?_ | refine FLe.cons ?_)

theorem ln25 (h : LB 26 47 w0 av b1) : LB 25 46 w0 av b1 := by
 intro hl a cap C P hlo g
 refine XStop.cutN tabOk 1 (ι := Option Addr × Nat × List Value × List (Ln × Hd)) (fun x => PG 47 x.2.2.2 x.1 x.2.1 x.2.2.1) (fun _ => lnTm2 b1 hl) (fun _ => []) (fun x => ⟨fun w => PAt x.2.2.2 w ∧ RowAt w hl.a ((compL 1).map numV), [] ++ slotRows b1 47 x.1 x.2.1 x.2.2.1 ++ []⟩) ?_ ?_
 rotate_left
 · intro x hx bs' hbs'
   obtain rfl := List.eq_nil_of_length_eq_zero hbs'
   rw [cTail_add]
   exact h hl x.1 x.2.1 x.2.2.1 x.2.2.2 hlo hx
 · have hlen := g.len
   have hO := g.own
   rw [hlen] at hO
   conv => whnf
   repeat (first | (refine XSame.of ?_; conv => whnf) | (refine XDep.all _ _ _ _ ?_; conv => whnf))
   refine XVal.build tabOk rfl rfl rfl [.int .i64 7, .int .i64 8, .int .i64 9] rfl rfl (by simp [Value.cells]) (by decide) fun bh => ?_
   conv => whnf
   repeat (first | (refine XSame.of ?_; conv => whnf) | (refine XDep.all _ _ _ _ ?_; conv => whnf))
   refine XVal.build tabOk rfl rfl rfl [.int .i64 3] rfl rfl (by simp [Value.cells]) (by decide) fun bk => ?_
   conv => whnf
   repeat (first | (refine XSame.of ?_; conv => whnf) | (refine XDep.all _ _ _ _ ?_; conv => whnf))
   refine XCall.ent (F' := ⟨fun w => ((PAt P w ∧ RowAt w hl.a ((compL 1).map numV)) ∧ RowAt w (some ⟨bh, 0, none⟩) [.int .i64 7, .int .i64 8, .int .i64 9]) ∧ RowAt w (some ⟨bk, 0, none⟩) [.int .i64 3], [] ++ slotRows b1 46 a cap C ++ []⟩) (Ent.trans (Ent.of_le (F' := ⟨fun w => (PAt P w ∧ RowAt w hl.a ((compL 1).map numV)), (([] ++ slotRows b1 46 a cap C ++ []) ++ [(bh, Row.c [.int .i64 7, .int .i64 8, .int .i64 9])]) ++ [(bk, Row.c [.int .i64 3])]⟩) ⟨by simp [Value.cells], fun w hw => hw⟩) (Ent.trans Ent.shareLast (Ent.trans Ent.shareLast (Ent.imp fun w hw => ⟨⟨hw.1.1, hw.2⟩, hw.1.2⟩)))) ?_
   refine XCall.rows (effect_spec b1 46 a cap C _ hO (by decide) (⟨some ⟨bh, 0, none⟩, 3⟩ : Hd) 3 ⟨some ⟨bk, 0, none⟩, 1⟩ [3] (hd_new _ _) (by decide)) (fun w hw => hw.2) (fun v F hv => ?_)
   obtain ⟨a', c', C', hO', rfl⟩ := hv
   have hO2 : Sx.Owg 4 (46 + 1) a' c' C' (P.flatMap lhC ++ (efQ [3] [7, 8, 9] (⟨some ⟨bh, 0, none⟩, 3⟩ : Hd)).flatMap lhC) := hO'
   conv => whnf
   repeat (first | (refine XSame.of ?_; conv => whnf) | (refine XDep.all _ _ _ _ ?_; conv => whnf))
   refine ⟨(a', c', C', P ++ efQ [3] [7, 8, 9] (⟨some ⟨bh, 0, none⟩, 3⟩ : Hd)), g.many (m := 1) (Q := efQ [3] [7, 8, 9] (⟨some ⟨bh, 0, none⟩, 3⟩ : Hd)) (efQ_len _ _ _) (efQ_all fun _ => hd_new _ _) rfl (by decide) hO2, [], ⟨by decide, by simp, rfl⟩, ?_, Ent.of_le ⟨by simp, fun w hw => ⟨(hw.1.1.1.1).many (efQ_all fun _ => hw.1.1.2), hw.1.1.1.2⟩⟩⟩
   repeat (first | exact FLe.nil | refine FLe.any ?_ | refine FLe.cons ?_)

theorem ln26 (h : LA 27 48 w0 av b1) : LB 26 47 w0 av b1 := by
 intro hl a cap C P hlo g
 refine XStop.cutN tabOk 1 (ι := Option Addr × Nat × List Value × List (Ln × Hd)) (fun x => PG 48 x.2.2.2 x.1 x.2.1 x.2.2.1) (fun _ => lnTm b1) (fun _ => []) (fun x => ⟨PAt x.2.2.2, [] ++ slotRows b1 48 x.1 x.2.1 x.2.2.1 ++ []⟩) ?_ ?_
 rotate_left
 · intro x hx bs' hbs'
   obtain rfl := List.eq_nil_of_length_eq_zero hbs'
   rw [cTail_add]
   exact h x.1 x.2.1 x.2.2.1 x.2.2.2 hx
 · have hlen := g.len
   have hO := g.own
   rw [hlen] at hO
   conv => whnf
   repeat (first | (refine XSame.of ?_; conv => whnf) | (refine XDep.all _ _ _ _ ?_; conv => whnf))
   refine XVal.build tabOk rfl rfl rfl [.int .i64 4] rfl rfl (by simp [Value.cells]) (by decide) fun bk => ?_
   conv => whnf
   repeat (first | (refine XSame.of ?_; conv => whnf) | (refine XDep.all _ _ _ _ ?_; conv => whnf))
   refine XCall.ent (F' := ⟨fun w => (PAt P w ∧ RowAt w hl.a ((compL 1).map numV)) ∧ RowAt w (some ⟨bk, 0, none⟩) [.int .i64 4], [] ++ slotRows b1 47 a cap C ++ []⟩) (Ent.trans (Ent.of_le (F' := ⟨fun w => (PAt P w ∧ RowAt w hl.a ((compL 1).map numV)), ([] ++ slotRows b1 47 a cap C ++ []) ++ [(bk, Row.c [.int .i64 4])]⟩) ⟨by simp [Value.cells], fun w hw => hw⟩) Ent.shareLast) ?_
   refine XCall.rows (effect_spec b1 47 a cap C _ hO (by decide) hl 10 ⟨some ⟨bk, 0, none⟩, 1⟩ [4] (hd_new _ _) (by decide)) (fun w hw => hw.2) (fun v F hv => ?_)
   obtain ⟨a', c', C', hO', rfl⟩ := hv
   have hO2 : Sx.Owg 4 (47 + 1) a' c' C' (P.flatMap lhC ++ (efQ [4] (compL 1) hl).flatMap lhC) := hO'
   conv => whnf
   repeat (first | (refine XSame.of ?_; conv => whnf) | (refine XDep.all _ _ _ _ ?_; conv => whnf))
   refine ⟨(a', c', C', P ++ efQ [4] (compL 1) hl), g.many (m := 1) (Q := efQ [4] (compL 1) hl) (efQ_len _ _ _) (efQ_all fun _ => hlo) rfl (by decide) hO2, [], ⟨by decide, by simp, rfl⟩, ?_, Ent.of_le ⟨by simp, fun w hw => (hw.1.1.1).many (efQ_all fun _ => hw.1.1.2)⟩⟩
   repeat (first | exact FLe.nil | refine FLe.any ?_ | refine FLe.cons ?_)

theorem ln27 (h : LA 28 54 w0 av b1) : LA 27 48 w0 av b1 := by
 intro a cap C P g
 refine XStop.cutN tabOk 1 (ι := Option Addr × Nat × List Value × List (Ln × Hd)) (fun x => PG 54 x.2.2.2 x.1 x.2.1 x.2.2.1) (fun _ => lnTm b1) (fun _ => []) (fun x => ⟨PAt x.2.2.2, [] ++ slotRows b1 54 x.1 x.2.1 x.2.2.1 ++ []⟩) ?_ ?_
 rotate_left
 · intro x hx bs' hbs'
   obtain rfl := List.eq_nil_of_length_eq_zero hbs'
   rw [cTail_add]
   exact h x.1 x.2.1 x.2.2.1 x.2.2.2 hx
 · have hlen := g.len
   have hO := g.own
   rw [hlen] at hO
   conv => whnf
   repeat (first | (refine XSame.of ?_; conv => whnf) | (refine XDep.all _ _ _ _ ?_; conv => whnf))
   refine XVal.build tabOk rfl rfl rfl [.int .i64 4] rfl rfl (by simp [Value.cells]) (by decide) fun bh => ?_
   conv => whnf
   repeat (first | (refine XSame.of ?_; conv => whnf) | (refine XDep.all _ _ _ _ ?_; conv => whnf))
   refine XVal.build tabOk rfl rfl rfl [.int .i64 5, .int .i64 6, .int .i64 7, .int .i64 8, .int .i64 9, .int .i64 10] rfl rfl (by simp [Value.cells]) (by decide) fun bk => ?_
   conv => whnf
   repeat (first | (refine XSame.of ?_; conv => whnf) | (refine XDep.all _ _ _ _ ?_; conv => whnf))
   refine XCall.ent (F' := ⟨fun w => (PAt P w ∧ RowAt w (some ⟨bh, 0, none⟩) [.int .i64 4]) ∧ RowAt w (some ⟨bk, 0, none⟩) [.int .i64 5, .int .i64 6, .int .i64 7, .int .i64 8, .int .i64 9, .int .i64 10], [] ++ slotRows b1 48 a cap C ++ []⟩) (Ent.trans (Ent.of_le (F' := ⟨fun w => PAt P w, (([] ++ slotRows b1 48 a cap C ++ []) ++ [(bh, Row.c [.int .i64 4])]) ++ [(bk, Row.c [.int .i64 5, .int .i64 6, .int .i64 7, .int .i64 8, .int .i64 9, .int .i64 10])]⟩) ⟨by simp [Value.cells], fun w hw => hw⟩) (Ent.trans Ent.shareLast (Ent.trans Ent.shareLast (Ent.imp fun w hw => ⟨⟨hw.1.1, hw.2⟩, hw.1.2⟩)))) ?_
   refine XCall.rows (effect_spec b1 48 a cap C _ hO (by decide) (⟨some ⟨bh, 0, none⟩, 1⟩ : Hd) 1 ⟨some ⟨bk, 0, none⟩, 6⟩ [5, 6, 7, 8, 9, 10] (hd_new _ _) (by decide)) (fun w hw => hw.2) (fun v F hv => ?_)
   obtain ⟨a', c', C', hO', rfl⟩ := hv
   have hO2 : Sx.Owg 4 (48 + 6) a' c' C' (P.flatMap lhC ++ (efQ [5, 6, 7, 8, 9, 10] [4] (⟨some ⟨bh, 0, none⟩, 1⟩ : Hd)).flatMap lhC) := hO'
   conv => whnf
   repeat (first | (refine XSame.of ?_; conv => whnf) | (refine XDep.all _ _ _ _ ?_; conv => whnf))
   refine ⟨(a', c', C', P ++ efQ [5, 6, 7, 8, 9, 10] [4] (⟨some ⟨bh, 0, none⟩, 1⟩ : Hd)), g.many (m := 6) (Q := efQ [5, 6, 7, 8, 9, 10] [4] (⟨some ⟨bh, 0, none⟩, 1⟩ : Hd)) (efQ_len _ _ _) (efQ_all fun _ => hd_new _ _) rfl (by decide) hO2, [], ⟨by decide, by simp, rfl⟩, ?_, Ent.of_le ⟨by simp, fun w hw => (hw.1.1.1).many (efQ_all fun _ => hw.1.1.2)⟩⟩
   repeat (first | exact FLe.nil | refine FLe.any ?_ | refine FLe.cons ?_)

theorem ln28 (h : LA 29 58 w0 av b1) : LA 28 54 w0 av b1 := by
 intro a cap C P g
 refine XStop.cutN tabOk 1 (ι := Option Addr × Nat × List Value × List (Ln × Hd)) (fun x => PG 58 x.2.2.2 x.1 x.2.1 x.2.2.1) (fun _ => lnTm b1) (fun _ => []) (fun x => ⟨PAt x.2.2.2, [] ++ slotRows b1 58 x.1 x.2.1 x.2.2.1 ++ []⟩) ?_ ?_
 rotate_left
 · intro x hx bs' hbs'
   obtain rfl := List.eq_nil_of_length_eq_zero hbs'
   rw [cTail_add]
   exact h x.1 x.2.1 x.2.2.1 x.2.2.2 hx
 · have hlen := g.len
   have hO := g.own
   rw [hlen] at hO
   conv => whnf
   repeat (first | (refine XSame.of ?_; conv => whnf) | (refine XDep.all _ _ _ _ ?_; conv => whnf))
   refine XVal.build tabOk rfl rfl rfl [.int .i64 3] rfl rfl (by simp [Value.cells]) (by decide) fun bh => ?_
   conv => whnf
   repeat (first | (refine XSame.of ?_; conv => whnf) | (refine XDep.all _ _ _ _ ?_; conv => whnf))
   refine XVal.build tabOk rfl rfl rfl [.int .i64 11, .int .i64 12, .int .i64 13, .int .i64 14] rfl rfl (by simp [Value.cells]) (by decide) fun bk => ?_
   conv => whnf
   repeat (first | (refine XSame.of ?_; conv => whnf) | (refine XDep.all _ _ _ _ ?_; conv => whnf))
   refine XCall.ent (F' := ⟨fun w => (PAt P w ∧ RowAt w (some ⟨bh, 0, none⟩) [.int .i64 3]) ∧ RowAt w (some ⟨bk, 0, none⟩) [.int .i64 11, .int .i64 12, .int .i64 13, .int .i64 14], [] ++ slotRows b1 54 a cap C ++ []⟩) (Ent.trans (Ent.of_le (F' := ⟨fun w => PAt P w, (([] ++ slotRows b1 54 a cap C ++ []) ++ [(bh, Row.c [.int .i64 3])]) ++ [(bk, Row.c [.int .i64 11, .int .i64 12, .int .i64 13, .int .i64 14])]⟩) ⟨by simp [Value.cells], fun w hw => hw⟩) (Ent.trans Ent.shareLast (Ent.trans Ent.shareLast (Ent.imp fun w hw => ⟨⟨hw.1.1, hw.2⟩, hw.1.2⟩)))) ?_
   refine XCall.rows (effect_spec b1 54 a cap C _ hO (by decide) (⟨some ⟨bh, 0, none⟩, 1⟩ : Hd) 1 ⟨some ⟨bk, 0, none⟩, 4⟩ [11, 12, 13, 14] (hd_new _ _) (by decide)) (fun w hw => hw.2) (fun v F hv => ?_)
   obtain ⟨a', c', C', hO', rfl⟩ := hv
   have hO2 : Sx.Owg 4 (54 + 4) a' c' C' (P.flatMap lhC ++ (efQ [11, 12, 13, 14] [3] (⟨some ⟨bh, 0, none⟩, 1⟩ : Hd)).flatMap lhC) := hO'
   conv => whnf
   repeat (first | (refine XSame.of ?_; conv => whnf) | (refine XDep.all _ _ _ _ ?_; conv => whnf))
   refine ⟨(a', c', C', P ++ efQ [11, 12, 13, 14] [3] (⟨some ⟨bh, 0, none⟩, 1⟩ : Hd)), g.many (m := 4) (Q := efQ [11, 12, 13, 14] [3] (⟨some ⟨bh, 0, none⟩, 1⟩ : Hd)) (efQ_len _ _ _) (efQ_all fun _ => hd_new _ _) rfl (by decide) hO2, [], ⟨by decide, by simp, rfl⟩, ?_, Ent.of_le ⟨by simp, fun w hw => (hw.1.1.1).many (efQ_all fun _ => hw.1.1.2)⟩⟩
   repeat (first | exact FLe.nil | refine FLe.any ?_ | refine FLe.cons ?_)

theorem ln29 (h : LA 30 59 w0 av b1) : LA 29 58 w0 av b1 := by
 intro a cap C P g
 refine XStop.cutN tabOk 1 (ι := Option Addr × Nat × List Value × List (Ln × Hd)) (fun x => PG 59 x.2.2.2 x.1 x.2.1 x.2.2.1) (fun _ => lnTm b1) (fun _ => []) (fun x => ⟨PAt x.2.2.2, [] ++ slotRows b1 59 x.1 x.2.1 x.2.2.1 ++ []⟩) ?_ ?_
 rotate_left
 · intro x hx bs' hbs'
   obtain rfl := List.eq_nil_of_length_eq_zero hbs'
   rw [cTail_add]
   exact h x.1 x.2.1 x.2.2.1 x.2.2.2 hx
 · have hlen := g.len
   have hO := g.own
   rw [hlen] at hO
   conv => whnf
   repeat (first | (refine XSame.of ?_; conv => whnf) | (refine XDep.all _ _ _ _ ?_; conv => whnf))
   refine XVal.build tabOk rfl rfl rfl [.int .i64 5] rfl rfl (by simp [Value.cells]) (by decide) fun bh => ?_
   conv => whnf
   repeat (first | (refine XSame.of ?_; conv => whnf) | (refine XDep.all _ _ _ _ ?_; conv => whnf))
   refine XVal.build tabOk rfl rfl rfl [.int .i64 15] rfl rfl (by simp [Value.cells]) (by decide) fun bk => ?_
   conv => whnf
   repeat (first | (refine XSame.of ?_; conv => whnf) | (refine XDep.all _ _ _ _ ?_; conv => whnf))
   refine XCall.ent (F' := ⟨fun w => (PAt P w ∧ RowAt w (some ⟨bh, 0, none⟩) [.int .i64 5]) ∧ RowAt w (some ⟨bk, 0, none⟩) [.int .i64 15], [] ++ slotRows b1 58 a cap C ++ []⟩) (Ent.trans (Ent.of_le (F' := ⟨fun w => PAt P w, (([] ++ slotRows b1 58 a cap C ++ []) ++ [(bh, Row.c [.int .i64 5])]) ++ [(bk, Row.c [.int .i64 15])]⟩) ⟨by simp [Value.cells], fun w hw => hw⟩) (Ent.trans Ent.shareLast (Ent.trans Ent.shareLast (Ent.imp fun w hw => ⟨⟨hw.1.1, hw.2⟩, hw.1.2⟩)))) ?_
   refine XCall.rows (effect_spec b1 58 a cap C _ hO (by decide) (⟨some ⟨bh, 0, none⟩, 1⟩ : Hd) 1 ⟨some ⟨bk, 0, none⟩, 1⟩ [15] (hd_new _ _) (by decide)) (fun w hw => hw.2) (fun v F hv => ?_)
   obtain ⟨a', c', C', hO', rfl⟩ := hv
   have hO2 : Sx.Owg 4 (58 + 1) a' c' C' (P.flatMap lhC ++ (efQ [15] [5] (⟨some ⟨bh, 0, none⟩, 1⟩ : Hd)).flatMap lhC) := hO'
   conv => whnf
   repeat (first | (refine XSame.of ?_; conv => whnf) | (refine XDep.all _ _ _ _ ?_; conv => whnf))
   refine ⟨(a', c', C', P ++ efQ [15] [5] (⟨some ⟨bh, 0, none⟩, 1⟩ : Hd)), g.many (m := 1) (Q := efQ [15] [5] (⟨some ⟨bh, 0, none⟩, 1⟩ : Hd)) (efQ_len _ _ _) (efQ_all fun _ => hd_new _ _) rfl (by decide) hO2, [], ⟨by decide, by simp, rfl⟩, ?_, Ent.of_le ⟨by simp, fun w hw => (hw.1.1.1).many (efQ_all fun _ => hw.1.1.2)⟩⟩
   repeat (first | exact FLe.nil | refine FLe.any ?_ | refine FLe.cons ?_)

theorem ln30 (h : LA 31 60 w0 av b1) : LA 30 59 w0 av b1 := by
 intro a cap C P g
 refine XStop.cutN tabOk 1 (ι := Option Addr × Nat × List Value × List (Ln × Hd)) (fun x => PG 60 x.2.2.2 x.1 x.2.1 x.2.2.1) (fun _ => lnTm b1) (fun _ => []) (fun x => ⟨PAt x.2.2.2, [] ++ slotRows b1 60 x.1 x.2.1 x.2.2.1 ++ []⟩) ?_ ?_
 rotate_left
 · intro x hx bs' hbs'
   obtain rfl := List.eq_nil_of_length_eq_zero hbs'
   rw [cTail_add]
   exact h x.1 x.2.1 x.2.2.1 x.2.2.2 hx
 · have hlen := g.len
   have hO := g.own
   rw [hlen] at hO
   conv => whnf
   repeat (first | (refine XSame.of ?_; conv => whnf) | (refine XDep.all _ _ _ _ ?_; conv => whnf))
   refine XVal.build tabOk rfl rfl rfl [.int .i64 1] rfl rfl (by simp [Value.cells]) (by decide) fun bh => ?_
   conv => whnf
   repeat (first | (refine XSame.of ?_; conv => whnf) | (refine XDep.all _ _ _ _ ?_; conv => whnf))
   refine XVal.build tabOk rfl rfl rfl [.int .i64 16] rfl rfl (by simp [Value.cells]) (by decide) fun bk => ?_
   conv => whnf
   repeat (first | (refine XSame.of ?_; conv => whnf) | (refine XDep.all _ _ _ _ ?_; conv => whnf))
   refine XCall.ent (F' := ⟨fun w => (PAt P w ∧ RowAt w (some ⟨bh, 0, none⟩) [.int .i64 1]) ∧ RowAt w (some ⟨bk, 0, none⟩) [.int .i64 16], [] ++ slotRows b1 59 a cap C ++ []⟩) (Ent.trans (Ent.of_le (F' := ⟨fun w => PAt P w, (([] ++ slotRows b1 59 a cap C ++ []) ++ [(bh, Row.c [.int .i64 1])]) ++ [(bk, Row.c [.int .i64 16])]⟩) ⟨by simp [Value.cells], fun w hw => hw⟩) (Ent.trans Ent.shareLast (Ent.trans Ent.shareLast (Ent.imp fun w hw => ⟨⟨hw.1.1, hw.2⟩, hw.1.2⟩)))) ?_
   refine XCall.rows (effect_spec b1 59 a cap C _ hO (by decide) (⟨some ⟨bh, 0, none⟩, 1⟩ : Hd) 1 ⟨some ⟨bk, 0, none⟩, 1⟩ [16] (hd_new _ _) (by decide)) (fun w hw => hw.2) (fun v F hv => ?_)
   obtain ⟨a', c', C', hO', rfl⟩ := hv
   have hO2 : Sx.Owg 4 (59 + 1) a' c' C' (P.flatMap lhC ++ (efQ [16] [1] (⟨some ⟨bh, 0, none⟩, 1⟩ : Hd)).flatMap lhC) := hO'
   conv => whnf
   repeat (first | (refine XSame.of ?_; conv => whnf) | (refine XDep.all _ _ _ _ ?_; conv => whnf))
   refine ⟨(a', c', C', P ++ efQ [16] [1] (⟨some ⟨bh, 0, none⟩, 1⟩ : Hd)), g.many (m := 1) (Q := efQ [16] [1] (⟨some ⟨bh, 0, none⟩, 1⟩ : Hd)) (efQ_len _ _ _) (efQ_all fun _ => hd_new _ _) rfl (by decide) hO2, [], ⟨by decide, by simp, rfl⟩, ?_, Ent.of_le ⟨by simp, fun w hw => (hw.1.1.1).many (efQ_all fun _ => hw.1.1.2)⟩⟩
   repeat (first | exact FLe.nil | refine FLe.any ?_ | refine FLe.cons ?_)

theorem ln31 (h : LA 32 63 w0 av b1) : LA 31 60 w0 av b1 := by
 intro a cap C P g
 refine XStop.cutN tabOk 1 (ι := Option Addr × Nat × List Value × List (Ln × Hd)) (fun x => PG 63 x.2.2.2 x.1 x.2.1 x.2.2.1) (fun _ => lnTm b1) (fun _ => []) (fun x => ⟨PAt x.2.2.2, [] ++ slotRows b1 63 x.1 x.2.1 x.2.2.1 ++ []⟩) ?_ ?_
 rotate_left
 · intro x hx bs' hbs'
   obtain rfl := List.eq_nil_of_length_eq_zero hbs'
   rw [cTail_add]
   exact h x.1 x.2.1 x.2.2.1 x.2.2.2 hx
 · conv => whnf
   repeat (first | (refine XSame.of ?_; conv => whnf) | (refine XDep.all _ _ _ _ ?_; conv => whnf))
   refine XVal.build tabOk rfl rfl rfl [.int .i64 7, .int .i64 8, .int .i64 9] rfl rfl (by simp [Value.cells]) (by decide) fun bv => ?_
   conv => whnf
   repeat (first | (refine XSame.of ?_; conv => whnf) | (refine XDep.all _ _ _ _ ?_; conv => whnf))
   obtain ⟨L, hL⟩ : ∃ L : List Int, L = [7, 8, 9] := ⟨_, rfl⟩
   have hE : Ent (⟨PAt P, ([] ++ slotRows b1 60 a cap C ++ []) ++ [(bv, Row.c [.int .i64 7, .int .i64 8, .int .i64 9])]⟩ : Fx) ⟨fun w => PAt P w ∧ RowAt w (some ⟨bv, 0, none⟩) (L.map numV), [] ++ slotRows b1 (60 + 0) a cap C ++ []⟩ := by rw [hL]; exact Ent.shareLast
   have hLl : L.length = 3 := by rw [hL]; decide
   have hLn : ∀ i, i < 3 → bootLns[60 + i]? = some ⟨3, 0, ((1 + i : Nat) : Int), [L[i]!]⟩ := by rw [hL]; decide
   refine XStop.loop tabOk (ι := Nat × Option Addr × Nat × List Value × List (Ln × Hd)) ([13, 14, 121] ++ List.range' 122 14) (fun x => x.1 ≤ 3 ∧ PG (60 + x.1) x.2.2.2.2 x.2.1 x.2.2.1 x.2.2.2.1) (fun x => [(121, .v (.int .i64 (x.1 : Int)))]) (fun _ => [])
    (fun x => ⟨fun w => PAt x.2.2.2.2 w ∧ RowAt w (some ⟨bv, 0, none⟩) (L.map numV), [] ++ slotRows b1 (60 + x.1) x.2.1 x.2.2.1 x.2.2.2.1 ++ []⟩) (fun x => 3 - x.1) (0, a, cap, C, P) ⟨Nat.zero_le _, g⟩ ?_ rfl (Ent.trans (Ent.of_le ⟨by simp [Value.cells], fun w hw => hw⟩) hE) fun x hx => ?_
   · conv => whnf
     repeat (first | exact FLe.nil | refine FLe.any ?_ | refine FLe.cons ?_)
   clear g hE
   obtain ⟨i, a, cap, C, P⟩ := x
   obtain ⟨hi, g⟩ := hx
   dsimp only at hi g ⊢
   have hl := g.len
   have hO := g.own
   rw [hl] at hO
   conv => whnf
   repeat (first | (refine XSame.of ?_; conv => whnf) | (refine XDep.all _ _ _ _ ?_; conv => whnf))
   refine XIf.split (fun hlt => ?_) (fun hlt => ?_)
   · have hlt' : i < 3 := by
      simp [iLt_eq] at hlt
      omega
     have hx := hLn i hlt'
     have hLi : L[i]! = L[i] := by simp [hLl, hlt']
     rw [hLi] at hx
     have hw1 : IntKind.i64.wrap (1 + (i : Int)) = ((1 + i : Nat) : Int) := by rw [wrap_i64 (by omega)]; omega
     conv => whnf
     repeat (first | (refine XSame.of ?_; conv => whnf) | (refine XDep.all _ _ _ _ ?_; conv => whnf))
     refine XVal.of_read (XRead.index tabOk rfl rfl rfl (by omega) (by omega) (fun h => by cases h) fun ad had => ?_)
     conv => whnf
     repeat (first | (refine XSame.of ?_; conv => whnf) | (refine XDep.all _ _ _ _ ?_; conv => whnf))
     refine XVal.of_read (XRead.load tabOk rfl rfl (ad := ad) (k := i) (L := L.map numV) (v := .int .i64 L[i]) (.fact fun w hw => had ▸ hw.2) (by simp) (by rw [List.getElem?_map, List.getElem?_eq_getElem (by omega)]; rfl) ?_)
     conv => whnf
     repeat (first | (refine XSame.of ?_; conv => whnf) | (refine XDep.all _ _ _ _ ?_; conv => whnf))
     refine XVal.of_read (XRead.loadF tabOk rfl rfl (ad := ⟨b1, 0, none⟩) (k := 0) (L := [.slice a (60 + i) cap]) (v := .slice a (60 + i) cap) (Sees.row (by simp [slotRows])) (fun _ => rfl) rfl ?_)
     conv => whnf
     repeat (first | (refine XSame.of ?_; conv => whnf) | (refine XDep.all _ _ _ _ ?_; conv => whnf))
     refine XVal.build tabOk rfl rfl rfl [.int .i64 L[i]] rfl rfl (by simp [Value.cells]) (by decide) fun bh => ?_
     conv => whnf
     repeat (first | (refine XSame.of ?_; conv => whnf) | (refine XDep.all _ _ _ _ ?_; conv => whnf))
     refine XVal.build tabOk rfl rfl rfl [.agg ⟨[numV 3, numV 0, .int .i64 (IntKind.i64.wrap (1 + (i : Int))), .slice (some ⟨bh, 0, none⟩) 1 1]⟩] rfl rfl (by simp [Value.cells]) (by decide) fun b5 => ?_
     rw [hw1]
     conv => whnf
     repeat (first | (refine XSame.of ?_; conv => whnf) | (refine XDep.all _ _ _ _ ?_; conv => whnf))
     refine XVal.ent (F' := ⟨fun w => (PAt P w ∧ RowAt w (some ⟨bv, 0, none⟩) (L.map numV)) ∧ RowAt w (some ⟨bh, 0, none⟩) [.int .i64 L[i]], [(b1, Row.c [.slice a (60 + i) cap])] ++ orow a C ++ [(b5, Row.c [numV 3, numV 0, .int .i64 ((1 + i : Nat) : Int), .slice (some ⟨bh, 0, none⟩) 1 1])]⟩)
      (Ent.trans (Ent.perm (rs' := ([(b1, Row.c [.slice a (60 + i) cap])] ++ orow a C ++ [(b5, Row.c [numV 3, numV 0, .int .i64 ((1 + i : Nat) : Int), .slice (some ⟨bh, 0, none⟩) 1 1])]) ++ [(bh, Row.c [.int .i64 L[i]])]) (by simp [Value.cells, slotRows]; exact List.Perm.append_left _ (List.Perm.swap _ _ _))) Ent.shareLast) ?_
     refine XVal.append1 tabOk rfl rfl rfl rfl rfl rfl (M := [numV 3, numV 0, .int .i64 ((1 + i : Nat) : Int), .slice (some ⟨bh, 0, none⟩) 1 1]) hO (Sees.row (by simp)) rfl (List.all_eq_true.1 (by rfl)) (by omega) (by show (60 + i + (60 + i) / 4 + 600) * 48 ≤ 2 ^ 48; omega) fun a' c' C' hO' => ?_
     conv => whnf
     repeat (first | (refine XSame.of ?_; conv => whnf) | (refine XDep.all _ _ _ _ ?_; conv => whnf))
     refine XUnit.ent (F' := ⟨fun w => (PAt P w ∧ RowAt w (some ⟨bv, 0, none⟩) (L.map numV)) ∧ RowAt w (some ⟨bh, 0, none⟩) [.int .i64 L[i]], [] ++ [(b1, Row.c [.slice a (60 + i) cap])] ++ orow a' C'⟩) (Ent.of_le ⟨by simp, fun w hw => hw⟩) ?_
     refine XUnit.storeTo tabOk rfl (b := b1) (k := 0) (X := [.slice a' (60 + i + 1) c']) rfl rfl (List.all_eq_true.1 (by rfl)) (Nat.le_refl _) rfl ?_
     conv => whnf
     repeat (first | (refine XSame.of ?_; conv => whnf) | (refine XDep.all _ _ _ _ ?_; conv => whnf))
     refine ⟨(i + 1, a', c', C', P ++ [(⟨3, 0, ((1 + i : Nat) : Int), [L[i]]⟩, ⟨some ⟨bh, 0, none⟩, 1⟩)]), ⟨⟨hlt', g.next hx (hd_new _ _) (by rw [hl]; exact hO')⟩, by dsimp only; omega⟩, ?_, ?_, Ent.of_le ⟨by simp [slotRows]; exact List.Sublist.refl _, fun w hw => ⟨hw.1.1.next hw.2, hw.1.2⟩⟩⟩
     · conv => whnf
       refine ⟨?_, rfl⟩
       repeat (first | exact FLe.nil | refine FLe.any ?_ | refine FLe.cons ?_ | refine FLe.eq (by rw [wrap_i64 (by omega)]; rfl) ?_)
     · conv => whnf
       exact trivial
   · have hie : i = 3 := by
      simp [iLt_eq] at hlt
      omega
     subst hie
     conv => whnf
     repeat (first | (refine XSame.of ?_; conv => whnf) | (refine XDep.all _ _ _ _ ?_; conv => whnf))
     refine ⟨(a, cap, C, P), g, [], ⟨by decide, by simp, rfl⟩, ?_, Ent.of_le ⟨List.Sublist.refl _, fun w hw => hw.1⟩⟩
     repeat (first | exact FLe.nil | refine FLe.any ?_ | refine FLe.cons ?_)

theorem ln32 : LA 32 63 w0 av b1 := by
 intro a cap C P g
 have hl := g.len
 have hO := g.own
 rw [hl] at hO
 obtain ⟨b, hb⟩ : ∃ ad : Addr, a = some ad := by
  rcases hO.alt with ⟨-, -, hc⟩ | ⟨b', hb, -⟩
  · have := hO.fit
    omega
  · exact ⟨_, hb⟩
 have hfit := hO.fit
 refine XStop.of_xc tabOk ?_
 conv => whnf
 repeat (first | (refine XSame.of ?_; conv => whnf) | (refine XDep.all _ _ _ _ ?_; conv => whnf))
 refine XVal.of_read (XRead.loadF tabOk rfl rfl (ad := ⟨b1, 0, none⟩) (k := 0) (L := [.slice a 63 cap]) (v := .slice a 63 cap) (Sees.row (by simp [slotRows])) (fun _ => rfl) rfl ?_)
 conv => whnf
 repeat (first | (refine XSame.of ?_; conv => whnf) | (refine XDep.all _ _ _ _ ?_; conv => whnf))
 refine ⟨⟨fun w => RowAt w a (P.flatMap lhC) ∧ PAt P w, []⟩, Ent.trans (Ent.of_le (F' := ⟨PAt P, [] ++ orow a C ++ []⟩) ⟨by simp [slotRows], fun w hw => hw⟩) (Ent.trans (hO.share (r1 := []) (r2 := [])) (Ent.imp fun w hw => ⟨hw.2, hw.1⟩)), P, b, cap, by rw [g.eq]; rfl, g.ok, hfit, by rw [hb], by rw [hb]⟩
end

theorem lines_walk : PureSpec Tryz.prog 52 [] (fun _ => True) RelLn := by
 refine PureSpec.of_stop tabOk Tryz.func52 (c := lnCode) rfl (by decide) (n := Tryz.f52.ntmps - 0) rfl fun w0 av => ?_
 show XStop Tryz.prog w0 (fun _ _ => False) av lnCode _ [] [] _ lnEnd
 refine XStop.cutN tabOk 2 (ι := Nat) (fun _ => True) (fun b1 => lnTm b1) (fun _ => []) (fun b1 => ⟨PAt [], [] ++ slotRows b1 0 none 0 [] ++ []⟩) ?_ ?_
 · conv => whnf
   repeat (first | (refine XSame.of ?_; conv => whnf) | (refine XDep.all _ _ _ _ ?_; conv => whnf))
   refine XVal.allocRow tabOk rfl (z := [.slice none 0 0]) rfl fun b1 => ?_
   conv => whnf
   repeat (first | (refine XSame.of ?_; conv => whnf) | (refine XDep.all _ _ _ _ ?_; conv => whnf))
   refine ⟨b1, trivial, [], ⟨by decide, by simp, rfl⟩, ?_, Ent.of_le ⟨by simp [slotRows, orow], fun w hw x hx => by cases hx⟩⟩
   repeat (first | exact FLe.nil | refine FLe.any ?_ | refine FLe.cons ?_)
 · intro b1 _ bs' hbs'
   obtain rfl := List.eq_nil_of_length_eq_zero hbs'
   exact ln2 (ln3 (ln4 (ln5 (ln6 (ln7 (ln8 (ln9 (ln10 (ln11 (ln12 (ln13 (ln14 (ln15 (ln16 (ln17 (ln18 (ln19 (ln20 (ln21 (ln22 (ln23 (ln24 (ln25 (ln26 (ln27 (ln28 (ln29 (ln30 (ln31 ln32))))))))))))))))))))))))))))) none 0 [] [] ⟨Sx.Owg.nil 4, fun x hx => (by cases hx), rfl, by decide⟩

theorem lines_spec : PureSpec Tryz.prog 52 [] (fun _ => True)
 (fun v F => ∃ (a : Addr) (c : Nat) (hd : Nat → Hd), bootLns.length ≤ c ∧ (∀ j, j < bootLns.length → (hd j).Ok (bootLns[j]!).l.length) ∧ v = .slice (some a) bootLns.length c ∧
  F = ⟨fun w => RowAt w (some a) ((List.range bootLns.length).flatMap fun j => lnC bootLns[j]! (hd j)) ∧ ∀ j, j < bootLns.length → RowAt w (hd j).a (bootLns[j]!.l.map numV), []⟩) := by
 refine lines_walk.weaken fun v F hv => ?_
 obtain ⟨P, a, c, h1, h2, h3, rfl, rfl⟩ := hv
 have hl : P.length = bootLns.length := by rw [← h1, List.length_map]
 have hg : ∀ j (hj : j < P.length), bootLns[j]! = P[j].1 := fun j hj => by
  rw [getElem!_pos bootLns j (by omega)]
  have : (P.map Prod.fst)[j]'(by simpa using hj) = P[j].1 := by simp
  rw [← this]
  congr 1
  exact h1.symm
 let hd : Nat → Hd := fun j => if h : j < P.length then P[j].2 else Hd.nil
 have hh : ∀ j (hj : j < P.length), hd j = P[j].2 := fun j hj => dif_pos hj
 have hP : P = (List.range P.length).map fun j => (bootLns[j]!, hd j) := by
  apply List.ext_getElem
  · simp
  · intro j hj1 hj2
    rw [List.getElem_map, List.getElem_range, hg j hj1, hh j hj1]
 have hf : P.flatMap lhC = (List.range bootLns.length).flatMap fun j => lnC bootLns[j]! (hd j) := by
  rw [hP, List.flatMap_map, hl]
  rfl
 refine ⟨_, Ent.imp (D' := fun w => RowAt w (some a) ((List.range bootLns.length).flatMap fun j => lnC bootLns[j]! (hd j)) ∧ ∀ j, j < bootLns.length → RowAt w (hd j).a (bootLns[j]!.l.map numV)) fun w hw => ⟨hf ▸ hw.1, fun j hj => ?_⟩, a, c, hd, h3, fun j hj => ?_, rfl, rfl⟩
 · rw [hh j (by omega), hg j (by omega)]
   exact hw.2 _ (List.getElem_mem _)
 · rw [hh j (by omega), hg j (by omega)]
   exact h2 _ (List.getElem_mem _)

end Go.Proofs.YtakammghcodmgaaGreatDoor
namespace Go.Proofs.YtakammghcodmgaaGreatDoor
open Go Go.Sx
set_option maxRecDepth 100000
set_option maxHeartbeats 4000000
set_option linter.unusedVariables false
set_option linter.unusedSimpArgs false

def cpL (l : List Cp) (p o : Int) (r : Rt) : List Cp := l ++ [⟨((l.length + 1 : Nat) : Int), p, o, r⟩]
theorem cpL_len (l : List Cp) (p o : Int) (r : Rt) : (cpL l p o r).length = l.length + 1 := by simp [cpL]
theorem cpL_cells (l : List Cp) (p o : Int) (r : Rt) : (cpL l p o r).flatMap cpC = l.flatMap cpC ++ cpC ⟨((l.length + 1 : Nat) : Int), p, o, r⟩ := by simp [cpL]

section
variable {w0 : World} {R : Nat → Nat → Prop} {av : Nat → Prop}

theorem add31 {D : World → Prop} {x0 x1 x2 : Nat × Nat} {c0 c2 : List Value} {r1 : List (Nat × Row)} {a : Option Addr} {cap : Nat} {C : List Value} (l : List Cp) (hO : Sx.Owg 6 l.length a cap C (l.flatMap cpC)) (hl : l.length ≤ 1000) (p o : Int) (r : Rt) {K : KV}
 (h : ∀ a' cap' C', Sx.Owg 6 (l.length + 1) a' cap' C' ((cpL l p o r).flatMap cpC) → K (.int .i64 ((l.length + 1 : Nat) : Int)) [x0, x1, x2] [c0, [.int .i64 ((l.length + 2 : Nat) : Int), .slice a' (l.length + 1) cap'], c2] ⟨D, r1 ++ orow a' C' ++ []⟩) :
 XCall Tryz.prog w0 R av 53 [.pointer (some ⟨x1.1, x1.2 + 0, none⟩), .int .i64 p, .int .i64 o, .agg ⟨rtC r⟩] [x0, x1, x2] [c0, [.int .i64 ((l.length + 1 : Nat) : Int), .slice a l.length cap], c2] ⟨D, r1 ++ orow a C ++ []⟩ K := by
 obtain ⟨y0, z0⟩ := x0; obtain ⟨y1, z1⟩ := x1; obtain ⟨y2, z2⟩ := x2
 have hw : IntKind.i64.wrap (((l.length + 1 : Nat) : Int) + 1) = ((l.length + 2 : Nat) : Int) := by rw [wrap_i64 (by omega)]; omega
 refine XCall.inlineD tabOk Tryz.func53 rfl (by decide) (n := Tryz.f53.ntmps - 4) [.p 1 0, .v _, .v _, .v _] rfl (by exact ⟨⟨rfl, by simp⟩, rfl, rfl, rfl, trivial⟩) ?_
 conv => whnf
 repeat (first | (refine XSame.of ?_; conv => whnf) | (refine XDep.all _ _ _ _ ?_; conv => whnf))
 intro b7
 conv => whnf
 repeat (first | (refine XSame.of ?_; conv => whnf) | (refine XDep.all _ _ _ _ ?_; conv => whnf))
 refine XStop.draw tabOk mixed rfl rfl ?_
 conv => whnf
 repeat' (first
  | (refine And.intro ?_ ?_ <;> conv => whnf)
  | (refine XHeld.same rfl ?_; conv => whnf)
  | (refine XHeld.row rfl ?_; conv => whnf)
  | (refine XHeld.call rfl ?_; conv => whnf)
  | (refine XHeld.factCall rfl ?_; conv => whnf)
  | (refine XKeep.of ?_; conv => whnf)
  | (refine XSame.of ?_; conv => whnf)
  | (refine XDep.all _ _ _ _ ?_; conv => whnf)
  | (refine XVal.build tabOk rfl rfl rfl [.agg ⟨cpC ⟨((l.length + 1 : Nat) : Int), p, o, r⟩⟩] rfl rfl (by simp [Value.cells, cpC]) (by decide) fun b5 => ?_; conv => whnf)
  | (refine XVal.ent (F' := ⟨D, r1 ++ orow a C ++ [(b5, Row.c (cpC ⟨((l.length + 1 : Nat) : Int), p, o, r⟩))]⟩) (Ent.of_le ⟨by simp [Value.cells], fun w hw => hw⟩) ?_; refine XVal.append1 tabOk rfl rfl rfl rfl rfl rfl (M := cpC ⟨((l.length + 1 : Nat) : Int), p, o, r⟩) hO (Sees.row (by simp)) rfl (List.all_eq_true.1 (by rfl)) (by omega) (by show (l.length + l.length / 4 + 600) * 48 ≤ 2 ^ 48; omega) fun a' c' C' hO' => ?_; conv => whnf)
  | (refine XHeld.mk ?_ ?_; (focus (first | exact Ent.refl _ | exact Ent.left _ _ | exact Ent.of_le ⟨List.sublist_append_left _ _, fun w h => h⟩ | exact Ent.of_le ⟨List.Sublist.refl _, fun w h => h.1⟩)); conv => whnf))
 rw [← cpL_cells] at hO'
 rw [hw]
 exact ⟨⟨[(b7, 0)], [c0, [.int .i64 ((l.length + 2 : Nat) : Int), .slice a' (l.length + 1) c'], c2], [rtC r], ⟨D, r1 ++ orow a' C' ++ []⟩, rfl, rfl, rfl, Ent.of_le ⟨by simp, fun w hw => hw⟩, h _ _ _ hO'⟩⟩

theorem add40 {D : World → Prop} {x0 x1 x2 x3 : Nat × Nat} {c1 c2 c3 : List Value} {r1 : List (Nat × Row)} {a : Option Addr} {cap : Nat} {C : List Value} (l : List Cp) (hO : Sx.Owg 6 l.length a cap C (l.flatMap cpC)) (hl : l.length ≤ 1000) (p o : Int) (r : Rt) {K : KV}
 (h : ∀ a' cap' C', Sx.Owg 6 (l.length + 1) a' cap' C' ((cpL l p o r).flatMap cpC) → K (.int .i64 ((l.length + 1 : Nat) : Int)) [x0, x1, x2, x3] [[.int .i64 ((l.length + 2 : Nat) : Int), .slice a' (l.length + 1) cap'], c1, c2, c3] ⟨D, r1 ++ orow a' C' ++ []⟩) :
 XCall Tryz.prog w0 R av 53 [.pointer (some ⟨x0.1, x0.2 + 0, none⟩), .int .i64 p, .int .i64 o, .agg ⟨rtC r⟩] [x0, x1, x2, x3] [[.int .i64 ((l.length + 1 : Nat) : Int), .slice a l.length cap], c1, c2, c3] ⟨D, r1 ++ orow a C ++ []⟩ K := by
 obtain ⟨y0, z0⟩ := x0; obtain ⟨y1, z1⟩ := x1; obtain ⟨y2, z2⟩ := x2; obtain ⟨y3, z3⟩ := x3
 have hw : IntKind.i64.wrap (((l.length + 1 : Nat) : Int) + 1) = ((l.length + 2 : Nat) : Int) := by rw [wrap_i64 (by omega)]; omega
 refine XCall.inlineD tabOk Tryz.func53 rfl (by decide) (n := Tryz.f53.ntmps - 4) [.p 0 0, .v _, .v _, .v _] rfl (by exact ⟨⟨rfl, by simp⟩, rfl, rfl, rfl, trivial⟩) ?_
 conv => whnf
 repeat (first | (refine XSame.of ?_; conv => whnf) | (refine XDep.all _ _ _ _ ?_; conv => whnf))
 intro b7
 conv => whnf
 repeat (first | (refine XSame.of ?_; conv => whnf) | (refine XDep.all _ _ _ _ ?_; conv => whnf))
 refine XStop.draw tabOk mixed rfl rfl ?_
 conv => whnf
 repeat' (first
  | (refine And.intro ?_ ?_ <;> conv => whnf)
  | (refine XHeld.same rfl ?_; conv => whnf)
  | (refine XHeld.row rfl ?_; conv => whnf)
  | (refine XHeld.call rfl ?_; conv => whnf)
  | (refine XHeld.factCall rfl ?_; conv => whnf)
  | (refine XKeep.of ?_; conv => whnf)
  | (refine XSame.of ?_; conv => whnf)
  | (refine XDep.all _ _ _ _ ?_; conv => whnf)
  | (refine XVal.build tabOk rfl rfl rfl [.agg ⟨cpC ⟨((l.length + 1 : Nat) : Int), p, o, r⟩⟩] rfl rfl (by simp [Value.cells, cpC]) (by decide) fun b5 => ?_; conv => whnf)
  | (refine XVal.ent (F' := ⟨D, r1 ++ orow a C ++ [(b5, Row.c (cpC ⟨((l.length + 1 : Nat) : Int), p, o, r⟩))]⟩) (Ent.of_le ⟨by simp [Value.cells], fun w hw => hw⟩) ?_; refine XVal.append1 tabOk rfl rfl rfl rfl rfl rfl (M := cpC ⟨((l.length + 1 : Nat) : Int), p, o, r⟩) hO (Sees.row (by simp)) rfl (List.all_eq_true.1 (by rfl)) (by omega) (by show (l.length + l.length / 4 + 600) * 48 ≤ 2 ^ 48; omega) fun a' c' C' hO' => ?_; conv => whnf)
  | (refine XHeld.mk ?_ ?_; (focus (first | exact Ent.refl _ | exact Ent.left _ _ | exact Ent.of_le ⟨List.sublist_append_left _ _, fun w h => h⟩ | exact Ent.of_le ⟨List.Sublist.refl _, fun w h => h.1⟩)); conv => whnf))
 rw [← cpL_cells] at hO'
 rw [hw]
 exact ⟨⟨[(b7, 0)], [[.int .i64 ((l.length + 2 : Nat) : Int), .slice a' (l.length + 1) c'], c1, c2, c3], [rtC r], ⟨D, r1 ++ orow a' C' ++ []⟩, rfl, rfl, rfl, Ent.of_le ⟨by simp, fun w hw => hw⟩, h _ _ _ hO'⟩⟩

end

def holdL (r : Rt) (root : Int) (l : List Cp) (hs : List Int) : List Cp := hs.foldl (fun s h => cpL s root h r) l
def lnR (x : Ln) : Rt := ⟨x.a, x.b, x.c⟩
def bootStep (l : List Cp) (x : Ln) : List Cp := holdL (lnR x) ((l.length + 1 : Nat) : Int) (cpL l 0 0 (lnR x)) x.l
def bootT (L : List Ln) : List Cp := L.foldl bootStep []

theorem holdL_next (r : Rt) (root : Int) (l : List Cp) (hs : List Int) {j : Nat} (hj : j < hs.length) : holdL r root l (hs.take (j + 1)) = cpL (holdL r root l (hs.take j)) root hs[j] r := by
 unfold holdL
 rw [List.take_succ_eq_append_getElem hj, List.foldl_append]
 rfl
theorem holdL_len (r : Rt) (root : Int) : ∀ (hs : List Int) (l : List Cp), (holdL r root l hs).length = l.length + hs.length
 | [], l => rfl
 | h :: hs, l => by
  show (holdL r root (cpL l root h r) hs).length = _
  rw [holdL_len r root hs, cpL_len, List.length_cons]
  omega
theorem bootT_next (L : List Ln) {i : Nat} (hi : i < L.length) : bootT (L.take (i + 1)) = bootStep (bootT (L.take i)) L[i] := by
 unfold bootT
 rw [List.take_succ_eq_append_getElem hi, List.foldl_append]
 rfl
theorem boot_small : ∀ i, i ≤ 63 → (bootT (bootLns.take i)).length ≤ 200 := by
 have h : (List.range 64).all (fun i => decide ((bootT (bootLns.take i)).length ≤ 200)) = true := by decide +kernel
 intro i hi
 exact of_decide_eq_true (List.all_eq_true.1 h i (List.mem_range.2 (by omega)))
theorem boot_hold : ∀ i, i < 63 → (bootLns[i]!).l.length ≤ 20 := by
 have h : (List.range 63).all (fun i => decide ((bootLns[i]!).l.length ≤ 20)) = true := by decide +kernel
 intro i hi
 exact of_decide_eq_true (List.all_eq_true.1 h i (List.mem_range.2 hi))

end Go.Proofs.YtakammghcodmgaaGreatDoor
namespace Go.Proofs.YtakammghcodmgaaGreatDoor
open Go Go.Sx
set_option maxRecDepth 100000
set_option maxHeartbeats 4000000
set_option linter.unusedVariables false
set_option linter.unusedSimpArgs false

def lnsC (L : List Ln) (hd : Nat → Hd) : List Value := (List.range L.length).flatMap fun j => lnC L[j]! (hd j)
theorem lnsC_get (L : List Ln) (hd : Nat → Hd) {i : Nat} (hi : i < L.length) : ((lnsC L hd).drop (i * 4)).take 4 = lnC L[i] (hd i) := by
 unfold lnsC
 rw [fm_get (cf := fun j => lnC L[j]! (hd j)) (z := 4) (fun _ => rfl) (l := List.range L.length) (by simpa using hi)]
 simp [hi]

/-- What holds of a table as it grows. -/
structure TbI (L : List Ln) (i j : Nat) (l : List Cp) : Prop where
 len : l.length ≤ 300
 eq : l = holdL (lnR L[i]!) (((bootT (L.take i)).length + 1 : Nat) : Int) (cpL (bootT (L.take i)) 0 0 (lnR L[i]!)) (L[i]!.l.take j)

theorem boot_spec (entT : List Cp) (hE : ∀ h : Hd, h.Ok (bootT bootLns).length → PureSpec Tryz.prog 54 [.agg ⟨[.int .i64 (((bootT bootLns).length + 1 : Nat) : Int), h.v (bootT bootLns).length]⟩, .int .i64 16] (fun w => RowAt w h.a ((bootT bootLns).flatMap cpC))
 (fun v F => ∃ k : Hd, k.Ok entT.length ∧ v = .tuple ⟨[.agg ⟨[.int .i64 ((entT.length + 1 : Nat) : Int), k.v entT.length]⟩, .int .i64 0]⟩ ∧ F = ⟨fun w => RowAt w k.a (entT.flatMap cpC), []⟩)) :
 PureSpec Tryz.prog 23 [] (fun _ => True) (fun v F => ∃ h : Hd, h.Ok entT.length ∧ v = .agg ⟨[.int .i64 ((entT.length + 1 : Nat) : Int), h.v entT.length]⟩ ∧ F = ⟨fun w => RowAt w h.a (entT.flatMap cpC), []⟩) := by
 have h1 := lines_spec
 have hsm := boot_small
 have hho := boot_hold
 have hL63 : bootLns.length = 63 := by decide
 obtain ⟨L, hL⟩ : ∃ L, bootLns = L := ⟨_, rfl⟩
 rw [hL] at h1 hsm hho hL63
 have hEL := hE
 rw [hL] at hEL
 clear hE hL
 obtain ⟨n, hn⟩ : ∃ n, L.length = n := ⟨_, rfl⟩
 rw [hn] at h1 hL63
 refine PureSpec.of_xc tabOk Tryz.func23 rfl (by decide) (n := Tryz.f23.ntmps - 0) rfl rfl fun w0 av => ?_
 refine padK_mk ?_
 refine xc_alloc1 (ti := (Sx.look tab 95).get rfl) rfl rfl ?_
 conv => whnf
 repeat (first | (refine XSame.of ?_; conv => whnf) | (refine XDep.all _ _ _ _ ?_; conv => whnf))
 intro b0
 conv => whnf
 repeat (first | (refine XSame.of ?_; conv => whnf) | (refine XDep.all _ _ _ _ ?_; conv => whnf))
 intro b1
 conv => whnf
 repeat (first | (refine XSame.of ?_; conv => whnf) | (refine XDep.all _ _ _ _ ?_; conv => whnf))
 refine XCall.pure h1 (fun w hw => trivial) (fun v D hv => ?_)
 obtain ⟨aL, cL, hd, hcL, hhd, rfl, rfl⟩ := hv
 conv => whnf
 repeat (first | (refine XSame.of ?_; conv => whnf) | (refine XDep.all _ _ _ _ ?_; conv => whnf))
 refine XStop.loop tabOk (ι := Nat × List Cp × Option Addr × Nat × List Value) ([3, 4, 6, 10] ++ List.range' 11 20) (fun x => x.1 ≤ n ∧ x.2.1 = bootT (L.take x.1) ∧ Sx.Owg 6 x.2.1.length x.2.2.1 x.2.2.2.1 x.2.2.2.2 (x.2.1.flatMap cpC))
  (fun x => [(10, .v (.int .i64 (x.1 : Int)))]) (fun x => [[.int .i64 0, .slice none 0 0], [.int .i64 ((x.2.1.length + 1 : Nat) : Int), .slice x.2.2.1 x.2.1.length x.2.2.2.1]]) (fun x => ⟨fun w => RowAt w (some aL) (lnsC L hd) ∧ ∀ j, j < n → RowAt w (hd j).a (L[j]!.l.map numV), [] ++ orow x.2.2.1 x.2.2.2.2 ++ []⟩)
  (fun x => n - x.1) (0, [], none, 0, []) ⟨Nat.zero_le _, by simp [bootT], Sx.Owg.nil 6⟩ ?_ rfl (Ent.of_le ⟨by simp [orow, Fx.and], fun w hw => ?_⟩) fun x hx => ?_
 · conv => whnf
   repeat (first | exact FLe.nil | refine FLe.any ?_ | refine FLe.cons ?_)
 · obtain ⟨-, hw1, hw2⟩ := hw
   exact ⟨by unfold lnsC; rw [hn]; exact hw1, hw2⟩
 obtain ⟨i, l, a, cap, C⟩ := x
 obtain ⟨hi, hl, hO⟩ := hx
 dsimp only at hi hl hO ⊢
 conv => whnf
 repeat (first | (refine XSame.of ?_; conv => whnf) | (refine XDep.all _ _ _ _ ?_; conv => whnf))
 refine XIf.split (fun hlt => ?_) (fun hlt => ?_)
 · have hlt' : i < n := by
    simp [iLt_eq] at hlt
    omega
   conv => whnf
   repeat (first | (refine XSame.of ?_; conv => whnf) | (refine XDep.all _ _ _ _ ?_; conv => whnf))
   refine XVal.of_read (XRead.index tabOk rfl rfl rfl (by omega) (by omega) (fun h => by cases h) fun ad had => ?_)
   conv => whnf
   repeat (first | (refine XSame.of ?_; conv => whnf) | (refine XDep.all _ _ _ _ ?_; conv => whnf))
   refine XVal.of_read (XRead.loads tabOk rfl rfl (ad := ad) (k := i * 4) (L := lnsC L hd) (m := lnC L[i] (hd i)) (.fact fun w hw => had ▸ hw.1) (by simp) (lnsC_get L hd (by omega)) rfl ?_)
   conv => whnf
   repeat (first | (refine XSame.of ?_; conv => whnf) | (refine XDep.all _ _ _ _ ?_; conv => whnf))
   intro b3
   have hbang : L[i]! = L[i] := by simp [hn, hlt']
   have hls : l.length ≤ 200 := by rw [hl]; exact hsm i (by omega)
   have hlo := hho i (by omega)
   have hhi := hhd i hlt'
   rw [hbang] at hlo hhi
   obtain ⟨x, hx⟩ : ∃ x, L[i] = x := ⟨_, rfl⟩
   obtain ⟨hx', hhx⟩ : ∃ h, hd i = h := ⟨_, rfl⟩
   rw [hx] at hlo hhi
   rw [hhx] at hhi
   rw [hx, hhx]
   conv => whnf
   repeat (first | (refine XSame.of ?_; conv => whnf) | (refine XDep.all _ _ _ _ ?_; conv => whnf))
   refine XCall.ent (F' := ⟨fun w => RowAt w (some aL) (lnsC L hd) ∧ ∀ j, j < n → RowAt w (hd j).a (L[j]!.l.map numV), [] ++ orow a C ++ []⟩) (Ent.refl _) ?_
   refine add31 (x0 := (b0, 0)) (x1 := (b1, 0)) (x2 := (b3, 0)) (c0 := [.int .i64 0, .slice none 0 0]) (c2 := lnC x hx') (r1 := []) l hO (by omega) 0 0 (lnR x) fun a1 cap1 C1 hO1 => ?_
   conv => whnf
   repeat (first | (refine XSame.of ?_; conv => whnf) | (refine XDep.all _ _ _ _ ?_; conv => whnf))
   obtain ⟨l1, hl1⟩ : ∃ l1, l1 = cpL l 0 0 (lnR x) := ⟨_, rfl⟩
   have hl1n : l1.length = l.length + 1 := by rw [hl1, cpL_len]
   rw [← hl1] at hO1
   have hrow : ∀ w, (RowAt w (some aL) (lnsC L hd) ∧ ∀ j, j < n → RowAt w (hd j).a (L[j]!.l.map numV)) → RowAt w hx'.a (x.l.map numV) := fun w hw => by
    have := hw.2 i hlt'
    rwa [hbang, hx, hhx] at this
   refine XStop.loop tabOk (ι := Nat × List Cp × Option Addr × Nat × List Value) ([6, 20] ++ List.range' 21 9) (fun y => y.1 ≤ x.l.length ∧ y.2.1 = holdL (lnR x) ((l.length + 1 : Nat) : Int) l1 (x.l.take y.1) ∧ Sx.Owg 6 y.2.1.length y.2.2.1 y.2.2.2.1 y.2.2.2.2 (y.2.1.flatMap cpC))
    (fun y => [(20, .v (.int .i64 (y.1 : Int)))]) (fun y => [[.int .i64 0, .slice none 0 0], [.int .i64 ((y.2.1.length + 1 : Nat) : Int), .slice y.2.2.1 y.2.1.length y.2.2.2.1], lnC x hx']) (fun y => ⟨fun w => RowAt w (some aL) (lnsC L hd) ∧ ∀ j, j < n → RowAt w (hd j).a (L[j]!.l.map numV), [] ++ orow y.2.2.1 y.2.2.2.2 ++ []⟩)
    (fun y => x.l.length - y.1) (0, l1, a1, cap1, C1) ⟨Nat.zero_le _, by simp [holdL], by dsimp only; rw [hl1n]; exact hO1⟩ ?_ (by dsimp only; rw [hl1n]) (Ent.refl _) fun y hy => ?_
   · conv => whnf
     repeat (first | exact FLe.nil | refine FLe.any ?_ | refine FLe.cons ?_)
   obtain ⟨j, l2, a2, cap2, C2⟩ := y
   obtain ⟨hj, hl2, hO2⟩ := hy
   dsimp only at hj hl2 hO2 ⊢
   have hl2n : l2.length = l.length + 1 + j := by
    rw [hl2, holdL_len, hl1n, List.length_take]
    omega
   conv => whnf
   repeat (first | (refine XSame.of ?_; conv => whnf) | (refine XDep.all _ _ _ _ ?_; conv => whnf))
   refine XIf.split (fun hjt => ?_) (fun hjt => ?_)
   · have hjt' : j < x.l.length := by
      simp [iLt_eq] at hjt
      omega
     conv => whnf
     repeat (first | (refine XSame.of ?_; conv => whnf) | (refine XDep.all _ _ _ _ ?_; conv => whnf))
     refine XVal.of_read (XRead.index tabOk rfl rfl rfl (by omega) (by omega) hhi.nil fun ad had => ?_)
     conv => whnf
     repeat (first | (refine XSame.of ?_; conv => whnf) | (refine XDep.all _ _ _ _ ?_; conv => whnf))
     refine XVal.of_read (XRead.load tabOk rfl rfl (ad := ad) (k := j) (L := x.l.map numV) (v := .int .i64 x.l[j]) (.fact fun w hw => had ▸ hrow w hw) (by simp) (by rw [List.getElem?_map, List.getElem?_eq_getElem hjt']; rfl) ?_)
     conv => whnf
     repeat (first | (refine XSame.of ?_; conv => whnf) | (refine XDep.all _ _ _ _ ?_; conv => whnf))
     refine add31 (x0 := (b0, 0)) (x1 := (b1, 0)) (x2 := (b3, 0)) (c0 := [.int .i64 0, .slice none 0 0]) (c2 := lnC x hx') (r1 := []) l2 hO2 (by omega) ((l.length + 1 : Nat) : Int) x.l[j] (lnR x) fun a3 cap3 C3 hO3 => ?_
     conv => whnf
     repeat (first | (refine XSame.of ?_; conv => whnf) | (refine XDep.all _ _ _ _ ?_; conv => whnf))
     refine ⟨(j + 1, cpL l2 ((l.length + 1 : Nat) : Int) x.l[j] (lnR x), a3, cap3, C3), ⟨⟨hjt', by dsimp only; rw [holdL_next _ _ _ _ hjt', ← hl2], by dsimp only; rw [cpL_len]; exact hO3⟩, by dsimp only; omega⟩, ?_, ?_, Ent.refl _⟩
     · conv => whnf
       refine ⟨?_, rfl⟩
       repeat (first | exact FLe.nil | refine FLe.any ?_ | refine FLe.cons ?_ | refine FLe.eq (by rw [wrap_i64 (by omega)]; rfl) ?_)
     · dsimp only
       rw [cpL_len]
       conv => whnf
       exact ⟨⟨rfl, rfl⟩, ⟨rfl, rfl⟩, ⟨rfl, rfl⟩, trivial⟩
   · have hje : j = x.l.length := by
      simp [iLt_eq] at hjt
      omega
     subst hje
     rw [List.take_length] at hl2
     have hnext : l2 = bootT (L.take (i + 1)) := by
      rw [bootT_next L (by omega), hx, ← hl, hl2, hl1]
      rfl
     conv => whnf
     repeat (first | (refine XSame.of ?_; conv => whnf) | (refine XDep.all _ _ _ _ ?_; conv => whnf))
     refine ⟨(i + 1, l2, a2, cap2, C2), ⟨⟨hlt', hnext, hO2⟩, by dsimp only; omega⟩, ?_, ?_, Ent.refl _⟩
     · conv => whnf
       refine ⟨?_, rfl⟩
       repeat (first | exact FLe.nil | refine FLe.any ?_ | refine FLe.cons ?_ | refine FLe.eq (by rw [wrap_i64 (by omega)]; rfl) ?_)
     · conv => whnf
       exact ⟨⟨rfl, rfl⟩, ⟨rfl, rfl⟩, trivial⟩
 · have hie : i = n := by
    simp [iLt_eq] at hlt
    omega
   subst hie
   rw [← hn, List.take_length] at hl
   subst hl
   conv => whnf
   repeat (first | (refine XSame.of ?_; conv => whnf) | (refine XDep.all _ _ _ _ ?_; conv => whnf))
   refine XCall.ent (F' := ⟨fun w => RowAt w a ((bootT L).flatMap cpC), []⟩) ?_ ?_
   · exact Ent.trans (hO.share (r1 := []) (r2 := [])) (Ent.imp fun w hw => hw.2)
   conv => whnf
   repeat (first | (refine XSame.of ?_; conv => whnf) | (refine XDep.all _ _ _ _ ?_; conv => whnf))
   refine XCall.pure (hEL ⟨a, cap⟩ ⟨hO.none_nil, hO.fit⟩) (fun w hw => hw) (fun v D hv => ?_)
   obtain ⟨k, hk, rfl, rfl⟩ := hv
   conv => whnf
   repeat (first | (refine XSame.of ?_; conv => whnf) | (refine XDep.all _ _ _ _ ?_; conv => whnf))
   exact ⟨⟨fun w => RowAt w k.a (entT.flatMap cpC), []⟩, Ent.of_le ⟨by simp [Fx.and], fun w hw => hw.2⟩, k, hk, rfl, rfl⟩

end Go.Proofs.YtakammghcodmgaaGreatDoor
namespace Go.Proofs.YtakammghcodmgaaGreatDoor
open Go Go.Sx
set_option maxRecDepth 100000
set_option maxHeartbeats 4000000
set_option linter.unusedVariables false
set_option linter.unusedSimpArgs false

def isRoot (c : Cp) : Bool := iEq c.parent 0 && iEq c.r.ty 1 && iEq c.r.code 1
def rootsOf (l : List Cp) : List Cp := l.filter isRoot
def entL (l : List Cp) (rs : List Cp) : List Cp := rs.foldl (fun s c => cpL s c.id 16 c.r) l
theorem entL_next (l : List Cp) (rs : List Cp) {j : Nat} (hj : j < rs.length) : entL l (rs.take (j + 1)) = cpL (entL l (rs.take j)) rs[j].id 16 rs[j].r := by
 unfold entL
 rw [List.take_succ_eq_append_getElem hj, List.foldl_append]
 rfl
theorem entL_len : ∀ (rs l : List Cp), (entL l rs).length = l.length + rs.length
 | [], l => rfl
 | c :: rs, l => by
  show (entL (cpL l c.id 16 c.r) rs).length = _
  rw [entL_len rs, cpL_len, List.length_cons]
  omega
theorem roots_next (l : List Cp) {i : Nat} (hi : i < l.length) : rootsOf (l.take (i + 1)) = rootsOf (l.take i) ++ (if isRoot l[i] then [l[i]] else []) := by
 unfold rootsOf
 rw [List.take_succ_eq_append_getElem hi, List.filter_append]
 congr 1
 cases h : isRoot l[i] <;> simp [h]

theorem enter1_spec (x : Cp) (b2 b3 : Nat) (nx : Int) (l : List Cp) (h : Hd) (hh : h.Ok l.length) (hl : l.length ≤ 140737488355328) : PureSpec Tryz.prog 108 [.agg ⟨cpC x⟩, .pointer (some ⟨b2, 0, none⟩), .pointer (some ⟨b3, 0, none⟩)]
 (fun w => (RowAt w (some ⟨b2, 0, none⟩) [.int .i64 nx, h.v l.length] ∧ RowAt w (some ⟨b3, 0, none⟩) [.int .i64 16]) ∧ RowAt w h.a (l.flatMap cpC)) (fun v F => v = .bool (capHas l 16 x.r)) := by
 have h1 := capsHas_spec nx l h hh hl 16 x.r
 generalize capHas l 16 x.r = q1 at *
 refine PureSpec.of_xc tabOk Tryz.func108 rfl (by decide) (n := Tryz.f108.ntmps - 3) rfl rfl fun w0 av => ?_
 conv => whnf
 repeat (first | (refine XSame.of ?_; conv => whnf) | (refine XDep.all _ _ _ _ ?_; conv => whnf))
 intro b4
 conv => whnf
 repeat (first | (refine XSame.of ?_; conv => whnf) | (refine XDep.all _ _ _ _ ?_; conv => whnf))
 refine XVal.of_read (XRead.loads tabOk rfl rfl (ad := ⟨b2, 0, none⟩) (k := 0) (L := [.int .i64 nx, h.v l.length]) (m := [.int .i64 nx, h.v l.length]) (.fact fun w hw => hw.1.1) rfl rfl rfl ?_)
 conv => whnf
 repeat (first | (refine XSame.of ?_; conv => whnf) | (refine XDep.all _ _ _ _ ?_; conv => whnf))
 refine XVal.of_read (XRead.loadF tabOk rfl rfl (ad := ⟨b3, 0, none⟩) (k := 0) (L := [.int .i64 16]) (v := .int .i64 16) (.fact fun w hw => hw.1.2) (fun _ => rfl) rfl ?_)
 conv => whnf
 repeat (first | (refine XSame.of ?_; conv => whnf) | (refine XDep.all _ _ _ _ ?_; conv => whnf))
 refine XCall.val h1 (fun w hw => hw.2) (fun v D hv => ?_)
 subst hv
 conv => whnf
 repeat (first | (refine XSame.of ?_; conv => whnf) | (refine XDep.all _ _ _ _ ?_; conv => whnf))
 exact ⟨_, Ent.refl _, rfl⟩

/-- A copy that the caller owns. -/
theorem cloneCpO_spec (a : Addr) (n c : Nat) (M : List Value) (hM : M.length = n * 6) (hn0 : 0 < n) (hn : n ≤ 1000000) : PureSpec Tryz.prog 110 [.slice (some a) n c] (fun w => RowAt w (some a) M)
 (fun v F => ∃ b cap C, Sx.Owg 6 n (some ⟨b, 0, none⟩) cap C M ∧ v = .slice (some ⟨b, 0, none⟩) n cap ∧ F = ⟨fun _ => True, [(b, Row.c C)]⟩) := by
 refine PureSpec.of_xc tabOk Tryz.func110 rfl (by decide) (n := Tryz.f110.ntmps - 1) rfl rfl fun w0 av => ?_
 conv => whnf
 repeat (first | (refine XSame.of ?_; conv => whnf) | (refine XDep.all _ _ _ _ ?_; conv => whnf))
 refine XVal.of_read (XRead.eqNil tabOk (t := 93) rfl rfl ?_)
 conv => whnf
 repeat (first | (refine XSame.of ?_; conv => whnf) | (refine XDep.all _ _ _ _ ?_; conv => whnf))
 refine XVal.build tabOk (t := 93) rfl rfl rfl [] rfl rfl (by simp) (by decide) fun b0 => ?_
 conv => whnf
 repeat (first | (refine XSame.of ?_; conv => whnf) | (refine XDep.all _ _ _ _ ?_; conv => whnf))
 refine XVal.ent (F' := ⟨fun w => RowAt w (some a) M, []⟩) (Ent.of_le ⟨by simp, fun w hw => hw⟩) ?_
 refine XVal.appendNew tabOk rfl rfl rfl rfl rfl rfl (L := []) (M := M) (fun w _ => RowAt.none' _) (by simp) (.fact fun w hw => hw) hM (by omega) (by omega) (by show (2 * (0 + n) + 1000) * 48 ≤ 2 ^ 48; omega) fun b cap C hO => ?_
 conv => whnf
 repeat (first | (refine XSame.of ?_; conv => whnf) | (refine XDep.all _ _ _ _ ?_; conv => whnf))
 rw [Nat.zero_add, List.nil_append] at hO
 rw [Nat.zero_add]
 exact ⟨⟨fun _ => True, [(b, Row.c C)]⟩, Ent.of_le ⟨by simp, fun w hw => trivial⟩, b, cap, C, hO, rfl, rfl⟩

theorem enter_spec (l : List Cp) (hl : l.length ≤ 300) (hv : (allI l.length (capOk ((l.length + 1 : Nat) : Int) l) && decide (l.length ≤ 400 ∧ 1 ≤ ((l.length + 1 : Nat) : Int) ∧ ((l.length + 1 : Nat) : Int) ≤ 1099511627776)) = true)
 (hr0 : 0 < (rootsOf l).length) (hr : (rootsOf l).length ≤ 50) (hno : ((rootsOf l).any fun c => capHas l 16 c.r) = false) (h : Hd) (hh : h.Ok l.length) (hh0 : 0 < l.length) :
 PureSpec Tryz.prog 54 [.agg ⟨[.int .i64 ((l.length + 1 : Nat) : Int), h.v l.length]⟩, .int .i64 16] (fun w => RowAt w h.a (l.flatMap cpC))
  (fun v F => ∃ k : Hd, k.Ok (entL l (rootsOf l)).length ∧ v = .tuple ⟨[.agg ⟨[.int .i64 (((entL l (rootsOf l)).length + 1 : Nat) : Int), k.v (entL l (rootsOf l)).length]⟩, .int .i64 0]⟩ ∧ F = ⟨fun w => RowAt w k.a ((entL l (rootsOf l)).flatMap cpC), []⟩) := by
 have h1 := capsValid_spec ((l.length + 1 : Nat) : Int) l h hh (by omega)
 rw [hv] at h1
 obtain ⟨ha, hc⟩ := h
 rcases ha with _ | ha
 · have := hh.nil rfl
   omega
 have hhc : l.length ≤ hc := hh.cap
 refine PureSpec.of_xc tabOk Tryz.func54 rfl (by decide) (n := Tryz.f54.ntmps - 2) rfl rfl fun w0 av => ?_
 conv => whnf
 repeat (first | (refine XSame.of ?_; conv => whnf) | (refine XDep.all _ _ _ _ ?_; conv => whnf))
 intro b2
 conv => whnf
 repeat (first | (refine XSame.of ?_; conv => whnf) | (refine XDep.all _ _ _ _ ?_; conv => whnf))
 intro b3
 conv => whnf
 repeat (first | (refine XSame.of ?_; conv => whnf) | (refine XDep.all _ _ _ _ ?_; conv => whnf))
 intro b4
 conv => whnf
 repeat (first | (refine XSame.of ?_; conv => whnf) | (refine XDep.all _ _ _ _ ?_; conv => whnf))
 refine XCall.val h1 (fun w hw => hw) (fun v D hv => ?_)
 subst hv
 conv => whnf
 repeat (first | (refine XSame.of ?_; conv => whnf) | (refine XDep.all _ _ _ _ ?_; conv => whnf))
 refine XIf.no (by simp [iLt_eq, iGe_eq]) ?_
 conv => whnf
 repeat (first | (refine XSame.of ?_; conv => whnf) | (refine XDep.all _ _ _ _ ?_; conv => whnf))
 refine XStop.loop tabOk (ι := Nat × Option Addr × Nat × List Value) ([6, 8, 25] ++ List.range' 26 23) (fun x => x.1 ≤ l.length ∧ Sx.Owg 6 (rootsOf (l.take x.1)).length x.2.1 x.2.2.1 x.2.2.2 ((rootsOf (l.take x.1)).flatMap cpC))
  (fun x => [(25, .v (.int .i64 (x.1 : Int))), (6, .v (.slice x.2.1 (rootsOf (l.take x.1)).length x.2.2.1))]) (fun x => [[.int .i64 ((l.length + 1 : Nat) : Int), .slice (some ha) l.length hc], [.int .i64 16], [.int .i64 0, .slice none 0 0]]) (fun x => ⟨fun w => RowAt w (some ha) (l.flatMap cpC), [] ++ orow x.2.1 x.2.2.2 ++ []⟩)
  (fun x => l.length - x.1) (0, none, 0, []) ⟨Nat.zero_le _, Sx.Owg.nil 6⟩ ?_ rfl (Ent.refl _) fun x hx => ?_
 · conv => whnf
   repeat (first | exact FLe.nil | refine FLe.any ?_ | refine FLe.cons ?_)
 obtain ⟨i, a, cap, C⟩ := x
 obtain ⟨hi, hO⟩ := hx
 dsimp only at hi hO ⊢
 conv => whnf
 repeat (first | (refine XSame.of ?_; conv => whnf) | (refine XDep.all _ _ _ _ ?_; conv => whnf))
 refine XIf.split (fun hlt => ?_) (fun hlt => ?_)
 · have hlt' : i < l.length := by
    simp [iLt_eq] at hlt
    omega
   have hrn := roots_next l hlt'
   have hrl : (rootsOf (l.take i)).length ≤ 300 := by
    have := List.length_filter_le isRoot (l.take i)
    rw [List.length_take] at this
    unfold rootsOf
    omega
   conv => whnf
   repeat (first | (refine XSame.of ?_; conv => whnf) | (refine XDep.all _ _ _ _ ?_; conv => whnf))
   refine XVal.of_read (XRead.index tabOk rfl rfl rfl (by omega) (by omega) (fun h => by cases h) fun ad had => ?_)
   conv => whnf
   repeat (first | (refine XSame.of ?_; conv => whnf) | (refine XDep.all _ _ _ _ ?_; conv => whnf))
   refine XVal.of_read (XRead.loads tabOk rfl rfl (ad := ad) (k := i * 6) (L := l.flatMap cpC) (m := cpC l[i]) (.fact fun w hw => had ▸ hw) (by simp) (by exact fm_get (cf := cpC) (z := 6) (fun _ => rfl) hlt') rfl ?_)
   conv => whnf
   repeat (first | (refine XSame.of ?_; conv => whnf) | (refine XDep.all _ _ _ _ ?_; conv => whnf))
   intro b8
   obtain ⟨x, hx⟩ : ∃ x, l[i] = x := ⟨_, rfl⟩
   rw [hx] at hrn ⊢
   conv => whnf
   repeat (first | (refine XSame.of ?_; conv => whnf) | (refine XDep.all _ _ _ _ ?_; conv => whnf))
   obtain ⟨q, hq⟩ : ∃ q, isRoot x = q := ⟨_, rfl⟩
   have hq' : (iEq x.parent 0 && iEq x.r.ty 1 && iEq x.r.code 1) = q := hq
   rw [hq']
   rw [hq] at hrn
   cases q
   · conv => whnf
     repeat (first | (refine XSame.of ?_; conv => whnf) | (refine XDep.all _ _ _ _ ?_; conv => whnf))
     refine ⟨(i + 1, a, cap, C), ⟨⟨hlt', ?_⟩, by dsimp only; omega⟩, ?_, ?_, Ent.refl _⟩
     · dsimp only
       rw [hrn]
       simpa using hO
     · dsimp only
       rw [hrn]
       simp only [Bool.false_eq_true, if_false, List.append_nil]
       conv => whnf
       refine ⟨?_, rfl⟩
       repeat (first | exact FLe.nil | refine FLe.any ?_ | refine FLe.cons ?_ | refine FLe.eq (by rw [wrap_i64 (by omega)]; rfl) ?_)
     · conv => whnf
       exact ⟨⟨rfl, rfl⟩, ⟨rfl, rfl⟩, ⟨rfl, rfl⟩, trivial⟩
   · conv => whnf
     repeat (first | (refine XSame.of ?_; conv => whnf) | (refine XDep.all _ _ _ _ ?_; conv => whnf))
     refine XVal.build tabOk rfl rfl rfl [.agg ⟨cpC x⟩] rfl rfl (by simp [Value.cells, cpC]) (by decide) fun b5 => ?_
     conv => whnf
     repeat (first | (refine XSame.of ?_; conv => whnf) | (refine XDep.all _ _ _ _ ?_; conv => whnf))
     refine XVal.ent (F' := ⟨fun w => RowAt w (some ha) (l.flatMap cpC), [] ++ orow a C ++ [(b5, Row.c (cpC x))]⟩) (Ent.of_le ⟨by simp [Value.cells], fun w hw => hw⟩) ?_
     refine XVal.append1 tabOk rfl rfl rfl rfl rfl rfl (M := cpC x) hO (Sees.row (by simp)) rfl (List.all_eq_true.1 (by rfl)) (by omega) (by show ((rootsOf (l.take i)).length + (rootsOf (l.take i)).length / 4 + 600) * 48 ≤ 2 ^ 48; omega) fun a' c' C' hO' => ?_
     conv => whnf
     repeat (first | (refine XSame.of ?_; conv => whnf) | (refine XDep.all _ _ _ _ ?_; conv => whnf))
     have hrn2 : rootsOf (l.take (i + 1)) = rootsOf (l.take i) ++ [x] := by rw [hrn]; simp
     have hrn3 : (rootsOf (l.take (i + 1))).length = (rootsOf (l.take i)).length + 1 := by rw [hrn2]; simp
     refine ⟨(i + 1, a', c', C'), ⟨⟨hlt', ?_⟩, by dsimp only; omega⟩, ?_, ?_, Ent.of_le ⟨by simp, fun w hw => hw⟩⟩
     · dsimp only
       rw [hrn3, hrn2, List.flatMap_append]
       simpa using hO'
     · dsimp only
       rw [hrn3]
       conv => whnf
       refine ⟨?_, rfl⟩
       repeat (first | exact FLe.nil | refine FLe.any ?_ | refine FLe.cons ?_ | refine FLe.eq (by rw [wrap_i64 (by omega)]; rfl) ?_)
     · conv => whnf
       exact ⟨⟨rfl, rfl⟩, ⟨rfl, rfl⟩, ⟨rfl, rfl⟩, trivial⟩
 · have hie : i = l.length := by
    simp [iLt_eq] at hlt
    omega
   subst hie
   rw [List.take_length] at hO ⊢
   obtain ⟨rs, hrs⟩ : ∃ rs, rootsOf l = rs := ⟨_, rfl⟩
   rw [hrs] at hr0 hr hno hO ⊢
   have hch := cap_has cpC (fun _ => rfl) 108 (fun w => (RowAt w (some ⟨b2, 0, none⟩) [.int .i64 ((l.length + 1 : Nat) : Int), .slice (some ha) l.length hc] ∧ RowAt w (some ⟨b3, 0, none⟩) [.int .i64 16]) ∧ RowAt w (some ha) (l.flatMap cpC)) (fun c => capHas l 16 c.r) (.pointer (some ⟨b2, 0, none⟩)) (.pointer (some ⟨b3, 0, none⟩)) rs ⟨a, cap⟩ ⟨hO.none_nil, hO.fit⟩ (by omega) (fun e _ => enter1_spec e b2 b3 _ l ⟨some ha, hc⟩ hh (by omega))
   rw [hno] at hch
   conv => whnf
   repeat (first | (refine XSame.of ?_; conv => whnf) | (refine XDep.all _ _ _ _ ?_; conv => whnf))
   refine XCall.ent (F' := ⟨fun w => RowAt w (some ha) (l.flatMap cpC) ∧ RowAt w a (rs.flatMap cpC), []⟩) ?_ ?_
   · exact Ent.trans (hO.share (r1 := []) (r2 := [])) (Ent.imp fun w hw => hw)
   refine XCall.look hch ((Loc.row _ _).and (((Loc.row _ _).and (Loc.row _ _)).and (Loc.row _ _))) (fun w hst => ⟨hst.now.2, ⟨Sees.box 0 rfl (by simp) rfl w hst, Sees.box 1 rfl (by simp) rfl w hst⟩, hst.now.1⟩) ?_
   conv => whnf
   repeat (first | (refine XSame.of ?_; conv => whnf) | (refine XDep.all _ _ _ _ ?_; conv => whnf))
   refine XIf.no (by rw [wrap_i64 (by omega)]; simp [iGt_eq]; omega) ?_
   conv => whnf
   repeat (first | (refine XSame.of ?_; conv => whnf) | (refine XDep.all _ _ _ _ ?_; conv => whnf))
   refine XIf.yes (by simp [iGt_eq]; omega) ?_
   conv => whnf
   repeat (first | (refine XSame.of ?_; conv => whnf) | (refine XDep.all _ _ _ _ ?_; conv => whnf))
   refine XIf.no (by rw [wrap_i64 (by omega)]; simp [iGt_eq]; omega) ?_
   conv => whnf
   repeat (first | (refine XSame.of ?_; conv => whnf) | (refine XDep.all _ _ _ _ ?_; conv => whnf))
   have hM : (l.flatMap cpC).length = l.length * 6 := by rw [fm_len (z := 6) (fun _ => rfl)]
   refine XCall.pure (cloneCpO_spec ha l.length hc (l.flatMap cpC) hM hh0 (by omega)) (fun w hw => hw.1) (fun v D hv => ?_)
   obtain ⟨bk, capk, Ck, hOk, rfl, rfl⟩ := hv
   conv => whnf
   repeat (first | (refine XSame.of ?_; conv => whnf) | (refine XDep.all _ _ _ _ ?_; conv => whnf))
   refine XStop.loop tabOk (ι := Nat × Option Addr × Nat × List Value) ([10, 82] ++ List.range' 83 10) (fun x => x.1 ≤ rs.length ∧ Sx.Owg 6 (entL l (rs.take x.1)).length x.2.1 x.2.2.1 x.2.2.2 ((entL l (rs.take x.1)).flatMap cpC))
    (fun x => [(82, .v (.int .i64 (x.1 : Int)))]) (fun x => [[.int .i64 (((entL l (rs.take x.1)).length + 1 : Nat) : Int), .slice x.2.1 (entL l (rs.take x.1)).length x.2.2.1], [.int .i64 16], [.int .i64 0, .slice none 0 0]]) (fun x => ⟨fun w => RowAt w a (rs.flatMap cpC), [] ++ orow x.2.1 x.2.2.2 ++ []⟩)
    (fun x => rs.length - x.1) (0, some ⟨bk, 0, none⟩, capk, Ck) ⟨Nat.zero_le _, hOk⟩ ?_ rfl (Ent.of_le ⟨by simp [orow, Fx.and], fun w hw => hw.1.2⟩) fun x hx => ?_
   · conv => whnf
     repeat (first | exact FLe.nil | refine FLe.any ?_ | refine FLe.cons ?_)
   obtain ⟨j, a2, cap2, C2⟩ := x
   obtain ⟨hj, hO2⟩ := hx
   dsimp only at hj hO2 ⊢
   have hl2 : (entL l (rs.take j)).length = l.length + j := by
    rw [entL_len, List.length_take]
    omega
   conv => whnf
   repeat (first | (refine XSame.of ?_; conv => whnf) | (refine XDep.all _ _ _ _ ?_; conv => whnf))
   refine XIf.split (fun hjt => ?_) (fun hjt => ?_)
   · have hjt' : j < rs.length := by
      simp [iLt_eq] at hjt
      omega
     have hen := entL_next l rs hjt'
     conv => whnf
     repeat (first | (refine XSame.of ?_; conv => whnf) | (refine XDep.all _ _ _ _ ?_; conv => whnf))
     refine XVal.of_read (XRead.index tabOk rfl rfl rfl (by omega) (by omega) hO.none_nil fun ad had => ?_)
     conv => whnf
     repeat (first | (refine XSame.of ?_; conv => whnf) | (refine XDep.all _ _ _ _ ?_; conv => whnf))
     refine XVal.of_read (XRead.loads tabOk rfl rfl (ad := ad) (k := j * 6) (L := rs.flatMap cpC) (m := cpC rs[j]) (.fact fun w hw => had ▸ hw) (by simp) (by exact fm_get (cf := cpC) (z := 6) (fun _ => rfl) hjt') rfl ?_)
     conv => whnf
     repeat (first | (refine XSame.of ?_; conv => whnf) | (refine XDep.all _ _ _ _ ?_; conv => whnf))
     intro b10
     obtain ⟨x, hx⟩ : ∃ x, rs[j] = x := ⟨_, rfl⟩
     rw [hx] at hen ⊢
     obtain ⟨l2, hl2e⟩ : ∃ l2, entL l (rs.take j) = l2 := ⟨_, rfl⟩
     rw [hl2e] at hen hO2 hl2 ⊢
     conv => whnf
     repeat (first | (refine XSame.of ?_; conv => whnf) | (refine XDep.all _ _ _ _ ?_; conv => whnf))
     refine add40 (x0 := (b2, 0)) (x1 := (b3, 0)) (x2 := (b4, 0)) (x3 := (b10, 0)) (c1 := [.int .i64 16]) (c2 := [.int .i64 0, .slice none 0 0]) (c3 := cpC x) (r1 := []) l2 hO2 (by omega) x.id 16 x.r fun a3 cap3 C3 hO3 => ?_
     conv => whnf
     repeat (first | (refine XSame.of ?_; conv => whnf) | (refine XDep.all _ _ _ _ ?_; conv => whnf))
     refine ⟨(j + 1, a3, cap3, C3), ⟨⟨hjt', ?_⟩, by dsimp only; omega⟩, ?_, ?_, Ent.refl _⟩
     · dsimp only
       rw [hen, cpL_len]
       exact hO3
     · conv => whnf
       refine ⟨?_, rfl⟩
       repeat (first | exact FLe.nil | refine FLe.any ?_ | refine FLe.cons ?_ | refine FLe.eq (by rw [wrap_i64 (by omega)]; rfl) ?_)
     · dsimp only
       rw [hen, cpL_len]
       conv => whnf
       exact ⟨⟨rfl, rfl⟩, ⟨rfl, rfl⟩, ⟨rfl, rfl⟩, trivial⟩
   · have hje : j = rs.length := by
      simp [iLt_eq] at hjt
      omega
     subst hje
     rw [List.take_length] at hO2 ⊢
     conv => whnf
     repeat (first | (refine XSame.of ?_; conv => whnf) | (refine XDep.all _ _ _ _ ?_; conv => whnf))
     refine ⟨⟨fun w => RowAt w a2 ((entL l rs).flatMap cpC), []⟩, Ent.trans (hO2.share (r1 := []) (r2 := [])) (Ent.imp fun w hw => hw.2), ⟨a2, cap2⟩, ⟨hO2.none_nil, hO2.fit⟩, rfl, rfl⟩

end Go.Proofs.YtakammghcodmgaaGreatDoor
namespace Go.Proofs.YtakammghcodmgaaGreatDoor
open Go Go.Sx
set_option maxRecDepth 100000

def bootB : List Cp := bootT bootLns
def capsB : List Cp := entL bootB (rootsOf bootB)

theorem bootB_len : bootB.length = 163 := by decide +kernel
theorem rootsB_len : (rootsOf bootB).length = 4 := by decide +kernel
theorem bootB_ok : (allI bootB.length (capOk ((bootB.length + 1 : Nat) : Int) bootB) && decide (bootB.length ≤ 400 ∧ 1 ≤ ((bootB.length + 1 : Nat) : Int) ∧ ((bootB.length + 1 : Nat) : Int) ≤ 1099511627776)) = true := by decide +kernel
theorem bootB_no : ((rootsOf bootB).any fun c => capHas bootB 16 c.r) = false := by decide +kernel
theorem capsB_len : capsB.length = 167 := by
 unfold capsB
 rw [entL_len, bootB_len, rootsB_len]

theorem bootB_spec : PureSpec Tryz.prog 23 [] (fun _ => True) (fun v F => ∃ h : Hd, h.Ok capsB.length ∧ v = .agg ⟨[.int .i64 ((capsB.length + 1 : Nat) : Int), h.v capsB.length]⟩ ∧ F = ⟨fun w => RowAt w h.a (capsB.flatMap cpC), []⟩) :=
 boot_spec capsB fun h hh => enter_spec bootB (by rw [bootB_len]; decide) bootB_ok (by rw [rootsB_len]; decide) (by rw [rootsB_len]; decide) bootB_no h hh (by rw [bootB_len]; decide)

end Go.Proofs.YtakammghcodmgaaGreatDoor
namespace Go.Proofs.YtakammghcodmgaaGreatDoor
open Go Go.Sx
set_option maxRecDepth 100000
set_option maxHeartbeats 4000000
set_option linter.unusedVariables false
set_option linter.unusedSimpArgs false

def quE : List Int := quB 10 ++ [16]
def mgE : Mg := ⟨16, 3, 1, 1, 5, 0, 0, 0, default⟩
def prE : Pr := ⟨16, 3, 1⟩
def enE : En := ⟨1, 16, 5, 0, 0, 0, 0, default⟩
theorem srvE : srvT 5 = 3 := by kernel_rfl
theorem quE_ok : allI quE.length (quOk quE) = true := by decide +kernel
theorem porE_ok : porOk [mgE] [prE] = true := by decide +kernel
theorem capE_has : capHas capsB ((3 : Nat) : Int) ⟨2, 0, 2⟩ = true := by decide +kernel

theorem awakeN_spec : PureSpec Tryz.prog 4 [] (fun _ => True) (fun v F => v = .bool true) := by
 have h1 := new_spec ((capsB.length + 1 : Nat) : Int) capsB (by rw [capsB_len]; decide) bootB_spec
 obtain ⟨e, he⟩ : ∃ e : Int, e = 0 := ⟨0, rfl⟩
 obtain ⟨f, hf⟩ : ∃ e : Int, e = 0 := ⟨0, rfl⟩
 obtain ⟨r, hr⟩ : ∃ r : Int, r = 16 := ⟨16, rfl⟩
 refine PureSpec.of_xc tabOk Tryz.func4 rfl (by decide) (n := Tryz.f4.ntmps - 0) rfl rfl fun w0 av => ?_
 conv => whnf
 repeat (first | (refine XSame.of ?_; conv => whnf) | (refine XDep.all _ _ _ _ ?_; conv => whnf))
 refine XCall.pure h1 (fun w hw => trivial) (fun v D hv => ?_)
 obtain ⟨x, hq, bk, bs, hnx, hcl, hti, hx, hhq, rfl, rfl⟩ := hv
 conv => whnf
 repeat (first | (refine XSame.of ?_; conv => whnf) | (refine XDep.all _ _ _ _ ?_; conv => whnf))
 refine XVal.of_read (XRead.ptrNil tabOk (t := 26) rfl rfl ?_)
 conv => whnf
 repeat (first | (refine XSame.of ?_; conv => whnf) | (refine XDep.all _ _ _ _ ?_; conv => whnf))
 obtain ⟨S0, hS0⟩ : ∃ S0, S0 = x.sta tskE ⟨hq, quB 10 ++ [16]⟩ := ⟨_, rfl⟩
 have hq0 : S0.q = default := by rw [hS0]; rfl
 have hp0 : S0.pr = default := by rw [hS0]; rfl
 have hr0 : S0.rc = default := by rw [hS0]; rfl
 have hT0 : S0.T 16 = ⟨2, 0, 0, false, false, false, 0, default⟩ := by rw [hS0]; rfl
 rw [← hS0]
 have h2 := call_spec S0 bk bs 16 ⟨by decide, by decide⟩ 2 0 0 0 default hT0 (by decide) rfl 5 0 0 0 (by kernel_rfl) (by rw [srvE]; decide) 0 rfl (by rw [hq0]; intro x hx; cases hx) (by rw [hq0]; exact Hd.nil_ok) (by rw [hq0]; decide) (by rw [hp0]; exact Hd.nil_ok) (by rw [hp0]; decide) (by rw [hq0, hp0]; decide)
  (by rw [hp0]; kernel_rfl) (by rw [hp0]; intro j hj; cases hj) e he none 0 [] (by rw [hr0]; exact Sx.Owg.nil 8) (by rw [hr0]; rfl) (by rw [hr0]; decide)
 rw [hq0, hp0, hr0, srvE] at h2
 obtain ⟨E0, hE0⟩ : ∃ E0 : World → Prop, E0 = fun w => (x.At w ∧ RowAt w hq.a (quE.map intV)) ∧ RowAt w (some ⟨bs, 0, none⟩) (staC S0) := ⟨_, rfl⟩
 refine XCall.ent (F' := ⟨E0, [] ++ ([(bk, Row.c [.pointer (some ⟨bs, 0, none⟩)])] ++ orow none []) ++ []⟩) (Ent.of_le ⟨by simp [Fx.and, orow], fun w hw => by rw [hE0]; exact hw.2⟩) ?_
 refine XCall.rows (r1 := []) (r2 := []) h2 (fun w hw => by rw [hE0] at hw; exact ⟨hw.2, RowAt.nilA, RowAt.nilA⟩) (fun v F' hv => ?_)
 obtain ⟨bn, hq1, hp1, a1, c1, C1, ⟨hq1o, hp1o, hO1⟩, rfl, rfl⟩ := hv
 obtain ⟨S1, hS1⟩ : ∃ S1, S1 = ((S0.po ⟨hq1, [mgE]⟩ ⟨hp1, [prE]⟩).rec' ⟨⟨a1, c1⟩, [enE]⟩).tsk 16 ⟨2, 1, 5, false, false, false, 0, default⟩ := ⟨_, rfl⟩
 have hS1' : staC (((S0.po ⟨hq1, (default : Sl Mg).l ++ [(⟨((16 : Nat) : Int), 3, 1, 1, 5, 0, 0, 0, default⟩ : Mg)]⟩ ⟨hp1, (default : Sl Pr).l ++ [(⟨((16 : Nat) : Int), 3, 1⟩ : Pr)]⟩).rec' ⟨⟨a1, c1⟩, (default : Sl En).l ++ [(⟨1, ((16 : Nat) : Int), 5, 0, 0, 0, 0, default⟩ : En)]⟩).tsk 16 ⟨2, 1, 5, false, false, false, 0, default⟩) = staC S1 := by rw [hS1]; rfl
 rw [hS1']
 have hqu1 : S1.qu = ⟨hq, quE⟩ := by rw [hS1, hS0]; rfl
 have hql1 : S1.q = ⟨hq1, [mgE]⟩ := by rw [hS1]; rfl
 have hpl1 : S1.pr = ⟨hp1, [prE]⟩ := by rw [hS1]; rfl
 have hrl1 : S1.rc = ⟨⟨a1, c1⟩, [enE]⟩ := by rw [hS1]; rfl
 have hcp1 : S1.cp = x.cp := by rw [hS1, hS0]; rfl
 have hD1 : S1.D 3 = false := by rw [hS1, hS0]; rfl
 have hT1 : S1.T 16 = ⟨2, 1, 5, false, false, false, 0, default⟩ := by rw [hS1]; exact tsk_at _ _ _
 have hrun : S1.qu.l.findIdx? (fun t => runsB S1 t.toNat) = some 2 := by rw [hqu1, hS1, hS0]; kernel_rfl
 conv => whnf
 repeat (first | (refine XSame.of ?_; conv => whnf) | (refine XDep.all _ _ _ _ ?_; conv => whnf))
 have h3 := pick_spec S1 bk bn (by rw [hql1]; exact ⟨hq1o, show 1 ≤ 140737488355328 by decide⟩) (by rw [hqu1]; exact hhq) (by rw [hqu1]; show 11 ≤ 100000; decide) (by rw [hqu1]; exact quE_ok) 2 hrun
 obtain ⟨z, hz⟩ : ∃ z, S1.qu.l[2]! = z := ⟨_, rfl⟩
 have hz3 : z = 3 := by rw [← hz, hqu1]; kernel_rfl
 rw [hz] at h3
 obtain ⟨NQ, hNQ⟩ : ∃ NQ, nextQ S1.qu.l 2 = NQ := ⟨_, rfl⟩
 rw [hNQ] at h3
 obtain ⟨E1, hE1⟩ : ∃ E1 : World → Prop, E1 = fun w => (x.cp.At cpC w ∧ RowAt w hq.a (quE.map intV)) ∧ (RowAt w (some ⟨bn, 0, none⟩) (staC S1) ∧ (RowAt w hq1.a ([mgE].flatMap mgC) ∧ RowAt w hp1.a ([prE].flatMap prC))) := ⟨_, rfl⟩
 refine XCall.ent (F' := ⟨E1, [] ++ [(bk, Row.c [.pointer (some ⟨bn, 0, none⟩)])] ++ orow a1 C1⟩) (Ent.of_le ⟨by simp, fun w hw => by
  obtain ⟨hw0, hw1, hw2, hw3⟩ := hw
  rw [hE0] at hw0
  rw [hE1]
  exact ⟨⟨hw0.1.1.1, hw0.1.2⟩, hw1, hw2, hw3⟩⟩) ?_
 refine XCall.rows (r1 := []) (r2 := orow a1 C1) h3 (fun w hw => by rw [hE1] at hw; exact ⟨hw.2.1, by rw [hql1]; exact hw.2.2.1, by rw [hqu1]; exact hw.1.2⟩) (fun v F' hv => ?_)
 obtain ⟨bn2, h2q, h2qo, rfl, rfl⟩ := hv
 obtain ⟨S2, hS2⟩ : ∃ S2, S2 = S1.quo ⟨h2q, NQ⟩ := ⟨_, rfl⟩
 rw [← hS2]
 have hql2 : S2.q = ⟨hq1, [mgE]⟩ := by rw [hS2]; exact hql1
 have hpl2 : S2.pr = ⟨hp1, [prE]⟩ := by rw [hS2]; exact hpl1
 have hrl2 : S2.rc = ⟨⟨a1, c1⟩, [enE]⟩ := by rw [hS2]; exact hrl1
 have hcp2 : S2.cp = x.cp := by rw [hS2]; exact hcp1
 have hD2 : S2.D 3 = false := by rw [hS2]; exact hD1
 have hT2 : S2.T 16 = ⟨2, 1, 5, false, false, false, 0, default⟩ := by rw [hS2]; exact hT1
 conv => whnf
 repeat (first | (refine XSame.of ?_; conv => whnf) | (refine XDep.all _ _ _ _ ?_; conv => whnf))
 refine XVal.build tabOk rfl rfl rfl [.agg ⟨efC 2 16 16 0 0 default⟩] rfl rfl (by simp [Value.cells, efC]) (by simp) fun b9 => ?_
 conv => whnf
 repeat (first | (refine XSame.of ?_; conv => whnf) | (refine XDep.all _ _ _ _ ?_; conv => whnf))
 have hcpo : S2.cp.Ok := by rw [hcp2]; exact ⟨hx.cp, by rw [hcl, capsB_len]; decide⟩
 have h4 := commitK_spec S2 bk bn2 3 rfl hD2 2 rfl 16 ⟨by decide, by decide⟩ 2 1 5 0 r 0 0 false default hT2 (by decide) rfl (by rw [hr]; kernel_rfl) hcpo (by rw [hcp2, hcl]; exact capE_has) (by rw [hql2]; intro y hy; simp at hy; subst hy; rfl) (by rw [hql2]; exact hq1o) (by rw [hql2]; show 1 ≤ 400; decide) (by rw [hpl2]; exact hp1o) (by rw [hpl2]; show 1 ≤ 100000; decide) (by rw [hql2, hpl2]; exact porE_ok) 0 (by rw [hql2]; kernel_rfl)
  f hf a1 c1 C1 (by rw [hrl2]; exact hO1) (by rw [hrl2]) (by rw [hrl2]; show 1 ≤ 100000000; decide) b9 1 rfl
 refine XCall.ent (F' := ⟨fun w => (x.cp.At cpC w ∧ (RowAt w hq1.a ([mgE].flatMap mgC) ∧ RowAt w hp1.a ([prE].flatMap prC))) ∧ (RowAt w (some ⟨bn2, 0, none⟩) (staC S2) ∧ RowAt w (some ⟨b9, 0, none⟩) (efC 2 16 r 0 0 default)), [] ++ ([(bk, Row.c [.pointer (some ⟨bn2, 0, none⟩)])] ++ orow a1 C1) ++ []⟩) ?_ ?_
 · refine Ent.trans (Ent.of_le (F' := ⟨fun w => (x.cp.At cpC w ∧ (RowAt w hq1.a ([mgE].flatMap mgC) ∧ RowAt w hp1.a ([prE].flatMap prC))) ∧ RowAt w (some ⟨bn2, 0, none⟩) (staC S2), ([(bk, Row.c [.pointer (some ⟨bn2, 0, none⟩)])] ++ orow a1 C1) ++ [(b9, Row.c (efC 2 16 16 0 0 default))]⟩) ⟨by simp [Value.cells], fun w hw => by
    have hw1 : E1 w := hw.1
    rw [hE1] at hw1
    exact ⟨⟨hw1.1.1, hw1.2.2.1, hw1.2.2.2⟩, hw.2.1⟩⟩) (Ent.trans Ent.shareLast (Ent.of_le ⟨by simp, fun w hw => ⟨hw.1.1, hw.1.2, by rw [hr]; exact hw.2⟩⟩))
 refine XCall.rows (r1 := []) (r2 := []) h4 (fun w hw => ⟨hw.2.1, ⟨by rw [hql2]; exact hw.1.2.1, by rw [hpl2]; exact hw.1.2.2⟩, by rw [hcp2]; exact hw.1.1, hw.2.2⟩) (fun v F' hv => ?_)
 obtain ⟨bn3, S3, a3, c3, C3, hT3, rfl, rfl⟩ := hv
 conv => whnf
 repeat (first | (refine XSame.of ?_; conv => whnf) | (refine XDep.all _ _ _ _ ?_; conv => whnf))
 refine XCall.ent (F' := ⟨fun w => RowAt w (some ⟨bn3, 0, none⟩) (staC S3), [] ++ [(bk, Row.c [.pointer (some ⟨bn3, 0, none⟩)])] ++ orow a3 C3⟩) (Ent.of_le ⟨by simp, fun w hw => hw.2⟩) ?_
 refine XCall.rows (r1 := []) (r2 := orow a3 C3) (result_spec S3 bk bn3 16 ⟨by decide, by decide⟩ 2 0 0 r false false hT3) (fun w hw => hw) (fun v F' hv => ?_)
 subst hv
 conv => whnf
 repeat (first | (refine XSame.of ?_; conv => whnf) | (refine XDep.all _ _ _ _ ?_; conv => whnf))
 refine ⟨_, Ent.refl _, ?_⟩
 show Value.bool _ = Value.bool true
 congr 1
 simp [iEq_eq, he, hf, hz3, hr]

end Go.Proofs.YtakammghcodmgaaGreatDoor
namespace Go.Proofs.YtakammghcodmgaaGreatDoor
open Go Go.Sx
set_option maxRecDepth 100000
set_option maxHeartbeats 4000000
set_option linter.unusedVariables false
set_option linter.unusedSimpArgs false

theorem get_now (s : Sta) : (staC s)[365]? = some (.int .i64 s.now) := by kernel_rfl
theorem get_out (s : Sta) : (staC s)[348]? = some (bsV s.se.out) := by kernel_rfl
theorem get_ac (s : Sta) : (staC s)[374]? = some s.ac.v := by kernel_rfl
theorem get_dk (s : Sta) : ((staC s).drop 308).take 10 = s.bk.v :: dchC s.dc := by kernel_rfl

theorem now_spec (S : Sta) (bk bs : Nat) : PureSpec Tryz.prog 11 [.pointer (some ⟨bk, 0, none⟩)] (fun w => RowAt w (some ⟨bk, 0, none⟩) [.pointer (some ⟨bs, 0, none⟩)] ∧ RowAt w (some ⟨bs, 0, none⟩) (staC S)) (fun v F => v = .int .i64 S.now) := by
 have hg := get_now S
 obtain ⟨X, hX⟩ : ∃ X, staC S = X := ⟨_, rfl⟩
 rw [hX] at hg ⊢
 refine PureSpec.of_xc tabOk Tryz.func11 rfl (by decide) (n := Tryz.f11.ntmps - 1) rfl rfl fun w0 av => ?_
 conv => whnf
 repeat (first | (refine XSame.of ?_; conv => whnf) | (refine XDep.all _ _ _ _ ?_; conv => whnf))
 refine XVal.of_read (XRead.ptrNil tabOk (t := 26) rfl rfl ?_)
 conv => whnf
 repeat (first | (refine XSame.of ?_; conv => whnf) | (refine XDep.all _ _ _ _ ?_; conv => whnf))
 refine XVal.of_read (XRead.loadF tabOk rfl rfl (ad := ⟨bk, 0, none⟩) (k := 0) (L := [.pointer (some ⟨bs, 0, none⟩)]) (v := .pointer (some ⟨bs, 0, none⟩)) (.fact fun w hw => hw.1) (fun _ => rfl) rfl ?_)
 conv => whnf
 repeat (first | (refine XSame.of ?_; conv => whnf) | (refine XDep.all _ _ _ _ ?_; conv => whnf))
 refine XVal.of_read (XRead.loadF tabOk rfl rfl (ad := ⟨bs, 0, none⟩) (k := 365) (L := X) (v := .int .i64 S.now) (.fact fun w hw => hw.2) (fun _ => rfl) hg ?_)
 conv => whnf
 repeat (first | (refine XSame.of ?_; conv => whnf) | (refine XDep.all _ _ _ _ ?_; conv => whnf))
 exact ⟨_, Ent.refl _, rfl⟩

theorem output_nil (S : Sta) (hs : S.se.out = default) (bk bs : Nat) : PureSpec Tryz.prog 12 [.pointer (some ⟨bk, 0, none⟩)] (fun w => RowAt w (some ⟨bk, 0, none⟩) [.pointer (some ⟨bs, 0, none⟩)] ∧ RowAt w (some ⟨bs, 0, none⟩) (staC S)) (fun v F => v = .slice none 0 0) := by
 have hg := get_out S
 rw [hs] at hg
 have hg : (staC S)[348]? = some (.slice none 0 0) := hg
 obtain ⟨X, hX⟩ : ∃ X, staC S = X := ⟨_, rfl⟩
 rw [hX] at hg ⊢
 refine PureSpec.of_xc tabOk Tryz.func12 rfl (by decide) (n := Tryz.f12.ntmps - 1) rfl rfl fun w0 av => ?_
 conv => whnf
 repeat (first | (refine XSame.of ?_; conv => whnf) | (refine XDep.all _ _ _ _ ?_; conv => whnf))
 refine XVal.of_read (XRead.ptrNil tabOk (t := 26) rfl rfl ?_)
 conv => whnf
 repeat (first | (refine XSame.of ?_; conv => whnf) | (refine XDep.all _ _ _ _ ?_; conv => whnf))
 refine XVal.of_read (XRead.loadF tabOk rfl rfl (ad := ⟨bk, 0, none⟩) (k := 0) (L := [.pointer (some ⟨bs, 0, none⟩)]) (v := .pointer (some ⟨bs, 0, none⟩)) (.fact fun w hw => hw.1) (fun _ => rfl) rfl ?_)
 conv => whnf
 repeat (first | (refine XSame.of ?_; conv => whnf) | (refine XDep.all _ _ _ _ ?_; conv => whnf))
 refine XVal.of_read (XRead.loadF tabOk rfl rfl (ad := ⟨bs, 0, none⟩) (k := 348) (L := X) (v := .slice none 0 0) (.fact fun w hw => hw.2) (fun _ => rfl) hg ?_)
 conv => whnf
 repeat (first | (refine XSame.of ?_; conv => whnf) | (refine XDep.all _ _ _ _ ?_; conv => whnf))
 refine XCall.val cloneBy_nil (fun w hw => trivial) (fun v D hv => ?_)
 subst hv
 conv => whnf
 repeat (first | (refine XSame.of ?_; conv => whnf) | (refine XDep.all _ _ _ _ ?_; conv => whnf))
 exact ⟨_, Ent.refl _, rfl⟩

theorem put_ac (s : Sta) (x : Sl Acc) : laid (staC s) 374 [x.v] = staC { s with ac := x } := by kernel_rfl
theorem accesses_nil (S : Sta) (hs : S.ac = default) (bk bs : Nat) : RowsSpec Tryz.prog 13 [.pointer (some ⟨bk, 0, none⟩)] [(bk, Row.c [.pointer (some ⟨bs, 0, none⟩)])] (fun w => RowAt w (some ⟨bs, 0, none⟩) (staC S))
 (fun v F => ∃ bn, v = .slice none 0 0 ∧ F = ⟨fun w => RowAt w (some ⟨bn, 0, none⟩) (staC S), [(bk, Row.c [.pointer (some ⟨bn, 0, none⟩)])]⟩) := by
 have hg := get_ac S
 have hp := put_ac S default
 rw [hs] at hg
 have hg : (staC S)[374]? = some (.slice none 0 0) := hg
 have hS : { S with ac := default } = S := by rw [← hs]
 rw [hS] at hp
 have hp : laid (staC S) 374 [.slice none 0 0] = staC S := hp
 have hlen := staC_len S
 have hone := staC_one S
 obtain ⟨X, hX⟩ : ∃ X, staC S = X := ⟨_, rfl⟩
 rw [hX] at hg hp hlen hone ⊢
 refine RowsSpec.of_xc tabOk Tryz.func13 rfl (by decide) (n := Tryz.f13.ntmps - 1) rfl rfl (by simp) fun w0 av => ?_
 conv => whnf
 repeat (first | (refine XSame.of ?_; conv => whnf) | (refine XDep.all _ _ _ _ ?_; conv => whnf))
 refine XVal.of_read (XRead.ptrNil tabOk (t := 26) rfl rfl ?_)
 conv => whnf
 repeat (first | (refine XSame.of ?_; conv => whnf) | (refine XDep.all _ _ _ _ ?_; conv => whnf))
 refine XVal.of_read (XRead.loadF tabOk rfl rfl (ad := ⟨bk, 0, none⟩) (k := 0) (L := [.pointer (some ⟨bs, 0, none⟩)]) (v := .pointer (some ⟨bs, 0, none⟩)) (Sees.row (by simp)) (fun _ => rfl) rfl ?_)
 conv => whnf
 repeat (first | (refine XSame.of ?_; conv => whnf) | (refine XDep.all _ _ _ _ ?_; conv => whnf))
 refine XVal.of_read (XRead.loads tabOk (t := 132) rfl rfl (ad := ⟨bs, 0, none⟩) (k := 0) (L := X) (m := X) (.fact fun w hw => hw) rfl (by rw [List.drop_zero, List.take_of_length_le (by rw [hlen]; exact Nat.le_refl _)]) hlen ?_)
 refine fin_of (by simp) ?_
 dsimp only [List.set_cons_succ, List.set_cons_zero, List.length_cons, List.length_nil, List.cons_append, List.nil_append, Nat.zero_add, Nat.reduceAdd]
 refine xops_allocG rfl rfl ?_
 refine XVal.allocRow tabOk rfl (z := staC zS) (by kernel_rfl) fun bn => ?_
 refine fin_of (by simp) ?_
 dsimp only [List.set_cons_succ, List.set_cons_zero, List.length_cons, List.length_nil, List.cons_append, List.nil_append, Nat.zero_add, Nat.reduceAdd]
 refine xops_storeV rfl rfl ?_
 obtain ⟨E, hE⟩ : ∃ E : World → Prop, E = fun w => RowAt w (some ⟨bs, 0, none⟩) X := ⟨_, rfl⟩
 refine XUnit.ent (F' := ⟨E, [(bk, Row.c [.pointer (some ⟨bs, 0, none⟩)])] ++ [(bn, Row.c (staC zS))] ++ []⟩) (Ent.of_le ⟨by simp, fun w hw => by rw [hE]; exact hw⟩) ?_
 refine XUnit.storeTo tabOk rfl (b := bn) (k := 0) (X := X) rfl (by show X.length = 376; exact hlen) (fun u hu => hone u hu) (by rw [staC_len]; exact Nat.le_refl _) (laid_whole (C := X) (z := staC zS) (by rw [hlen, staC_len])) ?_
 conv => whnf
 repeat (first | (refine XSame.of ?_; conv => whnf) | (refine XDep.all _ _ _ _ ?_; conv => whnf))
 refine XVal.of_read (XRead.loadF tabOk rfl rfl (ad := ⟨bn, 0, none⟩) (k := 374) (L := X) (v := .slice none 0 0) (Sees.row (by simp)) (fun _ => rfl) hg ?_)
 conv => whnf
 repeat (first | (refine XSame.of ?_; conv => whnf) | (refine XDep.all _ _ _ _ ?_; conv => whnf))
 refine XCall.val cloneAc_nil (fun w hw => trivial) (fun v D hv => ?_)
 subst hv
 conv => whnf
 repeat (first | (refine XSame.of ?_; conv => whnf) | (refine XDep.all _ _ _ _ ?_; conv => whnf))
 refine XUnit.ent (F' := ⟨E, [(bk, Row.c [.pointer (some ⟨bs, 0, none⟩)])] ++ [(bn, Row.c X)] ++ []⟩) (Ent.of_le ⟨by simp, fun w hw => hw⟩) ?_
 refine XUnit.storeTo tabOk rfl (b := bn) (k := 374) (X := X) rfl rfl (List.all_eq_true.1 (by rfl)) (by rw [hlen]; decide) hp ?_
 conv => whnf
 repeat (first | (refine XSame.of ?_; conv => whnf) | (refine XDep.all _ _ _ _ ?_; conv => whnf))
 refine XUnit.ent (F' := ⟨E, [] ++ [(bk, Row.c [.pointer (some ⟨bs, 0, none⟩)])] ++ [(bn, Row.c X)]⟩) (Ent.of_le ⟨by simp, fun w hw => hw⟩) ?_
 refine XUnit.storeTo tabOk rfl (b := bk) (k := 0) (X := [.pointer (some ⟨bn, 0, none⟩)]) rfl rfl (List.all_eq_true.1 (by rfl)) (Nat.le_refl _) rfl ?_
 conv => whnf
 repeat (first | (refine XSame.of ?_; conv => whnf) | (refine XDep.all _ _ _ _ ?_; conv => whnf))
 refine ⟨_, Ent.trans (Ent.perm (by simpa using List.Perm.swap _ _ _)) (Ent.trans Ent.share1 (Ent.imp fun w hw => hw.2)), bn, rfl, rfl⟩

end Go.Proofs.YtakammghcodmgaaGreatDoor
namespace Go.Proofs.YtakammghcodmgaaGreatDoor
open Go Go.Sx
set_option maxRecDepth 100000
set_option maxHeartbeats 4000000
set_option linter.unusedVariables false
set_option linter.unusedSimpArgs false

/-- A copy, in rows of its own. -/
theorem cloneEnO (h : Hd) (n : Nat) (hh : h.Ok n) (M : List Value) (hM : M.length = n * 8) (hn : n ≤ 1000000) (hone : ∀ v ∈ M, oneCell v = true) : PureSpec Tryz.prog 89 [h.v n] (fun w => RowAt w h.a M)
 (fun v F => ∃ a cap C, Sx.Owg 8 n a cap C M ∧ v = .slice a n cap ∧ F = ⟨fun _ => True, orow a C⟩) := by
 obtain ⟨ha, hc⟩ := h
 rcases ha with _ | ha
 · have h0 := hh.nil rfl
   subst h0
   have hM0 : M = [] := List.length_eq_zero_iff.1 (by omega)
   subst hM0
   refine PureSpec.of_xc tabOk Tryz.func89 rfl (by decide) (n := Tryz.f89.ntmps - 1) rfl rfl fun w0 av => ?_
   conv => whnf
   repeat (first | (refine XSame.of ?_; conv => whnf) | (refine XDep.all _ _ _ _ ?_; conv => whnf))
   refine XVal.of_read (XRead.eqNil tabOk (t := 42) rfl rfl ?_)
   conv => whnf
   repeat (first | (refine XSame.of ?_; conv => whnf) | (refine XDep.all _ _ _ _ ?_; conv => whnf))
   exact ⟨⟨fun _ => True, []⟩, Ent.of_le ⟨by simp, fun w hw => trivial⟩, none, 0, [], Sx.Owg.nil 8, rfl, rfl⟩
 refine PureSpec.of_xc tabOk Tryz.func89 rfl (by decide) (n := Tryz.f89.ntmps - 1) rfl rfl fun w0 av => ?_
 conv => whnf
 repeat (first | (refine XSame.of ?_; conv => whnf) | (refine XDep.all _ _ _ _ ?_; conv => whnf))
 refine XVal.of_read (XRead.eqNil tabOk (t := 42) rfl rfl ?_)
 conv => whnf
 repeat (first | (refine XSame.of ?_; conv => whnf) | (refine XDep.all _ _ _ _ ?_; conv => whnf))
 refine XVal.build tabOk (t := 42) rfl rfl rfl [] rfl rfl (by simp) (by decide) fun b0 => ?_
 conv => whnf
 repeat (first | (refine XSame.of ?_; conv => whnf) | (refine XDep.all _ _ _ _ ?_; conv => whnf))
 refine XVal.ent (F' := ⟨fun w => RowAt w (some ha) M, [] ++ orow (some ⟨b0, 0, none⟩) [] ++ []⟩) (Ent.of_le ⟨by simp [orow], fun w hw => hw⟩) ?_
 refine XVal.append tabOk rfl rfl rfl rfl rfl rfl (L := []) (M := M) (Sx.Owg.full (n := 0) (by simp)) (.fact fun w hw => hw) hM hone (by omega) (by show (2 * (0 + n) + 1000) * 80 ≤ 2 ^ 48; omega) fun a cap C hO => ?_
 conv => whnf
 repeat (first | (refine XSame.of ?_; conv => whnf) | (refine XDep.all _ _ _ _ ?_; conv => whnf))
 rw [Nat.zero_add, List.nil_append] at hO
 rw [Nat.zero_add]
 exact ⟨⟨fun _ => True, orow a C⟩, Ent.of_le ⟨by simp, fun w hw => trivial⟩, a, cap, C, hO, rfl, rfl⟩

theorem enCl_len (l : List En) : (l.flatMap enC).length = l.length * 8 := fm_len (cf := enC) (z := 8) (fun _ => rfl) l

theorem entries_spec (l : List En) (hd : ∀ x ∈ l, x.data = default) (h : Hd) (hh : h.Ok l.length) (hl : l.length ≤ 1000000) : PureSpec Tryz.prog 40 [h.v l.length] (fun w => RowAt w h.a (l.flatMap enC))
 (fun v F => ∃ a cap C, Sx.Owg 8 l.length a cap C (l.flatMap enC) ∧ v = .slice a l.length cap ∧ F = ⟨fun _ => True, orow a C⟩) := by
 have h1 := cloneEnO h l.length hh (l.flatMap enC) (enCl_len l) hl (fun v hv => by
  obtain ⟨x, -, hx⟩ := List.mem_flatMap.1 hv
  exact enC_one x v hx)
 have h2 := cloneBy_nil
 refine PureSpec.of_xc tabOk Tryz.func40 rfl (by decide) (n := Tryz.f40.ntmps - 1) rfl rfl fun w0 av => ?_
 conv => whnf
 repeat (first | (refine XSame.of ?_; conv => whnf) | (refine XDep.all _ _ _ _ ?_; conv => whnf))
 refine XCall.pure h1 (fun w hw => hw) (fun v D hv => ?_)
 obtain ⟨a, cap, C, hO, rfl, rfl⟩ := hv
 conv => whnf
 repeat (first | (refine XSame.of ?_; conv => whnf) | (refine XDep.all _ _ _ _ ?_; conv => whnf))
 refine XStop.loop tabOk (ι := Nat) ([4] ++ List.range' 9 14) (fun x => x ≤ l.length) (fun x => [(9, .v (.int .i64 (x : Int)))]) (fun _ => []) (fun _ => ⟨fun _ => True, orow a C⟩) (fun x => l.length - x) 0 (Nat.zero_le _) ?_ rfl (Ent.of_le ⟨by simp [Fx.and], fun w hw => trivial⟩) fun i hi => ?_
 · conv => whnf
   repeat (first | exact FLe.nil | refine FLe.any ?_ | refine FLe.cons ?_)
 conv => whnf
 repeat (first | (refine XSame.of ?_; conv => whnf) | (refine XDep.all _ _ _ _ ?_; conv => whnf))
 refine XIf.split (fun hlt => ?_) (fun hlt => ?_)
 · have hlt' : i < l.length := by
    simp only [iLt_eq, decide_eq_true_eq] at hlt
    omega
   obtain ⟨ba, rfl⟩ := own_some hO (by omega)
   have hfit := hO.fit
   have hC : C.length = cap * 8 ∧ C.take (l.length * 8) = l.flatMap enC := by
    rcases hO.alt with ⟨h, _⟩ | ⟨b', _, h, h'⟩
    · cases h
    · exact ⟨h, h'⟩
   have hcell : C[i * 8 + 7]? = some (.slice none 0 0) := by
    have h3 := fm_get (cf := enC) (z := 8) (fun _ => rfl) hlt'
    have h4 := cellOf (j := 7) (v := bsV l[i].data) h3 (by decide) rfl
    rw [hd _ (List.getElem_mem hlt'), ← hC.2, List.getElem?_take] at h4
    split at h4
    · exact h4
    · cases h4
   conv => whnf
   repeat (first | (refine XSame.of ?_; conv => whnf) | (refine XDep.all _ _ _ _ ?_; conv => whnf))
   refine XVal.of_read (XRead.index tabOk rfl rfl rfl (by omega) (by omega) (fun h => by cases h) fun ad had => ?_)
   cases had
   conv => whnf
   repeat (first | (refine XSame.of ?_; conv => whnf) | (refine XDep.all _ _ _ _ ?_; conv => whnf))
   refine XVal.of_read (XRead.loadF tabOk rfl rfl (ad := ⟨ba, 0, none⟩) (k := i * 8 + 7) (L := C) (v := .slice none 0 0) (Sees.row (by simp [orow])) (fun _ => by simp [Addr.add_none]) hcell ?_)
   conv => whnf
   repeat (first | (refine XSame.of ?_; conv => whnf) | (refine XDep.all _ _ _ _ ?_; conv => whnf))
   refine XCall.val h2 (fun w hw => trivial) (fun v D hv => ?_)
   subst hv
   conv => whnf
   repeat (first | (refine XSame.of ?_; conv => whnf) | (refine XDep.all _ _ _ _ ?_; conv => whnf))
   refine XVal.of_read (XRead.index tabOk rfl rfl rfl (by omega) (by omega) (fun h => by cases h) fun ad had => ?_)
   cases had
   conv => whnf
   repeat (first | (refine XSame.of ?_; conv => whnf) | (refine XDep.all _ _ _ _ ?_; conv => whnf))
   refine XUnit.ent (F' := ⟨fun _ => True, [] ++ [(ba, Row.c C)] ++ []⟩) (Ent.of_le ⟨by simp [orow], fun w hw => trivial⟩) ?_
   refine XUnit.storeTo tabOk rfl (b := ba) (k := i * 8 + 7) (X := C) (by simp [Addr.add_none]) rfl (List.all_eq_true.1 (by rfl)) (by rw [hC.1]; show i * 8 + 7 + 1 ≤ cap * 8; omega) (laid_cell hcell) ?_
   conv => whnf
   repeat (first | (refine XSame.of ?_; conv => whnf) | (refine XDep.all _ _ _ _ ?_; conv => whnf))
   refine ⟨i + 1, ⟨hlt', by dsimp only; omega⟩, ?_, ?_, Ent.of_le ⟨by simp [orow], fun w hw => trivial⟩⟩
   · conv => whnf
     refine ⟨?_, rfl⟩
     repeat (first | exact FLe.nil | refine FLe.any ?_ | refine FLe.cons ?_ | refine FLe.eq (by rw [wrap_i64 (by omega)]; rfl) ?_)
   · conv => whnf
     exact trivial
 · conv => whnf
   repeat (first | (refine XSame.of ?_; conv => whnf) | (refine XDep.all _ _ _ _ ?_; conv => whnf))
   exact ⟨_, Ent.refl _, a, cap, C, hO, rfl, rfl⟩

theorem record_spec (S : Sta) (bk bs : Nat) (hd : ∀ x ∈ S.rc.l, x.data = default) (hh : S.rc.h.Ok S.rc.l.length) (hl : S.rc.l.length ≤ 1000000) :
 PureSpec Tryz.prog 10 [.pointer (some ⟨bk, 0, none⟩)] (fun w => RowAt w (some ⟨bk, 0, none⟩) [.pointer (some ⟨bs, 0, none⟩)] ∧ (RowAt w (some ⟨bs, 0, none⟩) (staC S) ∧ RowAt w S.rc.h.a (S.rc.l.flatMap enC)))
  (fun v F => ∃ a cap C, Sx.Owg 8 S.rc.l.length a cap C (S.rc.l.flatMap enC) ∧ v = .slice a S.rc.l.length cap ∧ F = ⟨fun _ => True, orow a C⟩) := by
 have h1 := entries_spec S.rc.l hd S.rc.h hh hl
 have hg := get_rc S
 obtain ⟨X, hX⟩ : ∃ X, staC S = X := ⟨_, rfl⟩
 rw [hX] at hg ⊢
 refine PureSpec.of_xc tabOk Tryz.func10 rfl (by decide) (n := Tryz.f10.ntmps - 1) rfl rfl fun w0 av => ?_
 conv => whnf
 repeat (first | (refine XSame.of ?_; conv => whnf) | (refine XDep.all _ _ _ _ ?_; conv => whnf))
 refine XVal.of_read (XRead.ptrNil tabOk (t := 26) rfl rfl ?_)
 conv => whnf
 repeat (first | (refine XSame.of ?_; conv => whnf) | (refine XDep.all _ _ _ _ ?_; conv => whnf))
 refine XVal.of_read (XRead.loadF tabOk rfl rfl (ad := ⟨bk, 0, none⟩) (k := 0) (L := [.pointer (some ⟨bs, 0, none⟩)]) (v := .pointer (some ⟨bs, 0, none⟩)) (.fact fun w hw => hw.1) (fun _ => rfl) rfl ?_)
 conv => whnf
 repeat (first | (refine XSame.of ?_; conv => whnf) | (refine XDep.all _ _ _ _ ?_; conv => whnf))
 refine XVal.of_read (XRead.loadF tabOk rfl rfl (ad := ⟨bs, 0, none⟩) (k := 373) (L := X) (v := S.rc.v) (.fact fun w hw => hw.2.1) (fun _ => rfl) hg ?_)
 conv => whnf
 repeat (first | (refine XSame.of ?_; conv => whnf) | (refine XDep.all _ _ _ _ ?_; conv => whnf))
 refine XCall.pure h1 (fun w hw => hw.2.2) (fun v D hv => ?_)
 obtain ⟨a, cap, C, hO, rfl, rfl⟩ := hv
 conv => whnf
 repeat (first | (refine XSame.of ?_; conv => whnf) | (refine XDep.all _ _ _ _ ?_; conv => whnf))
 exact ⟨⟨fun _ => True, orow a C⟩, Ent.of_le ⟨by simp [Fx.and], fun w hw => trivial⟩, a, cap, C, hO, rfl, rfl⟩

def mgZ : Mg := ⟨0, 0, 0, 0, 0, 0, 0, 0, default⟩
/-- The first queued message to a task. -/
theorem firstM_spec (l : List Mg) (hd : ∀ x ∈ l, x.data = default) (h : Hd) (hh : h.Ok l.length) (hl : l.length ≤ 1000000) (pv : Value) (hpv : oneCell pv = true) (d : Int) (m : Mg) (ok : Bool) (hm : l.find? (fun x => iEq x.dst d) = if ok then some m else none) (hm0 : ok = false → m = mgZ) :
 PureSpec Tryz.prog 44 [.agg ⟨[h.v l.length, pv]⟩, .int .i64 d] (fun w => RowAt w h.a (l.flatMap mgC)) (fun v F => v = .tuple ⟨[.agg ⟨mgC m⟩, .bool ok]⟩) := by
 have h1 := first_spec l h hh (by omega) pv hpv d
 have hz : ∃ z : Int, fint (l.findIdx? fun x => iEq x.dst d) = z ∧ (ok = false → z = -1) ∧ (ok = true → ∃ i, ∃ hi : i < l.length, z = (i : Int) ∧ l[i] = m) := by
  refine ⟨_, rfl, fun ho => ?_, fun ho => ?_⟩
  · rw [ho, if_neg (by simp)] at hm
    rw [List.find?_eq_none] at hm
    rw [List.findIdx?_eq_none_iff.2 (fun x hx => by simpa using hm x hx)]
    rfl
  · rw [ho, if_pos rfl] at hm
    rw [List.find?_eq_some_iff_getElem] at hm
    obtain ⟨hp, i, hi, hx, hj⟩ := hm
    refine ⟨i, hi, ?_, hx⟩
    rw [List.findIdx?_eq_some_iff_getElem.2 ⟨hi, by rw [hx]; exact hp, fun j hj2 => by simpa using hj j hj2⟩]
    rfl
 obtain ⟨z, hze, hz0, hz1⟩ := hz
 rw [hze] at h1
 refine PureSpec.of_xc tabOk Tryz.func44 rfl (by decide) (n := Tryz.f44.ntmps - 2) rfl rfl fun w0 av => ?_
 conv => whnf
 repeat (first | (refine XSame.of ?_; conv => whnf) | (refine XDep.all _ _ _ _ ?_; conv => whnf))
 intro b2
 refine snocK_of ?_
 refine snocK_of ?_
 refine fin_of (by simp) ?_
 dsimp only [List.set_cons_succ, List.set_cons_zero, List.length_cons, List.length_nil, List.cons_append, List.nil_append, Nat.zero_add, Nat.reduceAdd]
 refine xops_allocS (z := (mgC mgZ)) rfl rfl rfl (by simp) fun b4 => ?_
 dsimp only [List.set_cons_succ, List.set_cons_zero, List.length_cons, List.length_nil, List.cons_append, List.nil_append, Nat.zero_add, Nat.reduceAdd]
 conv => whnf
 repeat (first | (refine XSame.of ?_; conv => whnf) | (refine XDep.all _ _ _ _ ?_; conv => whnf))
 refine XCall.val h1 (fun w hw => hw) (fun v D hv => ?_)
 subst hv
 conv => whnf
 repeat (first | (refine XSame.of ?_; conv => whnf) | (refine XDep.all _ _ _ _ ?_; conv => whnf))
 cases ok
 · refine XIf.yes (by simp [iLt_eq, hz0 rfl]) ?_
   conv => whnf
   repeat (first | (refine XSame.of ?_; conv => whnf) | (refine XDep.all _ _ _ _ ?_; conv => whnf))
   exact ⟨_, Ent.refl _, by rw [hm0 rfl]; rfl⟩
 · obtain ⟨i, hi, hzi, hx⟩ := hz1 rfl
   have hc := porClone_spec l[i] (hd _ (List.getElem_mem hi))
   refine XIf.no (by simp [iLt_eq, hzi]) ?_
   conv => whnf
   repeat (first | (refine XSame.of ?_; conv => whnf) | (refine XDep.all _ _ _ _ ?_; conv => whnf))
   refine XVal.of_read (XRead.index tabOk (t := 108) rfl rfl rfl (by omega) (by omega) hh.nil fun ad had => ?_)
   conv => whnf
   repeat (first | (refine XSame.of ?_; conv => whnf) | (refine XDep.all _ _ _ _ ?_; conv => whnf))
   refine XVal.of_read (XRead.loads tabOk (t := 53) rfl rfl (ad := ad) (k := i * 9) (L := l.flatMap mgC) (m := mgC l[i]) (.fact fun w hw => had ▸ hw) (by simp [hzi]) (fm_get (cf := mgC) (z := 9) (fun _ => rfl) hi) rfl ?_)
   conv => whnf
   repeat (first | (refine XSame.of ?_; conv => whnf) | (refine XDep.all _ _ _ _ ?_; conv => whnf))
   refine XCall.val hc (fun w hw => trivial) (fun v D hv => ?_)
   subst hv
   conv => whnf
   repeat (first | (refine XSame.of ?_; conv => whnf) | (refine XDep.all _ _ _ _ ?_; conv => whnf))
   exact ⟨_, Ent.refl _, by rw [hx]; rfl⟩

theorem message_spec (S : Sta) (bk bs : Nat) (hD : S.D = fun _ => false) (hd : ∀ x ∈ S.q.l, x.data = default) (hh : S.q.h.Ok S.q.l.length) (hl : S.q.l.length ≤ 1000000) (c : Nat) (m : Mg) (ok : Bool) (hm : 1 ≤ c ∧ c ≤ 10 → S.q.l.find? (fun x => iEq x.dst (c : Int)) = if ok then some m else none) (hc0 : ¬ (1 ≤ c ∧ c ≤ 10) → ok = false) (hm0 : ok = false → m = mgZ) :
 PureSpec Tryz.prog 14 [.pointer (some ⟨bk, 0, none⟩), .int .i64 (c : Int)] (fun w => RowAt w (some ⟨bk, 0, none⟩) [.pointer (some ⟨bs, 0, none⟩)] ∧ (RowAt w (some ⟨bs, 0, none⟩) (staC S) ∧ RowAt w S.q.h.a (S.q.l.flatMap mgC)))
  (fun v F => v = .tuple ⟨[.agg ⟨mgC m⟩, .bool ok]⟩) := by
 have h1 := comp_spec (c : Int)
 have hg := get_po S
 have hDc := fun hc => staC_D S c hc
 rw [hD] at hDc
 obtain ⟨X, hX⟩ : ∃ X, staC S = X := ⟨_, rfl⟩
 rw [hX] at hg hDc ⊢
 by_cases hc : 1 ≤ c ∧ c ≤ 10
 · have h2 := firstM_spec S.q.l hd S.q.h hh hl S.pr.v rfl (c : Int) m ok (hm hc) hm0
   rw [show decide (1 ≤ (c : Int) ∧ (c : Int) ≤ 10) = true from by simp; omega] at h1
   have hDc := hDc (by omega)
   have hDc : X[256 + c]? = some (.bool false) := hDc
   obtain ⟨dn, hdn⟩ : ∃ b : Bool, b = false := ⟨_, rfl⟩
   rw [← hdn] at hDc
   refine PureSpec.of_xc tabOk Tryz.func14 rfl (by decide) (n := Tryz.f14.ntmps - 2) rfl rfl fun w0 av => ?_
   conv => whnf
   repeat (first | (refine XSame.of ?_; conv => whnf) | (refine XDep.all _ _ _ _ ?_; conv => whnf))
   intro b1
   refine snocK_of ?_
   refine snocK_of ?_
   refine fin_of (by simp) ?_
   dsimp only [List.set_cons_succ, List.set_cons_zero, List.length_cons, List.length_nil, List.cons_append, List.nil_append, Nat.zero_add, Nat.reduceAdd]
   conv => whnf
   repeat (first | (refine XSame.of ?_; conv => whnf) | (refine XDep.all _ _ _ _ ?_; conv => whnf))
   refine XVal.of_read (XRead.ptrNil tabOk (t := 26) rfl rfl ?_)
   conv => whnf
   repeat (first | (refine XSame.of ?_; conv => whnf) | (refine XDep.all _ _ _ _ ?_; conv => whnf))
   refine XCall.val h1 (fun w hw => trivial) (fun v D hv => ?_)
   subst hv
   conv => whnf
   repeat (first | (refine XSame.of ?_; conv => whnf) | (refine XDep.all _ _ _ _ ?_; conv => whnf))
   refine XVal.of_read (XRead.loadF tabOk rfl rfl (ad := ⟨bk, 0, none⟩) (k := 0) (L := [.pointer (some ⟨bs, 0, none⟩)]) (v := .pointer (some ⟨bs, 0, none⟩)) (.fact fun w hw => hw.1) (fun _ => rfl) rfl ?_)
   conv => whnf
   repeat (first | (refine XSame.of ?_; conv => whnf) | (refine XDep.all _ _ _ _ ?_; conv => whnf))
   refine XVal.of_read (XRead.indexArr tabOk rfl rfl rfl c rfl (by omega) rfl ?_)
   conv => whnf
   repeat (first | (refine XSame.of ?_; conv => whnf) | (refine XDep.all _ _ _ _ ?_; conv => whnf))
   refine XVal.of_read (XRead.loadF tabOk rfl rfl (ad := ⟨bs, 0, none⟩) (k := 256 + c) (L := X) (v := .bool dn) (.fact fun w hw => hw.2.1) (fun _ => by simp [Addr.add_none]) hDc ?_)
   conv => whnf
   repeat (first | (refine XSame.of ?_; conv => whnf) | (refine XDep.all _ _ _ _ ?_; conv => whnf))
   refine XIf.no (by simp [hdn]) ?_
   conv => whnf
   repeat (first | (refine XSame.of ?_; conv => whnf) | (refine XDep.all _ _ _ _ ?_; conv => whnf))
   refine XVal.of_read (XRead.loadF tabOk rfl rfl (ad := ⟨bk, 0, none⟩) (k := 0) (L := [.pointer (some ⟨bs, 0, none⟩)]) (v := .pointer (some ⟨bs, 0, none⟩)) (.fact fun w hw => hw.1) (fun _ => rfl) rfl ?_)
   conv => whnf
   repeat (first | (refine XSame.of ?_; conv => whnf) | (refine XDep.all _ _ _ _ ?_; conv => whnf))
   refine XVal.of_read (XRead.loads tabOk (t := 111) rfl rfl (ad := ⟨bs, 0, none⟩) (k := 267) (L := X) (m := [S.q.v, S.pr.v]) (.fact fun w hw => hw.2.1) rfl hg rfl ?_)
   conv => whnf
   repeat (first | (refine XSame.of ?_; conv => whnf) | (refine XDep.all _ _ _ _ ?_; conv => whnf))
   refine XCall.val h2 (fun w hw => hw.2.2) (fun v D hv => ?_)
   subst hv
   conv => whnf
   repeat (first | (refine XSame.of ?_; conv => whnf) | (refine XDep.all _ _ _ _ ?_; conv => whnf))
   exact ⟨_, Ent.refl _, rfl⟩
 · rw [show decide (1 ≤ (c : Int) ∧ (c : Int) ≤ 10) = false from by simp; omega] at h1
   refine PureSpec.of_xc tabOk Tryz.func14 rfl (by decide) (n := Tryz.f14.ntmps - 2) rfl rfl fun w0 av => ?_
   conv => whnf
   repeat (first | (refine XSame.of ?_; conv => whnf) | (refine XDep.all _ _ _ _ ?_; conv => whnf))
   intro b1
   refine snocK_of ?_
   refine snocK_of ?_
   refine fin_of (by simp) ?_
   dsimp only [List.set_cons_succ, List.set_cons_zero, List.length_cons, List.length_nil, List.cons_append, List.nil_append, Nat.zero_add, Nat.reduceAdd]
   conv => whnf
   repeat (first | (refine XSame.of ?_; conv => whnf) | (refine XDep.all _ _ _ _ ?_; conv => whnf))
   refine XVal.of_read (XRead.ptrNil tabOk (t := 26) rfl rfl ?_)
   conv => whnf
   repeat (first | (refine XSame.of ?_; conv => whnf) | (refine XDep.all _ _ _ _ ?_; conv => whnf))
   refine XCall.val h1 (fun w hw => trivial) (fun v D hv => ?_)
   subst hv
   conv => whnf
   repeat (first | (refine XSame.of ?_; conv => whnf) | (refine XDep.all _ _ _ _ ?_; conv => whnf))
   exact ⟨_, Ent.refl _, by rw [hm0 (hc0 hc), hc0 hc]; rfl⟩

end Go.Proofs.YtakammghcodmgaaGreatDoor
namespace Go.Proofs.YtakammghcodmgaaGreatDoor
open Go Go.Proofs Go.Sx
set_option maxRecDepth 100000
set_option maxHeartbeats 4000000
set_option linter.unusedVariables false
set_option linter.unusedSimpArgs false

theorem cell_block {w : World} {g i : Nat} {v : Value} (h : w.cell? ⟨g, i, none⟩ = some v) : ∃ arr e fz, w.heap[g]? = some (.cells arr e fz) ∧ arr[i]? = some v := by
 unfold World.cell? at h
 dsimp only at h
 split at h
 · rename_i arr e fz hb
   exact ⟨arr, e, fz, hb, h⟩
 · cases h

theorem holds_of {w : World} {x : Bs} {l : List UInt8} (hn : x.n = l.length) (hh : x.h.a = none → x.n = 0) (h : RowAt w x.h.a (l.map byteV)) : Lib.HoldsBytes w (bsV x) l := by
 refine ⟨x.h.a, x.h.c, by rw [← hn]; rfl, fun h0 => ?_, fun a ha i u hu => ?_⟩
 · have := hh h0
   exact List.eq_nil_of_length_eq_zero (by omega)
 · rw [ha] at h
   have hi : i < l.length := (List.getElem?_eq_some_iff.1 hu).1
   rw [h.cell (j := i) (by simpa using hi), List.getElem?_map, hu]
   rfl

theorem bytes_lit (zs : List Int) (h : ∀ x ∈ zs, 0 ≤ x ∧ x < 256) (i : Nat) : (zs[i]?).map (Value.int .u8) = ((Lib.bytesOf zs).map byteV)[i]? := by
 unfold Lib.bytesOf
 rw [List.map_map, List.getElem?_map]
 cases hz : zs[i]? with
 | none => rfl
 | some z =>
  have hm := h z (List.mem_of_getElem? hz)
  simp only [Option.map_some, Function.comp]
  congr 1
  unfold byteV
  congr 1
  have : (UInt8.ofNat z.toNat).toNat = z.toNat := by
   rw [UInt8.toNat_ofNat']
   omega
  simp [this]
  omega

theorem interc_nil : ∀ ls : List (List UInt8), [].intercalate ls = ls.flatten
 | [] => rfl
 | [x] => by simp [List.intercalate]
 | x :: y :: r => by
  have h := interc_nil (y :: r)
  unfold List.intercalate at h ⊢
  rw [List.intersperse_cons_cons, List.flatten_cons, List.flatten_cons, h, List.flatten_cons]
  simp

/-- The parts of a list put together. -/
theorem join_spec (a : Addr) (c : Nat) (l : List Bs) (ls : List (List UInt8)) (hl : ls.length = l.length) (h2 : 2 ≤ l.length) (hc : l.length ≤ c) (hn : ∀ i (hi : i < l.length), l[i].n = (ls[i]'(by omega)).length) (h0 : ∀ x ∈ l, x.h.a = none → x.n = 0) (hlen : l.length ≤ 1000000) (hsum : (ls.map List.length).sum ≤ 1000000) (hpos : 0 < ls.flatten.length) :
 PureSpec Tryz.prog 92 [.slice (some a) l.length c, .slice none 0 0] (fun w => RowAt w (some a) (l.map bsV) ∧ ∀ i (hi : i < l.length), RowAt w l[i].h.a ((ls[i]'(by omega)).map byteV)) (RelB ls.flatten) := by
 unfold PureSpec
 refine ⟨⟨_, Tryz.func92, by decide, by decide⟩, fun av w hav hpre => ?_⟩
 obtain ⟨hr, hb⟩ := hpre.now
 obtain ⟨hs, arr, e, fz, hheap, hcell⟩ := hr.there (by
  intro h
  have := congrArg List.length h
  rw [List.length_map, List.length_nil] at this
  omega)
 obtain ⟨b, o, s⟩ := a
 simp at hs
 subst hs
 have hP : Lib.PartsAt w ⟨b, o, none⟩ (l.map bsV) ls := by
  refine ⟨by simp [hl], fun i v hv => ?_, fun i v y hv hy => ?_⟩
  · have hi : i < (l.map bsV).length := (List.getElem?_eq_some_iff.1 hv).1
    rw [hr.cell hi, hv]
  · have hi : i < l.length := by simpa using (List.getElem?_eq_some_iff.1 hv).1
    rw [List.getElem?_map, List.getElem?_eq_getElem hi] at hv
    cases hv
    rw [List.getElem?_eq_getElem (by omega)] at hy
    cases hy
    exact holds_of (hn i hi) (h0 _ (List.getElem_mem hi)) (hb i hi)
 have hS : Lib.HoldsBytes w (.slice none 0 0) [] := ⟨none, 0, rfl, fun _ => rfl, fun a ha => by cases ha⟩
 have hj : Lib.join ls [] = ls.flatten := interc_nil ls
 have hsum' : (ls.map (fun x => x.length)).sum ≤ 1000000 := hsum
 refine (Tryz.bytes_Join_many b o l.length c (l.map bsV) ls (.slice none 0 0) [] w hl h2 hP hc hS (by omega) (by unfold Lib.lens; simp; omega)).mono ?_
 rintro e' W ⟨v, rfl, ⟨g, cap, zs, rfl, hg, hlc, hcm, hz, hzb, hzl, hcl, hfz⟩, hbel⟩
 rw [hj] at hlc hzl
 rw [hj]
 obtain ⟨arr', e', fz', hb', -⟩ := cell_block (hcl 0 (by omega))
 have hgs : g < W.heap.size := (Array.getElem?_eq_some_iff.1 hb').1
 refine ⟨_, ⟨fun w => By w ⟨some ⟨g, 0, none⟩, cap⟩ ls.flatten, []⟩, rfl, ⟨hbel.os, hbel.tape, hbel.output, hbel.size, fun k o ho => ?_⟩, ⟨fun r hr => (by cases hr), List.Pairwise.nil, Holds.block g hgs ?_ fun w'' hw => ?_⟩, ⟨some ⟨g, 0, none⟩, cap⟩, rfl, ⟨fun h => (by cases h), hlc⟩, rfl⟩
 · have hk : k < w.heap.size := (Array.getElem?_eq_some_iff.1 ho).1
   exact ⟨o, by rw [hbel.block k hk, ho], .refl _ _⟩
 · rintro (hq | ⟨r, hr, _⟩)
   · have := hav _ hq
     omega
   · cases hr
 · refine .inr ⟨rfl, arr', e', fz', by rw [hw, hb'], fun j hj => ?_⟩
   simp only [List.length_map] at hj
   obtain ⟨a2, e2, f2, hb2, hv2⟩ := cell_block (hcl j (by omega))
   rw [hb'] at hb2
   cases hb2
   show arr'[0 + j]? = _
   rw [Nat.zero_add, hv2, ← hzl, ← bytes_lit _ (fun x hx => hzb x (List.mem_of_mem_take hx)), List.getElem?_take, if_pos hj]
   rw [List.getD_eq_getElem?_getD, List.getElem?_eq_getElem (by omega)]
   rfl

/-- The content of a disk. -/
theorem content_spec (h : Hd) (l : List Bs) (hh : h.Ok l.length) (C : List UInt8) (hC : C.length ≤ 20480) (hz : ZsOk 160 l) (ch : List Value) (hch : ch.length = 9) (hone : ∀ v ∈ ch, oneCell v = true) : PureSpec Tryz.prog 45 [.agg ⟨h.v l.length :: ch⟩] (fun w => RowAt w h.a (l.map bsV) ∧ BlkAt C l w) (RelB (dskL C)) := by
 obtain ⟨hl, hx⟩ := hz
 obtain ⟨a, ha⟩ : ∃ a, h.a = some a := by
  cases hq : h.a with
  | none =>
   have := hh.nil hq
   omega
  | some a => exact ⟨a, rfl⟩
 obtain ⟨ls, hls⟩ : ∃ ls, ls = (List.range 160).map (blkL C) := ⟨_, rfl⟩
 have hlen : ls.length = l.length := by rw [hls, hl]; simp
 have hblk : ∀ j, j < 160 → (blkL C j).length = 128 := fun j hj => by
  unfold blkL
  rw [List.length_take, List.length_drop, dskL_len hC]
  omega
 have hget : ∀ i (hi : i < ls.length), ls[i] = blkL C i := fun i hi => by
  subst hls
  simp
 have hflat : ls.flatten = dskL C := by
  have key : ∀ k, k ≤ 160 → ((List.range k).map (blkL C)).flatten = (dskL C).take (128 * k) := by
   intro k
   induction k with
   | zero => intro _; simp
   | succ k ih =>
    intro hk
    rw [List.range_succ, List.map_append, List.flatten_append, ih (by omega)]
    show _ ++ (blkL C k ++ []) = _
    unfold blkL
    rw [List.append_nil, show 128 * (k + 1) = 128 * k + 128 by omega, List.take_add]
  rw [hls, key 160 (Nat.le_refl _)]
  exact List.take_of_length_le (by rw [dskL_len hC]; decide)
 have hsum : (ls.map List.length).sum ≤ 1000000 := by
  have : (ls.map List.length).sum = ls.flatten.length := by rw [List.length_flatten]
  rw [this, hflat, dskL_len hC]
  decide
 have h1 := join_spec a h.c l ls hlen (by omega) hh.cap (fun i hi => by rw [hget i (by omega), hblk i (by omega)]; exact (hx _ (List.getElem_mem hi)).1) (fun x hxm h0 => absurd h0 (hx x hxm).2.1) (by omega) hsum (by rw [hflat, dskL_len hC]; decide)
 rw [hflat] at h1
 obtain ⟨ha', hc'⟩ := h
 dsimp only at ha h1 ⊢
 subst ha
 have h1 : PureSpec Tryz.prog 92 [(⟨some a, hc'⟩ : Hd).v l.length, .slice none 0 0] (fun w => RowAt w (some a) (l.map bsV) ∧ BlkAt C l w) (RelB (dskL C)) := by
  have h2 : (fun w => RowAt w (some a) (l.map bsV) ∧ ∀ i (hi : i < l.length), RowAt w l[i].h.a ((ls[i]'(by omega)).map byteV)) = (fun w => RowAt w (some a) (l.map bsV) ∧ BlkAt C l w) := by
   funext w
   congr 1
   apply propext
   exact forall_congr' fun i => forall_congr' fun hi => by rw [hget i (by omega)]
  rw [h2] at h1
  exact h1
 obtain ⟨X, hX⟩ : ∃ X, X = (⟨some a, hc'⟩ : Hd).v l.length := ⟨_, rfl⟩
 rw [← hX] at h1 ⊢
 have hoX : oneCell X = true := by rw [hX]; rfl
 match ch, hch with
 | [c1, c2, c3, c4, c5, c6, c7, c8, c9], _ =>
  refine PureSpec.of_xc tabOk Tryz.func45 rfl (by decide) (n := Tryz.f45.ntmps - 1) rfl rfl fun w0 av => ?_
  conv => whnf
  repeat (first | (refine XSame.of ?_; conv => whnf) | (refine XDep.all _ _ _ _ ?_; conv => whnf))
  intro b1
  conv => whnf
  repeat (first | (refine XSame.of ?_; conv => whnf) | (refine XDep.all _ _ _ _ ?_; conv => whnf))
  refine XCall.pure h1 (fun w hw => hw) (fun v D hv => ?_)
  obtain ⟨k, rfl, hk, rfl⟩ := hv
  conv => whnf
  repeat (first | (refine XSame.of ?_; conv => whnf) | (refine XDep.all _ _ _ _ ?_; conv => whnf))
  exact ⟨⟨fun w => By w k (dskL C), []⟩, Ent.of_le ⟨by simp [Fx.and], fun w hw => hw.2⟩, k, rfl, hk, rfl⟩

theorem kdisk_spec (S : Sta) (bk bs : Nat) (hh : S.bk.h.Ok S.bk.l.length) (C : List UInt8) (hC : C.length ≤ 20480) (hz : ZsOk 160 S.bk.l) :
 PureSpec Tryz.prog 15 [.pointer (some ⟨bk, 0, none⟩)] (fun w => RowAt w (some ⟨bk, 0, none⟩) [.pointer (some ⟨bs, 0, none⟩)] ∧ (RowAt w (some ⟨bs, 0, none⟩) (staC S) ∧ (RowAt w S.bk.h.a (S.bk.l.map bsV) ∧ BlkAt C S.bk.l w))) (RelB (dskL C)) := by
 have h1 := content_spec S.bk.h S.bk.l hh C hC hz (dchC S.dc) rfl (List.all_eq_true.1 rfl)
 have hg := get_dk S
 obtain ⟨X, hX⟩ : ∃ X, staC S = X := ⟨_, rfl⟩
 rw [hX] at hg ⊢
 refine PureSpec.of_xc tabOk Tryz.func15 rfl (by decide) (n := Tryz.f15.ntmps - 1) rfl rfl fun w0 av => ?_
 conv => whnf
 repeat (first | (refine XSame.of ?_; conv => whnf) | (refine XDep.all _ _ _ _ ?_; conv => whnf))
 refine XVal.of_read (XRead.ptrNil tabOk (t := 26) rfl rfl ?_)
 conv => whnf
 repeat (first | (refine XSame.of ?_; conv => whnf) | (refine XDep.all _ _ _ _ ?_; conv => whnf))
 refine XVal.of_read (XRead.loadF tabOk rfl rfl (ad := ⟨bk, 0, none⟩) (k := 0) (L := [.pointer (some ⟨bs, 0, none⟩)]) (v := .pointer (some ⟨bs, 0, none⟩)) (.fact fun w hw => hw.1) (fun _ => rfl) rfl ?_)
 conv => whnf
 repeat (first | (refine XSame.of ?_; conv => whnf) | (refine XDep.all _ _ _ _ ?_; conv => whnf))
 refine XVal.of_read (XRead.loads tabOk (t := 72) rfl rfl (ad := ⟨bs, 0, none⟩) (k := 308) (L := X) (m := S.bk.h.v S.bk.l.length :: dchC S.dc) (.fact fun w hw => hw.2.1) rfl hg rfl ?_)
 conv => whnf
 repeat (first | (refine XSame.of ?_; conv => whnf) | (refine XDep.all _ _ _ _ ?_; conv => whnf))
 refine XCall.pure h1 (fun w hw => hw.2.2) (fun v D hv => ?_)
 obtain ⟨k, rfl, hk, rfl⟩ := hv
 conv => whnf
 repeat (first | (refine XSame.of ?_; conv => whnf) | (refine XDep.all _ _ _ _ ?_; conv => whnf))
 exact ⟨⟨fun w => By w k (dskL C), []⟩, Ent.of_le ⟨by simp [Fx.and], fun w hw => hw.2⟩, k, rfl, hk, rfl⟩

end Go.Proofs.YtakammghcodmgaaGreatDoor
namespace Go.Proofs.YtakammghcodmgaaGreatDoor
open Go Go.Sx
set_option maxRecDepth 100000
set_option maxHeartbeats 4000000
set_option linter.unusedVariables false
set_option linter.unusedSimpArgs false

/-- The reference's channel without a command. -/
def rch0 (o : Bool) : List Value := [.bool o, .int .i64 0, .int .i64 0, .int .i64 0, .slice none 0 0, .int .i64 0, .int .i64 0, .int .i64 0, .slice none 0 0]
def serRI (hi : Hd) (I : List UInt8) (pos pa : Nat) (hg : Hd) (G : List UInt8) (o : Bool) : List Value :=
 [hi.v I.length, .int .i64 (pos : Int), .int .i64 (pa : Int), hg.v G.length, .slice none 0 0] ++ (rch0 o ++ rch0 o)
theorem serRI_eq (hi : Hd) (I : List UInt8) (pos pa : Nat) (hg : Hd) (G : List UInt8) : serRI hi I pos pa hg G false = serR (serI hi I pos pa hg G) := rfl

def RelRN (I : List UInt8) (v : Value) (F : Fx) : Prop := ∃ (k : Hd) (X : List UInt8) (e : Int), v = .tuple ⟨[.agg ⟨serRI k X 0 0 Hd.nil [] false⟩, .int .i64 e]⟩ ∧ (I.length ≤ 4000 → X = I ∧ e = 0 ∧ k.Ok I.length) ∧ (4000 < I.length → e = 6) ∧ F = ⟨fun w => I.length ≤ 4000 → By w k I, []⟩
theorem refNew_spec (h : Hd) (I : List UInt8) (hh : h.Ok I.length) (hI : I.length ≤ 1000000) : PureSpec Tryz.prog 7 [h.v I.length] (fun w => By w h I) (RelRN I) := by
 refine PureSpec.of_xc tabOk Tryz.func7 rfl (by decide) (n := Tryz.f7.ntmps - 1) rfl rfl fun w0 av => ?_
 conv => whnf
 repeat (first | (refine XSame.of ?_; conv => whnf) | (refine XDep.all _ _ _ _ ?_; conv => whnf))
 intro b1
 refine snocK_of ?_
 refine snocK_of ?_
 refine fin_of (by simp) ?_
 dsimp only [List.set_cons_succ, List.set_cons_zero, List.length_cons, List.length_nil, List.cons_append, List.nil_append, Nat.zero_add, Nat.reduceAdd]
 conv => whnf
 repeat (first | (refine XSame.of ?_; conv => whnf) | (refine XDep.all _ _ _ _ ?_; conv => whnf))
 refine XIf.split (fun hc => ?_) (fun hc => ?_)
 · have hc' : 4000 < I.length := by
    simp [iGt_eq] at hc
    omega
   conv => whnf
   repeat (first | (refine XSame.of ?_; conv => whnf) | (refine XDep.all _ _ _ _ ?_; conv => whnf))
   exact ⟨⟨fun w => I.length ≤ 4000 → By w Hd.nil I, []⟩, Ent.of_le ⟨by simp, fun w hw h => by omega⟩, Hd.nil, [], 6, rfl, fun h => by omega, fun _ => rfl, rfl⟩
 · have hc' : I.length ≤ 4000 := by
    simp [iGt_eq] at hc
    omega
   conv => whnf
   repeat (first | (refine XSame.of ?_; conv => whnf) | (refine XDep.all _ _ _ _ ?_; conv => whnf))
   refine XVal.build tabOk (t := 22) rfl rfl rfl [] rfl rfl (by simp) (by decide) fun b => ?_
   conv => whnf
   repeat (first | (refine XSame.of ?_; conv => whnf) | (refine XDep.all _ _ _ _ ?_; conv => whnf))
   refine XVal.append tabOk (t := 22) (xt := 22) rfl rfl rfl rfl rfl rfl (r1 := []) (r2 := []) (C := []) (L := []) (M := I.map byteV) (Sx.Owg.full (by simp)) (Sees.fact fun w h => h) (by simp) byte_one (by omega) (by simp; omega) fun a' cap' C' hO => ?_
   conv => whnf
   repeat (first | (refine XSame.of ?_; conv => whnf) | (refine XDep.all _ _ _ _ ?_; conv => whnf))
   simp only [List.nil_append, Nat.zero_add] at hO ⊢
   refine ⟨⟨fun w => I.length ≤ 4000 → By w ⟨a', cap'⟩ I, []⟩, (hO.share (r1 := []) (r2 := [])).trans (Ent.imp fun w h _ => h.2), ⟨a', cap'⟩, I, 0, rfl, fun _ => ⟨rfl, rfl, hO.hd⟩, fun h => by omega, rfl⟩

theorem refWrite_idle (hi : Hd) (I : List UInt8) (pos pa : Nat) (hg : Hd) (G : List UInt8) (o : Bool) (ho : o = false) : PureSpec Tryz.prog 38 [.agg ⟨serRI hi I pos pa hg G o⟩] (fun w => True) (fun v F => v = .tuple ⟨[.agg ⟨serRI hi I pos pa hg G o⟩, .slice none 0 0]⟩) := by
 refine PureSpec.of_xc tabOk Tryz.func38 rfl (by decide) (n := Tryz.f38.ntmps - 1) rfl rfl fun w0 av => ?_
 conv => whnf
 repeat (first | (refine XSame.of ?_; conv => whnf) | (refine XDep.all _ _ _ _ ?_; conv => whnf))
 intro b1
 refine snocK_of ?_
 refine snocK_of ?_
 refine fin_of (by simp) ?_
 dsimp only [List.set_cons_succ, List.set_cons_zero, List.length_cons, List.length_nil, List.cons_append, List.nil_append, Nat.zero_add, Nat.reduceAdd]
 refine xops_allocS (z := (serRI Hd.nil [] 0 0 Hd.nil [] false)) rfl rfl rfl (by simp) fun b2 => ?_
 dsimp only [List.set_cons_succ, List.set_cons_zero, List.length_cons, List.length_nil, List.cons_append, List.nil_append, Nat.zero_add, Nat.reduceAdd]
 conv => whnf
 repeat (first | (refine XSame.of ?_; conv => whnf) | (refine XDep.all _ _ _ _ ?_; conv => whnf))
 refine XIf.yes (by simp [ho]) ?_
 conv => whnf
 repeat (first | (refine XSame.of ?_; conv => whnf) | (refine XDep.all _ _ _ _ ?_; conv => whnf))
 exact ⟨_, Ent.refl _, rfl⟩
theorem refRead_idle (hi : Hd) (I : List UInt8) (pos pa : Nat) (hg : Hd) (G : List UInt8) (o : Bool) (ho : o = false) : PureSpec Tryz.prog 39 [.agg ⟨serRI hi I pos pa hg G o⟩] (fun w => True) (fun v F => v = .tuple ⟨[.agg ⟨serRI hi I pos pa hg G o⟩, .slice none 0 0]⟩) := by
 refine PureSpec.of_xc tabOk Tryz.func39 rfl (by decide) (n := Tryz.f39.ntmps - 1) rfl rfl fun w0 av => ?_
 conv => whnf
 repeat (first | (refine XSame.of ?_; conv => whnf) | (refine XDep.all _ _ _ _ ?_; conv => whnf))
 intro b1
 refine snocK_of ?_
 refine snocK_of ?_
 refine fin_of (by simp) ?_
 dsimp only [List.set_cons_succ, List.set_cons_zero, List.length_cons, List.length_nil, List.cons_append, List.nil_append, Nat.zero_add, Nat.reduceAdd]
 refine xops_allocS (z := (serRI Hd.nil [] 0 0 Hd.nil [] false)) rfl rfl rfl (by simp) fun b2 => ?_
 dsimp only [List.set_cons_succ, List.set_cons_zero, List.length_cons, List.length_nil, List.cons_append, List.nil_append, Nat.zero_add, Nat.reduceAdd]
 conv => whnf
 repeat (first | (refine XSame.of ?_; conv => whnf) | (refine XDep.all _ _ _ _ ?_; conv => whnf))
 refine XIf.yes (by simp [ho]) ?_
 conv => whnf
 repeat (first | (refine XSame.of ?_; conv => whnf) | (refine XDep.all _ _ _ _ ?_; conv => whnf))
 exact ⟨_, Ent.refl _, rfl⟩

def RelRA (hi : Hd) (I : List UInt8) (G : List UInt8) (o : Bool) (r : Nat × Nat × List UInt8) (v : Value) (F : Fx) : Prop :=
 ∃ hg' k : Hd, hg'.Ok (G ++ r.2.2).length ∧ k.Ok r.2.2.length ∧ v = .tuple ⟨[.agg ⟨serRI hi I r.1 r.2.1 hg' (G ++ r.2.2) o⟩, k.v r.2.2.length]⟩ ∧ F = ⟨fun w => By w hg' (G ++ r.2.2) ∧ By w k r.2.2, []⟩
theorem refArrive_spec (hi : Hd) (I : List UInt8) (pos pa : Nat) (hg : Hd) (G : List UInt8) (o : Bool) (hio : hi.Ok I.length) (hI : I.length ≤ 4000) (hpos : pos ≤ I.length) (hpa : pa < 128) (hG : G.length ≤ pos) (hgo : hg.Ok G.length) :
 PureSpec Tryz.prog 37 [.agg ⟨serRI hi I pos pa hg G o⟩] (fun w => By w hi I ∧ By w hg G) (RelRA hi I G o (arr I pos pa)) := by
 refine PureSpec.of_xc tabOk Tryz.func37 rfl (by decide) (n := Tryz.f37.ntmps - 1) rfl rfl fun w0 av => ?_
 conv => whnf
 repeat (first | (refine XSame.of ?_; conv => whnf) | (refine XDep.all _ _ _ _ ?_; conv => whnf))
 intro b1
 refine snocK_of ?_
 refine snocK_of ?_
 refine fin_of (by simp) ?_
 dsimp only [List.set_cons_succ, List.set_cons_zero, List.length_cons, List.length_nil, List.cons_append, List.nil_append, Nat.zero_add, Nat.reduceAdd]
 refine xops_allocS (z := (serRI Hd.nil [] 0 0 Hd.nil [] false)) rfl rfl rfl (by simp) fun b2 => ?_
 dsimp only [List.set_cons_succ, List.set_cons_zero, List.length_cons, List.length_nil, List.cons_append, List.nil_append, Nat.zero_add, Nat.reduceAdd]
 conv => whnf
 repeat (first | (refine XSame.of ?_; conv => whnf) | (refine XDep.all _ _ _ _ ?_; conv => whnf))
 refine XIf.split (fun h1 => ?_) (fun h1 => ?_)
 · have h1' : 0 < pa := by
    simp [iGt_eq] at h1
    omega
   conv => whnf
   repeat (first | (refine XSame.of ?_; conv => whnf) | (refine XDep.all _ _ _ _ ?_; conv => whnf))
   rw [wrap_i64 (by omega), show (pa : Int) - 1 = ((pa - 1 : Nat) : Int) by omega, arr_pause h1']
   exact ⟨⟨fun w => By w hg (G ++ []) ∧ By w Hd.nil [], []⟩, Ent.of_le ⟨by simp, fun w hw => ⟨by rw [List.append_nil]; exact hw.2, By.nil w⟩⟩, hg, Hd.nil, by rw [List.append_nil]; exact hgo, Hd.nil_ok, by rw [List.append_nil]; rfl, rfl⟩
 · have h1' : ¬ 0 < pa := by
    simp [iGt_eq] at h1
    omega
   conv => whnf
   repeat (first | (refine XSame.of ?_; conv => whnf) | (refine XDep.all _ _ _ _ ?_; conv => whnf))
   refine XIf.split (fun h2 => ?_) (fun h2 => ?_)
   · have h2' : pos = I.length := by
      simp [iEq_eq] at h2
      omega
     conv => whnf
     repeat (first | (refine XSame.of ?_; conv => whnf) | (refine XDep.all _ _ _ _ ?_; conv => whnf))
     rw [arr_end h1' h2']
     exact ⟨⟨fun w => By w hg (G ++ []) ∧ By w Hd.nil [], []⟩, Ent.of_le ⟨by simp, fun w hw => ⟨by rw [List.append_nil]; exact hw.2, By.nil w⟩⟩, hg, Hd.nil, by rw [List.append_nil]; exact hgo, Hd.nil_ok, by rw [List.append_nil]; rfl, rfl⟩
   · have h2' : pos < I.length := by
      simp [iEq_eq] at h2
      omega
     conv => whnf
     repeat (first | (refine XSame.of ?_; conv => whnf) | (refine XDep.all _ _ _ _ ?_; conv => whnf))
     refine XVal.of_read (XRead.byteAt tabOk (t := 22) rfl rfl rfl rfl pos rfl h2' hio fun ad had => ?_)
     conv => whnf
     repeat (first | (refine XSame.of ?_; conv => whnf) | (refine XDep.all _ _ _ _ ?_; conv => whnf))
     refine XVal.of_read (XRead.byteLd tabOk (t := 5) rfl rfl had (Sees.fact fun w h => h.1) h2' ?_)
     conv => whnf
     repeat (first | (refine XSame.of ?_; conv => whnf) | (refine XDep.all _ _ _ _ ?_; conv => whnf))
     rw [wrap_i64 (by omega), show (pos : Int) + 1 = ((pos + 1 : Nat) : Int) by omega]
     refine XIf.split (fun h3 => ?_) (fun h3 => ?_)
     · have hb : 128 ≤ I[pos].toNat := by
        simp [iGe_eq] at h3
        omega
       conv => whnf
       repeat (first | (refine XSame.of ?_; conv => whnf) | (refine XDep.all _ _ _ _ ?_; conv => whnf))
       have hlt := I[pos].toNat_lt
       rw [wrap_i64 (n := (I[pos].toNat : Int)) (by omega), wrap_i64 (n := (I[pos].toNat : Int) - 128) (by omega)]
       rw [show (I[pos].toNat : Int) - 128 = ((I[pos].toNat - 128 : Nat) : Int) by omega, arr_stop h1' h2' hb]
       exact ⟨⟨fun w => By w hg (G ++ []) ∧ By w Hd.nil [], []⟩, Ent.of_le ⟨by simp, fun w hw => ⟨by rw [List.append_nil]; exact hw.2, By.nil w⟩⟩, hg, Hd.nil, by rw [List.append_nil]; exact hgo, Hd.nil_ok, by rw [List.append_nil]; rfl, rfl⟩
     · have hb : ¬ 128 ≤ I[pos].toNat := by
        simp [iGe_eq] at h3
        omega
       conv => whnf
       repeat (first | (refine XSame.of ?_; conv => whnf) | (refine XDep.all _ _ _ _ ?_; conv => whnf))
       refine XVal.build tabOk (t := 22) rfl rfl rfl [] rfl rfl (by simp) (by decide) fun b3 => ?_
       conv => whnf
       repeat (first | (refine XSame.of ?_; conv => whnf) | (refine XDep.all _ _ _ _ ?_; conv => whnf))
       refine XVal.append tabOk (t := 22) (xt := 22) rfl rfl rfl rfl rfl rfl (r1 := []) (r2 := []) (C := []) (L := []) (M := G.map byteV) (Sx.Owg.full (by simp)) (Sees.fact fun w h => h.2) (by simp) byte_one (by omega) (by simp; omega) fun a' c' C' hO => ?_
       simp only [List.nil_append, Nat.zero_add] at hO ⊢
       conv => whnf
       repeat (first | (refine XSame.of ?_; conv => whnf) | (refine XDep.all _ _ _ _ ?_; conv => whnf))
       refine XVal.build tabOk (t := 22) rfl rfl rfl [byteV I[pos]] rfl rfl (by simp [byteV, Value.cells]) (by decide) fun b4 => ?_
       conv => whnf
       repeat (first | (refine XSame.of ?_; conv => whnf) | (refine XDep.all _ _ _ _ ?_; conv => whnf))
       refine XVal.ent (F' := ⟨fun w => True, [] ++ orow a' C' ++ [(b4, Row.c [byteV I[pos]])]⟩) (Ent.of_le ⟨by simp [Value.cells, byteV], fun w hw => trivial⟩) ?_
       refine XVal.append tabOk (t := 22) (xt := 22) rfl rfl rfl rfl rfl rfl (M := [byteV I[pos]]) hO (Sees.row (by simp)) rfl (by intro v hv; simp at hv; subst hv; rfl) (by omega) (by show (2 * (G.length + 1) + 1000) * 1 ≤ 2 ^ 48; omega) fun a2 c2 C2 hO2 => ?_
       conv => whnf
       repeat (first | (refine XSame.of ?_; conv => whnf) | (refine XDep.all _ _ _ _ ?_; conv => whnf))
       refine XVal.build tabOk (t := 22) rfl rfl rfl [byteV I[pos]] rfl rfl (by simp [byteV, Value.cells]) (by decide) fun b5 => ?_
       conv => whnf
       repeat (first | (refine XSame.of ?_; conv => whnf) | (refine XDep.all _ _ _ _ ?_; conv => whnf))
       have hlen2 : (G ++ [I[pos]]).length = G.length + 1 := by simp
       have hO' : Sx.Owg 1 (G.length + 1) a2 c2 C2 ((G ++ [I[pos]]).map byteV) := by
        rw [List.map_append]
        exact hO2
       have hcell : Value.slice a2 (G.length + 1) c2 = (⟨a2, c2⟩ : Hd).v (G ++ [I[pos]]).length := by rw [hlen2]
       rw [arr_byte h1' h2' hb]
       refine ⟨⟨fun w => By w ⟨a2, c2⟩ (G ++ [I[pos]]) ∧ By w ⟨some ⟨b5, 0, none⟩, 1⟩ [I[pos]], []⟩, ?_, ⟨a2, c2⟩, ⟨some ⟨b5, 0, none⟩, 1⟩, by rw [hlen2]; exact hO'.hd, ⟨fun h => (by cases h), Nat.le_refl _⟩, by rw [hcell]; rfl, rfl⟩
       refine Ent.trans (Ent.of_le (F' := ⟨fun _ => True, ([] ++ orow a2 C2) ++ [(b5, Row.c [byteV I[pos]])]⟩) ⟨by simp [Value.cells, byteV], fun w hw => trivial⟩) (Ent.trans Ent.shareLast (Ent.trans (Ent.of_le (F' := ⟨fun w => True ∧ RowAt w (some ⟨b5, 0, none⟩) [byteV I[pos]], [] ++ orow a2 C2 ++ []⟩) ⟨by simp, fun w hw => hw⟩) (Ent.trans (hO'.share (r1 := []) (r2 := [])) (Ent.imp fun w hw => ⟨hw.2, hw.1.2⟩))))

/-- A tick of the reference's serial line without commands. -/
def RelRT (hi : Hd) (I : List UInt8) (G : List UInt8) (o : Bool) (r : Nat × Nat × List UInt8) (v : Value) (F : Fx) : Prop :=
 ∃ (hg' k : Hd) (a : Option Addr) (c : Nat), hg'.Ok (G ++ r.2.2).length ∧ k.Ok r.2.2.length ∧ v = .tuple ⟨[.agg ⟨serRI hi I r.1 r.2.1 hg' (G ++ r.2.2) o⟩, .slice a 0 c, k.v r.2.2.length]⟩ ∧ F = ⟨fun w => By w hg' (G ++ r.2.2) ∧ By w k r.2.2, []⟩
theorem refTick_idle (hi : Hd) (I : List UInt8) (pos pa : Nat) (hg : Hd) (G : List UInt8) (o : Bool) (ho : o = false) (hio : hi.Ok I.length) (hI : I.length ≤ 4000) (hpos : pos ≤ I.length) (hpa : pa < 128) (hG : G.length ≤ pos) (hgo : hg.Ok G.length) :
 PureSpec Tryz.prog 9 [.agg ⟨serRI hi I pos pa hg G o⟩] (fun w => By w hi I ∧ By w hg G) (RelRT hi I G o (arr I pos pa)) := by
 obtain ⟨e, he⟩ : ∃ e : Bool, e = true := ⟨_, rfl⟩
 have h1 := r13valid_spec (serI hi I pos pa hg G) rfl rfl
 rw [serValid_I hi I pos pa hg G hI hpos hpa hG, ← he, ← serRI_eq, ← ho] at h1
 have h2 := refArrive_spec hi I pos pa hg G o hio hI hpos hpa hG hgo
 have h3 := fun hg' => refWrite_idle hi I (arr I pos pa).1 (arr I pos pa).2.1 hg' (G ++ (arr I pos pa).2.2) o ho
 have h4 := fun hg' => refRead_idle hi I (arr I pos pa).1 (arr I pos pa).2.1 hg' (G ++ (arr I pos pa).2.2) o ho
 obtain ⟨r, hr⟩ : ∃ r, arr I pos pa = r := ⟨_, rfl⟩
 rw [hr] at h2 h3 h4 ⊢
 refine PureSpec.of_xc tabOk Tryz.func9 rfl (by decide) (n := Tryz.f9.ntmps - 1) rfl rfl fun w0 av => ?_
 conv => whnf
 repeat (first | (refine XSame.of ?_; conv => whnf) | (refine XDep.all _ _ _ _ ?_; conv => whnf))
 intro b1
 refine snocK_of ?_
 refine snocK_of ?_
 refine fin_of (by simp) ?_
 dsimp only [List.set_cons_succ, List.set_cons_zero, List.length_cons, List.length_nil, List.cons_append, List.nil_append, Nat.zero_add, Nat.reduceAdd]
 refine xops_allocS (z := (serRI Hd.nil [] 0 0 Hd.nil [] false)) rfl rfl rfl (by simp) fun b2 => ?_
 dsimp only [List.set_cons_succ, List.set_cons_zero, List.length_cons, List.length_nil, List.cons_append, List.nil_append, Nat.zero_add, Nat.reduceAdd]
 conv => whnf
 repeat (first | (refine XSame.of ?_; conv => whnf) | (refine XDep.all _ _ _ _ ?_; conv => whnf))
 refine XCall.val h1 (fun w hw => trivial) (fun v D hv => ?_)
 subst hv
 conv => whnf
 repeat (first | (refine XSame.of ?_; conv => whnf) | (refine XDep.all _ _ _ _ ?_; conv => whnf))
 refine XIf.no (by simp [he]) ?_
 conv => whnf
 repeat (first | (refine XSame.of ?_; conv => whnf) | (refine XDep.all _ _ _ _ ?_; conv => whnf))
 refine XCall.pure h2 (fun w hw => hw) (fun v D hv => ?_)
 obtain ⟨hg', k, hg'o, hko, rfl, rfl⟩ := hv
 conv => whnf
 repeat (first | (refine XSame.of ?_; conv => whnf) | (refine XDep.all _ _ _ _ ?_; conv => whnf))
 refine XCall.val (h3 hg') (fun w hw => trivial) (fun v D hv => ?_)
 subst hv
 conv => whnf
 repeat (first | (refine XSame.of ?_; conv => whnf) | (refine XDep.all _ _ _ _ ?_; conv => whnf))
 refine XCall.val (h4 hg') (fun w hw => trivial) (fun v D hv => ?_)
 subst hv
 conv => whnf
 repeat (first | (refine XSame.of ?_; conv => whnf) | (refine XDep.all _ _ _ _ ?_; conv => whnf))
 refine XStop.draw tabOk mixed rfl rfl ?_
 conv => whnf
 repeat' (first
  | (refine And.intro ?_ ?_ <;> conv => whnf)
  | (refine XHeld.same rfl ?_; conv => whnf)
  | (refine XHeld.row rfl ?_; conv => whnf)
  | (refine XHeld.call rfl ?_; conv => whnf)
  | (refine XHeld.factCall rfl ?_; conv => whnf)
  | (refine XKeep.of ?_; conv => whnf)
  | (refine XSame.of ?_; conv => whnf)
  | (refine XDep.all _ _ _ _ ?_; conv => whnf)
  | (refine XVal.build tabOk rfl rfl rfl [] rfl rfl (by simp) (by decide) fun b3 => ?_; conv => whnf)
  | (refine XVal.append0 tabOk rfl rfl rfl rfl rfl (Nat.le_refl _) rfl (Sees.fact fun w hw => rfl) ?_; conv => whnf)
  | (refine XHeld.mk ?_ ?_; (focus (first | exact Ent.refl _ | exact Ent.left _ _ | exact Ent.of_le ⟨List.sublist_append_left _ _, fun w h => h⟩ | exact Ent.of_le ⟨List.Sublist.refl _, fun w h => h.1⟩)); conv => whnf))
 all_goals exact ⟨⟨fun w => By w hg' (G ++ r.2.2) ∧ By w k r.2.2, []⟩, Ent.of_le ⟨by simp [Fx.and], fun w hw => hw.2⟩, hg', k, _, _, hg'o, hko, rfl, rfl⟩

end Go.Proofs.YtakammghcodmgaaGreatDoor
namespace Go.Proofs.YtakammghcodmgaaGreatDoor
open Go Go.Sx
set_option maxRecDepth 100000
set_option maxHeartbeats 4000000
set_option linter.unusedVariables false
set_option linter.unusedSimpArgs false

theorem interrupts_nil (X : List Value) (hg : (X.drop 367).take 6 = irq0) (b : Nat) : PureSpec Tryz.prog 33 [.pointer (some ⟨b, 0, none⟩)] (fun w => RowAt w (some ⟨b, 0, none⟩) X) (fun v F => v = .tuple ⟨[]⟩) := by
 obtain ⟨f, hf⟩ : ∃ f : Bool, f = false := ⟨_, rfl⟩
 have h1 : PureSpec Tryz.prog 78 [.agg ⟨irq0⟩] (fun _ => True) (fun v F => v = .tuple ⟨[.agg ⟨irq0⟩, .agg ⟨lin0⟩, .bool f]⟩) := by
  rw [hf]
  exact irqTake_nil
 refine PureSpec.of_xc tabOk Tryz.func33 rfl (by decide) (n := Tryz.f33.ntmps - 1) rfl rfl fun w0 av => ?_
 conv => whnf
 repeat (first | (refine XSame.of ?_; conv => whnf) | (refine XDep.all _ _ _ _ ?_; conv => whnf))
 refine XStop.once tabOk ?_
 conv => whnf
 repeat (first | (refine XSame.of ?_; conv => whnf) | (refine XDep.all _ _ _ _ ?_; conv => whnf))
 refine XVal.of_read (XRead.loads tabOk rfl rfl (ad := ⟨b, 0, none⟩) (k := 367) (L := X) (m := irq0) (.fact fun w hw => hw) rfl hg rfl ?_)
 conv => whnf
 repeat (first | (refine XSame.of ?_; conv => whnf) | (refine XDep.all _ _ _ _ ?_; conv => whnf))
 refine XCall.val h1 (fun w hw => trivial) (fun v D hv => ?_)
 subst hv
 conv => whnf
 repeat (first | (refine XSame.of ?_; conv => whnf) | (refine XDep.all _ _ _ _ ?_; conv => whnf))
 intro b2
 refine snocK_of ?_
 refine snocK_of ?_
 refine fin_of (by simp) ?_
 dsimp only [List.set_cons_succ, List.set_cons_zero, List.length_cons, List.length_nil, List.cons_append, List.nil_append, Nat.zero_add, Nat.reduceAdd]
 refine xops_allocS (z := [.int .i64 0, .int .i64 0, .int .i64 0, .slice none 0 0]) rfl rfl rfl (by simp) fun b3 => ?_
 dsimp only [List.set_cons_succ, List.set_cons_zero, List.length_cons, List.length_nil, List.cons_append, List.nil_append, Nat.zero_add, Nat.reduceAdd]
 conv => whnf
 repeat (first | (refine XSame.of ?_; conv => whnf) | (refine XDep.all _ _ _ _ ?_; conv => whnf))
 refine XIf.yes (by simp [hf]) ?_
 conv => whnf
 repeat (first | (refine XSame.of ?_; conv => whnf) | (refine XDep.all _ _ _ _ ?_; conv => whnf))
 exact ⟨_, Ent.refl _, rfl⟩

end Go.Proofs.YtakammghcodmgaaGreatDoor
