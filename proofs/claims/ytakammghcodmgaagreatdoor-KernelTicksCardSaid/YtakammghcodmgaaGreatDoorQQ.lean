/- Parts of the proof: KnJ, KnE, KnK, KnL. -/
import Derived.Test.YtakammghcodmgaaGreatDoorQO
import Derived.Test.YtakammghcodmgaaGreatDoorQP
import Derived.Test.YtakammghcodmgaaGreatDoorQN
namespace Go.Proofs.YtakammghcodmgaaGreatDoor
open Go Go.Sx
set_option maxRecDepth 100000
set_option maxHeartbeats 4000000
set_option linter.unusedVariables false
set_option linter.unusedSimpArgs false

theorem user_spec (a : Int) : PureSpec Tryz.prog 46 [.int .i64 a] (fun _ => True) (fun v F => v = .bool (decide (16 ≤ a ∧ a < 32))) := by
 refine PureSpec.of_xc tabOk Tryz.func46 rfl (by decide) (n := Tryz.f46.ntmps - 1) rfl rfl fun w0 av => ?_
 conv => whnf
 repeat (first | (refine XSame.of ?_; conv => whnf) | (refine XDep.all _ _ _ _ ?_; conv => whnf))
 exact ⟨_, Ent.refl _, by congr 1; rw [Bool.eq_iff_iff]; simp [iGe_eq, iLt_eq, iLe_eq, iGt_eq, iEq_eq, iNe_eq, and_assoc]; try omega⟩

theorem comp_spec (a : Int) : PureSpec Tryz.prog 43 [.int .i64 a] (fun _ => True) (fun v F => v = .bool (decide (1 ≤ a ∧ a ≤ 10))) := by
 refine PureSpec.of_xc tabOk Tryz.func43 rfl (by decide) (n := Tryz.f43.ntmps - 1) rfl rfl fun w0 av => ?_
 conv => whnf
 repeat (first | (refine XSame.of ?_; conv => whnf) | (refine XDep.all _ _ _ _ ?_; conv => whnf))
 exact ⟨_, Ent.refl _, by congr 1; rw [Bool.eq_iff_iff]; simp [iGe_eq, iLt_eq, iLe_eq, iGt_eq, iEq_eq, iNe_eq, and_assoc]; try omega⟩

/-- One cell of a run is written. -/
theorem laid_in {C m : List Value} {k n j : Nat} {v : Value} (h : (C.drop k).take n = m) (hj : j < n) (hl : k + n ≤ C.length) : laid C (k + j) [v] = laid C k (m.set j v) := by
 have hm : m.length = n := by rw [← h]; simp; omega
 apply List.ext_getElem?
 intro i
 rw [Sx.laid_get (by simp; omega), Sx.laid_get (by simp; omega)]
 simp only [List.length_singleton, List.length_set, hm]
 by_cases h1 : k + j ≤ i ∧ i < k + j + 1
 · have : i = k + j := by omega
   subst this
   rw [if_pos (by omega), if_pos (by omega), Nat.sub_self, Nat.add_sub_cancel_left, List.getElem?_set_self (by omega)]
   rfl
 · rw [if_neg h1]
   by_cases h2 : k ≤ i ∧ i < k + n
   · rw [if_pos h2, List.getElem?_set_ne (by omega), ← h, List.getElem?_take, if_pos (by omega), List.getElem?_drop]
     congr 1
     omega
   · rw [if_neg h2]

def Sta.tsk (s : Sta) (i : Nat) (x : Tsk) : Sta := { s with T := upd s.T i x }
/-- A cell of a task is written. -/
theorem put_cell (s : Sta) {i : Nat} (hi : i < 32) {j : Nat} (hj : j < 8) (v : Value) (x : Tsk) (hx : (tskC (s.T i)).set j v = tskC x) : laid (staC s) (i * 8 + j) [v] = staC (s.tsk i x) := by
 rw [laid_in (staC_T s i hi) hj (by rw [staC_len]; omega), hx]
 exact put_T s x i hi

def zS : Sta := ⟨fun _ => default, fun _ => false, default, default, 0, default, default, default, default, default, fun _ => default, default, default, default, ⟨0, 0, false, false⟩, lnk0, default, 0, default, fun _ => false, default, default, default, default⟩

theorem call_spec (S : Sta) (bk bs : Nat) (i : Nat) (hi : 16 ≤ i ∧ i < 32) (k st cl res : Int) (dt : Bs) (hT : S.T i = ⟨k, st, cl, false, false, false, res, dt⟩) (hk : k ≠ 0) (hst : st = 0) (c x y z : Int) (hc : srvB c = true) (hcT : srvT c ≠ 10 ∧ 0 ≤ srvT c ∧ srvT c < 32)
 (nd : Nat) (hnd : nd = 0) (hqd : ∀ x ∈ S.q.l, x.data = default) (hqo : S.q.h.Ok S.q.l.length) (hql : S.q.l.length < 400) (hpo : S.pr.h.Ok S.pr.l.length) (hpl : S.pr.l.length ≤ 100000) (hV : porOk S.q.l S.pr.l = true)
 (hl0 : porLast S.pr.l (i : Int) (srvT c) = 0) (hnew : ∀ j (hj : j < S.pr.l.length), ordI S.pr.l[j].src (i : Int) S.pr.l[j].dst (srvT c) < 0) (e : Int) (he : e = 0)
 (a : Option Addr) (cap : Nat) (C : List Value) (hO : Sx.Owg 8 S.rc.l.length a cap C (S.rc.l.flatMap enC)) (hrc : S.rc.h = ⟨a, cap⟩) (hl : S.rc.l.length ≤ 100000000) :
 RowsSpec Tryz.prog 16 [.pointer (some ⟨bk, 0, none⟩), .int .i64 (i : Int), .int .i64 c, .agg ⟨[.int .i64 x, .int .i64 y, .int .i64 z]⟩, .slice none nd 0] ([(bk, Row.c [.pointer (some ⟨bs, 0, none⟩)])] ++ orow a C)
  (fun w => RowAt w (some ⟨bs, 0, none⟩) (staC S) ∧ (RowAt w S.q.h.a (S.q.l.flatMap mgC) ∧ RowAt w S.pr.h.a (S.pr.l.flatMap prC)))
  (fun v F => ∃ (bn : Nat) (hq' hp' : Hd) (a' : Option Addr) (cap' : Nat) (C' : List Value), (hq'.Ok (S.q.l.length + 1) ∧ hp'.Ok (S.pr.l.length + 1) ∧ Sx.Owg 8 (S.rc.l.length + 1) a' cap' C' ((S.rc.l ++ [(⟨1, (i : Int), c, x, y, z, 0, default⟩ : En)]).flatMap enC)) ∧ v = .int .i64 e ∧
   F = ⟨fun w => RowAt w (some ⟨bn, 0, none⟩) (staC (((S.po ⟨hq', S.q.l ++ [(⟨(i : Int), srvT c, 1, 1, c, x, y, z, default⟩ : Mg)]⟩ ⟨hp', S.pr.l ++ [(⟨(i : Int), srvT c, 1⟩ : Pr)]⟩).rec' ⟨⟨a', cap'⟩, S.rc.l ++ [(⟨1, (i : Int), c, x, y, z, 0, default⟩ : En)]⟩).tsk i ⟨k, 1, c, false, false, false, res, dt⟩)) ∧
    (RowAt w hq'.a ((S.q.l ++ [(⟨(i : Int), srvT c, 1, 1, c, x, y, z, default⟩ : Mg)]).flatMap mgC) ∧ RowAt w hp'.a ((S.pr.l ++ [(⟨(i : Int), srvT c, 1⟩ : Pr)]).flatMap prC)), [(bk, Row.c [.pointer (some ⟨bn, 0, none⟩)])] ++ orow a' C'⟩) := by
 have h1 := user_spec (i : Int)
 rw [show decide (16 ≤ (i : Int) ∧ (i : Int) < 32) = true from by simp; omega] at h1
 have h2 := server_spec c
 rw [hc] at h2
 obtain ⟨d, hd⟩ : ∃ d, srvT c = d := ⟨_, rfl⟩
 rw [hd] at h2 hcT hl0 hnew ⊢
 have h3 := fun bn => ksend_spec S bn hqd hqo hql hpo hpl hV (i : Int) d 1 0 c x y z (by omega) ⟨hcT.2.1, hcT.2.2⟩ hl0 hnew e he
 have hTc := staC_T S i hi.2
 rw [hT] at hTc
 have hlen := staC_len S
 have hone := staC_one S
 obtain ⟨X, hX⟩ : ∃ X, staC S = X := ⟨_, rfl⟩
 rw [hX] at hTc hlen hone h3 ⊢
 refine RowsSpec.of_xc tabOk Tryz.func16 rfl (by decide) (n := Tryz.f16.ntmps - 5) rfl rfl rows_CM fun w0 av => ?_
 conv => whnf
 repeat (first | (refine XSame.of ?_; conv => whnf) | (refine XDep.all _ _ _ _ ?_; conv => whnf))
 intro b8
 conv => whnf
 repeat (first | (refine XSame.of ?_; conv => whnf) | (refine XDep.all _ _ _ _ ?_; conv => whnf))
 refine XVal.of_read (XRead.ptrNil tabOk (t := 26) rfl rfl ?_)
 conv => whnf
 repeat (first | (refine XSame.of ?_; conv => whnf) | (refine XDep.all _ _ _ _ ?_; conv => whnf))
 refine XCall.val h1 (fun w hw => trivial) (fun v D hv => ?_)
 subst hv
 conv => whnf
 repeat (first | (refine XSame.of ?_; conv => whnf) | (refine XDep.all _ _ _ _ ?_; conv => whnf))
 refine XVal.of_read (XRead.loadF tabOk rfl rfl (ad := ⟨bk, 0, none⟩) (k := 0) (L := [.pointer (some ⟨bs, 0, none⟩)]) (v := .pointer (some ⟨bs, 0, none⟩)) (Sees.row (by simp)) (fun _ => rfl) rfl ?_)
 conv => whnf
 repeat (first | (refine XSame.of ?_; conv => whnf) | (refine XDep.all _ _ _ _ ?_; conv => whnf))
 refine XVal.of_read (XRead.indexArr tabOk rfl rfl rfl i rfl hi.2 rfl ?_)
 conv => whnf
 repeat (first | (refine XSame.of ?_; conv => whnf) | (refine XDep.all _ _ _ _ ?_; conv => whnf))
 refine XVal.of_read (XRead.loads tabOk (t := 105) rfl rfl (ad := ⟨bs, 0, none⟩) (k := i * 8) (L := X) (m := tskC ⟨k, st, cl, false, false, false, res, dt⟩) (.fact fun w hw => hw.1) (by simp [Addr.add_none]) hTc rfl ?_)
 conv => whnf
 repeat (first | (refine XSame.of ?_; conv => whnf) | (refine XDep.all _ _ _ _ ?_; conv => whnf))
 intro b11
 conv => whnf
 repeat (first | (refine XSame.of ?_; conv => whnf) | (refine XDep.all _ _ _ _ ?_; conv => whnf))
 refine XCall.val h2 (fun w hw => trivial) (fun v D hv => ?_)
 subst hv
 conv => whnf
 repeat (first | (refine XSame.of ?_; conv => whnf) | (refine XDep.all _ _ _ _ ?_; conv => whnf))
 rw [show iEq k 0 = false from by simp [iEq_eq, hk], show iNe st 0 = false from by simp [iNe_eq, hst]]
 conv => whnf
 repeat (first | (refine XSame.of ?_; conv => whnf) | (refine XDep.all _ _ _ _ ?_; conv => whnf))
 rw [show iGt (nd : Int) 128 = false from by simp [iGt_eq]; omega]
 conv => whnf
 repeat (first | (refine XSame.of ?_; conv => whnf) | (refine XDep.all _ _ _ _ ?_; conv => whnf))
 refine XVal.of_read (XRead.loadF tabOk rfl rfl (ad := ⟨bk, 0, none⟩) (k := 0) (L := [.pointer (some ⟨bs, 0, none⟩)]) (v := .pointer (some ⟨bs, 0, none⟩)) (Sees.row (by simp)) (fun _ => rfl) rfl ?_)
 conv => whnf
 repeat (first | (refine XSame.of ?_; conv => whnf) | (refine XDep.all _ _ _ _ ?_; conv => whnf))
 refine XVal.of_read (XRead.loads tabOk (t := 132) rfl rfl (ad := ⟨bs, 0, none⟩) (k := 0) (L := X) (m := X) (.fact fun w hw => hw.1) rfl (by rw [List.drop_zero, List.take_of_length_le (by rw [hlen]; exact Nat.le_refl _)]) hlen ?_)
 conv => whnf
 repeat (first | (refine XSame.of ?_; conv => whnf) | (refine XDep.all _ _ _ _ ?_; conv => whnf))
 refine XVal.allocRow tabOk rfl (z := staC zS) (by kernel_rfl) fun bn => ?_
 conv => whnf
 repeat (first | (refine XSame.of ?_; conv => whnf) | (refine XDep.all _ _ _ _ ?_; conv => whnf))
 obtain ⟨E, hE⟩ : ∃ E : World → Prop, E = fun w => RowAt w (some ⟨bs, 0, none⟩) X ∧ (RowAt w S.q.h.a (S.q.l.flatMap mgC) ∧ RowAt w S.pr.h.a (S.pr.l.flatMap prC)) := ⟨_, rfl⟩
 refine XUnit.ent (F' := ⟨E, ([(bk, Row.c [.pointer (some ⟨bs, 0, none⟩)])] ++ orow a C) ++ [(bn, Row.c (staC zS))] ++ []⟩) (Ent.of_le ⟨by simp, fun w hw => by rw [hE]; exact hw⟩) ?_
 refine XUnit.storeTo tabOk rfl (b := bn) (k := 0) (X := X) rfl (by show X.length = 376; exact hlen) (fun u hu => hone u hu) (by rw [staC_len]; exact Nat.le_refl _) (laid_whole (C := X) (z := staC zS) (by rw [hlen, staC_len])) ?_
 conv => whnf
 repeat (first | (refine XSame.of ?_; conv => whnf) | (refine XDep.all _ _ _ _ ?_; conv => whnf))
 intro b15
 conv => whnf
 repeat (first | (refine XSame.of ?_; conv => whnf) | (refine XDep.all _ _ _ _ ?_; conv => whnf))
 rw [show iEq d 10 = false from by simp [iEq_eq]; omega]
 conv => whnf
 repeat (first | (refine XSame.of ?_; conv => whnf) | (refine XDep.all _ _ _ _ ?_; conv => whnf))
 subst hnd
 refine XCall.rows (r1 := [(bk, Row.c [.pointer (some ⟨bs, 0, none⟩)])] ++ orow a C) (r2 := []) (h3 bn) (fun w hw => by rw [hE] at hw; exact hw.2) (fun v F' hv => ?_)
 obtain ⟨hq', hp', ⟨hqo', hpo'⟩, rfl, rfl⟩ := hv
 conv => whnf
 repeat (first | (refine XSame.of ?_; conv => whnf) | (refine XDep.all _ _ _ _ ?_; conv => whnf))
 refine XIf.no (by simp [iNe_eq, he]) ?_
 conv => whnf
 repeat (first | (refine XSame.of ?_; conv => whnf) | (refine XDep.all _ _ _ _ ?_; conv => whnf))
 obtain ⟨Q, hQ⟩ : ∃ Q, Q = (S.q.l ++ [(⟨(i : Int), d, 1, 1, c, x, y, z, default⟩ : Mg)]) := ⟨_, rfl⟩
 obtain ⟨P', hP⟩ : ∃ P, P = (S.pr.l ++ [(⟨(i : Int), d, 1⟩ : Pr)]) := ⟨_, rfl⟩
 rw [← hQ, ← hP]
 obtain ⟨S1, hS1⟩ : ∃ S1, S1 = S.po ⟨hq', Q⟩ ⟨hp', P'⟩ := ⟨_, rfl⟩
 have hrc1 : S1.rc = S.rc := by rw [hS1]; rfl
 have hT1 : S1.T i = ⟨k, st, cl, false, false, false, res, dt⟩ := by rw [hS1]; exact hT
 rw [← hS1]
 have h4 := note_spec S1 bn 1 (i : Int) c x y z 0 a cap C (by rw [hrc1]; exact hO) (by rw [hrc1]; exact hrc) (by rw [hrc1]; exact hl)
 rw [hrc1] at h4
 obtain ⟨L, hL⟩ : ∃ L, L = (S.rc.l ++ [(⟨1, (i : Int), c, x, y, z, 0, default⟩ : En)]) := ⟨_, rfl⟩
 rw [← hL] at h4 ⊢
 obtain ⟨E1, hE1⟩ : ∃ E1 : World → Prop, E1 = fun w => RowAt w hq'.a (Q.flatMap mgC) ∧ RowAt w hp'.a (P'.flatMap prC) := ⟨_, rfl⟩
 refine XCall.ent (F' := ⟨E1, [(bk, Row.c [.pointer (some ⟨bs, 0, none⟩)])] ++ ([(bn, Row.c (staC S1))] ++ orow a C) ++ []⟩) (Ent.trans (Ent.of_le (F' := ⟨E1, [(bk, Row.c [.pointer (some ⟨bs, 0, none⟩)])] ++ (orow a C ++ [(bn, Row.c (staC S1))])⟩) ⟨by simp, fun w hw => by rw [hE1]; exact hw.2⟩) (Ent.perm (by rw [List.append_nil]; exact List.Perm.append_left _ List.perm_append_comm))) ?_
 refine XCall.rows (r1 := [(bk, Row.c [.pointer (some ⟨bs, 0, none⟩)])]) (r2 := []) h4 (fun w hw => trivial) (fun v F' hv => ?_)
 obtain ⟨a', c', C', hO', rfl, rfl⟩ := hv
 conv => whnf
 repeat (first | (refine XSame.of ?_; conv => whnf) | (refine XDep.all _ _ _ _ ?_; conv => whnf))
 obtain ⟨S2, hS2⟩ : ∃ S2, S2 = S1.rec' ⟨⟨a', c'⟩, L⟩ := ⟨_, rfl⟩
 have hT2 : S2.T i = ⟨k, st, cl, false, false, false, res, dt⟩ := by rw [hS2]; exact hT1
 rw [← hS2]
 refine XVal.of_read (XRead.indexArr tabOk rfl rfl rfl i rfl hi.2 rfl ?_)
 conv => whnf
 repeat (first | (refine XSame.of ?_; conv => whnf) | (refine XDep.all _ _ _ _ ?_; conv => whnf))
 refine XUnit.ent (F' := ⟨E1, [(bk, Row.c [.pointer (some ⟨bs, 0, none⟩)])] ++ [(bn, Row.c (staC S2))] ++ orow a' C'⟩) (Ent.of_le ⟨by simp, fun w hw => hw.1⟩) ?_
 refine XUnit.storeTo tabOk rfl (b := bn) (k := i * 8 + 1) (X := staC (S2.tsk i ⟨k, 1, cl, false, false, false, res, dt⟩)) (by simp [Addr.add_none]) rfl (List.all_eq_true.1 (by rfl)) (by rw [staC_len]; show i * 8 + 1 + 1 ≤ 376; omega) (put_cell S2 hi.2 (j := 1) (by decide) _ _ (by rw [hT2]; rfl)) ?_
 conv => whnf
 repeat (first | (refine XSame.of ?_; conv => whnf) | (refine XDep.all _ _ _ _ ?_; conv => whnf))
 obtain ⟨S3, hS3⟩ : ∃ S3, S3 = S2.tsk i ⟨k, 1, cl, false, false, false, res, dt⟩ := ⟨_, rfl⟩
 have hT3 : S3.T i = ⟨k, 1, cl, false, false, false, res, dt⟩ := by rw [hS3]; exact if_pos rfl
 rw [← hS3]
 refine XVal.of_read (XRead.indexArr tabOk rfl rfl rfl i rfl hi.2 rfl ?_)
 conv => whnf
 repeat (first | (refine XSame.of ?_; conv => whnf) | (refine XDep.all _ _ _ _ ?_; conv => whnf))
 refine XUnit.ent (F' := ⟨E1, [(bk, Row.c [.pointer (some ⟨bs, 0, none⟩)])] ++ [(bn, Row.c (staC S3))] ++ orow a' C'⟩) (Ent.of_le ⟨by simp, fun w hw => hw⟩) ?_
 refine XUnit.storeTo tabOk rfl (b := bn) (k := i * 8 + 2) (X := staC (S3.tsk i ⟨k, 1, c, false, false, false, res, dt⟩)) (by simp [Addr.add_none]) rfl (List.all_eq_true.1 (by rfl)) (by rw [staC_len]; show i * 8 + 2 + 1 ≤ 376; omega) (put_cell S3 hi.2 (j := 2) (by decide) _ _ (by rw [hT3]; rfl)) ?_
 conv => whnf
 repeat (first | (refine XSame.of ?_; conv => whnf) | (refine XDep.all _ _ _ _ ?_; conv => whnf))
 refine XUnit.ent (F' := ⟨E1, [] ++ [(bk, Row.c [.pointer (some ⟨bs, 0, none⟩)])] ++ ([(bn, Row.c (staC (S3.tsk i ⟨k, 1, c, false, false, false, res, dt⟩)))] ++ orow a' C')⟩) (Ent.of_le ⟨by simp, fun w hw => hw⟩) ?_
 refine XUnit.storeTo tabOk rfl (b := bk) (k := 0) (X := [.pointer (some ⟨bn, 0, none⟩)]) rfl rfl (List.all_eq_true.1 (by rfl)) (Nat.le_refl _) rfl ?_
 conv => whnf
 repeat (first | (refine XSame.of ?_; conv => whnf) | (refine XDep.all _ _ _ _ ?_; conv => whnf))
 have hfin : S3.tsk i ⟨k, 1, c, false, false, false, res, dt⟩ = ((S.po ⟨hq', Q⟩ ⟨hp', P'⟩).rec' ⟨⟨a', c'⟩, L⟩).tsk i ⟨k, 1, c, false, false, false, res, dt⟩ := by
  rw [hS3, hS2, hS1]
  show Sta.tsk _ _ _ = _
  unfold Sta.tsk
  congr 1
  funext j
  simp only [upd]
  split <;> rfl
 rw [hfin, hE1]
 subst he
 refine ⟨_, ?_, bn, hq', hp', a', c', C', ⟨hqo', hpo', by rw [hL, List.flatMap_append] at *; exact hO'⟩, rfl, rfl⟩
 exact Ent.trans (Ent.perm (by simpa using List.Perm.swap _ _ _)) (Ent.trans Ent.share1 (Ent.of_le ⟨by simp, fun w hw => ⟨hw.2, hw.1⟩⟩))

end Go.Proofs.YtakammghcodmgaaGreatDoor
namespace Go.Proofs.YtakammghcodmgaaGreatDoor
open Go Go.Sx
set_option maxRecDepth 100000
set_option maxHeartbeats 4000000
set_option linter.unusedVariables false
set_option linter.unusedSimpArgs false

/-- Whether a task can run. -/
def runsB (s : Sta) (i : Nat) : Bool :=
 if iNe (downI s) 0 && (iNe (i : Int) 1 || iEq (downI s) 1) then false
 else if iEq (s.T i).kind 1 then iGt (cnt s.q.l (i : Int) : Int) 0
 else if iEq (s.T i).kind 2 || iEq (s.T i).kind 3 then iEq (s.T i).st 0 && (!(s.T i).stp && !(s.T i).cls)
 else false

theorem runs_spec (s : Sta) (hq : s.q.Ok) (bs i : Nat) (hi : i < 32) : PureSpec Tryz.prog 49 [.pointer (some ⟨bs, 0, none⟩), .int .i64 (i : Int)] (fun w => RowAt w (some ⟨bs, 0, none⟩) (staC s) ∧ s.q.At mgC w) (fun v F => v = .bool (runsB s i)) := by
 have h1 := down_spec s bs
 have h2 := count_spec s.q.l s.q.h hq.h hq.le s.pr.v rfl (i : Int)
 have hT := staC_T s i hi
 have hpo : ((staC s).drop 267).take 2 = [s.q.v, s.pr.v] := by kernel_rfl
 have hr : runsB s i = if iNe (downI s) 0 && (iNe (i : Int) 1 || iEq (downI s) 1) then false
  else if iEq (s.T i).kind 1 then iGt (cnt s.q.l (i : Int) : Int) 0
  else if iEq (s.T i).kind 2 || iEq (s.T i).kind 3 then iEq (s.T i).st 0 && (!(s.T i).stp && !(s.T i).cls)
  else false := rfl
 generalize runsB s i = r at *
 generalize downI s = dn at *
 generalize (cnt s.q.l (i : Int) : Int) = n at *
 generalize s.T i = T at *
 generalize staC s = C at *
 obtain ⟨k, st, call, stp, cls, dne, res, dt⟩ := T
 dsimp only at hr
 subst hr
 refine PureSpec.of_xc tabOk Tryz.func49 rfl (by decide) (n := Tryz.f49.ntmps - 2) rfl rfl fun w0 av => ?_
 conv => whnf
 repeat (first | (refine XSame.of ?_; conv => whnf) | (refine XDep.all _ _ _ _ ?_; conv => whnf))
 refine XCall.val h1 (fun w hw => hw.1) (fun v D hv => ?_)
 subst hv
 conv => whnf
 repeat (first | (refine XSame.of ?_; conv => whnf) | (refine XDep.all _ _ _ _ ?_; conv => whnf))
 repeat' (first
  | (refine And.intro ?_ ?_ <;> conv => whnf)
  | (refine XHeld.same rfl ?_; conv => whnf)
  | (refine XHeld.row rfl ?_; conv => whnf)
  | (refine XHeld.call rfl ?_; conv => whnf)
  | (refine XHeld.factCall rfl ?_; conv => whnf)
  | (refine XKeep.of ?_; conv => whnf)
  | (refine XSame.of ?_; conv => whnf)
  | (refine XDep.all _ _ _ _ ?_; conv => whnf)
  | (refine XVal.of_read (XRead.indexArr tabOk rfl rfl rfl i rfl hi rfl ?_); conv => whnf)
  | (refine XVal.of_read (XRead.loads tabOk (t := 105) rfl rfl (ad := ⟨bs, 0, none⟩) (k := i * 8) (L := C) (m := tskC ⟨k, st, call, stp, cls, dne, res, dt⟩) (.fact fun w hw => hw.1) (by simp [Addr.add_none]) hT rfl ?_); conv => whnf)
  | (refine XVal.of_read (XRead.loads tabOk (t := 111) rfl rfl (ad := ⟨bs, 0, none⟩) (k := 267) (L := C) (m := [s.q.v, s.pr.v]) (.fact fun w hw => hw.1) rfl hpo rfl ?_); conv => whnf)
  | (refine XCall.val h2 (fun w hw => hw.2) (fun v D hv => ?_); subst hv; conv => whnf)
  | (intro b6; conv => whnf)
  | (split <;> conv => whnf)
  | (refine XHeld.mk ?_ ?_; (focus (first | exact Ent.refl _ | exact Ent.left _ _ | exact Ent.of_le ⟨List.sublist_append_left _ _, fun w h => h⟩ | exact Ent.of_le ⟨List.Sublist.refl _, fun w h => h.1⟩)); conv => whnf))
 all_goals
  refine ⟨_, Ent.refl _, ?_⟩
  clear h1 h2 hT hpo hq hi
  show Value.bool _ = Value.bool _
  first
   | rfl
   | (congr 1; done)
   | (congr 1; simp [*, Bool.and_assoc]; done)
   | (congr 1; simp_all [Bool.and_assoc]; done)

end Go.Proofs.YtakammghcodmgaaGreatDoor
namespace Go.Proofs.YtakammghcodmgaaGreatDoor
open Go Go.Sx
set_option maxRecDepth 100000
set_option maxHeartbeats 4000000
set_option linter.unusedVariables false
set_option linter.unusedSimpArgs false

def Sta.quo (s : Sta) (x : Sl Int) : Sta := { s with qu := x }

theorem pick_spec (S : Sta) (bk bs : Nat) (hq : S.q.Ok) (hqu : S.qu.h.Ok S.qu.l.length) (hqul : S.qu.l.length ≤ 100000) (hv : allI S.qu.l.length (quOk S.qu.l) = true) (i : Nat) (hi : S.qu.l.findIdx? (fun t => runsB S t.toNat) = some i) :
 RowsSpec Tryz.prog 17 [.pointer (some ⟨bk, 0, none⟩)] [(bk, Row.c [.pointer (some ⟨bs, 0, none⟩)])] (fun w => RowAt w (some ⟨bs, 0, none⟩) (staC S) ∧ (S.q.At mgC w ∧ S.qu.As intV w))
  (fun v F => ∃ (bn : Nat) (h : Hd), h.Ok S.qu.l.length ∧ v = .tuple ⟨[.int .i64 S.qu.l[i]!, .bool true]⟩ ∧
   F = ⟨fun w => RowAt w (some ⟨bn, 0, none⟩) (staC (S.quo ⟨h, nextQ S.qu.l i⟩)) ∧ RowAt w h.a ((nextQ S.qu.l i).map intV), [(bk, Row.c [.pointer (some ⟨bn, 0, none⟩)])]⟩) := by
 have hil : i < S.qu.l.length := (List.findIdx?_eq_some_iff_getElem.1 hi).1
 have hrun : ∀ (bn : Nat), ∀ e ∈ S.qu.l, PureSpec Tryz.prog 49 [.pointer (some ⟨bn, 0, none⟩), intV e] (fun w => RowAt w (some ⟨bn, 0, none⟩) (staC S) ∧ S.q.At mgC w) (fun v F => v = .bool (runsB S e.toNat)) := fun bn e he => by
  obtain ⟨j, hj, rfl⟩ := List.getElem_of_mem he
  have h := (allI_iff.1 hv) j hj
  unfold quOk at h
  rw [bang hj] at h
  simp only [Bool.and_eq_true, decide_eq_true_eq] at h
  have h2 := runs_spec S hq bn S.qu.l[j].toNat (by omega)
  rw [show ((S.qu.l[j].toNat : Nat) : Int) = S.qu.l[j] from Int.toNat_of_nonneg (by omega)] at h2
  exact h2
 have h1 := fun bn => next_spec S.qu.l S.qu.h hqu hqul hv _ _ _ (.pointer (some ⟨bn, 0, none⟩)) (hrun bn) i hi
 have hg := get_qu S
 have hN : (nextQ S.qu.l i).length = S.qu.l.length := by
  unfold nextQ
  simp
  omega
 have hput : ∀ (a : Option Addr) (c : Nat), laid (staC S) 273 [.slice a S.qu.l.length c] = staC (S.quo ⟨⟨a, c⟩, nextQ S.qu.l i⟩) := fun a c => put_quL S hN
 have hlen := staC_len S
 have hone := staC_one S
 obtain ⟨X, hX⟩ : ∃ X, staC S = X := ⟨_, rfl⟩
 rw [hX] at hlen hone h1 hg hput ⊢
 obtain ⟨z, hz⟩ : ∃ z, S.qu.l[i]! = z := ⟨_, rfl⟩
 rw [hz] at h1 ⊢
 refine RowsSpec.of_xc tabOk Tryz.func17 rfl (by decide) (n := Tryz.f17.ntmps - 1) rfl rfl (by simp) fun w0 av => ?_
 conv => whnf
 repeat (first | (refine XSame.of ?_; conv => whnf) | (refine XDep.all _ _ _ _ ?_; conv => whnf))
 refine XVal.of_read (XRead.ptrNil tabOk (t := 26) rfl rfl ?_)
 conv => whnf
 repeat (first | (refine XSame.of ?_; conv => whnf) | (refine XDep.all _ _ _ _ ?_; conv => whnf))
 refine XVal.of_read (XRead.loadF tabOk rfl rfl (ad := ⟨bk, 0, none⟩) (k := 0) (L := [.pointer (some ⟨bs, 0, none⟩)]) (v := .pointer (some ⟨bs, 0, none⟩)) (Sees.row (by simp)) (fun _ => rfl) rfl ?_)
 conv => whnf
 repeat (first | (refine XSame.of ?_; conv => whnf) | (refine XDep.all _ _ _ _ ?_; conv => whnf))
 refine XVal.of_read (XRead.loads tabOk (t := 132) rfl rfl (ad := ⟨bs, 0, none⟩) (k := 0) (L := X) (m := X) (.fact fun w hw => hw.1) rfl (by rw [List.drop_zero, List.take_of_length_le (by rw [hlen]; exact Nat.le_refl _)]) hlen ?_)
 conv => whnf
 repeat (first | (refine XSame.of ?_; conv => whnf) | (refine XDep.all _ _ _ _ ?_; conv => whnf))
 refine XVal.allocRow tabOk rfl (z := staC zS) (by kernel_rfl) fun bn => ?_
 conv => whnf
 repeat (first | (refine XSame.of ?_; conv => whnf) | (refine XDep.all _ _ _ _ ?_; conv => whnf))
 obtain ⟨E, hE⟩ : ∃ E : World → Prop, E = fun w => RowAt w (some ⟨bs, 0, none⟩) X ∧ (S.q.At mgC w ∧ S.qu.As intV w) := ⟨_, rfl⟩
 refine XUnit.ent (F' := ⟨E, [(bk, Row.c [.pointer (some ⟨bs, 0, none⟩)])] ++ [(bn, Row.c (staC zS))] ++ []⟩) (Ent.of_le ⟨by simp, fun w hw => by rw [hE]; exact hw⟩) ?_
 refine XUnit.storeTo tabOk rfl (b := bn) (k := 0) (X := X) rfl (by show X.length = 376; exact hlen) (fun u hu => hone u hu) (by rw [staC_len]; exact Nat.le_refl _) (laid_whole (C := X) (z := staC zS) (by rw [hlen, staC_len])) ?_
 conv => whnf
 repeat (first | (refine XSame.of ?_; conv => whnf) | (refine XDep.all _ _ _ _ ?_; conv => whnf))
 refine XVal.of_read (XRead.loadF tabOk rfl rfl (ad := ⟨bn, 0, none⟩) (k := 273) (L := X) (v := S.qu.v) (Sees.row (by simp)) (fun _ => rfl) hg ?_)
 conv => whnf
 repeat (first | (refine XSame.of ?_; conv => whnf) | (refine XDep.all _ _ _ _ ?_; conv => whnf))
 refine XCall.from (h1 bn) ((Loc.row _ _).and ((Loc.row _ _).and (Loc.row _ _))) (fun w hst => ?_) (fun v F' hv => ?_)
 · have h2 := hst.now
   have h2 : E w := h2
   rw [hE] at h2
   exact ⟨h2.2.2, (Sees.row (b := bn) (by simp)) w hst, h2.2.1⟩
 obtain ⟨a, cap, C, hO, rfl, rfl⟩ := hv
 refine ⟨fun w => trivial, ?_⟩
 conv => whnf
 repeat (first | (refine XSame.of ?_; conv => whnf) | (refine XDep.all _ _ _ _ ?_; conv => whnf))
 refine XUnit.ent (F' := ⟨fun _ => True, [(bk, Row.c [.pointer (some ⟨bs, 0, none⟩)])] ++ [(bn, Row.c X)] ++ orow a C⟩) (Ent.of_le ⟨by simp [Fx.and], fun w hw => trivial⟩) ?_
 refine XUnit.storeTo tabOk rfl (b := bn) (k := 273) (X := staC (S.quo ⟨⟨a, cap⟩, nextQ S.qu.l i⟩)) rfl rfl (List.all_eq_true.1 (by rfl)) (by rw [hlen]; decide) (hput a cap) ?_
 conv => whnf
 repeat (first | (refine XSame.of ?_; conv => whnf) | (refine XDep.all _ _ _ _ ?_; conv => whnf))
 refine XUnit.ent (F' := ⟨fun _ => True, [] ++ [(bk, Row.c [.pointer (some ⟨bs, 0, none⟩)])] ++ ([(bn, Row.c (staC (S.quo ⟨⟨a, cap⟩, nextQ S.qu.l i⟩)))] ++ orow a C)⟩) (Ent.of_le ⟨by simp, fun w hw => hw⟩) ?_
 refine XUnit.storeTo tabOk rfl (b := bk) (k := 0) (X := [.pointer (some ⟨bn, 0, none⟩)]) rfl rfl (List.all_eq_true.1 (by rfl)) (Nat.le_refl _) rfl ?_
 conv => whnf
 repeat (first | (refine XSame.of ?_; conv => whnf) | (refine XDep.all _ _ _ _ ?_; conv => whnf))
 refine ⟨_, ?_, bn, ⟨a, cap⟩, ⟨hO.none_nil, hO.fit⟩, rfl, rfl⟩
 refine Ent.trans (Ent.perm (rs' := (bn, Row.c (staC (S.quo ⟨⟨a, cap⟩, nextQ S.qu.l i⟩))) :: ([(bk, Row.c [.pointer (some ⟨bn, 0, none⟩)])] ++ orow a C ++ [])) (by simpa using List.Perm.swap _ _ _)) (Ent.trans Ent.share1 (Ent.trans (hO.share (r1 := [(bk, Row.c [.pointer (some ⟨bn, 0, none⟩)])]) (r2 := [])) (Ent.of_le ⟨by simp, fun w hw => ⟨hw.1.2, hw.2⟩⟩)))

end Go.Proofs.YtakammghcodmgaaGreatDoor
namespace Go.Proofs.YtakammghcodmgaaGreatDoor
open Go Go.Sx
set_option maxRecDepth 100000
set_option maxHeartbeats 4000000
set_option linter.unusedVariables false
set_option linter.unusedSimpArgs false

theorem result_spec (S : Sta) (bk bs : Nat) (i : Nat) (hi : 16 ≤ i ∧ i < 32) (k st cl res : Int) (stp cls : Bool) (hT : S.T i = ⟨k, st, cl, stp, cls, true, res, default⟩) :
 RowsSpec Tryz.prog 19 [.pointer (some ⟨bk, 0, none⟩), .int .i64 (i : Int)] [(bk, Row.c [.pointer (some ⟨bs, 0, none⟩)])] (fun w => RowAt w (some ⟨bs, 0, none⟩) (staC S))
  (fun v F => v = .tuple ⟨[.int .i64 res, .slice none 0 0, .bool true]⟩) := by
 have h1 := user_spec (i : Int)
 rw [show decide (16 ≤ (i : Int) ∧ (i : Int) < 32) = true from by simp; omega] at h1
 have h2 := cloneBy_nil
 have hTc := staC_T S i hi.2
 rw [hT] at hTc
 have hlen := staC_len S
 have hone := staC_one S
 obtain ⟨X, hX⟩ : ∃ X, staC S = X := ⟨_, rfl⟩
 rw [hX] at hTc hlen hone ⊢
 have c5 : X[i * 8 + 5]? = some (.bool true) := cellOf hTc (by decide) rfl
 have c6 : X[i * 8 + 6]? = some (.int .i64 res) := cellOf hTc (by decide) rfl
 have c7 : X[i * 8 + 7]? = some (.slice none 0 0) := cellOf hTc (by decide) rfl
 refine RowsSpec.of_xc tabOk Tryz.func19 rfl (by decide) (n := Tryz.f19.ntmps - 2) rfl rfl (by simp) fun w0 av => ?_
 conv => whnf
 repeat (first | (refine XSame.of ?_; conv => whnf) | (refine XDep.all _ _ _ _ ?_; conv => whnf))
 refine XVal.of_read (XRead.ptrNil tabOk (t := 26) rfl rfl ?_)
 conv => whnf
 repeat (first | (refine XSame.of ?_; conv => whnf) | (refine XDep.all _ _ _ _ ?_; conv => whnf))
 refine XCall.val h1 (fun w hw => trivial) (fun v D hv => ?_)
 subst hv
 conv => whnf
 repeat (first | (refine XSame.of ?_; conv => whnf) | (refine XDep.all _ _ _ _ ?_; conv => whnf))
 refine XVal.of_read (XRead.loadF tabOk rfl rfl (ad := ⟨bk, 0, none⟩) (k := 0) (L := [.pointer (some ⟨bs, 0, none⟩)]) (v := .pointer (some ⟨bs, 0, none⟩)) (Sees.row (by simp)) (fun _ => rfl) rfl ?_)
 conv => whnf
 repeat (first | (refine XSame.of ?_; conv => whnf) | (refine XDep.all _ _ _ _ ?_; conv => whnf))
 refine XVal.of_read (XRead.indexArr tabOk rfl rfl rfl i rfl hi.2 rfl ?_)
 conv => whnf
 repeat (first | (refine XSame.of ?_; conv => whnf) | (refine XDep.all _ _ _ _ ?_; conv => whnf))
 refine XVal.of_read (XRead.loadF tabOk rfl rfl (ad := ⟨bs, 0, none⟩) (k := i * 8 + 5) (L := X) (v := .bool true) (.fact fun w hw => hw) (fun _ => by simp [Addr.add_none]) c5 ?_)
 conv => whnf
 repeat (first | (refine XSame.of ?_; conv => whnf) | (refine XDep.all _ _ _ _ ?_; conv => whnf))
 refine XVal.of_read (XRead.loadF tabOk rfl rfl (ad := ⟨bk, 0, none⟩) (k := 0) (L := [.pointer (some ⟨bs, 0, none⟩)]) (v := .pointer (some ⟨bs, 0, none⟩)) (Sees.row (by simp)) (fun _ => rfl) rfl ?_)
 conv => whnf
 repeat (first | (refine XSame.of ?_; conv => whnf) | (refine XDep.all _ _ _ _ ?_; conv => whnf))
 refine XVal.of_read (XRead.loads tabOk (t := 132) rfl rfl (ad := ⟨bs, 0, none⟩) (k := 0) (L := X) (m := X) (.fact fun w hw => hw) rfl (by rw [List.drop_zero, List.take_of_length_le (by rw [hlen]; exact Nat.le_refl _)]) hlen ?_)
 conv => whnf
 repeat (first | (refine XSame.of ?_; conv => whnf) | (refine XDep.all _ _ _ _ ?_; conv => whnf))
 refine XVal.allocRow tabOk rfl (z := staC zS) (by kernel_rfl) fun bn => ?_
 conv => whnf
 repeat (first | (refine XSame.of ?_; conv => whnf) | (refine XDep.all _ _ _ _ ?_; conv => whnf))
 refine XUnit.ent (F' := ⟨fun _ => True, [(bk, Row.c [.pointer (some ⟨bs, 0, none⟩)])] ++ [(bn, Row.c (staC zS))] ++ []⟩) (Ent.of_le ⟨by simp, fun w hw => trivial⟩) ?_
 refine XUnit.storeTo tabOk rfl (b := bn) (k := 0) (X := X) rfl (by show X.length = 376; exact hlen) (fun u hu => hone u hu) (by rw [staC_len]; exact Nat.le_refl _) (laid_whole (C := X) (z := staC zS) (by rw [hlen, staC_len])) ?_
 conv => whnf
 repeat (first | (refine XSame.of ?_; conv => whnf) | (refine XDep.all _ _ _ _ ?_; conv => whnf))
 refine XVal.of_read (XRead.indexArr tabOk rfl rfl rfl i rfl hi.2 rfl ?_)
 refine XStop.draw tabOk mixed rfl rfl ?_
 conv => whnf
 repeat' (first
  | (refine And.intro ?_ ?_ <;> conv => whnf)
  | (refine XHeld.same rfl ?_; conv => whnf)
  | (refine XHeld.row rfl ?_; conv => whnf)
  | (refine XHeld.call rfl ?_; conv => whnf)
  | (refine XHeld.factCall rfl ?_; conv => whnf)
  | (refine XKeep.of ?_; conv => whnf)
  | (refine XSame.of ?_; conv => whnf)
  | (refine XDep.all _ _ _ _ ?_; conv => whnf)
  | (refine XRead.loadF tabOk (t := 3) rfl rfl (ad := ⟨bn, 0, none⟩) (k := i * 8 + 6) (L := X) (v := .int .i64 res) (Sees.row (by simp)) (fun _ => by simp [Addr.add_none]) c6 ?_; conv => whnf)
  | (refine XRead.loadF tabOk (t := 22) rfl rfl (ad := ⟨bn, 0, none⟩) (k := i * 8 + 7) (L := X) (v := .slice none 0 0) (Sees.row (by simp)) (fun _ => by simp [Addr.add_none]) c7 ?_; conv => whnf)
  | (refine XCall.val h2 (fun w hw => trivial) (fun v D hv => ?_); subst hv; conv => whnf)
  | (refine XHeld.mk ?_ ?_; (focus (first | exact Ent.refl _ | exact Ent.left _ _ | exact Ent.of_le ⟨List.sublist_append_left _ _, fun w h => h⟩ | exact Ent.of_le ⟨List.Sublist.refl _, fun w h => h.1⟩)); conv => whnf))
 obtain ⟨X1, hX1⟩ : ∃ X1, laid X (i * 8 + 5) [.bool false] = X1 := ⟨_, rfl⟩
 have hl1 : X1.length = 376 := by rw [← hX1, laid_len (by rw [hlen]; show i * 8 + 5 + 1 ≤ 376; omega), hlen]
 obtain ⟨X2, hX2⟩ : ∃ X2, laid X1 (i * 8 + 6) [.int .i64 0] = X2 := ⟨_, rfl⟩
 have hl2 : X2.length = 376 := by rw [← hX2, laid_len (by rw [hl1]; show i * 8 + 6 + 1 ≤ 376; omega), hl1]
 obtain ⟨X3, hX3⟩ : ∃ X3, laid X2 (i * 8 + 7) [.slice none 0 0] = X3 := ⟨_, rfl⟩
 all_goals
  refine XUnit.storeTo tabOk rfl (b := bn) (k := i * 8 + 5) (X := X1) (by simp [Addr.add_none]) rfl (List.all_eq_true.1 (by rfl)) (by rw [hlen]; show i * 8 + 5 + 1 ≤ 376; omega) hX1 ?_
  conv => whnf
  repeat (first | (refine XSame.of ?_; conv => whnf) | (refine XDep.all _ _ _ _ ?_; conv => whnf))
  refine XUnit.storeTo tabOk rfl (b := bn) (k := i * 8 + 6) (X := X2) (by simp [Addr.add_none]) rfl (List.all_eq_true.1 (by rfl)) (by rw [hl1]; show i * 8 + 6 + 1 ≤ 376; omega) hX2 ?_
  conv => whnf
  repeat (first | (refine XSame.of ?_; conv => whnf) | (refine XDep.all _ _ _ _ ?_; conv => whnf))
  refine XUnit.storeTo tabOk rfl (b := bn) (k := i * 8 + 7) (X := X3) (by simp [Addr.add_none]) rfl (List.all_eq_true.1 (by rfl)) (by rw [hl2]; show i * 8 + 7 + 1 ≤ 376; omega) hX3 ?_
  conv => whnf
  repeat (first | (refine XSame.of ?_; conv => whnf) | (refine XDep.all _ _ _ _ ?_; conv => whnf))
  refine XUnit.ent (F' := ⟨fun _ => True, [] ++ [(bk, Row.c [.pointer (some ⟨bs, 0, none⟩)])] ++ [(bn, Row.c X3)]⟩) (Ent.of_le ⟨by simp, fun w hw => hw⟩) ?_
  refine XUnit.storeTo tabOk rfl (b := bk) (k := 0) (X := [.pointer (some ⟨bn, 0, none⟩)]) rfl rfl (List.all_eq_true.1 (by rfl)) (Nat.le_refl _) rfl ?_
  conv => whnf
  repeat (first | (refine XSame.of ?_; conv => whnf) | (refine XDep.all _ _ _ _ ?_; conv => whnf))
  exact ⟨_, Ent.refl _, rfl⟩

theorem take_spec (q : List Mg) (hqd : ∀ x ∈ q, x.data = default) (hq : Hd) (hqo : hq.Ok q.length) (hql : q.length ≤ 400) (p : List Pr) (hp : Hd) (hpo : hp.Ok p.length) (hpl : p.length ≤ 100000) (hV : porOk q p = true)
 (d : Int) (i : Nat) (hi : q.findIdx? (fun x => iEq x.dst d) = some i) (e : Int) (he : e = 0) :
 PureSpec Tryz.prog 97 [.agg ⟨[hq.v q.length, hp.v p.length]⟩, .int .i64 d] (fun w => RowAt w hq.a (q.flatMap mgC) ∧ RowAt w hp.a (p.flatMap prC))
  (fun v F => ∃ hq' hp' : Hd, (hq'.Ok (q.eraseIdx i).length ∧ hp'.Ok p.length) ∧ v = .tuple ⟨[.agg ⟨[hq'.v (q.eraseIdx i).length, hp'.v p.length]⟩, .agg ⟨mgC q[i]!⟩, .int .i64 e]⟩ ∧
   F = ⟨fun w => RowAt w hq'.a ((q.eraseIdx i).flatMap mgC) ∧ RowAt w hp'.a (p.flatMap prC), []⟩) := by
 have hil : i < q.length := (List.findIdx?_eq_some_iff_getElem.1 hi).1
 have h1 := portsValid_spec q hq hqo (by omega) p hp hpo (by omega)
 unfold porOk at hV
 rw [hV] at h1
 have h2 := first_spec q hq hqo (by omega) (hp.v p.length) rfl d
 rw [hi] at h2
 obtain ⟨z, hz⟩ : ∃ z : Int, z = (i : Int) := ⟨_, rfl⟩
 rw [show fint (some i) = z from hz.symm] at h2
 have h5 := copied_spec q hqd hq hqo (by omega) p hp hpo hpl
 obtain ⟨M, hM⟩ : ∃ M, q[i]! = M := ⟨_, rfl⟩
 have hM' : q[i] = M := by rw [← hM]; exact (bang hil).symm
 rw [hM]
 refine PureSpec.of_xc tabOk Tryz.func97 rfl (by decide) (n := Tryz.f97.ntmps - 2) rfl rfl fun w0 av => ?_
 conv => whnf
 repeat (first | (refine XSame.of ?_; conv => whnf) | (refine XDep.all _ _ _ _ ?_; conv => whnf))
 intro b2
 conv => whnf
 repeat (first | (refine XSame.of ?_; conv => whnf) | (refine XDep.all _ _ _ _ ?_; conv => whnf))
 intro b4
 conv => whnf
 repeat (first | (refine XSame.of ?_; conv => whnf) | (refine XDep.all _ _ _ _ ?_; conv => whnf))
 intro b5
 conv => whnf
 repeat (first | (refine XSame.of ?_; conv => whnf) | (refine XDep.all _ _ _ _ ?_; conv => whnf))
 refine XCall.val h1 (fun w hw => ⟨hw.2, hw.1⟩) (fun v D hv => ?_)
 subst hv
 conv => whnf
 repeat (first | (refine XSame.of ?_; conv => whnf) | (refine XDep.all _ _ _ _ ?_; conv => whnf))
 refine XCall.val h2 (fun w hw => hw.1) (fun v D hv => ?_)
 subst hv
 conv => whnf
 repeat (first | (refine XSame.of ?_; conv => whnf) | (refine XDep.all _ _ _ _ ?_; conv => whnf))
 refine XIf.no (by simp [iLt_eq]; omega) ?_
 conv => whnf
 repeat (first | (refine XSame.of ?_; conv => whnf) | (refine XDep.all _ _ _ _ ?_; conv => whnf))
 refine XCall.pure h5 (fun w hw => hw) (fun v D hv => ?_)
 obtain ⟨a, cap, C, a', cap', C', ⟨hO, hO'⟩, rfl, rfl⟩ := hv
 rw [hz]
 conv => whnf
 repeat (first | (refine XSame.of ?_; conv => whnf) | (refine XDep.all _ _ _ _ ?_; conv => whnf))
 obtain ⟨b6, rfl⟩ := own_some hO (by omega)
 have hC : C.length = cap * 9 := by
  rcases hO.alt with ⟨h, _⟩ | ⟨b', _, h, _⟩
  · cases h
  · exact h
 refine XVal.of_read (XRead.index tabOk (t := 108) rfl rfl rfl (by omega) (by omega) (fun h => by cases h) fun ad had => ?_)
 cases had
 conv => whnf
 repeat (first | (refine XSame.of ?_; conv => whnf) | (refine XDep.all _ _ _ _ ?_; conv => whnf))
 refine XVal.ent (F' := ⟨fun _ => True, [] ++ orow (some ⟨b6, 0, none⟩) C ++ orow a' C'⟩) (Ent.of_le ⟨by simp [Fx.and], fun w hw => trivial⟩) ?_
 refine XVal.of_read (XRead.loads tabOk (t := 53) rfl rfl (ad := ⟨b6, 0, none⟩) (k := i * 9) (L := q.flatMap mgC) (m := mgC M) hO.sees (by simp) (by rw [← hM']; exact fm_get (cf := mgC) (z := 9) (fun _ => rfl) hil) rfl ?_)
 conv => whnf
 repeat (first | (refine XSame.of ?_; conv => whnf) | (refine XDep.all _ _ _ _ ?_; conv => whnf))
 intro b8
 conv => whnf
 repeat (first | (refine XSame.of ?_; conv => whnf) | (refine XDep.all _ _ _ _ ?_; conv => whnf))
 rw [wrap_i64 (by omega)]
 refine XCall.ent (F' := ⟨fun _ => True, [] ++ [(b6, Row.c C)] ++ orow a' C'⟩) (Ent.of_le ⟨by simp [orow], fun w hw => trivial⟩) ?_
 refine XCall.rows (r1 := []) (r2 := orow a' C') (deleteMg mgC (fun _ => rfl) mgC_one hO hil (by omega) (fun _ => True)) (fun w hw => trivial) (fun v F' hv => ?_)
 obtain ⟨C2, hO2, rfl, rfl⟩ := hv
 conv => whnf
 repeat (first | (refine XSame.of ?_; conv => whnf) | (refine XDep.all _ _ _ _ ?_; conv => whnf))
 refine XStop.draw tabOk mixed rfl rfl ?_
 conv => whnf
 repeat' (first
  | (refine And.intro ?_ ?_ <;> conv => whnf)
  | (refine XHeld.same rfl ?_; conv => whnf)
  | (refine XHeld.row rfl ?_; conv => whnf)
  | (refine XHeld.call rfl ?_; conv => whnf)
  | (refine XHeld.factCall rfl ?_; conv => whnf)
  | (refine XKeep.of ?_; conv => whnf)
  | (refine XSame.of ?_; conv => whnf)
  | (refine XDep.all _ _ _ _ ?_; conv => whnf)
  | (intro b9; conv => whnf)
  | (refine XHeld.mk ?_ ?_; (focus (first | exact Ent.refl _ | exact Ent.left _ _ | exact Ent.of_le ⟨List.sublist_append_left _ _, fun w h => h⟩ | exact Ent.of_le ⟨List.Sublist.refl _, fun w h => h.1⟩)); conv => whnf))
 all_goals
  refine ⟨⟨fun w => RowAt w (some ⟨b6, 0, none⟩) ((q.eraseIdx i).flatMap mgC) ∧ RowAt w a' (p.flatMap prC), []⟩, ?_, ⟨some ⟨b6, 0, none⟩, cap⟩, ⟨a', cap'⟩, ⟨⟨fun h => (by cases h), hO2.fit⟩, ⟨hO'.none_nil, hO'.fit⟩⟩, by subst he; rfl, rfl⟩
  refine Ent.trans (Ent.of_le (F' := ⟨fun _ => True, [] ++ orow (some ⟨b6, 0, none⟩) C2 ++ orow a' C'⟩) ⟨by simp [orow], fun w hw => trivial⟩) (Ent.trans (hO2.share (r1 := []) (r2 := orow a' C')) (Ent.trans (Ent.of_le (F' := ⟨fun w => True ∧ RowAt w (some ⟨b6, 0, none⟩) ((q.eraseIdx i).flatMap mgC), [] ++ orow a' C' ++ []⟩) ⟨by simp, fun w hw => hw⟩) (Ent.trans (hO'.share (r1 := []) (r2 := [])) (Ent.imp fun w hw => ⟨hw.1.2, hw.2⟩))))

end Go.Proofs.YtakammghcodmgaaGreatDoor
