/- Parts of the proof: KnM. -/
import Derived.Test.YtakammghcodmgaaGreatDoorQQ
import Derived.Test.YtakammghcodmgaaGreatDoorQR
namespace Go.Proofs.YtakammghcodmgaaGreatDoor
open Go Go.Sx
set_option maxRecDepth 100000
set_option maxHeartbeats 4000000
set_option linter.unusedVariables false
set_option linter.unusedSimpArgs false

def mg0 : Mg := ⟨0, 0, 0, 0, 0, 0, 0, 0, default⟩
/-- The cells of an effect without a message. -/
def efC (kind a0 a1 a2 a3 : Int) (d : Bs) : List Value := [.int .i64 kind, .int .i64 a0, .int .i64 a1, .int .i64 a2, .int .i64 a3, .int .i64 0, .int .i64 0, .int .i64 0, .int .i64 0, .int .i64 0, .int .i64 0, .int .i64 0, .int .i64 0, .slice none 0 0, bsV d]

theorem infoI : ∃ i, Tryz.prog.info? 3 = some i := by
 have : (Tryz.prog.info? 3).isSome = true := by kernel_rfl
 exact Option.isSome_iff_exists.1 this

theorem none_spec (m : Mg) : PureSpec Tryz.prog 218 [.agg ⟨mgC m⟩] (fun _ => True)
 (fun v F => v = .bool (iEq m.src 0 && (iEq m.dst 0 && (iEq m.kind 0 && (iEq m.seq 0 && (arrEq 4 ([m.a0, m.a1, m.a2, m.a3].map (Value.int .i64)) ([0, 0, 0, 0].map (Value.int .i64)) && iEq (m.data.n : Int) 0)))))) := by
 obtain ⟨i1, hi1⟩ := infoI
 obtain ⟨r, hr⟩ : ∃ r, arrEq 4 ([m.a0, m.a1, m.a2, m.a3].map (Value.int .i64)) ([0, 0, 0, 0].map (Value.int .i64)) = r := ⟨_, rfl⟩
 rw [hr]
 refine PureSpec.of_xc tabOk Tryz.func218 rfl (by decide) (n := Tryz.f218.ntmps - 1) rfl rfl fun w0 av => ?_
 conv => whnf
 repeat (first | (refine XSame.of ?_; conv => whnf) | (refine XDep.all _ _ _ _ ?_; conv => whnf))
 intro b1
 conv => whnf
 repeat (first | (refine XSame.of ?_; conv => whnf) | (refine XDep.all _ _ _ _ ?_; conv => whnf))
 repeat' (first
  | (refine And.intro ?_ ?_ <;> conv => whnf)
  | (refine XHeld.same rfl ?_; conv => whnf)
  | (refine XHeld.row rfl ?_; conv => whnf)
  | (refine XHeld.call rfl ?_; conv => whnf)
  | (refine XHeld.factCall rfl ?_; conv => whnf)
  | (refine XKeep.of ?_; conv => whnf)
  | (refine XSame.of ?_; conv => whnf)
  | (refine XDep.all _ _ _ _ ?_; conv => whnf)
  | (refine XVal.of_read (XRead.eqArr (t := 51) (n := 4) (e := 3) (xs := [m.a0, m.a1, m.a2, m.a3].map (Value.int .i64)) (ys := [0, 0, 0, 0].map (Value.int .i64)) (by kernel_rfl) (.inl (by kernel_rfl)) hi1 (by kernel_rfl) (by kernel_rfl) (cell1_ints (by kernel_rfl) rfl rfl) ?_); rw [hr]; conv => whnf)
  | (split <;> conv => whnf)
  | (refine XHeld.mk ?_ ?_; (focus (first | exact Ent.refl _ | exact Ent.left _ _ | exact Ent.of_le ⟨List.sublist_append_left _ _, fun w h => h⟩ | exact Ent.of_le ⟨List.Sublist.refl _, fun w h => h.1⟩)); conv => whnf))
 all_goals
  rename_i hx
  refine ⟨_, Ent.refl _, ?_⟩
  show Value.bool _ = Value.bool _
  congr 1
  revert hx
  clear hr
  generalize iEq m.src 0 = q1
  generalize iEq m.dst 0 = q2
  generalize iEq m.kind 0 = q3
  generalize iEq m.seq 0 = q4
  generalize iEq (m.data.n : Int) 0 = q5
  cases q1 <;> cases q2 <;> cases q3 <;> cases q4 <;> cases r <;> cases q5 <;> simp

/-- A reply of the process manager has a permitted form. -/
theorem effReply_ok (t kd : Int) (ht : t = 3) (hkd : kd = 2) (a0 a1 a2 a3 : Int) (ha : argsI [117, 42] [a0, a1, a2, a3] = true) (n : Nat) (hn : n = 0) :
 PureSpec Tryz.prog 160 [.int .i64 t, .agg ⟨efC kd a0 a1 a2 a3 ⟨Hd.nil, n⟩⟩] (fun _ => True) (fun v F => v = .bool true) := by
 have h1 := in_spec 99 t
 rw [show inI 99 t = true from by subst ht; kernel_rfl] at h1
 have h2 := none_spec mg0
 obtain ⟨q2, hq2⟩ : ∃ q2, (iEq mg0.src 0 && (iEq mg0.dst 0 && (iEq mg0.kind 0 && (iEq mg0.seq 0 && (arrEq 4 ([mg0.a0, mg0.a1, mg0.a2, mg0.a3].map (Value.int .i64)) ([0, 0, 0, 0].map (Value.int .i64)) && iEq (mg0.data.n : Int) 0))))) = q2 := ⟨_, rfl⟩
 have hq2t : q2 = true := by
  rw [← hq2]
  simp only [Bool.and_eq_true, iEq_eq]
  refine ⟨by decide, by decide, by decide, by decide, by decide, by decide⟩
 rw [hq2, hq2t] at h2
 have h3 := args_spec [117, 42] (by decide) [a0, a1, a2, a3] rfl
 rw [ha] at h3
 refine PureSpec.of_xc tabOk Tryz.func160 rfl (by decide) (n := Tryz.f160.ntmps - 2) rfl rfl fun w0 av => ?_
 conv => whnf
 repeat (first | (refine XSame.of ?_; conv => whnf) | (refine XDep.all _ _ _ _ ?_; conv => whnf))
 intro b3
 conv => whnf
 repeat (first | (refine XSame.of ?_; conv => whnf) | (refine XDep.all _ _ _ _ ?_; conv => whnf))
 refine XCall.val h1 (fun w hw => trivial) (fun v D hv => ?_)
 subst hv
 conv => whnf
 repeat (first | (refine XSame.of ?_; conv => whnf) | (refine XDep.all _ _ _ _ ?_; conv => whnf))
 rw [show iLt kd 1 = false from by simp [iLt_eq, hkd]]
 conv => whnf
 repeat (first | (refine XSame.of ?_; conv => whnf) | (refine XDep.all _ _ _ _ ?_; conv => whnf))
 rw [show iGe kd 17 = false from by simp [iGe_eq, hkd]]
 conv => whnf
 repeat (first | (refine XSame.of ?_; conv => whnf) | (refine XDep.all _ _ _ _ ?_; conv => whnf))
 rw [show iEq kd 1 = false from by simp [iEq_eq, hkd]]
 conv => whnf
 repeat (first | (refine XSame.of ?_; conv => whnf) | (refine XDep.all _ _ _ _ ?_; conv => whnf))
 refine XCall.val h2 (fun w hw => trivial) (fun v D hv => ?_)
 subst hv
 conv => whnf
 repeat (first | (refine XSame.of ?_; conv => whnf) | (refine XDep.all _ _ _ _ ?_; conv => whnf))
 rw [show iEq kd 2 = true from by simp [iEq_eq, hkd]]
 conv => whnf
 repeat (first | (refine XSame.of ?_; conv => whnf) | (refine XDep.all _ _ _ _ ?_; conv => whnf))
 rw [show iEq t 3 = true from by simp [iEq_eq, ht]]
 conv => whnf
 repeat (first | (refine XSame.of ?_; conv => whnf) | (refine XDep.all _ _ _ _ ?_; conv => whnf))
 refine XCall.val h3 (fun w hw => trivial) (fun v D hv => ?_)
 subst hv
 conv => whnf
 repeat (first | (refine XSame.of ?_; conv => whnf) | (refine XDep.all _ _ _ _ ?_; conv => whnf))
 exact ⟨_, Ent.refl _, by subst hn; kernel_rfl⟩

/-- Effects of which each has a permitted form. -/
theorem effects_ok (t : Int) (kd a0 a1 a2 a3 : Int) (d : Bs) (h1 : PureSpec Tryz.prog 160 [.int .i64 t, .agg ⟨efC kd a0 a1 a2 a3 d⟩] (fun _ => True) (fun v F => v = .bool true)) (b n : Nat) (hn : n = 1) :
 PureSpec Tryz.prog 98 [.int .i64 t, .slice (some ⟨b, 0, none⟩) n n] (fun w => RowAt w (some ⟨b, 0, none⟩) (efC kd a0 a1 a2 a3 d)) (fun v F => v = .bool true) := by
 refine PureSpec.of_xc tabOk Tryz.func98 rfl (by decide) (n := Tryz.f98.ntmps - 2) rfl rfl fun w0 av => ?_
 conv => whnf
 repeat (first | (refine XSame.of ?_; conv => whnf) | (refine XDep.all _ _ _ _ ?_; conv => whnf))
 refine XStop.loop tabOk (ι := Nat) ([6] ++ List.range' 9 12) (fun x => x ≤ n) (fun x => [(9, .v (.int .i64 (x : Int)))]) (fun _ => []) (fun _ => ⟨fun w => RowAt w (some ⟨b, 0, none⟩) (efC kd a0 a1 a2 a3 d), []⟩)
  (fun x => n - x) 0 (Nat.zero_le _) ?_ rfl (Ent.refl _) fun i hi => ?_
 · conv => whnf
   repeat (first | exact FLe.nil | refine FLe.any ?_ | refine FLe.cons ?_)
 conv => whnf
 repeat (first | (refine XSame.of ?_; conv => whnf) | (refine XDep.all _ _ _ _ ?_; conv => whnf))
 refine XIf.split (fun hlt => ?_) (fun hlt => ?_)
 · have hlt' : i < n := by
    simp only [iLt_eq, decide_eq_true_eq] at hlt
    omega
   have hi0 : i = 0 := by omega
   conv => whnf
   repeat (first | (refine XSame.of ?_; conv => whnf) | (refine XDep.all _ _ _ _ ?_; conv => whnf))
   refine XVal.of_read (XRead.index tabOk (t := 63) rfl rfl rfl (by omega) (by omega) (fun h => by cases h) fun ad had => ?_)
   cases had
   conv => whnf
   repeat (first | (refine XSame.of ?_; conv => whnf) | (refine XDep.all _ _ _ _ ?_; conv => whnf))
   refine XVal.of_read (XRead.loads tabOk (t := 62) rfl rfl (ad := ⟨b, 0, none⟩) (k := 0) (L := efC kd a0 a1 a2 a3 d) (m := efC kd a0 a1 a2 a3 d) (.fact fun w hw => hw) (by rw [hi0]; simp) rfl rfl ?_)
   conv => whnf
   repeat (first | (refine XSame.of ?_; conv => whnf) | (refine XDep.all _ _ _ _ ?_; conv => whnf))
   intro b7
   conv => whnf
   repeat (first | (refine XSame.of ?_; conv => whnf) | (refine XDep.all _ _ _ _ ?_; conv => whnf))
   refine XCall.val h1 (fun w hw => trivial) (fun v D hv => ?_)
   subst hv
   conv => whnf
   repeat (first | (refine XSame.of ?_; conv => whnf) | (refine XDep.all _ _ _ _ ?_; conv => whnf))
   refine ⟨i + 1, ⟨hlt', by dsimp only; omega⟩, ?_, ?_, Ent.refl _⟩
   · conv => whnf
     refine ⟨?_, rfl⟩
     repeat (first | exact FLe.nil | refine FLe.any ?_ | refine FLe.cons ?_ | refine FLe.eq (by rw [wrap_i64 (by omega)]; rfl) ?_)
   · conv => whnf
     exact trivial
 · conv => whnf
   repeat (first | (refine XSame.of ?_; conv => whnf) | (refine XDep.all _ _ _ _ ?_; conv => whnf))
   exact ⟨_, Ent.refl _, by rw [show iLe (n : Int) 160 = true from by simp [iLe_eq]; omega]⟩

/-- The rights for a reply. -/
theorem rights_reply (kd : Int) (hkd : kd = 2) (a0 a1 a2 a3 : Int) (d : Bs) : PureSpec Tryz.prog 161 [.agg ⟨efC kd a0 a1 a2 a3 d⟩] (fun _ => True)
 (fun v F => ∃ (b n : Nat), n = 1 ∧ v = .slice (some ⟨b, 0, none⟩) n n ∧ F = ⟨fun w => RowAt w (some ⟨b, 0, none⟩) (rtC ⟨2, 0, kd⟩), []⟩) := by
 refine PureSpec.of_xc tabOk Tryz.func161 rfl (by decide) (n := Tryz.f161.ntmps - 1) rfl rfl fun w0 av => ?_
 conv => whnf
 repeat (first | (refine XSame.of ?_; conv => whnf) | (refine XDep.all _ _ _ _ ?_; conv => whnf))
 intro b1
 conv => whnf
 repeat (first | (refine XSame.of ?_; conv => whnf) | (refine XDep.all _ _ _ _ ?_; conv => whnf))
 refine XVal.build tabOk rfl rfl rfl [.agg ⟨rtC ⟨2, 0, kd⟩⟩] rfl rfl (by simp [Value.cells, rtC]) (by simp) fun b5 => ?_
 conv => whnf
 repeat (first | (refine XSame.of ?_; conv => whnf) | (refine XDep.all _ _ _ _ ?_; conv => whnf))
 rw [show iEq kd 1 = false from by simp [iEq_eq, hkd]]
 conv => whnf
 repeat (first | (refine XSame.of ?_; conv => whnf) | (refine XDep.all _ _ _ _ ?_; conv => whnf))
 rw [show iEq kd 3 = false from by simp [iEq_eq, hkd]]
 conv => whnf
 repeat (first | (refine XSame.of ?_; conv => whnf) | (refine XDep.all _ _ _ _ ?_; conv => whnf))
 exact ⟨⟨fun w => RowAt w (some ⟨b5, 0, none⟩) (rtC ⟨2, 0, kd⟩), []⟩, Ent.trans (Ent.of_le (F' := ⟨fun _ => True, [(b5, Row.c (rtC ⟨2, 0, kd⟩))]⟩) ⟨by simp [Value.cells], fun w hw => trivial⟩) (Ent.trans Ent.share1 (Ent.imp fun w hw => hw.2)), b5, 1, rfl, rfl, rfl⟩

end Go.Proofs.YtakammghcodmgaaGreatDoor
