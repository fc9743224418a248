/- Parts of the proof: AbE, AbF, AbG. -/
import Derived.Test.YtakammghcodmgaaGreatDoorQH
import Derived.Test.YtakammghcodmgaaGreatDoorQI
namespace Go.Proofs.YtakammghcodmgaaGreatDoor
open Go Go.Sx
set_option maxRecDepth 100000
set_option maxHeartbeats 4000000
set_option linter.unusedVariables false
set_option linter.unusedSimpArgs false

end Go.Proofs.YtakammghcodmgaaGreatDoor
namespace Go.Proofs.YtakammghcodmgaaGreatDoor
open Go Go.Sx
set_option maxRecDepth 100000
set_option maxHeartbeats 4000000
set_option linter.unusedVariables false
set_option linter.unusedSimpArgs false

def mostI (c : Int) : Int := if iEq c 98 then 1 else if iEq c 101 then 24 else if iEq c 112 then 31 else if iEq c 102 then 95 else if iEq c 107 then 159 else if iEq c 115 then 19 else if iEq c 109 then 2 else if iEq c 122 then 9 else if iEq c 121 then 5 else if iEq c 118 then 255 else 0

theorem most_spec (c : Int) : PureSpec Tryz.prog 249 [.int .u8 c] (fun _ => True) (fun v F => v = .int .i64 (mostI c)) := by
 refine PureSpec.of_xc tabOk Tryz.func249 rfl (by decide) (n := Tryz.f249.ntmps - 1) rfl rfl fun w0 av => ?_
 conv => whnf
 repeat (first | (refine XSame.of ?_; conv => whnf) | (refine XDep.all _ _ _ _ ?_; conv => whnf))
 repeat' (first
  | (refine And.intro ?_ ?_ <;> conv => whnf)
  | (refine XHeld.same rfl ?_; conv => whnf)
  | (refine XHeld.row rfl ?_; conv => whnf)
  | (refine XHeld.call rfl ?_; conv => whnf)
  | (refine XHeld.factCall rfl ?_; conv => whnf)
  | (refine XKeep.of ?_; conv => whnf)
  | (refine XSame.of ?_; conv => whnf)
  | (refine XDep.all _ _ _ _ ?_; conv => whnf)
  | (refine XIf.split (fun h => ?_) (fun h => ?_) <;> conv => whnf)
  | (refine XHeld.mk ?_ ?_; (focus (first | exact Ent.refl _ | exact Ent.left _ _ | exact Ent.of_le ⟨List.sublist_append_left _ _, fun w h => h⟩ | exact Ent.of_le ⟨List.Sublist.refl _, fun w h => h.1⟩)); conv => whnf))
 all_goals exact ⟨_, Ent.refl _, by unfold mostI; simp only [*, if_true, if_false, Bool.false_eq_true]⟩

def inI (c n : Int) : Bool := if iEq c 42 then true else if iEq c 110 then iGe n 0 else if iEq c 116 then iGe n 1 else if iEq c 117 then iGe n 16 && iLt n 32 else if iEq c 99 then iGe n 1 && iLe n 10 else if iEq c 103 then iGe n (-1) && iLt n 96 else
 if iEq c 100 then iGe n 1 && iLe n 4 else if iEq c 120 then iGt n 0 && iLe n 7 else if iEq c 111 then iGe n 1 && iLe n 6 else if iEq c 113 then iGe n 1 && iLe n 6 else if iEq c 114 then iGe n 1 && iLe n 3 else iGe n 0 && iLe n (mostI c)

theorem in_spec (c n : Int) : PureSpec Tryz.prog 215 [.int .u8 c, .int .i64 n] (fun _ => True) (fun v F => v = .bool (inI c n)) := by
 have h1 := most_spec c
 obtain ⟨m, hm⟩ : ∃ m, mostI c = m := ⟨_, rfl⟩
 rw [hm] at h1
 unfold inI
 rw [hm]
 refine PureSpec.of_xc tabOk Tryz.func215 rfl (by decide) (n := Tryz.f215.ntmps - 2) rfl rfl fun w0 av => ?_
 conv => whnf
 repeat (first | (refine XSame.of ?_; conv => whnf) | (refine XDep.all _ _ _ _ ?_; conv => whnf))
 repeat' (first
  | (refine And.intro ?_ ?_ <;> conv => whnf)
  | (refine XHeld.same rfl ?_; conv => whnf)
  | (refine XHeld.row rfl ?_; conv => whnf)
  | (refine XHeld.call rfl ?_; conv => whnf)
  | (refine XHeld.factCall rfl ?_; conv => whnf)
  | (refine XKeep.of ?_; conv => whnf)
  | (refine XSame.of ?_; conv => whnf)
  | (refine XDep.all _ _ _ _ ?_; conv => whnf)
  | (refine XCall.val h1 (fun w hw => trivial) (fun v D hv => ?_); subst hv; conv => whnf)
  | (refine XIf.split (fun h => ?_) (fun h => ?_) <;> conv => whnf)
  | (refine XHeld.mk ?_ ?_; (focus (first | exact Ent.refl _ | exact Ent.left _ _ | exact Ent.of_le ⟨List.sublist_append_left _ _, fun w h => h⟩ | exact Ent.of_le ⟨List.Sublist.refl _, fun w h => h.1⟩)); conv => whnf))
 all_goals exact ⟨_, Ent.refl _, by simp only [*, if_true, if_false, cond_true, cond_false, Bool.false_eq_true, Bool.and_true, Bool.true_and, Bool.and_false, Bool.false_and]⟩

/-- The class of the argument number i. -/
def clsAt (l : List UInt8) (i : Nat) : Int := if i < l.length then (l[i]!.toNat : Int) else 48
def argsI (l : List UInt8) (A : List Int) : Bool := allI 4 fun i => inI (clsAt l i) A[i]!

theorem args_spec (l : List UInt8) (hl : l.length ≤ 1000) (A : List Int) (hA : A.length = 4) : PureSpec Tryz.prog 221 [strV l, .agg ⟨A.map intV⟩] (fun _ => True) (fun v F => v = .bool (argsI l A)) := by
 obtain ⟨a0, a1, a2, a3, rfl⟩ : ∃ a0 a1 a2 a3, A = [a0, a1, a2, a3] := by
  rcases A with _ | ⟨a, _ | ⟨b, _ | ⟨c, _ | ⟨d, _ | ⟨e, A⟩⟩⟩⟩⟩ <;> simp at hA
  exact ⟨a, b, c, d, rfl⟩
 refine PureSpec.of_xc tabOk Tryz.func221 rfl (by decide) (n := Tryz.f221.ntmps - 2) rfl rfl fun w0 av => ?_
 conv => whnf
 repeat (first | (refine XSame.of ?_; conv => whnf) | (refine XDep.all _ _ _ _ ?_; conv => whnf))
 intro b1
 conv => whnf
 repeat (first | (refine XSame.of ?_; conv => whnf) | (refine XDep.all _ _ _ _ ?_; conv => whnf))
 refine XStop.loop tabOk (ι := Nat) ([5, 6, 7, 9] ++ List.range' 10 15) (fun x => x ≤ 4 ∧ ∀ j, j < x → inI (clsAt l j) [a0, a1, a2, a3][j]! = true)
  (fun x => [(9, .v (.int .i64 (x : Int)))]) (fun _ => [[a0, a1, a2, a3].map intV]) (fun _ => ⟨fun _ => True, []⟩)
  (fun x => 4 - x) 0 ⟨Nat.zero_le _, fun j h => by omega⟩ ?_ rfl (Ent.refl _) fun i hi => ?_
 · conv => whnf
   repeat (first | exact FLe.nil | refine FLe.any ?_ | refine FLe.cons ?_)
 obtain ⟨hi, hall⟩ := hi
 conv => whnf
 repeat (first | (refine XSame.of ?_; conv => whnf) | (refine XDep.all _ _ _ _ ?_; conv => whnf))
 refine XIf.split (fun hlt => ?_) (fun hlt => ?_)
 · have hlt' : i < 4 := by
    simp [iLt_eq] at hlt
    omega
   have h1 := in_spec (clsAt l i) [a0, a1, a2, a3][i]!
   obtain ⟨q, hq⟩ : ∃ q, inI (clsAt l i) [a0, a1, a2, a3][i]! = q := ⟨_, rfl⟩
   rw [hq] at h1
   obtain ⟨m, hm⟩ : ∃ m, [a0, a1, a2, a3][i]! = m := ⟨_, rfl⟩
   rw [hm] at h1
   have hget : ([a0, a1, a2, a3].map intV)[i]? = some (.int .i64 m) := by
    rw [List.getElem?_map, List.getElem?_eq_getElem (by simpa using hlt')]
    rw [bang (by simpa using hlt')] at hm
    rw [hm]
    rfl
   conv => whnf
   repeat (first | (refine XSame.of ?_; conv => whnf) | (refine XDep.all _ _ _ _ ?_; conv => whnf))
   refine XVal.of_read (XRead.indexAgg tabOk (t := 51) rfl rfl rfl rfl rfl (l := [a0, a1, a2, a3].map intV) i rfl hlt' (v := .int .i64 m) hget ?_)
   conv => whnf
   repeat (first | (refine XSame.of ?_; conv => whnf) | (refine XDep.all _ _ _ _ ?_; conv => whnf))
   by_cases hc : i < l.length
   · have hb : iLt (i : Int) (l.length : Int) = true := by simp [iLt_eq]; omega
     have hcl : clsAt l i = (l[i].toNat : Int) := by
      unfold clsAt
      rw [if_pos hc, bang hc]
     rw [hcl] at h1
     refine XIf.yes hb ?_
     conv => whnf
     repeat (first | (refine XSame.of ?_; conv => whnf) | (refine XDep.all _ _ _ _ ?_; conv => whnf))
     refine XVal.of_read (XRead.strIndex tabOk (t := 9) rfl rfl (l := l) i rfl hc ?_)
     conv => whnf
     repeat (first | (refine XSame.of ?_; conv => whnf) | (refine XDep.all _ _ _ _ ?_; conv => whnf))
     refine XCall.val h1 (fun w hw => trivial) (fun v D hv => ?_)
     subst hv
     cases q
     · conv => whnf
       repeat (first | (refine XSame.of ?_; conv => whnf) | (refine XDep.all _ _ _ _ ?_; conv => whnf))
       exact ⟨_, Ent.refl _, by unfold argsI; rw [allI_false hlt' (by simpa using hq)]⟩
     · conv => whnf
       repeat (first | (refine XSame.of ?_; conv => whnf) | (refine XDep.all _ _ _ _ ?_; conv => whnf))
       refine ⟨i + 1, ⟨⟨hlt', fun j hj => ?_⟩, by dsimp only; omega⟩, ?_, ?_, Ent.refl _⟩
       · rcases Nat.lt_or_eq_of_le (Nat.lt_succ_iff.1 hj) with h5 | h5
         · exact hall j h5
         · exact h5 ▸ hq
       · conv => whnf
         refine ⟨?_, rfl⟩
         repeat (first | exact FLe.nil | refine FLe.any ?_ | refine FLe.cons ?_ | refine FLe.eq (by rw [wrap_i64 (by omega)]; rfl) ?_)
       · conv => whnf
         exact ⟨⟨rfl, rfl⟩, trivial⟩
   · have hb : iLt (i : Int) (l.length : Int) = false := by simp [iLt_eq]; omega
     have hcl : clsAt l i = 48 := by
      unfold clsAt
      rw [if_neg hc]
     rw [hcl] at h1
     refine XIf.no hb ?_
     conv => whnf
     repeat (first | (refine XSame.of ?_; conv => whnf) | (refine XDep.all _ _ _ _ ?_; conv => whnf))
     refine XCall.val h1 (fun w hw => trivial) (fun v D hv => ?_)
     subst hv
     cases q
     · conv => whnf
       repeat (first | (refine XSame.of ?_; conv => whnf) | (refine XDep.all _ _ _ _ ?_; conv => whnf))
       exact ⟨_, Ent.refl _, by unfold argsI; rw [allI_false hlt' (by simpa using hq)]⟩
     · conv => whnf
       repeat (first | (refine XSame.of ?_; conv => whnf) | (refine XDep.all _ _ _ _ ?_; conv => whnf))
       refine ⟨i + 1, ⟨⟨hlt', fun j hj => ?_⟩, by dsimp only; omega⟩, ?_, ?_, Ent.refl _⟩
       · rcases Nat.lt_or_eq_of_le (Nat.lt_succ_iff.1 hj) with h5 | h5
         · exact hall j h5
         · exact h5 ▸ hq
       · conv => whnf
         refine ⟨?_, rfl⟩
         repeat (first | exact FLe.nil | refine FLe.any ?_ | refine FLe.cons ?_ | refine FLe.eq (by rw [wrap_i64 (by omega)]; rfl) ?_)
       · conv => whnf
         exact ⟨⟨rfl, rfl⟩, trivial⟩
 · have hie : i = 4 := by
    simp [iLt_eq] at hlt
    omega
   subst hie
   conv => whnf
   repeat (first | (refine XSame.of ?_; conv => whnf) | (refine XDep.all _ _ _ _ ?_; conv => whnf))
   exact ⟨_, Ent.refl _, by unfold argsI; rw [allI_true hall]⟩

def srvT (c : Int) : Int := if iEq c 0 then 3 else if iEq c 1 then 3 else if iEq c 2 then 3 else if iEq c 3 then 3 else if iEq c 4 then 3 else if iEq c 5 then 3 else if iEq c 6 then 4 else if iEq c 18 then 10 else if iEq c 19 then 10 else if iLt c 0 || iGe c 20 then 0 else 5
def srvB (c : Int) : Bool := if iEq c 0 then true else if iEq c 1 then true else if iEq c 2 then true else if iEq c 3 then true else if iEq c 4 then true else if iEq c 5 then true else if iEq c 6 then true else if iEq c 18 then true else if iEq c 19 then true else !(iLt c 0 || iGe c 20)

theorem server_spec (c : Int) : PureSpec Tryz.prog 47 [.int .i64 c] (fun _ => True) (fun v F => v = .tuple ⟨[.int .i64 (srvT c), .bool (srvB c)]⟩) := by
 refine PureSpec.of_xc tabOk Tryz.func47 rfl (by decide) (n := Tryz.f47.ntmps - 1) rfl rfl fun w0 av => ?_
 conv => whnf
 repeat (first | (refine XSame.of ?_; conv => whnf) | (refine XDep.all _ _ _ _ ?_; conv => whnf))
 repeat' (first
  | (refine And.intro ?_ ?_ <;> conv => whnf)
  | (refine XHeld.same rfl ?_; conv => whnf)
  | (refine XHeld.row rfl ?_; conv => whnf)
  | (refine XHeld.call rfl ?_; conv => whnf)
  | (refine XHeld.factCall rfl ?_; conv => whnf)
  | (refine XKeep.of ?_; conv => whnf)
  | (refine XSame.of ?_; conv => whnf)
  | (refine XDep.all _ _ _ _ ?_; conv => whnf)
  | (refine XIf.split (fun h => ?_) (fun h => ?_) <;> conv => whnf)
  | (split <;> conv => whnf)
  | (refine XHeld.mk ?_ ?_; (focus (first | exact Ent.refl _ | exact Ent.left _ _ | exact Ent.of_le ⟨List.sublist_append_left _ _, fun w h => h⟩ | exact Ent.of_le ⟨List.Sublist.refl _, fun w h => h.1⟩)); conv => whnf))
 all_goals exact ⟨_, Ent.refl _, by unfold srvT srvB; first | (simp_all; done) | (cases hx : iLt c 0 <;> cases hy : iGe c 20 <;> simp_all)⟩

end Go.Proofs.YtakammghcodmgaaGreatDoor
namespace Go.Proofs.YtakammghcodmgaaGreatDoor
open Go Go.Sx
set_option maxRecDepth 100000
set_option maxHeartbeats 4000000
set_option linter.unusedVariables false
set_option linter.unusedSimpArgs false

end Go.Proofs.YtakammghcodmgaaGreatDoor
