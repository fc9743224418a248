/- Parts of the proof: AaV, AaW, AaX, AaY, AaZ, AbA, AbB, AbC, AbD. -/
import Derived.Test.YtakammghcodmgaaGreatDoorQF
import Derived.Test.YtakammghcodmgaaGreatDoorQG
namespace Go.Proofs.YtakammghcodmgaaGreatDoor
open Go Go.Sx
set_option maxRecDepth 100000
set_option maxHeartbeats 4000000
set_option linter.unusedVariables false
set_option linter.unusedSimpArgs false

def capHas (l : List Cp) (o : Int) (r : Rt) : Bool := l.any fun x => iEq x.owner o && rtEq x.r r

theorem capsHas_spec (nx : Int) (l : List Cp) (h : Hd) (hh : h.Ok l.length) (hl : l.length ≤ 140737488355328) (o : Int) (r : Rt) :
 PureSpec Tryz.prog 109 [.agg ⟨[.int .i64 nx, h.v l.length]⟩, .int .i64 o, .agg ⟨rtC r⟩] (fun w => RowAt w h.a (l.flatMap cpC)) (fun v F => v = .bool (capHas l o r)) := by
 have hg := fun (b1 b2 : Nat) => cap_has cpC (fun _ => rfl) 182 (fun w => RowAt w (some ⟨b1, 0, none⟩) [.int .i64 o] ∧ RowAt w (some ⟨b2, 0, none⟩) (rtC r)) (fun x => iEq x.owner o && rtEq x.r r) (.pointer (some ⟨b1, 0, none⟩)) (.pointer (some ⟨b2, 0, none⟩)) l h hh hl (fun e _ => capHas1_spec e b1 b2 o r)
 unfold capHas
 generalize (l.any fun x => iEq x.owner o && rtEq x.r r) = q1 at *
 refine PureSpec.of_xc tabOk Tryz.func109 rfl (by decide) (n := Tryz.f109.ntmps - 3) rfl rfl fun w0 av => ?_
 conv => whnf
 repeat (first | (refine XSame.of ?_; conv => whnf) | (refine XDep.all _ _ _ _ ?_; conv => whnf))
 intro b1
 conv => whnf
 repeat (first | (refine XSame.of ?_; conv => whnf) | (refine XDep.all _ _ _ _ ?_; conv => whnf))
 intro b2
 conv => whnf
 repeat (first | (refine XSame.of ?_; conv => whnf) | (refine XDep.all _ _ _ _ ?_; conv => whnf))
 intro b3
 conv => whnf
 repeat (first | (refine XSame.of ?_; conv => whnf) | (refine XDep.all _ _ _ _ ?_; conv => whnf))
 refine XCall.look (hg b2 b3) ((Loc.row _ _).and ((Loc.row _ _).and (Loc.row _ _))) (fun w hst => ⟨hst.now, Sees.box 1 rfl (by simp) rfl w hst, Sees.box 2 rfl (by simp) rfl w hst⟩) ?_
 conv => whnf
 repeat (first | (refine XSame.of ?_; conv => whnf) | (refine XDep.all _ _ _ _ ?_; conv => whnf))
 exact ⟨_, Ent.refl _, rfl⟩

end Go.Proofs.YtakammghcodmgaaGreatDoor
namespace Go.Proofs.YtakammghcodmgaaGreatDoor
open Go Go.Sx
set_option maxRecDepth 100000
set_option maxHeartbeats 4000000
set_option linter.unusedVariables false
set_option linter.unusedSimpArgs false

deriving instance DecidableEq for Rt

/-- The right of the last of the first i capabilities with an ID. -/
def rO (l : List Cp) : Nat → Int → Option Rt
 | 0, _ => none
 | i + 1, id => if l[i]!.id = id then some l[i]!.r else rO l i id

/-- Whether one of the first i capabilities gives a task a right. -/
def seO (l : List Cp) : Nat → Int × Rt → Bool
 | 0, _ => false
 | i + 1, k => if (l[i]!.owner, l[i]!.r) = k then true else seO l i k

def lastId (l : List Cp) : Nat → Int
 | 0 => 0
 | i + 1 => l[i]!.id

def capOk (nx : Int) (l : List Cp) (j : Nat) : Bool :=
 decide (lastId l j < l[j]!.id) && (decide (l[j]!.id < nx) && (rtP l[j]!.r && (decide (0 ≤ l[j]!.owner ∧ l[j]!.owner < 32) && (!seO l j (l[j]!.owner, l[j]!.r) &&
  (if l[j]!.parent = 0 then decide (l[j]!.owner = 0) else match rO l j l[j]!.parent with
   | none => false
   | some r => rtEq r l[j]!.r)))))

def rtV (r : Rt) : Value := .agg ⟨rtC r⟩
def heldV (k : Int × Rt) : Value := aggI [k.1, k.2.ty, k.2.peer, k.2.code]
theorem heldV_inj (a b : Int × Rt) (h : heldV a = heldV b) : a = b := by
 have := aggI_inj h
 obtain ⟨a1, a2, a3, a4⟩ := a
 obtain ⟨b1, b2, b3, b4⟩ := b
 simp at this
 obtain ⟨rfl, rfl, rfl, rfl⟩ := this
 rfl
theorem intV_inj (a b : Int) (h : intV a = intV b) : a = b := by
 unfold intV at h
 injection h

theorem rO_none {l : List Cp} : ∀ {i : Nat}, (∀ j, j < i → lastId l j < l[j]!.id) → ∀ {id : Int}, lastId l i < id → rO l i id = none
 | 0, _, _, _ => rfl
 | i + 1, h, id, hid => by
  have h1 := h i (by omega)
  have h2 : l[i]!.id < id := hid
  unfold rO
  rw [if_neg (by omega)]
  exact rO_none (fun j hj => h j (by omega)) (by omega)

theorem capOk_id {nx : Int} {l : List Cp} {j : Nat} (h : capOk nx l j = true) : lastId l j < l[j]!.id := by
 unfold capOk at h
 simp only [Bool.and_eq_true, decide_eq_true_eq] at h
 exact h.1

theorem capsValid_spec (nx : Int) (l : List Cp) (h : Hd) (hh : h.Ok l.length) (hl : l.length ≤ 140737488355328) :
 PureSpec Tryz.prog 106 [.agg ⟨[.int .i64 nx, h.v l.length]⟩] (fun w => RowAt w h.a (l.flatMap cpC)) (fun v F => v = .bool (allI l.length (capOk nx l) && decide (l.length ≤ 400 ∧ 1 ≤ nx ∧ nx ≤ 1099511627776))) := by
 refine PureSpec.of_xc tabOk Tryz.func106 rfl (by decide) (n := Tryz.f106.ntmps - 1) rfl rfl fun w0 av => ?_
 conv => whnf
 repeat (first | (refine XSame.of ?_; conv => whnf) | (refine XDep.all _ _ _ _ ?_; conv => whnf))
 intro b0
 conv => whnf
 repeat (first | (refine XSame.of ?_; conv => whnf) | (refine XDep.all _ _ _ _ ?_; conv => whnf))
 refine XVal.makeMapG fun m1 => ?_
 conv => whnf
 repeat (first | (refine XSame.of ?_; conv => whnf) | (refine XDep.all _ _ _ _ ?_; conv => whnf))
 refine XVal.makeMapG fun m2 => ?_
 conv => whnf
 repeat (first | (refine XSame.of ?_; conv => whnf) | (refine XDep.all _ _ _ _ ?_; conv => whnf))
 refine XStop.loop tabOk (ι := Nat × KVs × KVs) ([5, 7, 8, 9, 10] ++ List.range' 16 81) (fun x => x.1 ≤ l.length ∧ (∀ j, j < x.1 → capOk nx l j = true) ∧ MapF intV x.2.1 (fun id => (rO l x.1 id).map rtV) ∧ MapF heldV x.2.2 (fun k => if seO l x.1 k then some (.bool true) else none))
  (fun x => [(5, .v (.int .i64 (lastId l x.1))), (16, .v (.int .i64 (x.1 : Int)))]) (fun _ => [[.int .i64 nx, h.v l.length]]) (fun x => ⟨fun w => RowAt w h.a (l.flatMap cpC), [(m1, Row.m (mapG x.2.1) x.2.1.length), (m2, Row.m (mapG x.2.2) x.2.2.length)]⟩)
  (fun x => l.length - x.1) (0, [], []) ⟨Nat.zero_le _, fun j h => by omega, MapF.empty intV_inj fun a => rfl, MapF.empty heldV_inj fun a => rfl⟩ ?_ rfl (Ent.refl _) fun x hx => ?_
 · conv => whnf
   repeat (first | exact FLe.nil | refine FLe.any ?_ | refine FLe.cons ?_)
 obtain ⟨i, kv1, kv2⟩ := x
 obtain ⟨hi, hall, hm1, hm2⟩ := hx
 dsimp only at hi hall hm1 hm2 ⊢
 conv => whnf
 repeat (first | (refine XSame.of ?_; conv => whnf) | (refine XDep.all _ _ _ _ ?_; conv => whnf))
 refine XIf.split (fun hlt => ?_) (fun hlt => ?_)
 · have hlt' : i < l.length := by
    simp only [iLt_eq, decide_eq_true_eq] at hlt
    omega
   have hpr := rtProper_spec l[i].r
   obtain ⟨q1, heq1⟩ : ∃ x, x = rtP l[i].r := ⟨_, rfl⟩
   rw [← heq1] at hpr
   conv => whnf
   repeat (first | (refine XSame.of ?_; conv => whnf) | (refine XDep.all _ _ _ _ ?_; conv => whnf))
   refine XVal.of_read (XRead.index tabOk (t := 93) rfl rfl rfl (by omega) (by omega) hh.nil fun ad had => ?_)
   conv => whnf
   repeat (first | (refine XSame.of ?_; conv => whnf) | (refine XDep.all _ _ _ _ ?_; conv => whnf))
   refine XVal.of_read (XRead.loads tabOk (t := 252) rfl rfl (ad := ad) (k := i * 6) (L := l.flatMap cpC) (m := cpC l[i]) (.fact fun w hw => had ▸ hw) (by simp) (fm_get (cf := cpC) (z := 6) (fun _ => rfl) hlt') rfl ?_)
   conv => whnf
   repeat (first | (refine XSame.of ?_; conv => whnf) | (refine XDep.all _ _ _ _ ?_; conv => whnf))
   intro b7
   conv => whnf
   repeat (first | (refine XSame.of ?_; conv => whnf) | (refine XDep.all _ _ _ _ ?_; conv => whnf))
   intro b8
   conv => whnf
   repeat (first | (refine XSame.of ?_; conv => whnf) | (refine XDep.all _ _ _ _ ?_; conv => whnf))
   have hok : capOk nx l i = (decide (lastId l i < l[i].id) && (decide (l[i].id < nx) && (rtP l[i].r && (decide (0 ≤ l[i].owner ∧ l[i].owner < 32) && (!seO l i (l[i].owner, l[i].r) &&
    (if l[i].parent = 0 then decide (l[i].owner = 0) else match rO l i l[i].parent with
     | none => false
     | some r => rtEq r l[i].r)))))) := by
    unfold capOk
    rw [bang hlt']
   have hnext : capOk nx l i = true → ∀ j, j < i + 1 → capOk nx l j = true := fun hs j hj => by
    rcases Nat.lt_or_eq_of_le (Nat.lt_succ_iff.1 hj) with h5 | h5
    · exact hall j h5
    · exact h5 ▸ hs
   have hk2 : ∀ k : Int × Rt, IsAgg 4 (heldV k) := fun k => ⟨_, rfl, rfl⟩
   have hk1 : ∀ k : Int, MapKept.IsKey (.int .i64) (intV k) := fun k => rfl
   rcases hse : seO l i (l[i].owner, l[i].r) with _ | _ <;> rcases hro : rO l i l[i].parent with _ | r
   · repeat' (first
      | (refine And.intro ?_ ?_ <;> conv => whnf)
      | (refine XHeld.same rfl ?_; conv => whnf)
      | (refine XHeld.row rfl ?_; conv => whnf)
      | (refine XHeld.call rfl ?_; conv => whnf)
      | (refine XHeld.factCall rfl ?_; conv => whnf)
      | (refine XKeep.of ?_; conv => whnf)
      | (refine XSame.of ?_; conv => whnf)
      | (refine XDep.all _ _ _ _ ?_; conv => whnf)
      | (refine XCall.val hpr (fun w hw => trivial) (fun v D hv => ?_); subst hv; conv => whnf)
      | (refine XVal.of_read (XRead.lookupNoT tabOk (t := 310) rfl rfl rfl heldKey (k := heldV (l[i].owner, l[i].r)) (z := .bool false) (SeesM.row (by simp)) (hk2 _) (hm2.all hk2) (hm2.no (by rw [hse]; rfl)) (by kernel_rfl) ?_); rw [if_neg (by decide)]; conv => whnf)
      | (refine XVal.of_read (XRead.lookupNo tabOk (t := 309) rfl rfl rfl (d := .int .i64) rfl (k := intV l[i].parent) (z := rtV ⟨0, 0, 0⟩) (SeesM.row (by simp)) (hk1 _) (hm1.all hk1) (hm1.no (by rw [hro]; rfl)) (by kernel_rfl) ?_); rw [if_pos rfl]; conv => whnf)
      | (intro b9; conv => whnf)
      | (split <;> conv => whnf)
      | (refine XHeld.mk ?_ ?_; (focus (first | exact Ent.refl _ | exact Ent.left _ _ | exact Ent.of_le ⟨List.sublist_append_left _ _, fun w h => h⟩ | exact Ent.of_le ⟨List.Sublist.refl _, fun w h => h.1⟩)); conv => whnf))
     all_goals try (refine ⟨_, Ent.refl _, ?_⟩; rw [allI_false hlt' (by rw [hok, hse, hro, ← heq1]; clear hpr hall hm1 hm2 hnext hok; cases q1 <;> simp_all [iLe_eq, iGe_eq, iLt_eq, iEq_eq, iNe_eq, rtEq] <;> (try omega))]; first | done | rfl)
     all_goals
      have hgood : capOk nx l i = true := by rw [hok, hse, hro, ← heq1]; clear hpr hall hm1 hm2 hnext hok; cases q1 <;> simp_all [iLe_eq, iGe_eq, iLt_eq, iEq_eq, iNe_eq, rtEq] <;> (try omega)
      have hfr : rO l i l[i].id = none := rO_none (fun j hj => capOk_id (hall j hj)) (by have := capOk_id hgood; rwa [bang hlt'] at this)
      have hli : lastId l (i + 1) = l[i].id := bang hlt' ▸ rfl
      have hn1 := hm1.push (a := l[i].id) (v := rtV l[i].r) (g := fun id => (rO l (i + 1) id).map rtV) (by rw [hfr]; rfl) (fun b => by
       conv => lhs; unfold rO
       rw [bang hlt']
       split <;> rfl)
      have hn2 := hm2.push (a := (l[i].owner, l[i].r)) (v := .bool true) (g := fun k => if seO l (i + 1) k then some (.bool true) else none) (by rw [hse]; rfl) (fun b => by
       conv => lhs; unfold seO
       rw [bang hlt']
       by_cases hb : (l[i].owner, l[i].r) = b
       · rw [if_pos hb, if_pos hb]; rfl
       · rw [if_neg hb, if_neg hb])
      refine XStop.draw tabOk mixed rfl rfl ?_
      conv => whnf
      repeat' (first
       | (refine And.intro ?_ ?_ <;> conv => whnf)
       | (refine XHeld.same rfl ?_; conv => whnf)
       | (refine XHeld.row rfl ?_; conv => whnf)
       | (refine XHeld.call rfl ?_; conv => whnf)
       | (refine XHeld.factCall rfl ?_; conv => whnf)
       | (refine XKeep.of ?_; conv => whnf)
       | (refine XSame.of ?_; conv => whnf)
       | (refine XDep.all _ _ _ _ ?_; conv => whnf)
       | (refine XUnit.mapNew tabOk (t := 309) rfl rfl rfl (d := .int .i64) rfl (r1 := []) (r2 := [(m2, Row.m (mapG kv2) kv2.length)]) (b := m1) (l := kv1) (k := intV l[i].id) (v := rtV l[i].r) (hk1 _) (hm1.all hk1) (hm1.no (by rw [hfr]; rfl)) ?_; conv => whnf)
       | (refine XUnit.mapNewT tabOk (t := 310) rfl rfl rfl heldKey (r1 := [(m1, Row.m (mapG (kv1 ++ [(intV l[i].id, rtV l[i].r)])) (kv1 ++ [(intV l[i].id, rtV l[i].r)]).length)]) (r2 := []) (b := m2) (l := kv2) (k := heldV (l[i].owner, l[i].r)) (v := .bool true) (hk2 _) (hm2.all hk2) (hm2.no (by rw [hse]; rfl)) ?_; conv => whnf)
       | (refine XHeld.mk ?_ ?_; (focus (first | exact Ent.refl _ | exact Ent.left _ _ | exact Ent.of_le ⟨List.sublist_append_left _ _, fun w h => h⟩ | exact Ent.of_le ⟨List.Sublist.refl _, fun w h => h.1⟩)); conv => whnf))
      all_goals
       refine ⟨(i + 1, kv1 ++ [(intV l[i].id, rtV l[i].r)], kv2 ++ [(heldV (l[i].owner, l[i].r), .bool true)]), ⟨⟨hlt', hnext hgood, hn1, hn2⟩, by dsimp only; omega⟩, ?_, ?_, Ent.refl _⟩
       · conv => whnf
         refine ⟨?_, rfl⟩
         repeat (first | exact FLe.nil | refine FLe.any ?_ | refine FLe.cons ?_ | refine FLe.eq (by rw [wrap_i64 (by omega)]; rfl) ?_ | refine FLe.eq (by show SV.v (Value.int .i64 (lastId l (i + 1))) = _; rw [hli]) ?_ | refine FLe.eq (by show _ = SV.v (Value.int .i64 (lastId l (i + 1))); rw [hli]) ?_)
       · conv => whnf
         exact ⟨⟨rfl, rfl⟩, trivial⟩
   · repeat' (first
      | (refine And.intro ?_ ?_ <;> conv => whnf)
      | (refine XHeld.same rfl ?_; conv => whnf)
      | (refine XHeld.row rfl ?_; conv => whnf)
      | (refine XHeld.call rfl ?_; conv => whnf)
      | (refine XHeld.factCall rfl ?_; conv => whnf)
      | (refine XKeep.of ?_; conv => whnf)
      | (refine XSame.of ?_; conv => whnf)
      | (refine XDep.all _ _ _ _ ?_; conv => whnf)
      | (refine XCall.val hpr (fun w hw => trivial) (fun v D hv => ?_); subst hv; conv => whnf)
      | (refine XVal.of_read (XRead.lookupNoT tabOk (t := 310) rfl rfl rfl heldKey (k := heldV (l[i].owner, l[i].r)) (z := .bool false) (SeesM.row (by simp)) (hk2 _) (hm2.all hk2) (hm2.no (by rw [hse]; rfl)) (by kernel_rfl) ?_); rw [if_neg (by decide)]; conv => whnf)
      | (refine XVal.of_read (XRead.lookupIn tabOk (t := 309) rfl rfl rfl (d := .int .i64) rfl (k := intV l[i].parent) (v := rtV r) (SeesM.row (by simp)) (hk1 _) (hm1.all hk1) (fun i2 u2 h2 => hm1.val (by rw [hro]; rfl) i2 u2 h2) (hm1.has _ _ (by rw [hro]; rfl)) ?_); rw [if_pos rfl]; conv => whnf)
      | (refine XVal.of_read (XRead.neAgg rightEq (by kernel_rfl) (xs := [r.ty, r.peer, r.code]) (ys := [l[i].r.ty, l[i].r.peer, l[i].r.code]) rfl rfl ?_); conv => whnf)
      | (intro b9; conv => whnf)
      | (split <;> conv => whnf)
      | (refine XHeld.mk ?_ ?_; (focus (first | exact Ent.refl _ | exact Ent.left _ _ | exact Ent.of_le ⟨List.sublist_append_left _ _, fun w h => h⟩ | exact Ent.of_le ⟨List.Sublist.refl _, fun w h => h.1⟩)); conv => whnf))
     all_goals try (refine ⟨_, Ent.refl _, ?_⟩; rw [allI_false hlt' (by rw [hok, hse, hro, ← heq1]; clear hpr hall hm1 hm2 hnext hok; cases q1 <;> simp_all [iLe_eq, iGe_eq, iLt_eq, iEq_eq, iNe_eq, rtEq] <;> (try omega))]; first | done | rfl)
     all_goals
      have hgood : capOk nx l i = true := by rw [hok, hse, hro, ← heq1]; clear hpr hall hm1 hm2 hnext hok; cases q1 <;> simp_all [iLe_eq, iGe_eq, iLt_eq, iEq_eq, iNe_eq, rtEq] <;> (try omega)
      have hfr : rO l i l[i].id = none := rO_none (fun j hj => capOk_id (hall j hj)) (by have := capOk_id hgood; rwa [bang hlt'] at this)
      have hli : lastId l (i + 1) = l[i].id := bang hlt' ▸ rfl
      have hn1 := hm1.push (a := l[i].id) (v := rtV l[i].r) (g := fun id => (rO l (i + 1) id).map rtV) (by rw [hfr]; rfl) (fun b => by
       conv => lhs; unfold rO
       rw [bang hlt']
       split <;> rfl)
      have hn2 := hm2.push (a := (l[i].owner, l[i].r)) (v := .bool true) (g := fun k => if seO l (i + 1) k then some (.bool true) else none) (by rw [hse]; rfl) (fun b => by
       conv => lhs; unfold seO
       rw [bang hlt']
       by_cases hb : (l[i].owner, l[i].r) = b
       · rw [if_pos hb, if_pos hb]; rfl
       · rw [if_neg hb, if_neg hb])
      refine XStop.draw tabOk mixed rfl rfl ?_
      conv => whnf
      repeat' (first
       | (refine And.intro ?_ ?_ <;> conv => whnf)
       | (refine XHeld.same rfl ?_; conv => whnf)
       | (refine XHeld.row rfl ?_; conv => whnf)
       | (refine XHeld.call rfl ?_; conv => whnf)
       | (refine XHeld.factCall rfl ?_; conv => whnf)
       | (refine XKeep.of ?_; conv => whnf)
       | (refine XSame.of ?_; conv => whnf)
       | (refine XDep.all _ _ _ _ ?_; conv => whnf)
       | (refine XUnit.mapNew tabOk (t := 309) rfl rfl rfl (d := .int .i64) rfl (r1 := []) (r2 := [(m2, Row.m (mapG kv2) kv2.length)]) (b := m1) (l := kv1) (k := intV l[i].id) (v := rtV l[i].r) (hk1 _) (hm1.all hk1) (hm1.no (by rw [hfr]; rfl)) ?_; conv => whnf)
       | (refine XUnit.mapNewT tabOk (t := 310) rfl rfl rfl heldKey (r1 := [(m1, Row.m (mapG (kv1 ++ [(intV l[i].id, rtV l[i].r)])) (kv1 ++ [(intV l[i].id, rtV l[i].r)]).length)]) (r2 := []) (b := m2) (l := kv2) (k := heldV (l[i].owner, l[i].r)) (v := .bool true) (hk2 _) (hm2.all hk2) (hm2.no (by rw [hse]; rfl)) ?_; conv => whnf)
       | (refine XHeld.mk ?_ ?_; (focus (first | exact Ent.refl _ | exact Ent.left _ _ | exact Ent.of_le ⟨List.sublist_append_left _ _, fun w h => h⟩ | exact Ent.of_le ⟨List.Sublist.refl _, fun w h => h.1⟩)); conv => whnf))
      all_goals
       refine ⟨(i + 1, kv1 ++ [(intV l[i].id, rtV l[i].r)], kv2 ++ [(heldV (l[i].owner, l[i].r), .bool true)]), ⟨⟨hlt', hnext hgood, hn1, hn2⟩, by dsimp only; omega⟩, ?_, ?_, Ent.refl _⟩
       · conv => whnf
         refine ⟨?_, rfl⟩
         repeat (first | exact FLe.nil | refine FLe.any ?_ | refine FLe.cons ?_ | refine FLe.eq (by rw [wrap_i64 (by omega)]; rfl) ?_ | refine FLe.eq (by show SV.v (Value.int .i64 (lastId l (i + 1))) = _; rw [hli]) ?_ | refine FLe.eq (by show _ = SV.v (Value.int .i64 (lastId l (i + 1))); rw [hli]) ?_)
       · conv => whnf
         exact ⟨⟨rfl, rfl⟩, trivial⟩
   · repeat' (first
      | (refine And.intro ?_ ?_ <;> conv => whnf)
      | (refine XHeld.same rfl ?_; conv => whnf)
      | (refine XHeld.row rfl ?_; conv => whnf)
      | (refine XHeld.call rfl ?_; conv => whnf)
      | (refine XHeld.factCall rfl ?_; conv => whnf)
      | (refine XKeep.of ?_; conv => whnf)
      | (refine XSame.of ?_; conv => whnf)
      | (refine XDep.all _ _ _ _ ?_; conv => whnf)
      | (refine XCall.val hpr (fun w hw => trivial) (fun v D hv => ?_); subst hv; conv => whnf)
      | (refine XVal.of_read (XRead.lookupInT tabOk (t := 310) rfl rfl rfl heldKey (k := heldV (l[i].owner, l[i].r)) (v := .bool true) (SeesM.row (by simp)) (hk2 _) (hm2.all hk2) (fun i2 u2 h2 => hm2.val (by rw [hse]; rfl) i2 u2 h2) (hm2.has _ _ (by rw [hse]; rfl)) ?_); rw [if_neg (by decide)]; conv => whnf)
      | (refine XVal.of_read (XRead.lookupNo tabOk (t := 309) rfl rfl rfl (d := .int .i64) rfl (k := intV l[i].parent) (z := rtV ⟨0, 0, 0⟩) (SeesM.row (by simp)) (hk1 _) (hm1.all hk1) (hm1.no (by rw [hro]; rfl)) (by kernel_rfl) ?_); rw [if_pos rfl]; conv => whnf)
      | (intro b9; conv => whnf)
      | (split <;> conv => whnf)
      | (refine XHeld.mk ?_ ?_; (focus (first | exact Ent.refl _ | exact Ent.left _ _ | exact Ent.of_le ⟨List.sublist_append_left _ _, fun w h => h⟩ | exact Ent.of_le ⟨List.Sublist.refl _, fun w h => h.1⟩)); conv => whnf))
     all_goals try (refine ⟨_, Ent.refl _, ?_⟩; rw [allI_false hlt' (by rw [hok, hse, hro, ← heq1]; clear hpr hall hm1 hm2 hnext hok; cases q1 <;> simp_all [iLe_eq, iGe_eq, iLt_eq, iEq_eq, iNe_eq, rtEq] <;> (try omega))]; first | done | rfl)
   · repeat' (first
      | (refine And.intro ?_ ?_ <;> conv => whnf)
      | (refine XHeld.same rfl ?_; conv => whnf)
      | (refine XHeld.row rfl ?_; conv => whnf)
      | (refine XHeld.call rfl ?_; conv => whnf)
      | (refine XHeld.factCall rfl ?_; conv => whnf)
      | (refine XKeep.of ?_; conv => whnf)
      | (refine XSame.of ?_; conv => whnf)
      | (refine XDep.all _ _ _ _ ?_; conv => whnf)
      | (refine XCall.val hpr (fun w hw => trivial) (fun v D hv => ?_); subst hv; conv => whnf)
      | (refine XVal.of_read (XRead.lookupInT tabOk (t := 310) rfl rfl rfl heldKey (k := heldV (l[i].owner, l[i].r)) (v := .bool true) (SeesM.row (by simp)) (hk2 _) (hm2.all hk2) (fun i2 u2 h2 => hm2.val (by rw [hse]; rfl) i2 u2 h2) (hm2.has _ _ (by rw [hse]; rfl)) ?_); rw [if_neg (by decide)]; conv => whnf)
      | (refine XVal.of_read (XRead.lookupIn tabOk (t := 309) rfl rfl rfl (d := .int .i64) rfl (k := intV l[i].parent) (v := rtV r) (SeesM.row (by simp)) (hk1 _) (hm1.all hk1) (fun i2 u2 h2 => hm1.val (by rw [hro]; rfl) i2 u2 h2) (hm1.has _ _ (by rw [hro]; rfl)) ?_); rw [if_pos rfl]; conv => whnf)
      | (refine XVal.of_read (XRead.neAgg rightEq (by kernel_rfl) (xs := [r.ty, r.peer, r.code]) (ys := [l[i].r.ty, l[i].r.peer, l[i].r.code]) rfl rfl ?_); conv => whnf)
      | (intro b9; conv => whnf)
      | (split <;> conv => whnf)
      | (refine XHeld.mk ?_ ?_; (focus (first | exact Ent.refl _ | exact Ent.left _ _ | exact Ent.of_le ⟨List.sublist_append_left _ _, fun w h => h⟩ | exact Ent.of_le ⟨List.Sublist.refl _, fun w h => h.1⟩)); conv => whnf))
     all_goals try (refine ⟨_, Ent.refl _, ?_⟩; rw [allI_false hlt' (by rw [hok, hse, hro, ← heq1]; clear hpr hall hm1 hm2 hnext hok; cases q1 <;> simp_all [iLe_eq, iGe_eq, iLt_eq, iEq_eq, iNe_eq, rtEq] <;> (try omega))]; first | done | rfl)
 · have hie : i = l.length := by
    simp only [iLt_eq, decide_eq_false_iff_not] at hlt
    omega
   subst hie
   conv => whnf
   repeat (first | (refine XSame.of ?_; conv => whnf) | (refine XDep.all _ _ _ _ ?_; conv => whnf))
   refine ⟨_, Ent.refl _, ?_⟩
   rw [allI_true hall, Bool.true_and]
   congr 1
   rw [Bool.eq_iff_iff]
   simp [iLe_eq, iGe_eq, and_assoc]
   try omega

end Go.Proofs.YtakammghcodmgaaGreatDoor
namespace Go.Proofs.YtakammghcodmgaaGreatDoor
open Go Go.Sx
set_option maxRecDepth 100000
set_option maxHeartbeats 4000000
set_option linter.unusedVariables false
set_option linter.unusedSimpArgs false

structure Tsk where
 kind : Int
 st : Int
 call : Int
 stp : Bool
 cls : Bool
 dn : Bool
 res : Int
 data : Bs
instance : Inhabited Tsk := ⟨⟨0, 0, 0, false, false, false, 0, default⟩⟩
def tskC (x : Tsk) : List Value := [.int .i64 x.kind, .int .i64 x.st, .int .i64 x.call, .bool x.stp, .bool x.cls, .bool x.dn, .int .i64 x.res, bsV x.data]

end Go.Proofs.YtakammghcodmgaaGreatDoor
namespace Go.Proofs.YtakammghcodmgaaGreatDoor
open Go Go.Sx
set_option maxRecDepth 100000
set_option maxHeartbeats 4000000
set_option linter.unusedVariables false
set_option linter.unusedSimpArgs false

/-- The tasks of a state that is given by its cells. -/
structure TsksAt (C : List Value) (T : Nat → Tsk) : Prop where
 len : C.length = 376
 at' : ∀ i, i < 32 → (C.drop (i * 8)).take 8 = tskC (T i)

theorem TsksAt.get {C : List Value} {T : Nat → Tsk} (h : TsksAt C T) {i : Nat} (hi : i < 32) : ((C.take 256).drop (i * 8)).take 8 = tskC (T i) := by
 rw [← h.at' i hi]
 apply List.ext_getElem?
 intro j
 rw [List.getElem?_take, List.getElem?_take, List.getElem?_drop, List.getElem?_drop, List.getElem?_take]
 by_cases hj : j < 8
 · rw [if_pos hj, if_pos hj, if_pos (by omega)]
 · rw [if_neg hj, if_neg hj]

end Go.Proofs.YtakammghcodmgaaGreatDoor
namespace Go.Proofs.YtakammghcodmgaaGreatDoor
open Go Go.Sx
set_option maxRecDepth 100000
set_option maxHeartbeats 4000000
set_option linter.unusedVariables false
set_option linter.unusedSimpArgs false

theorem TsksAt.kind {C : List Value} {T : Nat → Tsk} (h : TsksAt C T) {i : Nat} (hi : i < 32) : C[i * 8]? = some (.int .i64 (T i).kind) := by
 have := congrArg (·[0]?) (h.at' i hi)
 simpa [tskC] using this

end Go.Proofs.YtakammghcodmgaaGreatDoor
namespace Go.Proofs.YtakammghcodmgaaGreatDoor
open Go Go.Sx
set_option maxRecDepth 100000
set_option maxHeartbeats 4000000
set_option linter.unusedVariables false
set_option linter.unusedSimpArgs false

end Go.Proofs.YtakammghcodmgaaGreatDoor
namespace Go.Proofs.YtakammghcodmgaaGreatDoor
open Go Go.Sx
set_option maxRecDepth 100000
set_option maxHeartbeats 4000000
set_option linter.unusedVariables false
set_option linter.unusedSimpArgs false

end Go.Proofs.YtakammghcodmgaaGreatDoor
namespace Go.Proofs.YtakammghcodmgaaGreatDoor
open Go Go.Sx
set_option maxRecDepth 100000
set_option maxHeartbeats 4000000
set_option linter.unusedVariables false
set_option linter.unusedSimpArgs false

/-- A list with the handle of its row. -/
structure Sl (α : Type) where
 h : Hd
 l : List α
instance {α : Type} : Inhabited (Sl α) := ⟨⟨Hd.nil, []⟩⟩
def Sl.v {α : Type} (x : Sl α) : Value := x.h.v x.l.length
structure Sl.Ok {α : Type} (x : Sl α) : Prop where
 h : x.h.Ok x.l.length
 le : x.l.length ≤ 140737488355328
def Sl.At {α : Type} (x : Sl α) (cf : α → List Value) (w : World) : Prop := RowAt w x.h.a (x.l.flatMap cf)
def Sl.As {α : Type} (x : Sl α) (vf : α → Value) (w : World) : Prop := RowAt w x.h.a (x.l.map vf)

structure Trf where
 tag : Int
 frame : Int
 w : Bool
 opn : Bool
def trfC (x : Trf) : List Value := [.int .i64 x.tag, .int .i64 x.frame, .bool x.w, .bool x.opn]
structure En where
 kind : Int
 task : Int
 call : Int
 a0 : Int
 a1 : Int
 a2 : Int
 res : Int
 data : Bs
instance : Inhabited En := ⟨⟨0, 0, 0, 0, 0, 0, 0, default⟩⟩
def enC (x : En) : List Value := [.int .i64 x.kind, .int .i64 x.task, .int .i64 x.call, .int .i64 x.a0, .int .i64 x.a1, .int .i64 x.a2, .int .i64 x.res, bsV x.data]
structure Acc where
 task : Int
 dev : Int
 frame : Int
 frm : Int
 len : Int
 w : Bool
def accC (x : Acc) : List Value := [.int .i64 x.task, .int .i64 x.dev, .int .i64 x.frame, .int .i64 x.frm, .int .i64 x.len, .bool x.w]
structure Nws where
 kind : Int
 task : Int
 other : Int

structure Sta where
 T : Nat → Tsk
 D : Nat → Bool
 q : Sl Mg
 pr : Sl Pr
 nx : Int
 cp : Sl Cp
 gr : Sl Gr
 ti : Sl Ti
 qu : Sl Int
 pg : Sl Bs
 sp : Nat → Sl Se
 wi : Sl Win
 bk : Sl Bs
 dc : Chn
 tr : Trf
 lk : Lnk
 se : Ser
 now : Int
 al : Sl Al
 M : Nat → Bool
 pe : Sl Lin
 rc : Sl En
 ac : Sl Acc
 nw : Sl Nws

structure StaAt (C : List Value) (s : Sta) : Prop where
 len : C.length = 376
 one : ∀ v ∈ C, oneCell v = true
 T : ∀ i, i < 32 → (C.drop (i * 8)).take 8 = tskC (s.T i)
 D : ∀ i, i < 11 → C[256 + i]? = some (.bool (s.D i))
 po : (C.drop 267).take 2 = [s.q.v, s.pr.v]
 ca : (C.drop 269).take 2 = [.int .i64 s.nx, s.cp.v]
 gr : C[271]? = some s.gr.v
 ti : C[272]? = some s.ti.v
 qu : C[273]? = some s.qu.v
 pg : (C.drop 274).take 1 = [s.pg.v]
 sp : ∀ i, i < 32 → C[275 + i]? = some (s.sp i).v
 wi : C[307]? = some s.wi.v
 dk : (C.drop 308).take 10 = s.bk.v :: dchC s.dc
 tr : (C.drop 318).take 4 = trfC s.tr
 lk : (C.drop 322).take 22 = lnkC s.lk
 se : (C.drop 344).take 21 = serC s.se
 ck : (C.drop 365).take 2 = [.int .i64 s.now, s.al.v]
 iq : (C.drop 367).take 6 = [.bool (s.M 0), .bool (s.M 1), .bool (s.M 2), .bool (s.M 3), .bool (s.M 4), s.pe.v]
 rc : C[373]? = some s.rc.v
 ac : C[374]? = some s.ac.v
 nw : C[375]? = some s.nw.v

structure Sta.Wide (s : Sta) : Prop where
 q : s.q.Ok
 pr : s.pr.Ok
 cp : s.cp.Ok
 gr : s.gr.Ok
 ti : s.ti.Ok
 qu : s.qu.Ok
 pg : s.pg.Ok
 sp : ∀ i, i < 32 → (s.sp i).Ok
 wi : s.wi.Ok
 bk : s.bk.Ok
 fh : s.lk.fh.Ok s.lk.fly.length
 fl : s.lk.fly.length ≤ 140737488355328
 wh : s.lk.wh.Ok s.lk.wait.length
 wl : s.lk.wait.length ≤ 140737488355328
 al : s.al.Ok
 pe : s.pe.Ok
 rc : s.rc.Ok
 ac : s.ac.Ok
 nw : s.nw.Ok

structure Sta.Ok (s : Sta) : Prop extends s.Wide where
 gl : s.gr.l.length ≤ 1000000
 sl : ∀ i, i < 32 → (s.sp i).l.length ≤ 1000000

structure Sta.Rows (s : Sta) (w : World) : Prop where
 q : s.q.At mgC w
 pr : s.pr.At prC w
 cp : s.cp.At cpC w
 gr : s.gr.At grC w
 ti : s.ti.At tiC w
 qu : s.qu.As intV w
 pg : s.pg.As bsV w
 sp : ∀ i, i < 32 → (s.sp i).At seC w
 wi : s.wi.At winC w
 bk : s.bk.As bsV w
 fl : RowAt w s.lk.fh.a (s.lk.fly.flatMap fliC)
 wt : RowAt w s.lk.wh.a (s.lk.wait.map bsV)
 al : s.al.At alC w
 pe : s.pe.At linC w
 rc : s.rc.At enC w
 ac : s.ac.At accC w

/-- A cell out of a run of cells. -/
theorem cellOf {C m : List Value} {k n : Nat} (h : (C.drop k).take n = m) {j : Nat} {v : Value} (hj : j < n) (hv : m[j]? = some v) : C[k + j]? = some v := by
 rw [← h, List.getElem?_take, if_pos hj, List.getElem?_drop] at hv
 exact hv

end Go.Proofs.YtakammghcodmgaaGreatDoor
namespace Go.Proofs.YtakammghcodmgaaGreatDoor
open Go Go.Sx
set_option maxRecDepth 100000
set_option maxHeartbeats 4000000
set_option linter.unusedVariables false
set_option linter.unusedSimpArgs false

end Go.Proofs.YtakammghcodmgaaGreatDoor
