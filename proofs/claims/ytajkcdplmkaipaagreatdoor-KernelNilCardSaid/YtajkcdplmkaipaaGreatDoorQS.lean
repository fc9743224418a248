/- Parts of the proof: AdY, AdG, AdH, AdI, AdJ, KnQ, KmH. -/
import Derived.Test.YtajkcdplmkaipaaGreatDoorQQ
import Derived.Test.YtajkcdplmkaipaaGreatDoorQK
import Derived.Test.YtajkcdplmkaipaaGreatDoorQR
namespace Go.Proofs.YtajkcdplmkaipaaGreatDoor
open Go Go.Sx
set_option maxRecDepth 100000
set_option maxHeartbeats 4000000
set_option linter.unusedVariables false
set_option linter.unusedSimpArgs false

noncomputable def lnCode : Code := Tryz.f108.body.getD .skip
def lnTm (b1 : Nat) : List SV := [.any, .v (.pointer (some ⟨b1, 0, none⟩))] ++ List.replicate 135 .any
def lnTm2 (b1 : Nat) (hl : Hd) : List SV := [.any, .v (.pointer (some ⟨b1, 0, none⟩)), .any, .any, .any, .any, .any, .any, .any, .any, .any, .any, .v (hl.v 10)] ++ List.replicate 124 .any
def RelLn (v : Value) (F : Fx) : Prop := ∃ (P : List (Ln × Hd)) (a : Addr) (c : Nat), P.map Prod.fst = bootLns ∧ (∀ x ∈ P, x.2.Ok x.1.l.length) ∧ 63 ≤ c ∧ v = .slice (some a) 63 c ∧ F = ⟨fun w => RowAt w (some a) (P.flatMap lhC) ∧ PAt P w, []⟩
noncomputable def lnEnd : Exit → KT := kEnd tab Tryz.f108.results.toList (pureFin RelLn)
def LA (n k : Nat) (w0 : World) (av : Nat → Prop) (b1 : Nat) : Prop := ∀ a cap C P, PG k P a cap C → XStop Tryz.prog w0 (fun _ _ => False) av (cTail n lnCode) (lnTm b1) [] [] ⟨PAt P, [] ++ slotRows b1 k a cap C ++ []⟩ lnEnd
def LB (n k : Nat) (w0 : World) (av : Nat → Prop) (b1 : Nat) : Prop := ∀ hl a cap C P, hl.Ok 10 → PG k P a cap C → XStop Tryz.prog w0 (fun _ _ => False) av (cTail n lnCode) (lnTm2 b1 hl) [] [] ⟨fun w => PAt P w ∧ RowAt w hl.a ((compL 1).map numV), [] ++ slotRows b1 k a cap C ++ []⟩ lnEnd

section
variable {w0 : World} {av : Nat → Prop} {b1 : Nat}
theorem hv_ok (h : Hd) (m : Nat) : (h.v m).cells.toList = [h.v m] ∧ oneCell (h.v m) = true ∧ ∃ h' m', h.v m = Hd.v h' m' := ⟨rfl, rfl, h, m, rfl⟩
theorem hd_new (b m : Nat) : (⟨some ⟨b, 0, none⟩, m⟩ : Hd).Ok m := ⟨fun h => (by cases h), Nat.le_refl _⟩

theorem ln2 (h : LA 3 4 w0 av b1) : LA 2 0 w0 av b1 := by
 intro a cap C P g
 refine XStop.cutN tabOk 1 (ι := Option Addr × Nat × List Value × List (Ln × Hd)) (fun x => PG 4 x.2.2.2 x.1 x.2.1 x.2.2.1) (fun _ => lnTm b1) (fun _ => []) (fun x => ⟨PAt x.2.2.2, [] ++ slotRows b1 4 x.1 x.2.1 x.2.2.1 ++ []⟩) ?_ ?_
 rotate_left
 · intro x hx bs' hbs'
   obtain rfl := List.eq_nil_of_length_eq_zero hbs'
   rw [cTail_add]
   exact h x.1 x.2.1 x.2.2.1 x.2.2.2 hx
 · conv => whnf
   repeat (first | (refine XSame.of ?_; conv => whnf) | (refine XDep.all _ _ _ _ ?_; conv => whnf))
   refine XVal.build tabOk rfl rfl rfl [.int .i64 3, .int .i64 4, .int .i64 5, .int .i64 10] rfl rfl (by simp [Value.cells]) (by decide) fun bv => ?_
   conv => whnf
   repeat (first | (refine XSame.of ?_; conv => whnf) | (refine XDep.all _ _ _ _ ?_; conv => whnf))
   obtain ⟨hv, hhv⟩ : ∃ hv : Hd, hv = ⟨some ⟨bv, 0, none⟩, 4⟩ := ⟨_, rfl⟩
   have hvo : hv.Ok 4 := by rw [hhv]; exact hd_new _ _
   have hva : hv.a = some ⟨bv, 0, none⟩ := by rw [hhv]
   obtain ⟨L, hL⟩ : ∃ L : List Int, L = [3, 4, 5, 10] := ⟨_, rfl⟩
   have hE : Ent (⟨PAt P, ([] ++ slotRows b1 0 a cap C ++ []) ++ [(bv, Row.c [.int .i64 3, .int .i64 4, .int .i64 5, .int .i64 10])]⟩ : Fx) ⟨fun w => PAt P w ∧ RowAt w hv.a (L.map numV), [] ++ slotRows b1 (0 + 0) a cap C ++ []⟩ := by rw [hhv, hL]; exact Ent.shareLast
   have hLl : L.length = 4 := by rw [hL]; decide
   have hLn : ∀ i, i < 4 → bootLns[0 + i]? = some ⟨1, L[i]!, 1, []⟩ := by rw [hL]; decide
   refine XStop.loop tabOk (ι := Nat × Option Addr × Nat × List Value × List (Ln × Hd)) ([3, 17] ++ List.range' 18 7) (fun x => x.1 ≤ 4 ∧ PG (0 + x.1) x.2.2.2.2 x.2.1 x.2.2.1 x.2.2.2.1) (fun x => [(17, .v (.int .i64 (x.1 : Int)))]) (fun _ => [])
    (fun x => ⟨fun w => PAt x.2.2.2.2 w ∧ RowAt w hv.a (L.map numV), [] ++ slotRows b1 (0 + x.1) x.2.1 x.2.2.1 x.2.2.2.1 ++ []⟩) (fun x => 4 - x.1) (0, a, cap, C, P) ⟨Nat.zero_le _, g⟩ ?_ rfl (Ent.trans (Ent.of_le ⟨by simp [Value.cells], fun w hw => hw⟩) hE) fun x hx => ?_
   · conv => whnf
     repeat (first | exact FLe.nil | refine FLe.any ?_ | refine FLe.cons ?_)
   clear g hE
   obtain ⟨i, a, cap, C, P⟩ := x
   obtain ⟨hi, g⟩ := hx
   dsimp only at hi g ⊢
   have hl := g.len
   have hO := g.own
   rw [hl] at hO
   conv => whnf
   repeat (first | (refine XSame.of ?_; conv => whnf) | (refine XDep.all _ _ _ _ ?_; conv => whnf))
   refine XIf.split (fun hlt => ?_) (fun hlt => ?_)
   · have hlt' : i < 4 := by
      simp [iLt_eq] at hlt
      omega
     have hx := hLn i hlt'
     have hLi : L[i]! = L[i] := by simp [hLl, hlt']
     rw [hLi] at hx
     conv => whnf
     repeat (first | (refine XSame.of ?_; conv => whnf) | (refine XDep.all _ _ _ _ ?_; conv => whnf))
     refine XVal.of_read (XRead.index tabOk rfl rfl rfl (by omega) (by omega) (fun h => by cases h) fun ad had => ?_)
     conv => whnf
     repeat (first | (refine XSame.of ?_; conv => whnf) | (refine XDep.all _ _ _ _ ?_; conv => whnf))
     refine XVal.of_read (XRead.load tabOk rfl rfl (ad := ad) (k := i) (L := L.map numV) (v := .int .i64 L[i]) (.fact fun w hw => by rw [← had, ← hva]; exact hw.2) (by simp) (by rw [List.getElem?_map, List.getElem?_eq_getElem (by omega)]; rfl) ?_)
     conv => whnf
     repeat (first | (refine XSame.of ?_; conv => whnf) | (refine XDep.all _ _ _ _ ?_; conv => whnf))
     refine XCall.rows (send_spec b1 (0 + i) a cap C _ hO (by omega) 1 L[i] (Hd.v Hd.nil 0) (hv_ok _ _)) (fun w hw => trivial) (fun v F hv' => ?_)
     obtain ⟨a', c', C', hO', rfl⟩ := hv'
     conv => whnf
     repeat (first | (refine XSame.of ?_; conv => whnf) | (refine XDep.all _ _ _ _ ?_; conv => whnf))
     refine ⟨(i + 1, a', c', C', P ++ [(⟨1, L[i], 1, []⟩, Hd.nil)]), ⟨⟨hlt', g.next hx Hd.nil_ok (by rw [hl]; exact hO')⟩, by dsimp only; omega⟩, ?_, ?_, Ent.of_le ⟨by first | exact List.Sublist.refl _ | simp, fun w hw => ⟨hw.1.1.next (show RowAt w Hd.nil.a (([] : List Int).map numV) from rfl), hw.1.2⟩⟩⟩
     · conv => whnf
       refine ⟨?_, rfl⟩
       repeat (first | exact FLe.nil | refine FLe.any ?_ | refine FLe.cons ?_ | refine FLe.eq (by rw [wrap_i64 (by omega)]; rfl) ?_)
     · conv => whnf
       exact trivial
   · have hie : i = 4 := by
      simp [iLt_eq] at hlt
      omega
     subst hie
     conv => whnf
     repeat (first | (refine XSame.of ?_; conv => whnf) | (refine XDep.all _ _ _ _ ?_; conv => whnf))
     refine ⟨(a, cap, C, P), g, [], ⟨by decide, by simp, rfl⟩, ?_, Ent.of_le ⟨List.Sublist.refl _, fun w hw => hw.1⟩⟩
     repeat (first | exact FLe.nil | refine FLe.any ?_ | refine FLe.cons ?_)

theorem ln3 (h : LA 4 13 w0 av b1) : LA 3 4 w0 av b1 := by
 intro a cap C P g
 refine XStop.cutN tabOk 1 (ι := Option Addr × Nat × List Value × List (Ln × Hd)) (fun x => PG 13 x.2.2.2 x.1 x.2.1 x.2.2.1) (fun _ => lnTm b1) (fun _ => []) (fun x => ⟨PAt x.2.2.2, [] ++ slotRows b1 13 x.1 x.2.1 x.2.2.1 ++ []⟩) ?_ ?_
 rotate_left
 · intro x hx bs' hbs'
   obtain rfl := List.eq_nil_of_length_eq_zero hbs'
   rw [cTail_add]
   exact h x.1 x.2.1 x.2.2.1 x.2.2.2 hx
 · conv => whnf
   repeat (first | (refine XSame.of ?_; conv => whnf) | (refine XDep.all _ _ _ _ ?_; conv => whnf))
   refine XCall.pure (components_spec 2 (by decide)) (fun w hw => trivial) (fun v F hv => ?_)
   obtain ⟨hv, hvo, rfl, rfl⟩ := hv
   conv => whnf
   repeat (first | (refine XSame.of ?_; conv => whnf) | (refine XDep.all _ _ _ _ ?_; conv => whnf))
   obtain ⟨L, hL⟩ : ∃ L : List Int, L = compL 2 := ⟨_, rfl⟩
   have hE : Ent (⟨fun w => PAt P w ∧ RowAt w hv.a ((compL 2).map numV), [] ++ slotRows b1 4 a cap C ++ []⟩ : Fx) ⟨fun w => PAt P w ∧ RowAt w hv.a (L.map numV), [] ++ slotRows b1 (4 + 0) a cap C ++ []⟩ := by rw [hL]; exact Ent.refl _
   have hLl : L.length = 9 := by rw [hL]; decide
   have hLn : ∀ i, i < 9 → bootLns[4 + i]? = some ⟨1, L[i]!, 6, [1]⟩ := by rw [hL]; decide
   refine XStop.loop tabOk (ι := Nat × Option Addr × Nat × List Value × List (Ln × Hd)) ([5, 26] ++ List.range' 27 7) (fun x => x.1 ≤ 9 ∧ PG (4 + x.1) x.2.2.2.2 x.2.1 x.2.2.1 x.2.2.2.1) (fun x => [(26, .v (.int .i64 (x.1 : Int)))]) (fun _ => [])
    (fun x => ⟨fun w => PAt x.2.2.2.2 w ∧ RowAt w hv.a (L.map numV), [] ++ slotRows b1 (4 + x.1) x.2.1 x.2.2.1 x.2.2.2.1 ++ []⟩) (fun x => 9 - x.1) (0, a, cap, C, P) ⟨Nat.zero_le _, g⟩ ?_ rfl (Ent.trans (Ent.of_le (F' := ⟨fun w => PAt P w ∧ RowAt w hv.a ((compL 2).map numV), [] ++ slotRows b1 4 a cap C ++ []⟩) ⟨by simp [Fx.and], fun w hw => hw⟩) hE) fun x hx => ?_
   · conv => whnf
     repeat (first | exact FLe.nil | refine FLe.any ?_ | refine FLe.cons ?_)
   clear g hE
   obtain ⟨i, a, cap, C, P⟩ := x
   obtain ⟨hi, g⟩ := hx
   dsimp only at hi g ⊢
   have hl := g.len
   have hO := g.own
   rw [hl] at hO
   conv => whnf
   repeat (first | (refine XSame.of ?_; conv => whnf) | (refine XDep.all _ _ _ _ ?_; conv => whnf))
   refine XIf.split (fun hlt => ?_) (fun hlt => ?_)
   · have hlt' : i < 9 := by
      simp [iLt_eq, compL] at hlt
      omega
     have hx := hLn i hlt'
     have hLi : L[i]! = L[i] := by simp [hLl, hlt']
     rw [hLi] at hx
     conv => whnf
     repeat (first | (refine XSame.of ?_; conv => whnf) | (refine XDep.all _ _ _ _ ?_; conv => whnf))
     refine XVal.of_read (XRead.index tabOk rfl rfl rfl (by omega) (by show (i : Int) < (((compL 2).length : Nat) : Int); rw [← hL, hLl]; omega) hvo.nil fun ad had => ?_)
     conv => whnf
     repeat (first | (refine XSame.of ?_; conv => whnf) | (refine XDep.all _ _ _ _ ?_; conv => whnf))
     refine XVal.of_read (XRead.load tabOk rfl rfl (ad := ad) (k := i) (L := L.map numV) (v := .int .i64 L[i]) (.fact fun w hw => had ▸ hw.2) (by simp) (by rw [List.getElem?_map, List.getElem?_eq_getElem (by omega)]; rfl) ?_)
     conv => whnf
     repeat (first | (refine XSame.of ?_; conv => whnf) | (refine XDep.all _ _ _ _ ?_; conv => whnf))
     refine XVal.build tabOk rfl rfl rfl [.int .i64 1] rfl rfl (by simp [Value.cells]) (by decide) fun bh => ?_
     conv => whnf
     repeat (first | (refine XSame.of ?_; conv => whnf) | (refine XDep.all _ _ _ _ ?_; conv => whnf))
     refine XCall.ent (F' := ⟨fun w => (PAt P w ∧ RowAt w hv.a (L.map numV)) ∧ RowAt w (some ⟨bh, 0, none⟩) [.int .i64 1], [] ++ slotRows b1 (4 + i) a cap C ++ []⟩) (Ent.trans (Ent.of_le (F' := ⟨fun w => PAt P w ∧ RowAt w hv.a (L.map numV), ([] ++ slotRows b1 (4 + i) a cap C ++ []) ++ [(bh, Row.c [.int .i64 1])]⟩) ⟨by simp [Value.cells], fun w hw => hw⟩) Ent.shareLast) ?_
     refine XCall.rows (send_spec b1 (4 + i) a cap C _ hO (by omega) 6 L[i] (Hd.v ⟨some ⟨bh, 0, none⟩, 1⟩ 1) (hv_ok _ _)) (fun w hw => trivial) (fun v F hv' => ?_)
     obtain ⟨a', c', C', hO', rfl⟩ := hv'
     conv => whnf
     repeat (first | (refine XSame.of ?_; conv => whnf) | (refine XDep.all _ _ _ _ ?_; conv => whnf))
     refine ⟨(i + 1, a', c', C', P ++ [(⟨1, L[i], 6, [1]⟩, ⟨some ⟨bh, 0, none⟩, 1⟩)]), ⟨⟨hlt', g.next hx (hd_new _ _) (by rw [hl]; exact hO')⟩, by dsimp only; omega⟩, ?_, ?_, Ent.of_le ⟨by first | exact List.Sublist.refl _ | simp, fun w hw => ⟨hw.1.1.1.next hw.1.2, hw.1.1.2⟩⟩⟩
     · conv => whnf
       refine ⟨?_, rfl⟩
       repeat (first | exact FLe.nil | refine FLe.any ?_ | refine FLe.cons ?_ | refine FLe.eq (by rw [wrap_i64 (by omega)]; rfl) ?_)
     · conv => whnf
       exact trivial
   · have hie : i = 9 := by
      simp [iLt_eq, compL] at hlt
      omega
     subst hie
     conv => whnf
     repeat (first | (refine XSame.of ?_; conv => whnf) | (refine XDep.all _ _ _ _ ?_; conv => whnf))
     refine ⟨(a, cap, C, P), g, [], ⟨by decide, by simp, rfl⟩, ?_, Ent.of_le ⟨List.Sublist.refl _, fun w hw => hw.1⟩⟩
     repeat (first | exact FLe.nil | refine FLe.any ?_ | refine FLe.cons ?_)

theorem ln4 (h : LA 5 14 w0 av b1) : LA 4 13 w0 av b1 := by
 intro a cap C P g
 refine XStop.cutN tabOk 1 (ι := Option Addr × Nat × List Value × List (Ln × Hd)) (fun x => PG 14 x.2.2.2 x.1 x.2.1 x.2.2.1) (fun _ => lnTm b1) (fun _ => []) (fun x => ⟨PAt x.2.2.2, [] ++ slotRows b1 14 x.1 x.2.1 x.2.2.1 ++ []⟩) ?_ ?_
 rotate_left
 · intro x hx bs' hbs'
   obtain rfl := List.eq_nil_of_length_eq_zero hbs'
   rw [cTail_add]
   exact h x.1 x.2.1 x.2.2.1 x.2.2.2 hx
 · have hl := g.len
   have hO := g.own
   rw [hl] at hO
   conv => whnf
   repeat (first | (refine XSame.of ?_; conv => whnf) | (refine XDep.all _ _ _ _ ?_; conv => whnf))
   refine XCall.pure (components_spec 2 (by decide)) (fun w hw => trivial) (fun v F hv => ?_)
   obtain ⟨hh, hho, rfl, rfl⟩ := hv
   conv => whnf
   repeat (first | (refine XSame.of ?_; conv => whnf) | (refine XDep.all _ _ _ _ ?_; conv => whnf))
   refine XCall.ent (F' := ⟨fun w => PAt P w ∧ RowAt w hh.a ((compL 2).map numV), [] ++ slotRows b1 13 a cap C ++ []⟩) (Ent.of_le ⟨by simp [Fx.and], fun w hw => hw⟩) ?_
   refine XCall.rows (send_spec b1 13 a cap C _ hO (by decide) 7 1 (Hd.v hh (compL 2).length) (hv_ok _ _)) (fun w hw => trivial) (fun v F hv => ?_)
   obtain ⟨a', c', C', hO', rfl⟩ := hv
   conv => whnf
   repeat (first | (refine XSame.of ?_; conv => whnf) | (refine XDep.all _ _ _ _ ?_; conv => whnf))
   refine ⟨(a', c', C', P ++ [(⟨1, 1, 7, compL 2⟩, hh)]), g.next rfl hho (by rw [hl]; exact hO'), [], ⟨by decide, by simp, rfl⟩, ?_, Ent.of_le ⟨by simp, fun w hw => hw.1.1.next hw.1.2⟩⟩
   repeat (first | exact FLe.nil | refine FLe.any ?_ | refine FLe.cons ?_)

theorem ln5 (h : LA 6 17 w0 av b1) : LA 5 14 w0 av b1 := by
 intro a cap C P g
 refine XStop.cutN tabOk 1 (ι := Option Addr × Nat × List Value × List (Ln × Hd)) (fun x => PG 17 x.2.2.2 x.1 x.2.1 x.2.2.1) (fun _ => lnTm b1) (fun _ => []) (fun x => ⟨PAt x.2.2.2, [] ++ slotRows b1 17 x.1 x.2.1 x.2.2.1 ++ []⟩) ?_ ?_
 rotate_left
 · intro x hx bs' hbs'
   obtain rfl := List.eq_nil_of_length_eq_zero hbs'
   rw [cTail_add]
   exact h x.1 x.2.1 x.2.2.1 x.2.2.2 hx
 · conv => whnf
   repeat (first | (refine XSame.of ?_; conv => whnf) | (refine XDep.all _ _ _ _ ?_; conv => whnf))
   refine XVal.build tabOk rfl rfl rfl [.int .i64 8, .int .i64 9, .int .i64 10] rfl rfl (by simp [Value.cells]) (by decide) fun bv => ?_
   conv => whnf
   repeat (first | (refine XSame.of ?_; conv => whnf) | (refine XDep.all _ _ _ _ ?_; conv => whnf))
   obtain ⟨hv, hhv⟩ : ∃ hv : Hd, hv = ⟨some ⟨bv, 0, none⟩, 3⟩ := ⟨_, rfl⟩
   have hvo : hv.Ok 3 := by rw [hhv]; exact hd_new _ _
   have hva : hv.a = some ⟨bv, 0, none⟩ := by rw [hhv]
   obtain ⟨L, hL⟩ : ∃ L : List Int, L = [8, 9, 10] := ⟨_, rfl⟩
   have hE : Ent (⟨PAt P, ([] ++ slotRows b1 14 a cap C ++ []) ++ [(bv, Row.c [.int .i64 8, .int .i64 9, .int .i64 10])]⟩ : Fx) ⟨fun w => PAt P w ∧ RowAt w hv.a (L.map numV), [] ++ slotRows b1 (14 + 0) a cap C ++ []⟩ := by rw [hhv, hL]; exact Ent.shareLast
   have hLl : L.length = 3 := by rw [hL]; decide
   have hLn : ∀ i, i < 3 → bootLns[14 + i]? = some ⟨1, 4, L[i]!, [3]⟩ := by rw [hL]; decide
   refine XStop.loop tabOk (ι := Nat × Option Addr × Nat × List Value × List (Ln × Hd)) ([7, 38] ++ List.range' 39 7) (fun x => x.1 ≤ 3 ∧ PG (14 + x.1) x.2.2.2.2 x.2.1 x.2.2.1 x.2.2.2.1) (fun x => [(38, .v (.int .i64 (x.1 : Int)))]) (fun _ => [])
    (fun x => ⟨fun w => PAt x.2.2.2.2 w ∧ RowAt w hv.a (L.map numV), [] ++ slotRows b1 (14 + x.1) x.2.1 x.2.2.1 x.2.2.2.1 ++ []⟩) (fun x => 3 - x.1) (0, a, cap, C, P) ⟨Nat.zero_le _, g⟩ ?_ rfl (Ent.trans (Ent.of_le ⟨by simp [Value.cells], fun w hw => hw⟩) hE) fun x hx => ?_
   · conv => whnf
     repeat (first | exact FLe.nil | refine FLe.any ?_ | refine FLe.cons ?_)
   clear g hE
   obtain ⟨i, a, cap, C, P⟩ := x
   obtain ⟨hi, g⟩ := hx
   dsimp only at hi g ⊢
   have hl := g.len
   have hO := g.own
   rw [hl] at hO
   conv => whnf
   repeat (first | (refine XSame.of ?_; conv => whnf) | (refine XDep.all _ _ _ _ ?_; conv => whnf))
   refine XIf.split (fun hlt => ?_) (fun hlt => ?_)
   · have hlt' : i < 3 := by
      simp [iLt_eq] at hlt
      omega
     have hx := hLn i hlt'
     have hLi : L[i]! = L[i] := by simp [hLl, hlt']
     rw [hLi] at hx
     conv => whnf
     repeat (first | (refine XSame.of ?_; conv => whnf) | (refine XDep.all _ _ _ _ ?_; conv => whnf))
     refine XVal.of_read (XRead.index tabOk rfl rfl rfl (by omega) (by omega) (fun h => by cases h) fun ad had => ?_)
     conv => whnf
     repeat (first | (refine XSame.of ?_; conv => whnf) | (refine XDep.all _ _ _ _ ?_; conv => whnf))
     refine XVal.of_read (XRead.load tabOk rfl rfl (ad := ad) (k := i) (L := L.map numV) (v := .int .i64 L[i]) (.fact fun w hw => by rw [← had, ← hva]; exact hw.2) (by simp) (by rw [List.getElem?_map, List.getElem?_eq_getElem (by omega)]; rfl) ?_)
     conv => whnf
     repeat (first | (refine XSame.of ?_; conv => whnf) | (refine XDep.all _ _ _ _ ?_; conv => whnf))
     refine XVal.build tabOk rfl rfl rfl [.int .i64 3] rfl rfl (by simp [Value.cells]) (by decide) fun bh => ?_
     conv => whnf
     repeat (first | (refine XSame.of ?_; conv => whnf) | (refine XDep.all _ _ _ _ ?_; conv => whnf))
     refine XCall.ent (F' := ⟨fun w => (PAt P w ∧ RowAt w hv.a (L.map numV)) ∧ RowAt w (some ⟨bh, 0, none⟩) [.int .i64 3], [] ++ slotRows b1 (14 + i) a cap C ++ []⟩) (Ent.trans (Ent.of_le (F' := ⟨fun w => PAt P w ∧ RowAt w hv.a (L.map numV), ([] ++ slotRows b1 (14 + i) a cap C ++ []) ++ [(bh, Row.c [.int .i64 3])]⟩) ⟨by simp [Value.cells], fun w hw => hw⟩) Ent.shareLast) ?_
     refine XCall.rows (send_spec b1 (14 + i) a cap C _ hO (by omega) L[i] 4 (Hd.v ⟨some ⟨bh, 0, none⟩, 1⟩ 1) (hv_ok _ _)) (fun w hw => trivial) (fun v F hv' => ?_)
     obtain ⟨a', c', C', hO', rfl⟩ := hv'
     conv => whnf
     repeat (first | (refine XSame.of ?_; conv => whnf) | (refine XDep.all _ _ _ _ ?_; conv => whnf))
     refine ⟨(i + 1, a', c', C', P ++ [(⟨1, 4, L[i], [3]⟩, ⟨some ⟨bh, 0, none⟩, 1⟩)]), ⟨⟨hlt', g.next hx (hd_new _ _) (by rw [hl]; exact hO')⟩, by dsimp only; omega⟩, ?_, ?_, Ent.of_le ⟨by first | exact List.Sublist.refl _ | simp, fun w hw => ⟨hw.1.1.1.next hw.1.2, hw.1.1.2⟩⟩⟩
     · conv => whnf
       refine ⟨?_, rfl⟩
       repeat (first | exact FLe.nil | refine FLe.any ?_ | refine FLe.cons ?_ | refine FLe.eq (by rw [wrap_i64 (by omega)]; rfl) ?_)
     · conv => whnf
       exact trivial
   · have hie : i = 3 := by
      simp [iLt_eq] at hlt
      omega
     subst hie
     conv => whnf
     repeat (first | (refine XSame.of ?_; conv => whnf) | (refine XDep.all _ _ _ _ ?_; conv => whnf))
     refine ⟨(a, cap, C, P), g, [], ⟨by decide, by simp, rfl⟩, ?_, Ent.of_le ⟨List.Sublist.refl _, fun w hw => hw.1⟩⟩
     repeat (first | exact FLe.nil | refine FLe.any ?_ | refine FLe.cons ?_)

theorem ln6 (h : LA 7 18 w0 av b1) : LA 6 17 w0 av b1 := by
 intro a cap C P g
 refine XStop.cutN tabOk 1 (ι := Option Addr × Nat × List Value × List (Ln × Hd)) (fun x => PG 18 x.2.2.2 x.1 x.2.1 x.2.2.1) (fun _ => lnTm b1) (fun _ => []) (fun x => ⟨PAt x.2.2.2, [] ++ slotRows b1 18 x.1 x.2.1 x.2.2.1 ++ []⟩) ?_ ?_
 rotate_left
 · intro x hx bs' hbs'
   obtain rfl := List.eq_nil_of_length_eq_zero hbs'
   rw [cTail_add]
   exact h x.1 x.2.1 x.2.2.1 x.2.2.2 hx
 · have hl := g.len
   have hO := g.own
   rw [hl] at hO
   conv => whnf
   repeat (first | (refine XSame.of ?_; conv => whnf) | (refine XDep.all _ _ _ _ ?_; conv => whnf))
   refine XVal.build tabOk rfl rfl rfl [.int .i64 4] rfl rfl (by simp [Value.cells]) (by decide) fun bh => ?_
   conv => whnf
   repeat (first | (refine XSame.of ?_; conv => whnf) | (refine XDep.all _ _ _ _ ?_; conv => whnf))
   refine XCall.ent (F' := ⟨fun w => PAt P w ∧ RowAt w (some ⟨bh, 0, none⟩) [.int .i64 4], [] ++ slotRows b1 17 a cap C ++ []⟩) (Ent.trans (Ent.of_le (F' := ⟨PAt P, ([] ++ slotRows b1 17 a cap C ++ []) ++ [(bh, Row.c [.int .i64 4])]⟩) ⟨by simp [Value.cells], fun w hw => hw⟩) Ent.shareLast) ?_
   refine XCall.rows (send_spec b1 17 a cap C _ hO (by decide) 11 3 (Hd.v ⟨some ⟨bh, 0, none⟩, 1⟩ 1) (hv_ok _ _)) (fun w hw => trivial) (fun v F hv => ?_)
   obtain ⟨a', c', C', hO', rfl⟩ := hv
   conv => whnf
   repeat (first | (refine XSame.of ?_; conv => whnf) | (refine XDep.all _ _ _ _ ?_; conv => whnf))
   refine ⟨(a', c', C', P ++ [(⟨1, 3, 11, [4]⟩, ⟨some ⟨bh, 0, none⟩, 1⟩)]), g.next rfl (hd_new _ _) (by rw [hl]; exact hO'), [], ⟨by decide, by simp, rfl⟩, ?_, Ent.of_le ⟨by simp, fun w hw => hw.1.1.next hw.1.2⟩⟩
   repeat (first | exact FLe.nil | refine FLe.any ?_ | refine FLe.cons ?_)

theorem ln7 (h : LA 8 21 w0 av b1) : LA 7 18 w0 av b1 := by
 intro a cap C P g
 refine XStop.cutN tabOk 1 (ι := Option Addr × Nat × List Value × List (Ln × Hd)) (fun x => PG 21 x.2.2.2 x.1 x.2.1 x.2.2.1) (fun _ => lnTm b1) (fun _ => []) (fun x => ⟨PAt x.2.2.2, [] ++ slotRows b1 21 x.1 x.2.1 x.2.2.1 ++ []⟩) ?_ ?_
 rotate_left
 · intro x hx bs' hbs'
   obtain rfl := List.eq_nil_of_length_eq_zero hbs'
   rw [cTail_add]
   exact h x.1 x.2.1 x.2.2.1 x.2.2.2 hx
 · conv => whnf
   repeat (first | (refine XSame.of ?_; conv => whnf) | (refine XDep.all _ _ _ _ ?_; conv => whnf))
   refine XVal.build tabOk rfl rfl rfl [.int .i64 12, .int .i64 13, .int .i64 14] rfl rfl (by simp [Value.cells]) (by decide) fun bv => ?_
   conv => whnf
   repeat (first | (refine XSame.of ?_; conv => whnf) | (refine XDep.all _ _ _ _ ?_; conv => whnf))
   obtain ⟨hv, hhv⟩ : ∃ hv : Hd, hv = ⟨some ⟨bv, 0, none⟩, 3⟩ := ⟨_, rfl⟩
   have hvo : hv.Ok 3 := by rw [hhv]; exact hd_new _ _
   have hva : hv.a = some ⟨bv, 0, none⟩ := by rw [hhv]
   obtain ⟨L, hL⟩ : ∃ L : List Int, L = [12, 13, 14] := ⟨_, rfl⟩
   have hE : Ent (⟨PAt P, ([] ++ slotRows b1 18 a cap C ++ []) ++ [(bv, Row.c [.int .i64 12, .int .i64 13, .int .i64 14])]⟩ : Fx) ⟨fun w => PAt P w ∧ RowAt w hv.a (L.map numV), [] ++ slotRows b1 (18 + 0) a cap C ++ []⟩ := by rw [hhv, hL]; exact Ent.shareLast
   have hLl : L.length = 3 := by rw [hL]; decide
   have hLn : ∀ i, i < 3 → bootLns[18 + i]? = some ⟨1, 5, L[i]!, [3]⟩ := by rw [hL]; decide
   refine XStop.loop tabOk (ι := Nat × Option Addr × Nat × List Value × List (Ln × Hd)) ([9, 50] ++ List.range' 51 7) (fun x => x.1 ≤ 3 ∧ PG (18 + x.1) x.2.2.2.2 x.2.1 x.2.2.1 x.2.2.2.1) (fun x => [(50, .v (.int .i64 (x.1 : Int)))]) (fun _ => [])
    (fun x => ⟨fun w => PAt x.2.2.2.2 w ∧ RowAt w hv.a (L.map numV), [] ++ slotRows b1 (18 + x.1) x.2.1 x.2.2.1 x.2.2.2.1 ++ []⟩) (fun x => 3 - x.1) (0, a, cap, C, P) ⟨Nat.zero_le _, g⟩ ?_ rfl (Ent.trans (Ent.of_le ⟨by simp [Value.cells], fun w hw => hw⟩) hE) fun x hx => ?_
   · conv => whnf
     repeat (first | exact FLe.nil | refine FLe.any ?_ | refine FLe.cons ?_)
   clear g hE
   obtain ⟨i, a, cap, C, P⟩ := x
   obtain ⟨hi, g⟩ := hx
   dsimp only at hi g ⊢
   have hl := g.len
   have hO := g.own
   rw [hl] at hO
   conv => whnf
   repeat (first | (refine XSame.of ?_; conv => whnf) | (refine XDep.all _ _ _ _ ?_; conv => whnf))
   refine XIf.split (fun hlt => ?_) (fun hlt => ?_)
   · have hlt' : i < 3 := by
      simp [iLt_eq] at hlt
      omega
     have hx := hLn i hlt'
     have hLi : L[i]! = L[i] := by simp [hLl, hlt']
     rw [hLi] at hx
     conv => whnf
     repeat (first | (refine XSame.of ?_; conv => whnf) | (refine XDep.all _ _ _ _ ?_; conv => whnf))
     refine XVal.of_read (XRead.index tabOk rfl rfl rfl (by omega) (by omega) (fun h => by cases h) fun ad had => ?_)
     conv => whnf
     repeat (first | (refine XSame.of ?_; conv => whnf) | (refine XDep.all _ _ _ _ ?_; conv => whnf))
     refine XVal.of_read (XRead.load tabOk rfl rfl (ad := ad) (k := i) (L := L.map numV) (v := .int .i64 L[i]) (.fact fun w hw => by rw [← had, ← hva]; exact hw.2) (by simp) (by rw [List.getElem?_map, List.getElem?_eq_getElem (by omega)]; rfl) ?_)
     conv => whnf
     repeat (first | (refine XSame.of ?_; conv => whnf) | (refine XDep.all _ _ _ _ ?_; conv => whnf))
     refine XVal.build tabOk rfl rfl rfl [.int .i64 3] rfl rfl (by simp [Value.cells]) (by decide) fun bh => ?_
     conv => whnf
     repeat (first | (refine XSame.of ?_; conv => whnf) | (refine XDep.all _ _ _ _ ?_; conv => whnf))
     refine XCall.ent (F' := ⟨fun w => (PAt P w ∧ RowAt w hv.a (L.map numV)) ∧ RowAt w (some ⟨bh, 0, none⟩) [.int .i64 3], [] ++ slotRows b1 (18 + i) a cap C ++ []⟩) (Ent.trans (Ent.of_le (F' := ⟨fun w => PAt P w ∧ RowAt w hv.a (L.map numV), ([] ++ slotRows b1 (18 + i) a cap C ++ []) ++ [(bh, Row.c [.int .i64 3])]⟩) ⟨by simp [Value.cells], fun w hw => hw⟩) Ent.shareLast) ?_
     refine XCall.rows (send_spec b1 (18 + i) a cap C _ hO (by omega) L[i] 5 (Hd.v ⟨some ⟨bh, 0, none⟩, 1⟩ 1) (hv_ok _ _)) (fun w hw => trivial) (fun v F hv' => ?_)
     obtain ⟨a', c', C', hO', rfl⟩ := hv'
     conv => whnf
     repeat (first | (refine XSame.of ?_; conv => whnf) | (refine XDep.all _ _ _ _ ?_; conv => whnf))
     refine ⟨(i + 1, a', c', C', P ++ [(⟨1, 5, L[i], [3]⟩, ⟨some ⟨bh, 0, none⟩, 1⟩)]), ⟨⟨hlt', g.next hx (hd_new _ _) (by rw [hl]; exact hO')⟩, by dsimp only; omega⟩, ?_, ?_, Ent.of_le ⟨by first | exact List.Sublist.refl _ | simp, fun w hw => ⟨hw.1.1.1.next hw.1.2, hw.1.1.2⟩⟩⟩
     · conv => whnf
       refine ⟨?_, rfl⟩
       repeat (first | exact FLe.nil | refine FLe.any ?_ | refine FLe.cons ?_ | refine FLe.eq (by rw [wrap_i64 (by omega)]; rfl) ?_)
     · conv => whnf
       exact trivial
   · have hie : i = 3 := by
      simp [iLt_eq] at hlt
      omega
     subst hie
     conv => whnf
     repeat (first | (refine XSame.of ?_; conv => whnf) | (refine XDep.all _ _ _ _ ?_; conv => whnf))
     refine ⟨(a, cap, C, P), g, [], ⟨by decide, by simp, rfl⟩, ?_, Ent.of_le ⟨List.Sublist.refl _, fun w hw => hw.1⟩⟩
     repeat (first | exact FLe.nil | refine FLe.any ?_ | refine FLe.cons ?_)

theorem ln8 (h : LA 9 22 w0 av b1) : LA 8 21 w0 av b1 := by
 intro a cap C P g
 refine XStop.cutN tabOk 1 (ι := Option Addr × Nat × List Value × List (Ln × Hd)) (fun x => PG 22 x.2.2.2 x.1 x.2.1 x.2.2.1) (fun _ => lnTm b1) (fun _ => []) (fun x => ⟨PAt x.2.2.2, [] ++ slotRows b1 22 x.1 x.2.1 x.2.2.1 ++ []⟩) ?_ ?_
 rotate_left
 · intro x hx bs' hbs'
   obtain rfl := List.eq_nil_of_length_eq_zero hbs'
   rw [cTail_add]
   exact h x.1 x.2.1 x.2.2.1 x.2.2.2 hx
 · have hl := g.len
   have hO := g.own
   rw [hl] at hO
   conv => whnf
   repeat (first | (refine XSame.of ?_; conv => whnf) | (refine XDep.all _ _ _ _ ?_; conv => whnf))
   refine XVal.build tabOk rfl rfl rfl [.int .i64 5] rfl rfl (by simp [Value.cells]) (by decide) fun bh => ?_
   conv => whnf
   repeat (first | (refine XSame.of ?_; conv => whnf) | (refine XDep.all _ _ _ _ ?_; conv => whnf))
   refine XCall.ent (F' := ⟨fun w => PAt P w ∧ RowAt w (some ⟨bh, 0, none⟩) [.int .i64 5], [] ++ slotRows b1 21 a cap C ++ []⟩) (Ent.trans (Ent.of_le (F' := ⟨PAt P, ([] ++ slotRows b1 21 a cap C ++ []) ++ [(bh, Row.c [.int .i64 5])]⟩) ⟨by simp [Value.cells], fun w hw => hw⟩) Ent.shareLast) ?_
   refine XCall.rows (send_spec b1 21 a cap C _ hO (by decide) 15 3 (Hd.v ⟨some ⟨bh, 0, none⟩, 1⟩ 1) (hv_ok _ _)) (fun w hw => trivial) (fun v F hv => ?_)
   obtain ⟨a', c', C', hO', rfl⟩ := hv
   conv => whnf
   repeat (first | (refine XSame.of ?_; conv => whnf) | (refine XDep.all _ _ _ _ ?_; conv => whnf))
   refine ⟨(a', c', C', P ++ [(⟨1, 3, 15, [5]⟩, ⟨some ⟨bh, 0, none⟩, 1⟩)]), g.next rfl (hd_new _ _) (by rw [hl]; exact hO'), [], ⟨by decide, by simp, rfl⟩, ?_, Ent.of_le ⟨by simp, fun w hw => hw.1.1.next hw.1.2⟩⟩
   repeat (first | exact FLe.nil | refine FLe.any ?_ | refine FLe.cons ?_)

theorem ln9 (h : LA 10 23 w0 av b1) : LA 9 22 w0 av b1 := by
 intro a cap C P g
 refine XStop.cutN tabOk 1 (ι := Option Addr × Nat × List Value × List (Ln × Hd)) (fun x => PG 23 x.2.2.2 x.1 x.2.1 x.2.2.1) (fun _ => lnTm b1) (fun _ => []) (fun x => ⟨PAt x.2.2.2, [] ++ slotRows b1 23 x.1 x.2.1 x.2.2.1 ++ []⟩) ?_ ?_
 rotate_left
 · intro x hx bs' hbs'
   obtain rfl := List.eq_nil_of_length_eq_zero hbs'
   rw [cTail_add]
   exact h x.1 x.2.1 x.2.2.1 x.2.2.2 hx
 · have hl := g.len
   have hO := g.own
   rw [hl] at hO
   conv => whnf
   repeat (first | (refine XSame.of ?_; conv => whnf) | (refine XDep.all _ _ _ _ ?_; conv => whnf))
   refine XVal.build tabOk rfl rfl rfl [.int .i64 3] rfl rfl (by simp [Value.cells]) (by decide) fun bh => ?_
   conv => whnf
   repeat (first | (refine XSame.of ?_; conv => whnf) | (refine XDep.all _ _ _ _ ?_; conv => whnf))
   refine XCall.ent (F' := ⟨fun w => PAt P w ∧ RowAt w (some ⟨bh, 0, none⟩) [.int .i64 3], [] ++ slotRows b1 22 a cap C ++ []⟩) (Ent.trans (Ent.of_le (F' := ⟨PAt P, ([] ++ slotRows b1 22 a cap C ++ []) ++ [(bh, Row.c [.int .i64 3])]⟩) ⟨by simp [Value.cells], fun w hw => hw⟩) Ent.shareLast) ?_
   refine XCall.rows (send_spec b1 22 a cap C _ hO (by decide) 16 10 (Hd.v ⟨some ⟨bh, 0, none⟩, 1⟩ 1) (hv_ok _ _)) (fun w hw => trivial) (fun v F hv => ?_)
   obtain ⟨a', c', C', hO', rfl⟩ := hv
   conv => whnf
   repeat (first | (refine XSame.of ?_; conv => whnf) | (refine XDep.all _ _ _ _ ?_; conv => whnf))
   refine ⟨(a', c', C', P ++ [(⟨1, 10, 16, [3]⟩, ⟨some ⟨bh, 0, none⟩, 1⟩)]), g.next rfl (hd_new _ _) (by rw [hl]; exact hO'), [], ⟨by decide, by simp, rfl⟩, ?_, Ent.of_le ⟨by simp, fun w hw => hw.1.1.next hw.1.2⟩⟩
   repeat (first | exact FLe.nil | refine FLe.any ?_ | refine FLe.cons ?_)

theorem ln10 (h : LA 11 24 w0 av b1) : LA 10 23 w0 av b1 := by
 intro a cap C P g
 refine XStop.cutN tabOk 1 (ι := Option Addr × Nat × List Value × List (Ln × Hd)) (fun x => PG 24 x.2.2.2 x.1 x.2.1 x.2.2.1) (fun _ => lnTm b1) (fun _ => []) (fun x => ⟨PAt x.2.2.2, [] ++ slotRows b1 24 x.1 x.2.1 x.2.2.1 ++ []⟩) ?_ ?_
 rotate_left
 · intro x hx bs' hbs'
   obtain rfl := List.eq_nil_of_length_eq_zero hbs'
   rw [cTail_add]
   exact h x.1 x.2.1 x.2.2.1 x.2.2.2 hx
 · have hl := g.len
   have hO := g.own
   rw [hl] at hO
   conv => whnf
   repeat (first | (refine XSame.of ?_; conv => whnf) | (refine XDep.all _ _ _ _ ?_; conv => whnf))
   refine XVal.build tabOk rfl rfl rfl [.int .i64 10] rfl rfl (by simp [Value.cells]) (by decide) fun bh => ?_
   conv => whnf
   repeat (first | (refine XSame.of ?_; conv => whnf) | (refine XDep.all _ _ _ _ ?_; conv => whnf))
   refine XCall.ent (F' := ⟨fun w => PAt P w ∧ RowAt w (some ⟨bh, 0, none⟩) [.int .i64 10], [] ++ slotRows b1 23 a cap C ++ []⟩) (Ent.trans (Ent.of_le (F' := ⟨PAt P, ([] ++ slotRows b1 23 a cap C ++ []) ++ [(bh, Row.c [.int .i64 10])]⟩) ⟨by simp [Value.cells], fun w hw => hw⟩) Ent.shareLast) ?_
   refine XCall.rows (send_spec b1 23 a cap C _ hO (by decide) 17 3 (Hd.v ⟨some ⟨bh, 0, none⟩, 1⟩ 1) (hv_ok _ _)) (fun w hw => trivial) (fun v F hv => ?_)
   obtain ⟨a', c', C', hO', rfl⟩ := hv
   conv => whnf
   repeat (first | (refine XSame.of ?_; conv => whnf) | (refine XDep.all _ _ _ _ ?_; conv => whnf))
   refine ⟨(a', c', C', P ++ [(⟨1, 3, 17, [10]⟩, ⟨some ⟨bh, 0, none⟩, 1⟩)]), g.next rfl (hd_new _ _) (by rw [hl]; exact hO'), [], ⟨by decide, by simp, rfl⟩, ?_, Ent.of_le ⟨by simp, fun w hw => hw.1.1.next hw.1.2⟩⟩
   repeat (first | exact FLe.nil | refine FLe.any ?_ | refine FLe.cons ?_)

theorem ln11 (h : LA 12 25 w0 av b1) : LA 11 24 w0 av b1 := by
 intro a cap C P g
 refine XStop.cutN tabOk 1 (ι := Option Addr × Nat × List Value × List (Ln × Hd)) (fun x => PG 25 x.2.2.2 x.1 x.2.1 x.2.2.1) (fun _ => lnTm b1) (fun _ => []) (fun x => ⟨PAt x.2.2.2, [] ++ slotRows b1 25 x.1 x.2.1 x.2.2.1 ++ []⟩) ?_ ?_
 rotate_left
 · intro x hx bs' hbs'
   obtain rfl := List.eq_nil_of_length_eq_zero hbs'
   rw [cTail_add]
   exact h x.1 x.2.1 x.2.2.1 x.2.2.2 hx
 · have hl := g.len
   have hO := g.own
   rw [hl] at hO
   conv => whnf
   repeat (first | (refine XSame.of ?_; conv => whnf) | (refine XDep.all _ _ _ _ ?_; conv => whnf))
   refine XVal.build tabOk rfl rfl rfl [.int .i64 5] rfl rfl (by simp [Value.cells]) (by decide) fun bh => ?_
   conv => whnf
   repeat (first | (refine XSame.of ?_; conv => whnf) | (refine XDep.all _ _ _ _ ?_; conv => whnf))
   refine XCall.ent (F' := ⟨fun w => PAt P w ∧ RowAt w (some ⟨bh, 0, none⟩) [.int .i64 5], [] ++ slotRows b1 24 a cap C ++ []⟩) (Ent.trans (Ent.of_le (F' := ⟨PAt P, ([] ++ slotRows b1 24 a cap C ++ []) ++ [(bh, Row.c [.int .i64 5])]⟩) ⟨by simp [Value.cells], fun w hw => hw⟩) Ent.shareLast) ?_
   refine XCall.rows (send_spec b1 24 a cap C _ hO (by decide) 18 6 (Hd.v ⟨some ⟨bh, 0, none⟩, 1⟩ 1) (hv_ok _ _)) (fun w hw => trivial) (fun v F hv => ?_)
   obtain ⟨a', c', C', hO', rfl⟩ := hv
   conv => whnf
   repeat (first | (refine XSame.of ?_; conv => whnf) | (refine XDep.all _ _ _ _ ?_; conv => whnf))
   refine ⟨(a', c', C', P ++ [(⟨1, 6, 18, [5]⟩, ⟨some ⟨bh, 0, none⟩, 1⟩)]), g.next rfl (hd_new _ _) (by rw [hl]; exact hO'), [], ⟨by decide, by simp, rfl⟩, ?_, Ent.of_le ⟨by simp, fun w hw => hw.1.1.next hw.1.2⟩⟩
   repeat (first | exact FLe.nil | refine FLe.any ?_ | refine FLe.cons ?_)

theorem ln12 (h : LA 13 26 w0 av b1) : LA 12 25 w0 av b1 := by
 intro a cap C P g
 refine XStop.cutN tabOk 1 (ι := Option Addr × Nat × List Value × List (Ln × Hd)) (fun x => PG 26 x.2.2.2 x.1 x.2.1 x.2.2.1) (fun _ => lnTm b1) (fun _ => []) (fun x => ⟨PAt x.2.2.2, [] ++ slotRows b1 26 x.1 x.2.1 x.2.2.1 ++ []⟩) ?_ ?_
 rotate_left
 · intro x hx bs' hbs'
   obtain rfl := List.eq_nil_of_length_eq_zero hbs'
   rw [cTail_add]
   exact h x.1 x.2.1 x.2.2.1 x.2.2.2 hx
 · have hl := g.len
   have hO := g.own
   rw [hl] at hO
   conv => whnf
   repeat (first | (refine XSame.of ?_; conv => whnf) | (refine XDep.all _ _ _ _ ?_; conv => whnf))
   refine XVal.build tabOk rfl rfl rfl [.int .i64 6] rfl rfl (by simp [Value.cells]) (by decide) fun bh => ?_
   conv => whnf
   repeat (first | (refine XSame.of ?_; conv => whnf) | (refine XDep.all _ _ _ _ ?_; conv => whnf))
   refine XCall.ent (F' := ⟨fun w => PAt P w ∧ RowAt w (some ⟨bh, 0, none⟩) [.int .i64 6], [] ++ slotRows b1 25 a cap C ++ []⟩) (Ent.trans (Ent.of_le (F' := ⟨PAt P, ([] ++ slotRows b1 25 a cap C ++ []) ++ [(bh, Row.c [.int .i64 6])]⟩) ⟨by simp [Value.cells], fun w hw => hw⟩) Ent.shareLast) ?_
   refine XCall.rows (send_spec b1 25 a cap C _ hO (by decide) 19 5 (Hd.v ⟨some ⟨bh, 0, none⟩, 1⟩ 1) (hv_ok _ _)) (fun w hw => trivial) (fun v F hv => ?_)
   obtain ⟨a', c', C', hO', rfl⟩ := hv
   conv => whnf
   repeat (first | (refine XSame.of ?_; conv => whnf) | (refine XDep.all _ _ _ _ ?_; conv => whnf))
   refine ⟨(a', c', C', P ++ [(⟨1, 5, 19, [6]⟩, ⟨some ⟨bh, 0, none⟩, 1⟩)]), g.next rfl (hd_new _ _) (by rw [hl]; exact hO'), [], ⟨by decide, by simp, rfl⟩, ?_, Ent.of_le ⟨by simp, fun w hw => hw.1.1.next hw.1.2⟩⟩
   repeat (first | exact FLe.nil | refine FLe.any ?_ | refine FLe.cons ?_)

theorem ln13 (h : LA 14 27 w0 av b1) : LA 13 26 w0 av b1 := by
 intro a cap C P g
 refine XStop.cutN tabOk 1 (ι := Option Addr × Nat × List Value × List (Ln × Hd)) (fun x => PG 27 x.2.2.2 x.1 x.2.1 x.2.2.1) (fun _ => lnTm b1) (fun _ => []) (fun x => ⟨PAt x.2.2.2, [] ++ slotRows b1 27 x.1 x.2.1 x.2.2.1 ++ []⟩) ?_ ?_
 rotate_left
 · intro x hx bs' hbs'
   obtain rfl := List.eq_nil_of_length_eq_zero hbs'
   rw [cTail_add]
   exact h x.1 x.2.1 x.2.2.1 x.2.2.2 hx
 · have hl := g.len
   have hO := g.own
   rw [hl] at hO
   conv => whnf
   repeat (first | (refine XSame.of ?_; conv => whnf) | (refine XDep.all _ _ _ _ ?_; conv => whnf))
   refine XVal.build tabOk rfl rfl rfl [.int .i64 4, .int .i64 6] rfl rfl (by simp [Value.cells]) (by decide) fun bh => ?_
   conv => whnf
   repeat (first | (refine XSame.of ?_; conv => whnf) | (refine XDep.all _ _ _ _ ?_; conv => whnf))
   refine XCall.ent (F' := ⟨fun w => PAt P w ∧ RowAt w (some ⟨bh, 0, none⟩) [.int .i64 4, .int .i64 6], [] ++ slotRows b1 26 a cap C ++ []⟩) (Ent.trans (Ent.of_le (F' := ⟨PAt P, ([] ++ slotRows b1 26 a cap C ++ []) ++ [(bh, Row.c [.int .i64 4, .int .i64 6])]⟩) ⟨by simp [Value.cells], fun w hw => hw⟩) Ent.shareLast) ?_
   refine XCall.rows (send_spec b1 26 a cap C _ hO (by decide) 20 7 (Hd.v ⟨some ⟨bh, 0, none⟩, 2⟩ 2) (hv_ok _ _)) (fun w hw => trivial) (fun v F hv => ?_)
   obtain ⟨a', c', C', hO', rfl⟩ := hv
   conv => whnf
   repeat (first | (refine XSame.of ?_; conv => whnf) | (refine XDep.all _ _ _ _ ?_; conv => whnf))
   refine ⟨(a', c', C', P ++ [(⟨1, 7, 20, [4, 6]⟩, ⟨some ⟨bh, 0, none⟩, 2⟩)]), g.next rfl (hd_new _ _) (by rw [hl]; exact hO'), [], ⟨by decide, by simp, rfl⟩, ?_, Ent.of_le ⟨by simp, fun w hw => hw.1.1.next hw.1.2⟩⟩
   repeat (first | exact FLe.nil | refine FLe.any ?_ | refine FLe.cons ?_)

theorem ln14 (h : LA 15 28 w0 av b1) : LA 14 27 w0 av b1 := by
 intro a cap C P g
 refine XStop.cutN tabOk 1 (ι := Option Addr × Nat × List Value × List (Ln × Hd)) (fun x => PG 28 x.2.2.2 x.1 x.2.1 x.2.2.1) (fun _ => lnTm b1) (fun _ => []) (fun x => ⟨PAt x.2.2.2, [] ++ slotRows b1 28 x.1 x.2.1 x.2.2.1 ++ []⟩) ?_ ?_
 rotate_left
 · intro x hx bs' hbs'
   obtain rfl := List.eq_nil_of_length_eq_zero hbs'
   rw [cTail_add]
   exact h x.1 x.2.1 x.2.2.1 x.2.2.2 hx
 · have hl := g.len
   have hO := g.own
   rw [hl] at hO
   conv => whnf
   repeat (first | (refine XSame.of ?_; conv => whnf) | (refine XDep.all _ _ _ _ ?_; conv => whnf))
   refine XVal.build tabOk rfl rfl rfl [.int .i64 7] rfl rfl (by simp [Value.cells]) (by decide) fun bh => ?_
   conv => whnf
   repeat (first | (refine XSame.of ?_; conv => whnf) | (refine XDep.all _ _ _ _ ?_; conv => whnf))
   refine XCall.ent (F' := ⟨fun w => PAt P w ∧ RowAt w (some ⟨bh, 0, none⟩) [.int .i64 7], [] ++ slotRows b1 27 a cap C ++ []⟩) (Ent.trans (Ent.of_le (F' := ⟨PAt P, ([] ++ slotRows b1 27 a cap C ++ []) ++ [(bh, Row.c [.int .i64 7])]⟩) ⟨by simp [Value.cells], fun w hw => hw⟩) Ent.shareLast) ?_
   refine XCall.rows (send_spec b1 27 a cap C _ hO (by decide) 21 4 (Hd.v ⟨some ⟨bh, 0, none⟩, 1⟩ 1) (hv_ok _ _)) (fun w hw => trivial) (fun v F hv => ?_)
   obtain ⟨a', c', C', hO', rfl⟩ := hv
   conv => whnf
   repeat (first | (refine XSame.of ?_; conv => whnf) | (refine XDep.all _ _ _ _ ?_; conv => whnf))
   refine ⟨(a', c', C', P ++ [(⟨1, 4, 21, [7]⟩, ⟨some ⟨bh, 0, none⟩, 1⟩)]), g.next rfl (hd_new _ _) (by rw [hl]; exact hO'), [], ⟨by decide, by simp, rfl⟩, ?_, Ent.of_le ⟨by simp, fun w hw => hw.1.1.next hw.1.2⟩⟩
   repeat (first | exact FLe.nil | refine FLe.any ?_ | refine FLe.cons ?_)

theorem ln15 (h : LA 16 29 w0 av b1) : LA 15 28 w0 av b1 := by
 intro a cap C P g
 refine XStop.cutN tabOk 1 (ι := Option Addr × Nat × List Value × List (Ln × Hd)) (fun x => PG 29 x.2.2.2 x.1 x.2.1 x.2.2.1) (fun _ => lnTm b1) (fun _ => []) (fun x => ⟨PAt x.2.2.2, [] ++ slotRows b1 29 x.1 x.2.1 x.2.2.1 ++ []⟩) ?_ ?_
 rotate_left
 · intro x hx bs' hbs'
   obtain rfl := List.eq_nil_of_length_eq_zero hbs'
   rw [cTail_add]
   exact h x.1 x.2.1 x.2.2.1 x.2.2.2 hx
 · have hl := g.len
   have hO := g.own
   rw [hl] at hO
   conv => whnf
   repeat (first | (refine XSame.of ?_; conv => whnf) | (refine XDep.all _ _ _ _ ?_; conv => whnf))
   refine XVal.build tabOk rfl rfl rfl [.int .i64 7] rfl rfl (by simp [Value.cells]) (by decide) fun bh => ?_
   conv => whnf
   repeat (first | (refine XSame.of ?_; conv => whnf) | (refine XDep.all _ _ _ _ ?_; conv => whnf))
   refine XCall.ent (F' := ⟨fun w => PAt P w ∧ RowAt w (some ⟨bh, 0, none⟩) [.int .i64 7], [] ++ slotRows b1 28 a cap C ++ []⟩) (Ent.trans (Ent.of_le (F' := ⟨PAt P, ([] ++ slotRows b1 28 a cap C ++ []) ++ [(bh, Row.c [.int .i64 7])]⟩) ⟨by simp [Value.cells], fun w hw => hw⟩) Ent.shareLast) ?_
   refine XCall.rows (send_spec b1 28 a cap C _ hO (by decide) 21 6 (Hd.v ⟨some ⟨bh, 0, none⟩, 1⟩ 1) (hv_ok _ _)) (fun w hw => trivial) (fun v F hv => ?_)
   obtain ⟨a', c', C', hO', rfl⟩ := hv
   conv => whnf
   repeat (first | (refine XSame.of ?_; conv => whnf) | (refine XDep.all _ _ _ _ ?_; conv => whnf))
   refine ⟨(a', c', C', P ++ [(⟨1, 6, 21, [7]⟩, ⟨some ⟨bh, 0, none⟩, 1⟩)]), g.next rfl (hd_new _ _) (by rw [hl]; exact hO'), [], ⟨by decide, by simp, rfl⟩, ?_, Ent.of_le ⟨by simp, fun w hw => hw.1.1.next hw.1.2⟩⟩
   repeat (first | exact FLe.nil | refine FLe.any ?_ | refine FLe.cons ?_)

theorem ln16 (h : LA 17 30 w0 av b1) : LA 16 29 w0 av b1 := by
 intro a cap C P g
 refine XStop.cutN tabOk 1 (ι := Option Addr × Nat × List Value × List (Ln × Hd)) (fun x => PG 30 x.2.2.2 x.1 x.2.1 x.2.2.1) (fun _ => lnTm b1) (fun _ => []) (fun x => ⟨PAt x.2.2.2, [] ++ slotRows b1 30 x.1 x.2.1 x.2.2.1 ++ []⟩) ?_ ?_
 rotate_left
 · intro x hx bs' hbs'
   obtain rfl := List.eq_nil_of_length_eq_zero hbs'
   rw [cTail_add]
   exact h x.1 x.2.1 x.2.2.1 x.2.2.2 hx
 · have hl := g.len
   have hO := g.own
   rw [hl] at hO
   conv => whnf
   repeat (first | (refine XSame.of ?_; conv => whnf) | (refine XDep.all _ _ _ _ ?_; conv => whnf))
   refine XVal.build tabOk rfl rfl rfl [.int .i64 5] rfl rfl (by simp [Value.cells]) (by decide) fun bh => ?_
   conv => whnf
   repeat (first | (refine XSame.of ?_; conv => whnf) | (refine XDep.all _ _ _ _ ?_; conv => whnf))
   refine XCall.ent (F' := ⟨fun w => PAt P w ∧ RowAt w (some ⟨bh, 0, none⟩) [.int .i64 5], [] ++ slotRows b1 29 a cap C ++ []⟩) (Ent.trans (Ent.of_le (F' := ⟨PAt P, ([] ++ slotRows b1 29 a cap C ++ []) ++ [(bh, Row.c [.int .i64 5])]⟩) ⟨by simp [Value.cells], fun w hw => hw⟩) Ent.shareLast) ?_
   refine XCall.rows (send_spec b1 29 a cap C _ hO (by decide) 22 9 (Hd.v ⟨some ⟨bh, 0, none⟩, 1⟩ 1) (hv_ok _ _)) (fun w hw => trivial) (fun v F hv => ?_)
   obtain ⟨a', c', C', hO', rfl⟩ := hv
   conv => whnf
   repeat (first | (refine XSame.of ?_; conv => whnf) | (refine XDep.all _ _ _ _ ?_; conv => whnf))
   refine ⟨(a', c', C', P ++ [(⟨1, 9, 22, [5]⟩, ⟨some ⟨bh, 0, none⟩, 1⟩)]), g.next rfl (hd_new _ _) (by rw [hl]; exact hO'), [], ⟨by decide, by simp, rfl⟩, ?_, Ent.of_le ⟨by simp, fun w hw => hw.1.1.next hw.1.2⟩⟩
   repeat (first | exact FLe.nil | refine FLe.any ?_ | refine FLe.cons ?_)

theorem ln17 (h : LA 18 31 w0 av b1) : LA 17 30 w0 av b1 := by
 intro a cap C P g
 refine XStop.cutN tabOk 1 (ι := Option Addr × Nat × List Value × List (Ln × Hd)) (fun x => PG 31 x.2.2.2 x.1 x.2.1 x.2.2.1) (fun _ => lnTm b1) (fun _ => []) (fun x => ⟨PAt x.2.2.2, [] ++ slotRows b1 31 x.1 x.2.1 x.2.2.1 ++ []⟩) ?_ ?_
 rotate_left
 · intro x hx bs' hbs'
   obtain rfl := List.eq_nil_of_length_eq_zero hbs'
   rw [cTail_add]
   exact h x.1 x.2.1 x.2.2.1 x.2.2.2 hx
 · have hl := g.len
   have hO := g.own
   rw [hl] at hO
   conv => whnf
   repeat (first | (refine XSame.of ?_; conv => whnf) | (refine XDep.all _ _ _ _ ?_; conv => whnf))
   refine XVal.build tabOk rfl rfl rfl [.int .i64 9] rfl rfl (by simp [Value.cells]) (by decide) fun bh => ?_
   conv => whnf
   repeat (first | (refine XSame.of ?_; conv => whnf) | (refine XDep.all _ _ _ _ ?_; conv => whnf))
   refine XCall.ent (F' := ⟨fun w => PAt P w ∧ RowAt w (some ⟨bh, 0, none⟩) [.int .i64 9], [] ++ slotRows b1 30 a cap C ++ []⟩) (Ent.trans (Ent.of_le (F' := ⟨PAt P, ([] ++ slotRows b1 30 a cap C ++ []) ++ [(bh, Row.c [.int .i64 9])]⟩) ⟨by simp [Value.cells], fun w hw => hw⟩) Ent.shareLast) ?_
   refine XCall.rows (send_spec b1 30 a cap C _ hO (by decide) 23 5 (Hd.v ⟨some ⟨bh, 0, none⟩, 1⟩ 1) (hv_ok _ _)) (fun w hw => trivial) (fun v F hv => ?_)
   obtain ⟨a', c', C', hO', rfl⟩ := hv
   conv => whnf
   repeat (first | (refine XSame.of ?_; conv => whnf) | (refine XDep.all _ _ _ _ ?_; conv => whnf))
   refine ⟨(a', c', C', P ++ [(⟨1, 5, 23, [9]⟩, ⟨some ⟨bh, 0, none⟩, 1⟩)]), g.next rfl (hd_new _ _) (by rw [hl]; exact hO'), [], ⟨by decide, by simp, rfl⟩, ?_, Ent.of_le ⟨by simp, fun w hw => hw.1.1.next hw.1.2⟩⟩
   repeat (first | exact FLe.nil | refine FLe.any ?_ | refine FLe.cons ?_)

theorem ln18 (h : LA 19 32 w0 av b1) : LA 18 31 w0 av b1 := by
 intro a cap C P g
 refine XStop.cutN tabOk 1 (ι := Option Addr × Nat × List Value × List (Ln × Hd)) (fun x => PG 32 x.2.2.2 x.1 x.2.1 x.2.2.1) (fun _ => lnTm b1) (fun _ => []) (fun x => ⟨PAt x.2.2.2, [] ++ slotRows b1 32 x.1 x.2.1 x.2.2.1 ++ []⟩) ?_ ?_
 rotate_left
 · intro x hx bs' hbs'
   obtain rfl := List.eq_nil_of_length_eq_zero hbs'
   rw [cTail_add]
   exact h x.1 x.2.1 x.2.2.1 x.2.2.2 hx
 · have hl := g.len
   have hO := g.own
   rw [hl] at hO
   conv => whnf
   repeat (first | (refine XSame.of ?_; conv => whnf) | (refine XDep.all _ _ _ _ ?_; conv => whnf))
   refine XVal.build tabOk rfl rfl rfl [.int .i64 5] rfl rfl (by simp [Value.cells]) (by decide) fun bh => ?_
   conv => whnf
   repeat (first | (refine XSame.of ?_; conv => whnf) | (refine XDep.all _ _ _ _ ?_; conv => whnf))
   refine XCall.ent (F' := ⟨fun w => PAt P w ∧ RowAt w (some ⟨bh, 0, none⟩) [.int .i64 5], [] ++ slotRows b1 31 a cap C ++ []⟩) (Ent.trans (Ent.of_le (F' := ⟨PAt P, ([] ++ slotRows b1 31 a cap C ++ []) ++ [(bh, Row.c [.int .i64 5])]⟩) ⟨by simp [Value.cells], fun w hw => hw⟩) Ent.shareLast) ?_
   refine XCall.rows (send_spec b1 31 a cap C _ hO (by decide) 24 8 (Hd.v ⟨some ⟨bh, 0, none⟩, 1⟩ 1) (hv_ok _ _)) (fun w hw => trivial) (fun v F hv => ?_)
   obtain ⟨a', c', C', hO', rfl⟩ := hv
   conv => whnf
   repeat (first | (refine XSame.of ?_; conv => whnf) | (refine XDep.all _ _ _ _ ?_; conv => whnf))
   refine ⟨(a', c', C', P ++ [(⟨1, 8, 24, [5]⟩, ⟨some ⟨bh, 0, none⟩, 1⟩)]), g.next rfl (hd_new _ _) (by rw [hl]; exact hO'), [], ⟨by decide, by simp, rfl⟩, ?_, Ent.of_le ⟨by simp, fun w hw => hw.1.1.next hw.1.2⟩⟩
   repeat (first | exact FLe.nil | refine FLe.any ?_ | refine FLe.cons ?_)

theorem ln19 (h : LA 20 33 w0 av b1) : LA 19 32 w0 av b1 := by
 intro a cap C P g
 refine XStop.cutN tabOk 1 (ι := Option Addr × Nat × List Value × List (Ln × Hd)) (fun x => PG 33 x.2.2.2 x.1 x.2.1 x.2.2.1) (fun _ => lnTm b1) (fun _ => []) (fun x => ⟨PAt x.2.2.2, [] ++ slotRows b1 33 x.1 x.2.1 x.2.2.1 ++ []⟩) ?_ ?_
 rotate_left
 · intro x hx bs' hbs'
   obtain rfl := List.eq_nil_of_length_eq_zero hbs'
   rw [cTail_add]
   exact h x.1 x.2.1 x.2.2.1 x.2.2.2 hx
 · have hl := g.len
   have hO := g.own
   rw [hl] at hO
   conv => whnf
   repeat (first | (refine XSame.of ?_; conv => whnf) | (refine XDep.all _ _ _ _ ?_; conv => whnf))
   refine XVal.build tabOk rfl rfl rfl [.int .i64 8] rfl rfl (by simp [Value.cells]) (by decide) fun bh => ?_
   conv => whnf
   repeat (first | (refine XSame.of ?_; conv => whnf) | (refine XDep.all _ _ _ _ ?_; conv => whnf))
   refine XCall.ent (F' := ⟨fun w => PAt P w ∧ RowAt w (some ⟨bh, 0, none⟩) [.int .i64 8], [] ++ slotRows b1 32 a cap C ++ []⟩) (Ent.trans (Ent.of_le (F' := ⟨PAt P, ([] ++ slotRows b1 32 a cap C ++ []) ++ [(bh, Row.c [.int .i64 8])]⟩) ⟨by simp [Value.cells], fun w hw => hw⟩) Ent.shareLast) ?_
   refine XCall.rows (send_spec b1 32 a cap C _ hO (by decide) 25 5 (Hd.v ⟨some ⟨bh, 0, none⟩, 1⟩ 1) (hv_ok _ _)) (fun w hw => trivial) (fun v F hv => ?_)
   obtain ⟨a', c', C', hO', rfl⟩ := hv
   conv => whnf
   repeat (first | (refine XSame.of ?_; conv => whnf) | (refine XDep.all _ _ _ _ ?_; conv => whnf))
   refine ⟨(a', c', C', P ++ [(⟨1, 5, 25, [8]⟩, ⟨some ⟨bh, 0, none⟩, 1⟩)]), g.next rfl (hd_new _ _) (by rw [hl]; exact hO'), [], ⟨by decide, by simp, rfl⟩, ?_, Ent.of_le ⟨by simp, fun w hw => hw.1.1.next hw.1.2⟩⟩
   repeat (first | exact FLe.nil | refine FLe.any ?_ | refine FLe.cons ?_)

theorem ln20 (h : LA 21 34 w0 av b1) : LA 20 33 w0 av b1 := by
 intro a cap C P g
 refine XStop.cutN tabOk 1 (ι := Option Addr × Nat × List Value × List (Ln × Hd)) (fun x => PG 34 x.2.2.2 x.1 x.2.1 x.2.2.1) (fun _ => lnTm b1) (fun _ => []) (fun x => ⟨PAt x.2.2.2, [] ++ slotRows b1 34 x.1 x.2.1 x.2.2.1 ++ []⟩) ?_ ?_
 rotate_left
 · intro x hx bs' hbs'
   obtain rfl := List.eq_nil_of_length_eq_zero hbs'
   rw [cTail_add]
   exact h x.1 x.2.1 x.2.2.1 x.2.2.2 hx
 · have hl := g.len
   have hO := g.own
   rw [hl] at hO
   conv => whnf
   repeat (first | (refine XSame.of ?_; conv => whnf) | (refine XDep.all _ _ _ _ ?_; conv => whnf))
   refine XCall.pure (components_spec 1 (by decide)) (fun w hw => trivial) (fun v F hv => ?_)
   obtain ⟨hh, hho, rfl, rfl⟩ := hv
   conv => whnf
   repeat (first | (refine XSame.of ?_; conv => whnf) | (refine XDep.all _ _ _ _ ?_; conv => whnf))
   refine XCall.ent (F' := ⟨fun w => PAt P w ∧ RowAt w hh.a ((compL 1).map numV), [] ++ slotRows b1 33 a cap C ++ []⟩) (Ent.of_le ⟨by simp [Fx.and], fun w hw => hw⟩) ?_
   refine XCall.rows (send_spec b1 33 a cap C _ hO (by decide) 26 2 (Hd.v hh (compL 1).length) (hv_ok _ _)) (fun w hw => trivial) (fun v F hv => ?_)
   obtain ⟨a', c', C', hO', rfl⟩ := hv
   conv => whnf
   repeat (first | (refine XSame.of ?_; conv => whnf) | (refine XDep.all _ _ _ _ ?_; conv => whnf))
   refine ⟨(a', c', C', P ++ [(⟨1, 2, 26, compL 1⟩, hh)]), g.next rfl hho (by rw [hl]; exact hO'), [], ⟨by decide, by simp, rfl⟩, ?_, Ent.of_le ⟨by simp, fun w hw => hw.1.1.next hw.1.2⟩⟩
   repeat (first | exact FLe.nil | refine FLe.any ?_ | refine FLe.cons ?_)

theorem ln21 (h : LA 22 44 w0 av b1) : LA 21 34 w0 av b1 := by
 intro a cap C P g
 refine XStop.cutN tabOk 1 (ι := Option Addr × Nat × List Value × List (Ln × Hd)) (fun x => PG 44 x.2.2.2 x.1 x.2.1 x.2.2.1) (fun _ => lnTm b1) (fun _ => []) (fun x => ⟨PAt x.2.2.2, [] ++ slotRows b1 44 x.1 x.2.1 x.2.2.1 ++ []⟩) ?_ ?_
 rotate_left
 · intro x hx bs' hbs'
   obtain rfl := List.eq_nil_of_length_eq_zero hbs'
   rw [cTail_add]
   exact h x.1 x.2.1 x.2.2.1 x.2.2.2 hx
 · conv => whnf
   repeat (first | (refine XSame.of ?_; conv => whnf) | (refine XDep.all _ _ _ _ ?_; conv => whnf))
   refine XCall.pure (components_spec 1 (by decide)) (fun w hw => trivial) (fun v F hv => ?_)
   obtain ⟨hv, hvo, rfl, rfl⟩ := hv
   conv => whnf
   repeat (first | (refine XSame.of ?_; conv => whnf) | (refine XDep.all _ _ _ _ ?_; conv => whnf))
   obtain ⟨L, hL⟩ : ∃ L : List Int, L = compL 1 := ⟨_, rfl⟩
   have hE : Ent (⟨fun w => PAt P w ∧ RowAt w hv.a ((compL 1).map numV), [] ++ slotRows b1 34 a cap C ++ []⟩ : Fx) ⟨fun w => PAt P w ∧ RowAt w hv.a (L.map numV), [] ++ slotRows b1 (34 + 0) a cap C ++ []⟩ := by rw [hL]; exact Ent.refl _
   have hLl : L.length = 10 := by rw [hL]; decide
   have hLn : ∀ i, i < 10 → bootLns[34 + i]? = some ⟨1, L[i]!, 27, [2]⟩ := by rw [hL]; decide
   refine XStop.loop tabOk (ι := Nat × Option Addr × Nat × List Value × List (Ln × Hd)) ([11, 86] ++ List.range' 87 7) (fun x => x.1 ≤ 10 ∧ PG (34 + x.1) x.2.2.2.2 x.2.1 x.2.2.1 x.2.2.2.1) (fun x => [(86, .v (.int .i64 (x.1 : Int)))]) (fun _ => [])
    (fun x => ⟨fun w => PAt x.2.2.2.2 w ∧ RowAt w hv.a (L.map numV), [] ++ slotRows b1 (34 + x.1) x.2.1 x.2.2.1 x.2.2.2.1 ++ []⟩) (fun x => 10 - x.1) (0, a, cap, C, P) ⟨Nat.zero_le _, g⟩ ?_ rfl (Ent.trans (Ent.of_le (F' := ⟨fun w => PAt P w ∧ RowAt w hv.a ((compL 1).map numV), [] ++ slotRows b1 34 a cap C ++ []⟩) ⟨by simp [Fx.and], fun w hw => hw⟩) hE) fun x hx => ?_
   · conv => whnf
     repeat (first | exact FLe.nil | refine FLe.any ?_ | refine FLe.cons ?_)
   clear g hE
   obtain ⟨i, a, cap, C, P⟩ := x
   obtain ⟨hi, g⟩ := hx
   dsimp only at hi g ⊢
   have hl := g.len
   have hO := g.own
   rw [hl] at hO
   conv => whnf
   repeat (first | (refine XSame.of ?_; conv => whnf) | (refine XDep.all _ _ _ _ ?_; conv => whnf))
   refine XIf.split (fun hlt => ?_) (fun hlt => ?_)
   · have hlt' : i < 10 := by
      simp [iLt_eq, compL] at hlt
      omega
     have hx := hLn i hlt'
     have hLi : L[i]! = L[i] := by simp [hLl, hlt']
     rw [hLi] at hx
     conv => whnf
     repeat (first | (refine XSame.of ?_; conv => whnf) | (refine XDep.all _ _ _ _ ?_; conv => whnf))
     refine XVal.of_read (XRead.index tabOk rfl rfl rfl (by omega) (by show (i : Int) < (((compL 1).length : Nat) : Int); rw [← hL, hLl]; omega) hvo.nil fun ad had => ?_)
     conv => whnf
     repeat (first | (refine XSame.of ?_; conv => whnf) | (refine XDep.all _ _ _ _ ?_; conv => whnf))
     refine XVal.of_read (XRead.load tabOk rfl rfl (ad := ad) (k := i) (L := L.map numV) (v := .int .i64 L[i]) (.fact fun w hw => had ▸ hw.2) (by simp) (by rw [List.getElem?_map, List.getElem?_eq_getElem (by omega)]; rfl) ?_)
     conv => whnf
     repeat (first | (refine XSame.of ?_; conv => whnf) | (refine XDep.all _ _ _ _ ?_; conv => whnf))
     refine XVal.build tabOk rfl rfl rfl [.int .i64 2] rfl rfl (by simp [Value.cells]) (by decide) fun bh => ?_
     conv => whnf
     repeat (first | (refine XSame.of ?_; conv => whnf) | (refine XDep.all _ _ _ _ ?_; conv => whnf))
     refine XCall.ent (F' := ⟨fun w => (PAt P w ∧ RowAt w hv.a (L.map numV)) ∧ RowAt w (some ⟨bh, 0, none⟩) [.int .i64 2], [] ++ slotRows b1 (34 + i) a cap C ++ []⟩) (Ent.trans (Ent.of_le (F' := ⟨fun w => PAt P w ∧ RowAt w hv.a (L.map numV), ([] ++ slotRows b1 (34 + i) a cap C ++ []) ++ [(bh, Row.c [.int .i64 2])]⟩) ⟨by simp [Value.cells], fun w hw => hw⟩) Ent.shareLast) ?_
     refine XCall.rows (send_spec b1 (34 + i) a cap C _ hO (by omega) 27 L[i] (Hd.v ⟨some ⟨bh, 0, none⟩, 1⟩ 1) (hv_ok _ _)) (fun w hw => trivial) (fun v F hv' => ?_)
     obtain ⟨a', c', C', hO', rfl⟩ := hv'
     conv => whnf
     repeat (first | (refine XSame.of ?_; conv => whnf) | (refine XDep.all _ _ _ _ ?_; conv => whnf))
     refine ⟨(i + 1, a', c', C', P ++ [(⟨1, L[i], 27, [2]⟩, ⟨some ⟨bh, 0, none⟩, 1⟩)]), ⟨⟨hlt', g.next hx (hd_new _ _) (by rw [hl]; exact hO')⟩, by dsimp only; omega⟩, ?_, ?_, Ent.of_le ⟨by first | exact List.Sublist.refl _ | simp, fun w hw => ⟨hw.1.1.1.next hw.1.2, hw.1.1.2⟩⟩⟩
     · conv => whnf
       refine ⟨?_, rfl⟩
       repeat (first | exact FLe.nil | refine FLe.any ?_ | refine FLe.cons ?_ | refine FLe.eq (by rw [wrap_i64 (by omega)]; rfl) ?_)
     · conv => whnf
       exact trivial
   · have hie : i = 10 := by
      simp [iLt_eq, compL] at hlt
      omega
     subst hie
     conv => whnf
     repeat (first | (refine XSame.of ?_; conv => whnf) | (refine XDep.all _ _ _ _ ?_; conv => whnf))
     refine ⟨(a, cap, C, P), g, [], ⟨by decide, by simp, rfl⟩, ?_, Ent.of_le ⟨List.Sublist.refl _, fun w hw => hw.1⟩⟩
     repeat (first | exact FLe.nil | refine FLe.any ?_ | refine FLe.cons ?_)

theorem PG.many {k m : Nat} {P Q : List (Ln × Hd)} {a : Option Addr} {cap : Nat} {C : List Value} (h : PG k P a cap C) (hm : Q.length = m) (hok : ∀ x ∈ Q, x.2.Ok x.1.l.length) (he : bootLns.take k ++ Q.map Prod.fst = bootLns.take (k + m)) (hlt : k + m ≤ 63) {a' : Option Addr} {cap' : Nat} {C' : List Value} (hO : Sx.Owg 4 (k + m) a' cap' C' (P.flatMap lhC ++ Q.flatMap lhC)) : PG (k + m) (P ++ Q) a' cap' C' := by
 have hl := h.len
 refine ⟨?_, fun y hy => (List.mem_append.1 hy).elim (h.ok y) (hok y), by rw [List.map_append, h.eq]; exact he, hlt⟩
 rw [List.length_append, hl, hm, List.flatMap_append]
 exact hO
theorem PAt.many {P Q : List (Ln × Hd)} {w : World} (h : PAt P w) (hr : ∀ x ∈ Q, RowAt w x.2.a (x.1.l.map numV)) : PAt (P ++ Q) w := fun y hy => (List.mem_append.1 hy).elim (h y) (hr y)

/-- The lines of effects. -/
def efQ (ks hs : List Int) (h : Hd) : List (Ln × Hd) := ks.map fun q => (⟨2, 0, q, hs⟩, h)
theorem efQ_len (ks hs : List Int) (h : Hd) : (efQ ks hs h).length = ks.length := by simp [efQ]
theorem efQ_all {ks hs : List Int} {h : Hd} {p : Ln × Hd → Prop} (hp : ∀ q, p (⟨2, 0, q, hs⟩, h)) : ∀ x ∈ efQ ks hs h, p x := by
 intro x hx
 obtain ⟨q, -, rfl⟩ := List.mem_map.1 hx
 exact hp q

theorem ln22 (h : LB 23 44 w0 av b1) : LA 22 44 w0 av b1 := by
 intro a cap C P g
 refine XStop.cutN tabOk 1 (ι := Hd) (fun x => x.Ok 10) (fun x => lnTm2 b1 x) (fun _ => []) (fun x => ⟨fun w => PAt P w ∧ RowAt w x.a ((compL 1).map numV), [] ++ slotRows b1 44 a cap C ++ []⟩) ?_ ?_
 rotate_left
 · intro x hx bs' hbs'
   obtain rfl := List.eq_nil_of_length_eq_zero hbs'
   rw [cTail_add]
   exact h x a cap C P hx g
 · conv => whnf
   repeat (first | (refine XSame.of ?_; conv => whnf) | (refine XDep.all _ _ _ _ ?_; conv => whnf))
   refine XCall.pure (components_spec 1 (by decide)) (fun w hw => trivial) (fun v F hv => ?_)
   obtain ⟨hh, hho, rfl, rfl⟩ := hv
   conv => whnf
   repeat (first | (refine XSame.of ?_; conv => whnf) | (refine XDep.all _ _ _ _ ?_; conv => whnf))
   refine ⟨hh, hho, [], ⟨by decide, by simp, rfl⟩, ?_, Ent.of_le ⟨by simp [Fx.and], fun w hw => hw⟩⟩
   repeat (first | exact FLe.nil | refine FLe.any ?_ | refine FLe.cons ?_)

theorem ln23 (h : LB 24 45 w0 av b1) : LB 23 44 w0 av b1 := by
 intro hl a cap C P hlo g
 refine XStop.cutN tabOk 1 (ι := Option Addr × Nat × List Value × List (Ln × Hd)) (fun x => PG 45 x.2.2.2 x.1 x.2.1 x.2.2.1) (fun _ => lnTm2 b1 hl) (fun _ => []) (fun x => ⟨fun w => PAt x.2.2.2 w ∧ RowAt w hl.a ((compL 1).map numV), [] ++ slotRows b1 45 x.1 x.2.1 x.2.2.1 ++ []⟩) ?_ ?_
 rotate_left
 · intro x hx bs' hbs'
   obtain rfl := List.eq_nil_of_length_eq_zero hbs'
   rw [cTail_add]
   exact h hl x.1 x.2.1 x.2.2.1 x.2.2.2 hlo hx
 · have hlen := g.len
   have hO := g.own
   rw [hlen] at hO
   conv => whnf
   repeat (first | (refine XSame.of ?_; conv => whnf) | (refine XDep.all _ _ _ _ ?_; conv => whnf))
   refine XVal.build tabOk rfl rfl rfl [.int .i64 1] rfl rfl (by simp [Value.cells]) (by decide) fun bk => ?_
   conv => whnf
   repeat (first | (refine XSame.of ?_; conv => whnf) | (refine XDep.all _ _ _ _ ?_; conv => whnf))
   refine XCall.ent (F' := ⟨fun w => (PAt P w ∧ RowAt w hl.a ((compL 1).map numV)) ∧ RowAt w (some ⟨bk, 0, none⟩) [.int .i64 1], [] ++ slotRows b1 44 a cap C ++ []⟩) (Ent.trans (Ent.of_le (F' := ⟨fun w => (PAt P w ∧ RowAt w hl.a ((compL 1).map numV)), ([] ++ slotRows b1 44 a cap C ++ []) ++ [(bk, Row.c [.int .i64 1])]⟩) ⟨by simp [Value.cells], fun w hw => hw⟩) Ent.shareLast) ?_
   refine XCall.rows (effect_spec b1 44 a cap C _ hO (by decide) hl 10 ⟨some ⟨bk, 0, none⟩, 1⟩ [1] (hd_new _ _) (by decide)) (fun w hw => hw.2) (fun v F hv => ?_)
   obtain ⟨a', c', C', hO', rfl⟩ := hv
   have hO2 : Sx.Owg 4 (44 + 1) a' c' C' (P.flatMap lhC ++ (efQ [1] (compL 1) hl).flatMap lhC) := hO'
   conv => whnf
   repeat (first | (refine XSame.of ?_; conv => whnf) | (refine XDep.all _ _ _ _ ?_; conv => whnf))
   refine ⟨(a', c', C', P ++ efQ [1] (compL 1) hl), g.many (m := 1) (Q := efQ [1] (compL 1) hl) (efQ_len _ _ _) (efQ_all fun _ => hlo) rfl (by decide) hO2, [], ⟨by decide, by simp, rfl⟩, ?_, Ent.of_le ⟨by simp, fun w hw => ⟨(hw.1.1.1).many (efQ_all fun _ => hw.1.1.2), hw.1.1.2⟩⟩⟩
   repeat (first | exact FLe.nil | refine FLe.any ?_ | refine FLe.cons ?_)

theorem ln24 (h : LB 25 46 w0 av b1) : LB 24 45 w0 av b1 := by
 intro hl a cap C P hlo g
 refine XStop.cutN tabOk 1 (ι := Option Addr × Nat × List Value × List (Ln × Hd)) (fun x => PG 46 x.2.2.2 x.1 x.2.1 x.2.2.1) (fun _ => lnTm2 b1 hl) (fun _ => []) (fun x => ⟨fun w => PAt x.2.2.2 w ∧ RowAt w hl.a ((compL 1).map numV), [] ++ slotRows b1 46 x.1 x.2.1 x.2.2.1 ++ []⟩) ?_ ?_
 rotate_left
 · intro x hx bs' hbs'
   obtain rfl := List.eq_nil_of_length_eq_zero hbs'
   rw [cTail_add]
   exact h hl x.1 x.2.1 x.2.2.1 x.2.2.2 hlo hx
 · have hlen := g.len
   have hO := g.own
   rw [hlen] at hO
   conv => whnf
   repeat (first | (refine XSame.of ?_; conv => whnf) | (refine XDep.all _ _ _ _ ?_; conv => whnf))
   refine XVal.build tabOk rfl rfl rfl [.int .i64 3, .int .i64 4, .int .i64 5, .int .i64 10] rfl rfl (by simp [Value.cells]) (by decide) fun bh => ?_
   conv => whnf
   repeat (first | (refine XSame.of ?_; conv => whnf) | (refine XDep.all _ _ _ _ ?_; conv => whnf))
   refine XVal.build tabOk rfl rfl rfl [.int .i64 2] rfl rfl (by simp [Value.cells]) (by decide) fun bk => ?_
   conv => whnf
   repeat (first | (refine XSame.of ?_; conv => whnf) | (refine XDep.all _ _ _ _ ?_; conv => whnf))
   refine XCall.ent (F' := ⟨fun w => ((PAt P w ∧ RowAt w hl.a ((compL 1).map numV)) ∧ RowAt w (some ⟨bh, 0, none⟩) [.int .i64 3, .int .i64 4, .int .i64 5, .int .i64 10]) ∧ RowAt w (some ⟨bk, 0, none⟩) [.int .i64 2], [] ++ slotRows b1 45 a cap C ++ []⟩) (Ent.trans (Ent.of_le (F' := ⟨fun w => (PAt P w ∧ RowAt w hl.a ((compL 1).map numV)), (([] ++ slotRows b1 45 a cap C ++ []) ++ [(bh, Row.c [.int .i64 3, .int .i64 4, .int .i64 5, .int .i64 10])]) ++ [(bk, Row.c [.int .i64 2])]⟩) ⟨by simp [Value.cells], fun w hw => hw⟩) (Ent.trans Ent.shareLast (Ent.trans Ent.shareLast (Ent.imp fun w hw => ⟨⟨hw.1.1, hw.2⟩, hw.1.2⟩)))) ?_
   refine XCall.rows (effect_spec b1 45 a cap C _ hO (by decide) (⟨some ⟨bh, 0, none⟩, 4⟩ : Hd) 4 ⟨some ⟨bk, 0, none⟩, 1⟩ [2] (hd_new _ _) (by decide)) (fun w hw => hw.2) (fun v F hv => ?_)
   obtain ⟨a', c', C', hO', rfl⟩ := hv
   have hO2 : Sx.Owg 4 (45 + 1) a' c' C' (P.flatMap lhC ++ (efQ [2] [3, 4, 5, 10] (⟨some ⟨bh, 0, none⟩, 4⟩ : Hd)).flatMap lhC) := hO'
   conv => whnf
   repeat (first | (refine XSame.of ?_; conv => whnf) | (refine XDep.all _ _ _ _ ?_; conv => whnf))
   refine ⟨(a', c', C', P ++ efQ [2] [3, 4, 5, 10] (⟨some ⟨bh, 0, none⟩, 4⟩ : Hd)), g.many (m := 1) (Q := efQ [2] [3, 4, 5, 10] (⟨some ⟨bh, 0, none⟩, 4⟩ : Hd)) (efQ_len _ _ _) (efQ_all fun _ => hd_new _ _) rfl (by decide) hO2, [], ⟨by decide, by simp, rfl⟩, ?_, Ent.of_le ⟨by simp, fun w hw => ⟨(hw.1.1.1.1).many (efQ_all fun _ => hw.1.1.2), hw.1.1.1.2⟩⟩⟩
   repeat (first | exact FLe.nil | refine FLe.any ?_ | refine FLe.cons ?_)

theorem ln25 (h : LB 26 47 w0 av b1) : LB 25 46 w0 av b1 := by
 intro hl a cap C P hlo g
 refine XStop.cutN tabOk 1 (ι := Option Addr × Nat × List Value × List (Ln × Hd)) (fun x => PG 47 x.2.2.2 x.1 x.2.1 x.2.2.1) (fun _ => lnTm2 b1 hl) (fun _ => []) (fun x => ⟨fun w => PAt x.2.2.2 w ∧ RowAt w hl.a ((compL 1).map numV), [] ++ slotRows b1 47 x.1 x.2.1 x.2.2.1 ++ []⟩) ?_ ?_
 rotate_left
 · intro x hx bs' hbs'
   obtain rfl := List.eq_nil_of_length_eq_zero hbs'
   rw [cTail_add]
   exact h hl x.1 x.2.1 x.2.2.1 x.2.2.2 hlo hx
 · have hlen := g.len
   have hO := g.own
   rw [hlen] at hO
   conv => whnf
   repeat (first | (refine XSame.of ?_; conv => whnf) | (refine XDep.all _ _ _ _ ?_; conv => whnf))
   refine XVal.build tabOk rfl rfl rfl [.int .i64 7, .int .i64 8, .int .i64 9] rfl rfl (by simp [Value.cells]) (by decide) fun bh => ?_
   conv => whnf
   repeat (first | (refine XSame.of ?_; conv => whnf) | (refine XDep.all _ _ _ _ ?_; conv => whnf))
   refine XVal.build tabOk rfl rfl rfl [.int .i64 3] rfl rfl (by simp [Value.cells]) (by decide) fun bk => ?_
   conv => whnf
   repeat (first | (refine XSame.of ?_; conv => whnf) | (refine XDep.all _ _ _ _ ?_; conv => whnf))
   refine XCall.ent (F' := ⟨fun w => ((PAt P w ∧ RowAt w hl.a ((compL 1).map numV)) ∧ RowAt w (some ⟨bh, 0, none⟩) [.int .i64 7, .int .i64 8, .int .i64 9]) ∧ RowAt w (some ⟨bk, 0, none⟩) [.int .i64 3], [] ++ slotRows b1 46 a cap C ++ []⟩) (Ent.trans (Ent.of_le (F' := ⟨fun w => (PAt P w ∧ RowAt w hl.a ((compL 1).map numV)), (([] ++ slotRows b1 46 a cap C ++ []) ++ [(bh, Row.c [.int .i64 7, .int .i64 8, .int .i64 9])]) ++ [(bk, Row.c [.int .i64 3])]⟩) ⟨by simp [Value.cells], fun w hw => hw⟩) (Ent.trans Ent.shareLast (Ent.trans Ent.shareLast (Ent.imp fun w hw => ⟨⟨hw.1.1, hw.2⟩, hw.1.2⟩)))) ?_
   refine XCall.rows (effect_spec b1 46 a cap C _ hO (by decide) (⟨some ⟨bh, 0, none⟩, 3⟩ : Hd) 3 ⟨some ⟨bk, 0, none⟩, 1⟩ [3] (hd_new _ _) (by decide)) (fun w hw => hw.2) (fun v F hv => ?_)
   obtain ⟨a', c', C', hO', rfl⟩ := hv
   have hO2 : Sx.Owg 4 (46 + 1) a' c' C' (P.flatMap lhC ++ (efQ [3] [7, 8, 9] (⟨some ⟨bh, 0, none⟩, 3⟩ : Hd)).flatMap lhC) := hO'
   conv => whnf
   repeat (first | (refine XSame.of ?_; conv => whnf) | (refine XDep.all _ _ _ _ ?_; conv => whnf))
   refine ⟨(a', c', C', P ++ efQ [3] [7, 8, 9] (⟨some ⟨bh, 0, none⟩, 3⟩ : Hd)), g.many (m := 1) (Q := efQ [3] [7, 8, 9] (⟨some ⟨bh, 0, none⟩, 3⟩ : Hd)) (efQ_len _ _ _) (efQ_all fun _ => hd_new _ _) rfl (by decide) hO2, [], ⟨by decide, by simp, rfl⟩, ?_, Ent.of_le ⟨by simp, fun w hw => ⟨(hw.1.1.1.1).many (efQ_all fun _ => hw.1.1.2), hw.1.1.1.2⟩⟩⟩
   repeat (first | exact FLe.nil | refine FLe.any ?_ | refine FLe.cons ?_)

theorem ln26 (h : LA 27 48 w0 av b1) : LB 26 47 w0 av b1 := by
 intro hl a cap C P hlo g
 refine XStop.cutN tabOk 1 (ι := Option Addr × Nat × List Value × List (Ln × Hd)) (fun x => PG 48 x.2.2.2 x.1 x.2.1 x.2.2.1) (fun _ => lnTm b1) (fun _ => []) (fun x => ⟨PAt x.2.2.2, [] ++ slotRows b1 48 x.1 x.2.1 x.2.2.1 ++ []⟩) ?_ ?_
 rotate_left
 · intro x hx bs' hbs'
   obtain rfl := List.eq_nil_of_length_eq_zero hbs'
   rw [cTail_add]
   exact h x.1 x.2.1 x.2.2.1 x.2.2.2 hx
 · have hlen := g.len
   have hO := g.own
   rw [hlen] at hO
   conv => whnf
   repeat (first | (refine XSame.of ?_; conv => whnf) | (refine XDep.all _ _ _ _ ?_; conv => whnf))
   refine XVal.build tabOk rfl rfl rfl [.int .i64 4] rfl rfl (by simp [Value.cells]) (by decide) fun bk => ?_
   conv => whnf
   repeat (first | (refine XSame.of ?_; conv => whnf) | (refine XDep.all _ _ _ _ ?_; conv => whnf))
   refine XCall.ent (F' := ⟨fun w => (PAt P w ∧ RowAt w hl.a ((compL 1).map numV)) ∧ RowAt w (some ⟨bk, 0, none⟩) [.int .i64 4], [] ++ slotRows b1 47 a cap C ++ []⟩) (Ent.trans (Ent.of_le (F' := ⟨fun w => (PAt P w ∧ RowAt w hl.a ((compL 1).map numV)), ([] ++ slotRows b1 47 a cap C ++ []) ++ [(bk, Row.c [.int .i64 4])]⟩) ⟨by simp [Value.cells], fun w hw => hw⟩) Ent.shareLast) ?_
   refine XCall.rows (effect_spec b1 47 a cap C _ hO (by decide) hl 10 ⟨some ⟨bk, 0, none⟩, 1⟩ [4] (hd_new _ _) (by decide)) (fun w hw => hw.2) (fun v F hv => ?_)
   obtain ⟨a', c', C', hO', rfl⟩ := hv
   have hO2 : Sx.Owg 4 (47 + 1) a' c' C' (P.flatMap lhC ++ (efQ [4] (compL 1) hl).flatMap lhC) := hO'
   conv => whnf
   repeat (first | (refine XSame.of ?_; conv => whnf) | (refine XDep.all _ _ _ _ ?_; conv => whnf))
   refine ⟨(a', c', C', P ++ efQ [4] (compL 1) hl), g.many (m := 1) (Q := efQ [4] (compL 1) hl) (efQ_len _ _ _) (efQ_all fun _ => hlo) rfl (by decide) hO2, [], ⟨by decide, by simp, rfl⟩, ?_, Ent.of_le ⟨by simp, fun w hw => (hw.1.1.1).many (efQ_all fun _ => hw.1.1.2)⟩⟩
   repeat (first | exact FLe.nil | refine FLe.any ?_ | refine FLe.cons ?_)

theorem ln27 (h : LA 28 54 w0 av b1) : LA 27 48 w0 av b1 := by
 intro a cap C P g
 refine XStop.cutN tabOk 1 (ι := Option Addr × Nat × List Value × List (Ln × Hd)) (fun x => PG 54 x.2.2.2 x.1 x.2.1 x.2.2.1) (fun _ => lnTm b1) (fun _ => []) (fun x => ⟨PAt x.2.2.2, [] ++ slotRows b1 54 x.1 x.2.1 x.2.2.1 ++ []⟩) ?_ ?_
 rotate_left
 · intro x hx bs' hbs'
   obtain rfl := List.eq_nil_of_length_eq_zero hbs'
   rw [cTail_add]
   exact h x.1 x.2.1 x.2.2.1 x.2.2.2 hx
 · have hlen := g.len
   have hO := g.own
   rw [hlen] at hO
   conv => whnf
   repeat (first | (refine XSame.of ?_; conv => whnf) | (refine XDep.all _ _ _ _ ?_; conv => whnf))
   refine XVal.build tabOk rfl rfl rfl [.int .i64 4] rfl rfl (by simp [Value.cells]) (by decide) fun bh => ?_
   conv => whnf
   repeat (first | (refine XSame.of ?_; conv => whnf) | (refine XDep.all _ _ _ _ ?_; conv => whnf))
   refine XVal.build tabOk rfl rfl rfl [.int .i64 5, .int .i64 6, .int .i64 7, .int .i64 8, .int .i64 9, .int .i64 10] rfl rfl (by simp [Value.cells]) (by decide) fun bk => ?_
   conv => whnf
   repeat (first | (refine XSame.of ?_; conv => whnf) | (refine XDep.all _ _ _ _ ?_; conv => whnf))
   refine XCall.ent (F' := ⟨fun w => (PAt P w ∧ RowAt w (some ⟨bh, 0, none⟩) [.int .i64 4]) ∧ RowAt w (some ⟨bk, 0, none⟩) [.int .i64 5, .int .i64 6, .int .i64 7, .int .i64 8, .int .i64 9, .int .i64 10], [] ++ slotRows b1 48 a cap C ++ []⟩) (Ent.trans (Ent.of_le (F' := ⟨fun w => PAt P w, (([] ++ slotRows b1 48 a cap C ++ []) ++ [(bh, Row.c [.int .i64 4])]) ++ [(bk, Row.c [.int .i64 5, .int .i64 6, .int .i64 7, .int .i64 8, .int .i64 9, .int .i64 10])]⟩) ⟨by simp [Value.cells], fun w hw => hw⟩) (Ent.trans Ent.shareLast (Ent.trans Ent.shareLast (Ent.imp fun w hw => ⟨⟨hw.1.1, hw.2⟩, hw.1.2⟩)))) ?_
   refine XCall.rows (effect_spec b1 48 a cap C _ hO (by decide) (⟨some ⟨bh, 0, none⟩, 1⟩ : Hd) 1 ⟨some ⟨bk, 0, none⟩, 6⟩ [5, 6, 7, 8, 9, 10] (hd_new _ _) (by decide)) (fun w hw => hw.2) (fun v F hv => ?_)
   obtain ⟨a', c', C', hO', rfl⟩ := hv
   have hO2 : Sx.Owg 4 (48 + 6) a' c' C' (P.flatMap lhC ++ (efQ [5, 6, 7, 8, 9, 10] [4] (⟨some ⟨bh, 0, none⟩, 1⟩ : Hd)).flatMap lhC) := hO'
   conv => whnf
   repeat (first | (refine XSame.of ?_; conv => whnf) | (refine XDep.all _ _ _ _ ?_; conv => whnf))
   refine ⟨(a', c', C', P ++ efQ [5, 6, 7, 8, 9, 10] [4] (⟨some ⟨bh, 0, none⟩, 1⟩ : Hd)), g.many (m := 6) (Q := efQ [5, 6, 7, 8, 9, 10] [4] (⟨some ⟨bh, 0, none⟩, 1⟩ : Hd)) (efQ_len _ _ _) (efQ_all fun _ => hd_new _ _) rfl (by decide) hO2, [], ⟨by decide, by simp, rfl⟩, ?_, Ent.of_le ⟨by simp, fun w hw => (hw.1.1.1).many (efQ_all fun _ => hw.1.1.2)⟩⟩
   repeat (first | exact FLe.nil | refine FLe.any ?_ | refine FLe.cons ?_)

theorem ln28 (h : LA 29 58 w0 av b1) : LA 28 54 w0 av b1 := by
 intro a cap C P g
 refine XStop.cutN tabOk 1 (ι := Option Addr × Nat × List Value × List (Ln × Hd)) (fun x => PG 58 x.2.2.2 x.1 x.2.1 x.2.2.1) (fun _ => lnTm b1) (fun _ => []) (fun x => ⟨PAt x.2.2.2, [] ++ slotRows b1 58 x.1 x.2.1 x.2.2.1 ++ []⟩) ?_ ?_
 rotate_left
 · intro x hx bs' hbs'
   obtain rfl := List.eq_nil_of_length_eq_zero hbs'
   rw [cTail_add]
   exact h x.1 x.2.1 x.2.2.1 x.2.2.2 hx
 · have hlen := g.len
   have hO := g.own
   rw [hlen] at hO
   conv => whnf
   repeat (first | (refine XSame.of ?_; conv => whnf) | (refine XDep.all _ _ _ _ ?_; conv => whnf))
   refine XVal.build tabOk rfl rfl rfl [.int .i64 3] rfl rfl (by simp [Value.cells]) (by decide) fun bh => ?_
   conv => whnf
   repeat (first | (refine XSame.of ?_; conv => whnf) | (refine XDep.all _ _ _ _ ?_; conv => whnf))
   refine XVal.build tabOk rfl rfl rfl [.int .i64 11, .int .i64 12, .int .i64 13, .int .i64 14] rfl rfl (by simp [Value.cells]) (by decide) fun bk => ?_
   conv => whnf
   repeat (first | (refine XSame.of ?_; conv => whnf) | (refine XDep.all _ _ _ _ ?_; conv => whnf))
   refine XCall.ent (F' := ⟨fun w => (PAt P w ∧ RowAt w (some ⟨bh, 0, none⟩) [.int .i64 3]) ∧ RowAt w (some ⟨bk, 0, none⟩) [.int .i64 11, .int .i64 12, .int .i64 13, .int .i64 14], [] ++ slotRows b1 54 a cap C ++ []⟩) (Ent.trans (Ent.of_le (F' := ⟨fun w => PAt P w, (([] ++ slotRows b1 54 a cap C ++ []) ++ [(bh, Row.c [.int .i64 3])]) ++ [(bk, Row.c [.int .i64 11, .int .i64 12, .int .i64 13, .int .i64 14])]⟩) ⟨by simp [Value.cells], fun w hw => hw⟩) (Ent.trans Ent.shareLast (Ent.trans Ent.shareLast (Ent.imp fun w hw => ⟨⟨hw.1.1, hw.2⟩, hw.1.2⟩)))) ?_
   refine XCall.rows (effect_spec b1 54 a cap C _ hO (by decide) (⟨some ⟨bh, 0, none⟩, 1⟩ : Hd) 1 ⟨some ⟨bk, 0, none⟩, 4⟩ [11, 12, 13, 14] (hd_new _ _) (by decide)) (fun w hw => hw.2) (fun v F hv => ?_)
   obtain ⟨a', c', C', hO', rfl⟩ := hv
   have hO2 : Sx.Owg 4 (54 + 4) a' c' C' (P.flatMap lhC ++ (efQ [11, 12, 13, 14] [3] (⟨some ⟨bh, 0, none⟩, 1⟩ : Hd)).flatMap lhC) := hO'
   conv => whnf
   repeat (first | (refine XSame.of ?_; conv => whnf) | (refine XDep.all _ _ _ _ ?_; conv => whnf))
   refine ⟨(a', c', C', P ++ efQ [11, 12, 13, 14] [3] (⟨some ⟨bh, 0, none⟩, 1⟩ : Hd)), g.many (m := 4) (Q := efQ [11, 12, 13, 14] [3] (⟨some ⟨bh, 0, none⟩, 1⟩ : Hd)) (efQ_len _ _ _) (efQ_all fun _ => hd_new _ _) rfl (by decide) hO2, [], ⟨by decide, by simp, rfl⟩, ?_, Ent.of_le ⟨by simp, fun w hw => (hw.1.1.1).many (efQ_all fun _ => hw.1.1.2)⟩⟩
   repeat (first | exact FLe.nil | refine FLe.any ?_ | refine FLe.cons ?_)

theorem ln29 (h : LA 30 59 w0 av b1) : LA 29 58 w0 av b1 := by
 intro a cap C P g
 refine XStop.cutN tabOk 1 (ι := Option Addr × Nat × List Value × List (Ln × Hd)) (fun x => PG 59 x.2.2.2 x.1 x.2.1 x.2.2.1) (fun _ => lnTm b1) (fun _ => []) (fun x => ⟨PAt x.2.2.2, [] ++ slotRows b1 59 x.1 x.2.1 x.2.2.1 ++ []⟩) ?_ ?_
 rotate_left
 · intro x hx bs' hbs'
   obtain rfl := List.eq_nil_of_length_eq_zero hbs'
   rw [cTail_add]
   exact h x.1 x.2.1 x.2.2.1 x.2.2.2 hx
 · have hlen := g.len
   have hO := g.own
   rw [hlen] at hO
   conv => whnf
   repeat (first | (refine XSame.of ?_; conv => whnf) | (refine XDep.all _ _ _ _ ?_; conv => whnf))
   refine XVal.build tabOk rfl rfl rfl [.int .i64 5] rfl rfl (by simp [Value.cells]) (by decide) fun bh => ?_
   conv => whnf
   repeat (first | (refine XSame.of ?_; conv => whnf) | (refine XDep.all _ _ _ _ ?_; conv => whnf))
   refine XVal.build tabOk rfl rfl rfl [.int .i64 15] rfl rfl (by simp [Value.cells]) (by decide) fun bk => ?_
   conv => whnf
   repeat (first | (refine XSame.of ?_; conv => whnf) | (refine XDep.all _ _ _ _ ?_; conv => whnf))
   refine XCall.ent (F' := ⟨fun w => (PAt P w ∧ RowAt w (some ⟨bh, 0, none⟩) [.int .i64 5]) ∧ RowAt w (some ⟨bk, 0, none⟩) [.int .i64 15], [] ++ slotRows b1 58 a cap C ++ []⟩) (Ent.trans (Ent.of_le (F' := ⟨fun w => PAt P w, (([] ++ slotRows b1 58 a cap C ++ []) ++ [(bh, Row.c [.int .i64 5])]) ++ [(bk, Row.c [.int .i64 15])]⟩) ⟨by simp [Value.cells], fun w hw => hw⟩) (Ent.trans Ent.shareLast (Ent.trans Ent.shareLast (Ent.imp fun w hw => ⟨⟨hw.1.1, hw.2⟩, hw.1.2⟩)))) ?_
   refine XCall.rows (effect_spec b1 58 a cap C _ hO (by decide) (⟨some ⟨bh, 0, none⟩, 1⟩ : Hd) 1 ⟨some ⟨bk, 0, none⟩, 1⟩ [15] (hd_new _ _) (by decide)) (fun w hw => hw.2) (fun v F hv => ?_)
   obtain ⟨a', c', C', hO', rfl⟩ := hv
   have hO2 : Sx.Owg 4 (58 + 1) a' c' C' (P.flatMap lhC ++ (efQ [15] [5] (⟨some ⟨bh, 0, none⟩, 1⟩ : Hd)).flatMap lhC) := hO'
   conv => whnf
   repeat (first | (refine XSame.of ?_; conv => whnf) | (refine XDep.all _ _ _ _ ?_; conv => whnf))
   refine ⟨(a', c', C', P ++ efQ [15] [5] (⟨some ⟨bh, 0, none⟩, 1⟩ : Hd)), g.many (m := 1) (Q := efQ [15] [5] (⟨some ⟨bh, 0, none⟩, 1⟩ : Hd)) (efQ_len _ _ _) (efQ_all fun _ => hd_new _ _) rfl (by decide) hO2, [], ⟨by decide, by simp, rfl⟩, ?_, Ent.of_le ⟨by simp, fun w hw => (hw.1.1.1).many (efQ_all fun _ => hw.1.1.2)⟩⟩
   repeat (first | exact FLe.nil | refine FLe.any ?_ | refine FLe.cons ?_)

theorem ln30 (h : LA 31 60 w0 av b1) : LA 30 59 w0 av b1 := by
 intro a cap C P g
 refine XStop.cutN tabOk 1 (ι := Option Addr × Nat × List Value × List (Ln × Hd)) (fun x => PG 60 x.2.2.2 x.1 x.2.1 x.2.2.1) (fun _ => lnTm b1) (fun _ => []) (fun x => ⟨PAt x.2.2.2, [] ++ slotRows b1 60 x.1 x.2.1 x.2.2.1 ++ []⟩) ?_ ?_
 rotate_left
 · intro x hx bs' hbs'
   obtain rfl := List.eq_nil_of_length_eq_zero hbs'
   rw [cTail_add]
   exact h x.1 x.2.1 x.2.2.1 x.2.2.2 hx
 · have hlen := g.len
   have hO := g.own
   rw [hlen] at hO
   conv => whnf
   repeat (first | (refine XSame.of ?_; conv => whnf) | (refine XDep.all _ _ _ _ ?_; conv => whnf))
   refine XVal.build tabOk rfl rfl rfl [.int .i64 1] rfl rfl (by simp [Value.cells]) (by decide) fun bh => ?_
   conv => whnf
   repeat (first | (refine XSame.of ?_; conv => whnf) | (refine XDep.all _ _ _ _ ?_; conv => whnf))
   refine XVal.build tabOk rfl rfl rfl [.int .i64 16] rfl rfl (by simp [Value.cells]) (by decide) fun bk => ?_
   conv => whnf
   repeat (first | (refine XSame.of ?_; conv => whnf) | (refine XDep.all _ _ _ _ ?_; conv => whnf))
   refine XCall.ent (F' := ⟨fun w => (PAt P w ∧ RowAt w (some ⟨bh, 0, none⟩) [.int .i64 1]) ∧ RowAt w (some ⟨bk, 0, none⟩) [.int .i64 16], [] ++ slotRows b1 59 a cap C ++ []⟩) (Ent.trans (Ent.of_le (F' := ⟨fun w => PAt P w, (([] ++ slotRows b1 59 a cap C ++ []) ++ [(bh, Row.c [.int .i64 1])]) ++ [(bk, Row.c [.int .i64 16])]⟩) ⟨by simp [Value.cells], fun w hw => hw⟩) (Ent.trans Ent.shareLast (Ent.trans Ent.shareLast (Ent.imp fun w hw => ⟨⟨hw.1.1, hw.2⟩, hw.1.2⟩)))) ?_
   refine XCall.rows (effect_spec b1 59 a cap C _ hO (by decide) (⟨some ⟨bh, 0, none⟩, 1⟩ : Hd) 1 ⟨some ⟨bk, 0, none⟩, 1⟩ [16] (hd_new _ _) (by decide)) (fun w hw => hw.2) (fun v F hv => ?_)
   obtain ⟨a', c', C', hO', rfl⟩ := hv
   have hO2 : Sx.Owg 4 (59 + 1) a' c' C' (P.flatMap lhC ++ (efQ [16] [1] (⟨some ⟨bh, 0, none⟩, 1⟩ : Hd)).flatMap lhC) := hO'
   conv => whnf
   repeat (first | (refine XSame.of ?_; conv => whnf) | (refine XDep.all _ _ _ _ ?_; conv => whnf))
   refine ⟨(a', c', C', P ++ efQ [16] [1] (⟨some ⟨bh, 0, none⟩, 1⟩ : Hd)), g.many (m := 1) (Q := efQ [16] [1] (⟨some ⟨bh, 0, none⟩, 1⟩ : Hd)) (efQ_len _ _ _) (efQ_all fun _ => hd_new _ _) rfl (by decide) hO2, [], ⟨by decide, by simp, rfl⟩, ?_, Ent.of_le ⟨by simp, fun w hw => (hw.1.1.1).many (efQ_all fun _ => hw.1.1.2)⟩⟩
   repeat (first | exact FLe.nil | refine FLe.any ?_ | refine FLe.cons ?_)

theorem ln31 (h : LA 32 63 w0 av b1) : LA 31 60 w0 av b1 := by
 intro a cap C P g
 refine XStop.cutN tabOk 1 (ι := Option Addr × Nat × List Value × List (Ln × Hd)) (fun x => PG 63 x.2.2.2 x.1 x.2.1 x.2.2.1) (fun _ => lnTm b1) (fun _ => []) (fun x => ⟨PAt x.2.2.2, [] ++ slotRows b1 63 x.1 x.2.1 x.2.2.1 ++ []⟩) ?_ ?_
 rotate_left
 · intro x hx bs' hbs'
   obtain rfl := List.eq_nil_of_length_eq_zero hbs'
   rw [cTail_add]
   exact h x.1 x.2.1 x.2.2.1 x.2.2.2 hx
 · conv => whnf
   repeat (first | (refine XSame.of ?_; conv => whnf) | (refine XDep.all _ _ _ _ ?_; conv => whnf))
   refine XVal.build tabOk rfl rfl rfl [.int .i64 7, .int .i64 8, .int .i64 9] rfl rfl (by simp [Value.cells]) (by decide) fun bv => ?_
   conv => whnf
   repeat (first | (refine XSame.of ?_; conv => whnf) | (refine XDep.all _ _ _ _ ?_; conv => whnf))
   obtain ⟨L, hL⟩ : ∃ L : List Int, L = [7, 8, 9] := ⟨_, rfl⟩
   have hE : Ent (⟨PAt P, ([] ++ slotRows b1 60 a cap C ++ []) ++ [(bv, Row.c [.int .i64 7, .int .i64 8, .int .i64 9])]⟩ : Fx) ⟨fun w => PAt P w ∧ RowAt w (some ⟨bv, 0, none⟩) (L.map numV), [] ++ slotRows b1 (60 + 0) a cap C ++ []⟩ := by rw [hL]; exact Ent.shareLast
   have hLl : L.length = 3 := by rw [hL]; decide
   have hLn : ∀ i, i < 3 → bootLns[60 + i]? = some ⟨3, 0, ((1 + i : Nat) : Int), [L[i]!]⟩ := by rw [hL]; decide
   refine XStop.loop tabOk (ι := Nat × Option Addr × Nat × List Value × List (Ln × Hd)) ([13, 14, 121] ++ List.range' 122 14) (fun x => x.1 ≤ 3 ∧ PG (60 + x.1) x.2.2.2.2 x.2.1 x.2.2.1 x.2.2.2.1) (fun x => [(121, .v (.int .i64 (x.1 : Int)))]) (fun _ => [])
    (fun x => ⟨fun w => PAt x.2.2.2.2 w ∧ RowAt w (some ⟨bv, 0, none⟩) (L.map numV), [] ++ slotRows b1 (60 + x.1) x.2.1 x.2.2.1 x.2.2.2.1 ++ []⟩) (fun x => 3 - x.1) (0, a, cap, C, P) ⟨Nat.zero_le _, g⟩ ?_ rfl (Ent.trans (Ent.of_le ⟨by simp [Value.cells], fun w hw => hw⟩) hE) fun x hx => ?_
   · conv => whnf
     repeat (first | exact FLe.nil | refine FLe.any ?_ | refine FLe.cons ?_)
   clear g hE
   obtain ⟨i, a, cap, C, P⟩ := x
   obtain ⟨hi, g⟩ := hx
   dsimp only at hi g ⊢
   have hl := g.len
   have hO := g.own
   rw [hl] at hO
   conv => whnf
   repeat (first | (refine XSame.of ?_; conv => whnf) | (refine XDep.all _ _ _ _ ?_; conv => whnf))
   refine XIf.split (fun hlt => ?_) (fun hlt => ?_)
   · have hlt' : i < 3 := by
      simp [iLt_eq] at hlt
      omega
     have hx := hLn i hlt'
     have hLi : L[i]! = L[i] := by simp [hLl, hlt']
     rw [hLi] at hx
     have hw1 : IntKind.i64.wrap (1 + (i : Int)) = ((1 + i : Nat) : Int) := by rw [wrap_i64 (by omega)]; omega
     conv => whnf
     repeat (first | (refine XSame.of ?_; conv => whnf) | (refine XDep.all _ _ _ _ ?_; conv => whnf))
     refine XVal.of_read (XRead.index tabOk rfl rfl rfl (by omega) (by omega) (fun h => by cases h) fun ad had => ?_)
     conv => whnf
     repeat (first | (refine XSame.of ?_; conv => whnf) | (refine XDep.all _ _ _ _ ?_; conv => whnf))
     refine XVal.of_read (XRead.load tabOk rfl rfl (ad := ad) (k := i) (L := L.map numV) (v := .int .i64 L[i]) (.fact fun w hw => had ▸ hw.2) (by simp) (by rw [List.getElem?_map, List.getElem?_eq_getElem (by omega)]; rfl) ?_)
     conv => whnf
     repeat (first | (refine XSame.of ?_; conv => whnf) | (refine XDep.all _ _ _ _ ?_; conv => whnf))
     refine XVal.of_read (XRead.loadF tabOk rfl rfl (ad := ⟨b1, 0, none⟩) (k := 0) (L := [.slice a (60 + i) cap]) (v := .slice a (60 + i) cap) (Sees.row (by simp [slotRows])) (fun _ => rfl) rfl ?_)
     conv => whnf
     repeat (first | (refine XSame.of ?_; conv => whnf) | (refine XDep.all _ _ _ _ ?_; conv => whnf))
     refine XVal.build tabOk rfl rfl rfl [.int .i64 L[i]] rfl rfl (by simp [Value.cells]) (by decide) fun bh => ?_
     conv => whnf
     repeat (first | (refine XSame.of ?_; conv => whnf) | (refine XDep.all _ _ _ _ ?_; conv => whnf))
     refine XVal.build tabOk rfl rfl rfl [.agg ⟨[numV 3, numV 0, .int .i64 (IntKind.i64.wrap (1 + (i : Int))), .slice (some ⟨bh, 0, none⟩) 1 1]⟩] rfl rfl (by simp [Value.cells]) (by decide) fun b5 => ?_
     rw [hw1]
     conv => whnf
     repeat (first | (refine XSame.of ?_; conv => whnf) | (refine XDep.all _ _ _ _ ?_; conv => whnf))
     refine XVal.ent (F' := ⟨fun w => (PAt P w ∧ RowAt w (some ⟨bv, 0, none⟩) (L.map numV)) ∧ RowAt w (some ⟨bh, 0, none⟩) [.int .i64 L[i]], [(b1, Row.c [.slice a (60 + i) cap])] ++ orow a C ++ [(b5, Row.c [numV 3, numV 0, .int .i64 ((1 + i : Nat) : Int), .slice (some ⟨bh, 0, none⟩) 1 1])]⟩)
      (Ent.trans (Ent.perm (rs' := ([(b1, Row.c [.slice a (60 + i) cap])] ++ orow a C ++ [(b5, Row.c [numV 3, numV 0, .int .i64 ((1 + i : Nat) : Int), .slice (some ⟨bh, 0, none⟩) 1 1])]) ++ [(bh, Row.c [.int .i64 L[i]])]) (by simp [Value.cells, slotRows]; exact List.Perm.append_left _ (List.Perm.swap _ _ _))) Ent.shareLast) ?_
     refine XVal.append1 tabOk rfl rfl rfl rfl rfl rfl (M := [numV 3, numV 0, .int .i64 ((1 + i : Nat) : Int), .slice (some ⟨bh, 0, none⟩) 1 1]) hO (Sees.row (by simp)) rfl (List.all_eq_true.1 (by rfl)) (by omega) (by show (60 + i + (60 + i) / 4 + 600) * 48 ≤ 2 ^ 48; omega) fun a' c' C' hO' => ?_
     conv => whnf
     repeat (first | (refine XSame.of ?_; conv => whnf) | (refine XDep.all _ _ _ _ ?_; conv => whnf))
     refine XUnit.ent (F' := ⟨fun w => (PAt P w ∧ RowAt w (some ⟨bv, 0, none⟩) (L.map numV)) ∧ RowAt w (some ⟨bh, 0, none⟩) [.int .i64 L[i]], [] ++ [(b1, Row.c [.slice a (60 + i) cap])] ++ orow a' C'⟩) (Ent.of_le ⟨by simp, fun w hw => hw⟩) ?_
     refine XUnit.storeTo tabOk rfl (b := b1) (k := 0) (X := [.slice a' (60 + i + 1) c']) rfl rfl (List.all_eq_true.1 (by rfl)) (Nat.le_refl _) rfl ?_
     conv => whnf
     repeat (first | (refine XSame.of ?_; conv => whnf) | (refine XDep.all _ _ _ _ ?_; conv => whnf))
     refine ⟨(i + 1, a', c', C', P ++ [(⟨3, 0, ((1 + i : Nat) : Int), [L[i]]⟩, ⟨some ⟨bh, 0, none⟩, 1⟩)]), ⟨⟨hlt', g.next hx (hd_new _ _) (by rw [hl]; exact hO')⟩, by dsimp only; omega⟩, ?_, ?_, Ent.of_le ⟨by simp [slotRows]; exact List.Sublist.refl _, fun w hw => ⟨hw.1.1.next hw.2, hw.1.2⟩⟩⟩
     · conv => whnf
       refine ⟨?_, rfl⟩
       repeat (first | exact FLe.nil | refine FLe.any ?_ | refine FLe.cons ?_ | refine FLe.eq (by rw [wrap_i64 (by omega)]; rfl) ?_)
     · conv => whnf
       exact trivial
   · have hie : i = 3 := by
      simp [iLt_eq] at hlt
      omega
     subst hie
     conv => whnf
     repeat (first | (refine XSame.of ?_; conv => whnf) | (refine XDep.all _ _ _ _ ?_; conv => whnf))
     refine ⟨(a, cap, C, P), g, [], ⟨by decide, by simp, rfl⟩, ?_, Ent.of_le ⟨List.Sublist.refl _, fun w hw => hw.1⟩⟩
     repeat (first | exact FLe.nil | refine FLe.any ?_ | refine FLe.cons ?_)

theorem ln32 : LA 32 63 w0 av b1 := by
 intro a cap C P g
 have hl := g.len
 have hO := g.own
 rw [hl] at hO
 obtain ⟨b, hb⟩ : ∃ ad : Addr, a = some ad := by
  rcases hO.alt with ⟨-, -, hc⟩ | ⟨b', hb, -⟩
  · have := hO.fit
    omega
  · exact ⟨_, hb⟩
 have hfit := hO.fit
 refine XStop.of_xc tabOk ?_
 conv => whnf
 repeat (first | (refine XSame.of ?_; conv => whnf) | (refine XDep.all _ _ _ _ ?_; conv => whnf))
 refine XVal.of_read (XRead.loadF tabOk rfl rfl (ad := ⟨b1, 0, none⟩) (k := 0) (L := [.slice a 63 cap]) (v := .slice a 63 cap) (Sees.row (by simp [slotRows])) (fun _ => rfl) rfl ?_)
 conv => whnf
 repeat (first | (refine XSame.of ?_; conv => whnf) | (refine XDep.all _ _ _ _ ?_; conv => whnf))
 refine ⟨⟨fun w => RowAt w a (P.flatMap lhC) ∧ PAt P w, []⟩, Ent.trans (Ent.of_le (F' := ⟨PAt P, [] ++ orow a C ++ []⟩) ⟨by simp [slotRows], fun w hw => hw⟩) (Ent.trans (hO.share (r1 := []) (r2 := [])) (Ent.imp fun w hw => ⟨hw.2, hw.1⟩)), P, b, cap, by rw [g.eq]; rfl, g.ok, hfit, by rw [hb], by rw [hb]⟩
end

theorem lines_walk : PureSpec Tryz.prog 108 [] (fun _ => True) RelLn := by
 refine PureSpec.of_stop tabOk Tryz.func108 (c := lnCode) rfl (by decide) (n := Tryz.f108.ntmps - 0) rfl fun w0 av => ?_
 show XStop Tryz.prog w0 (fun _ _ => False) av lnCode _ [] [] _ lnEnd
 refine XStop.cutN tabOk 2 (ι := Nat) (fun _ => True) (fun b1 => lnTm b1) (fun _ => []) (fun b1 => ⟨PAt [], [] ++ slotRows b1 0 none 0 [] ++ []⟩) ?_ ?_
 · conv => whnf
   repeat (first | (refine XSame.of ?_; conv => whnf) | (refine XDep.all _ _ _ _ ?_; conv => whnf))
   refine XVal.allocRow tabOk rfl (z := [.slice none 0 0]) rfl fun b1 => ?_
   conv => whnf
   repeat (first | (refine XSame.of ?_; conv => whnf) | (refine XDep.all _ _ _ _ ?_; conv => whnf))
   refine ⟨b1, trivial, [], ⟨by decide, by simp, rfl⟩, ?_, Ent.of_le ⟨by simp [slotRows, orow], fun w hw x hx => by cases hx⟩⟩
   repeat (first | exact FLe.nil | refine FLe.any ?_ | refine FLe.cons ?_)
 · intro b1 _ bs' hbs'
   obtain rfl := List.eq_nil_of_length_eq_zero hbs'
   exact ln2 (ln3 (ln4 (ln5 (ln6 (ln7 (ln8 (ln9 (ln10 (ln11 (ln12 (ln13 (ln14 (ln15 (ln16 (ln17 (ln18 (ln19 (ln20 (ln21 (ln22 (ln23 (ln24 (ln25 (ln26 (ln27 (ln28 (ln29 (ln30 (ln31 ln32))))))))))))))))))))))))))))) none 0 [] [] ⟨Sx.Owg.nil 4, fun x hx => (by cases hx), rfl, by decide⟩

theorem lines_spec : PureSpec Tryz.prog 108 [] (fun _ => True)
 (fun v F => ∃ (a : Addr) (c : Nat) (hd : Nat → Hd), bootLns.length ≤ c ∧ (∀ j, j < bootLns.length → (hd j).Ok (bootLns[j]!).l.length) ∧ v = .slice (some a) bootLns.length c ∧
  F = ⟨fun w => RowAt w (some a) ((List.range bootLns.length).flatMap fun j => lnC bootLns[j]! (hd j)) ∧ ∀ j, j < bootLns.length → RowAt w (hd j).a (bootLns[j]!.l.map numV), []⟩) := by
 refine lines_walk.weaken fun v F hv => ?_
 obtain ⟨P, a, c, h1, h2, h3, rfl, rfl⟩ := hv
 have hl : P.length = bootLns.length := by rw [← h1, List.length_map]
 have hg : ∀ j (hj : j < P.length), bootLns[j]! = P[j].1 := fun j hj => by
  rw [getElem!_pos bootLns j (by omega)]
  have : (P.map Prod.fst)[j]'(by simpa using hj) = P[j].1 := by simp
  rw [← this]
  congr 1
  exact h1.symm
 let hd : Nat → Hd := fun j => if h : j < P.length then P[j].2 else Hd.nil
 have hh : ∀ j (hj : j < P.length), hd j = P[j].2 := fun j hj => dif_pos hj
 have hP : P = (List.range P.length).map fun j => (bootLns[j]!, hd j) := by
  apply List.ext_getElem
  · simp
  · intro j hj1 hj2
    rw [List.getElem_map, List.getElem_range, hg j hj1, hh j hj1]
 have hf : P.flatMap lhC = (List.range bootLns.length).flatMap fun j => lnC bootLns[j]! (hd j) := by
  rw [hP, List.flatMap_map, hl]
  rfl
 refine ⟨_, Ent.imp (D' := fun w => RowAt w (some a) ((List.range bootLns.length).flatMap fun j => lnC bootLns[j]! (hd j)) ∧ ∀ j, j < bootLns.length → RowAt w (hd j).a (bootLns[j]!.l.map numV)) fun w hw => ⟨hf ▸ hw.1, fun j hj => ?_⟩, a, c, hd, h3, fun j hj => ?_, rfl, rfl⟩
 · rw [hh j (by omega), hg j (by omega)]
   exact hw.2 _ (List.getElem_mem _)
 · rw [hh j (by omega), hg j (by omega)]
   exact h2 _ (List.getElem_mem _)

end Go.Proofs.YtajkcdplmkaipaaGreatDoor
namespace Go.Proofs.YtajkcdplmkaipaaGreatDoor
open Go Go.Sx
set_option maxRecDepth 100000
set_option maxHeartbeats 4000000
set_option linter.unusedVariables false
set_option linter.unusedSimpArgs false

def cpL (l : List Cp) (p o : Int) (r : Rt) : List Cp := l ++ [⟨((l.length + 1 : Nat) : Int), p, o, r⟩]
theorem cpL_len (l : List Cp) (p o : Int) (r : Rt) : (cpL l p o r).length = l.length + 1 := by simp [cpL]
theorem cpL_cells (l : List Cp) (p o : Int) (r : Rt) : (cpL l p o r).flatMap cpC = l.flatMap cpC ++ cpC ⟨((l.length + 1 : Nat) : Int), p, o, r⟩ := by simp [cpL]

section
variable {w0 : World} {R : Nat → Nat → Prop} {av : Nat → Prop}

theorem add31 {D : World → Prop} {x0 x1 x2 : Nat × Nat} {c0 c2 : List Value} {r1 : List (Nat × Row)} {a : Option Addr} {cap : Nat} {C : List Value} (l : List Cp) (hO : Sx.Owg 6 l.length a cap C (l.flatMap cpC)) (hl : l.length ≤ 1000) (p o : Int) (r : Rt) {K : KV}
 (h : ∀ a' cap' C', Sx.Owg 6 (l.length + 1) a' cap' C' ((cpL l p o r).flatMap cpC) → K (.int .i64 ((l.length + 1 : Nat) : Int)) [x0, x1, x2] [c0, [.int .i64 ((l.length + 2 : Nat) : Int), .slice a' (l.length + 1) cap'], c2] ⟨D, r1 ++ orow a' C' ++ []⟩) :
 XCall Tryz.prog w0 R av 109 [.pointer (some ⟨x1.1, x1.2 + 0, none⟩), .int .i64 p, .int .i64 o, .agg ⟨rtC r⟩] [x0, x1, x2] [c0, [.int .i64 ((l.length + 1 : Nat) : Int), .slice a l.length cap], c2] ⟨D, r1 ++ orow a C ++ []⟩ K := by
 obtain ⟨y0, z0⟩ := x0; obtain ⟨y1, z1⟩ := x1; obtain ⟨y2, z2⟩ := x2
 have hw : IntKind.i64.wrap (((l.length + 1 : Nat) : Int) + 1) = ((l.length + 2 : Nat) : Int) := by rw [wrap_i64 (by omega)]; omega
 refine XCall.inlineD tabOk Tryz.func109 rfl (by decide) (n := Tryz.f109.ntmps - 4) [.p 1 0, .v _, .v _, .v _] rfl (by exact ⟨⟨rfl, by simp⟩, rfl, rfl, rfl, trivial⟩) ?_
 conv => whnf
 repeat (first | (refine XSame.of ?_; conv => whnf) | (refine XDep.all _ _ _ _ ?_; conv => whnf))
 intro b7
 conv => whnf
 repeat (first | (refine XSame.of ?_; conv => whnf) | (refine XDep.all _ _ _ _ ?_; conv => whnf))
 refine XStop.draw tabOk mixed rfl rfl ?_
 conv => whnf
 repeat' (first
  | (refine And.intro ?_ ?_ <;> conv => whnf)
  | (refine XHeld.same rfl ?_; conv => whnf)
  | (refine XHeld.row rfl ?_; conv => whnf)
  | (refine XHeld.call rfl ?_; conv => whnf)
  | (refine XHeld.factCall rfl ?_; conv => whnf)
  | (refine XKeep.of ?_; conv => whnf)
  | (refine XSame.of ?_; conv => whnf)
  | (refine XDep.all _ _ _ _ ?_; conv => whnf)
  | (refine XVal.build tabOk rfl rfl rfl [.agg ⟨cpC ⟨((l.length + 1 : Nat) : Int), p, o, r⟩⟩] rfl rfl (by simp [Value.cells, cpC]) (by decide) fun b5 => ?_; conv => whnf)
  | (refine XVal.ent (F' := ⟨D, r1 ++ orow a C ++ [(b5, Row.c (cpC ⟨((l.length + 1 : Nat) : Int), p, o, r⟩))]⟩) (Ent.of_le ⟨by simp [Value.cells], fun w hw => hw⟩) ?_; refine XVal.append1 tabOk rfl rfl rfl rfl rfl rfl (M := cpC ⟨((l.length + 1 : Nat) : Int), p, o, r⟩) hO (Sees.row (by simp)) rfl (List.all_eq_true.1 (by rfl)) (by omega) (by show (l.length + l.length / 4 + 600) * 48 ≤ 2 ^ 48; omega) fun a' c' C' hO' => ?_; conv => whnf)
  | (refine XHeld.mk ?_ ?_; (focus (first | exact Ent.refl _ | exact Ent.left _ _ | exact Ent.of_le ⟨List.sublist_append_left _ _, fun w h => h⟩ | exact Ent.of_le ⟨List.Sublist.refl _, fun w h => h.1⟩)); conv => whnf))
 rw [← cpL_cells] at hO'
 rw [hw]
 exact ⟨⟨[(b7, 0)], [c0, [.int .i64 ((l.length + 2 : Nat) : Int), .slice a' (l.length + 1) c'], c2], [rtC r], ⟨D, r1 ++ orow a' C' ++ []⟩, rfl, rfl, rfl, Ent.of_le ⟨by simp, fun w hw => hw⟩, h _ _ _ hO'⟩⟩

theorem add40 {D : World → Prop} {x0 x1 x2 x3 : Nat × Nat} {c1 c2 c3 : List Value} {r1 : List (Nat × Row)} {a : Option Addr} {cap : Nat} {C : List Value} (l : List Cp) (hO : Sx.Owg 6 l.length a cap C (l.flatMap cpC)) (hl : l.length ≤ 1000) (p o : Int) (r : Rt) {K : KV}
 (h : ∀ a' cap' C', Sx.Owg 6 (l.length + 1) a' cap' C' ((cpL l p o r).flatMap cpC) → K (.int .i64 ((l.length + 1 : Nat) : Int)) [x0, x1, x2, x3] [[.int .i64 ((l.length + 2 : Nat) : Int), .slice a' (l.length + 1) cap'], c1, c2, c3] ⟨D, r1 ++ orow a' C' ++ []⟩) :
 XCall Tryz.prog w0 R av 109 [.pointer (some ⟨x0.1, x0.2 + 0, none⟩), .int .i64 p, .int .i64 o, .agg ⟨rtC r⟩] [x0, x1, x2, x3] [[.int .i64 ((l.length + 1 : Nat) : Int), .slice a l.length cap], c1, c2, c3] ⟨D, r1 ++ orow a C ++ []⟩ K := by
 obtain ⟨y0, z0⟩ := x0; obtain ⟨y1, z1⟩ := x1; obtain ⟨y2, z2⟩ := x2; obtain ⟨y3, z3⟩ := x3
 have hw : IntKind.i64.wrap (((l.length + 1 : Nat) : Int) + 1) = ((l.length + 2 : Nat) : Int) := by rw [wrap_i64 (by omega)]; omega
 refine XCall.inlineD tabOk Tryz.func109 rfl (by decide) (n := Tryz.f109.ntmps - 4) [.p 0 0, .v _, .v _, .v _] rfl (by exact ⟨⟨rfl, by simp⟩, rfl, rfl, rfl, trivial⟩) ?_
 conv => whnf
 repeat (first | (refine XSame.of ?_; conv => whnf) | (refine XDep.all _ _ _ _ ?_; conv => whnf))
 intro b7
 conv => whnf
 repeat (first | (refine XSame.of ?_; conv => whnf) | (refine XDep.all _ _ _ _ ?_; conv => whnf))
 refine XStop.draw tabOk mixed rfl rfl ?_
 conv => whnf
 repeat' (first
  | (refine And.intro ?_ ?_ <;> conv => whnf)
  | (refine XHeld.same rfl ?_; conv => whnf)
  | (refine XHeld.row rfl ?_; conv => whnf)
  | (refine XHeld.call rfl ?_; conv => whnf)
  | (refine XHeld.factCall rfl ?_; conv => whnf)
  | (refine XKeep.of ?_; conv => whnf)
  | (refine XSame.of ?_; conv => whnf)
  | (refine XDep.all _ _ _ _ ?_; conv => whnf)
  | (refine XVal.build tabOk rfl rfl rfl [.agg ⟨cpC ⟨((l.length + 1 : Nat) : Int), p, o, r⟩⟩] rfl rfl (by simp [Value.cells, cpC]) (by decide) fun b5 => ?_; conv => whnf)
  | (refine XVal.ent (F' := ⟨D, r1 ++ orow a C ++ [(b5, Row.c (cpC ⟨((l.length + 1 : Nat) : Int), p, o, r⟩))]⟩) (Ent.of_le ⟨by simp [Value.cells], fun w hw => hw⟩) ?_; refine XVal.append1 tabOk rfl rfl rfl rfl rfl rfl (M := cpC ⟨((l.length + 1 : Nat) : Int), p, o, r⟩) hO (Sees.row (by simp)) rfl (List.all_eq_true.1 (by rfl)) (by omega) (by show (l.length + l.length / 4 + 600) * 48 ≤ 2 ^ 48; omega) fun a' c' C' hO' => ?_; conv => whnf)
  | (refine XHeld.mk ?_ ?_; (focus (first | exact Ent.refl _ | exact Ent.left _ _ | exact Ent.of_le ⟨List.sublist_append_left _ _, fun w h => h⟩ | exact Ent.of_le ⟨List.Sublist.refl _, fun w h => h.1⟩)); conv => whnf))
 rw [← cpL_cells] at hO'
 rw [hw]
 exact ⟨⟨[(b7, 0)], [[.int .i64 ((l.length + 2 : Nat) : Int), .slice a' (l.length + 1) c'], c1, c2, c3], [rtC r], ⟨D, r1 ++ orow a' C' ++ []⟩, rfl, rfl, rfl, Ent.of_le ⟨by simp, fun w hw => hw⟩, h _ _ _ hO'⟩⟩

end

def holdL (r : Rt) (root : Int) (l : List Cp) (hs : List Int) : List Cp := hs.foldl (fun s h => cpL s root h r) l
def lnR (x : Ln) : Rt := ⟨x.a, x.b, x.c⟩
def bootStep (l : List Cp) (x : Ln) : List Cp := holdL (lnR x) ((l.length + 1 : Nat) : Int) (cpL l 0 0 (lnR x)) x.l
def bootT (L : List Ln) : List Cp := L.foldl bootStep []

theorem holdL_next (r : Rt) (root : Int) (l : List Cp) (hs : List Int) {j : Nat} (hj : j < hs.length) : holdL r root l (hs.take (j + 1)) = cpL (holdL r root l (hs.take j)) root hs[j] r := by
 unfold holdL
 rw [List.take_succ_eq_append_getElem hj, List.foldl_append]
 rfl
theorem holdL_len (r : Rt) (root : Int) : ∀ (hs : List Int) (l : List Cp), (holdL r root l hs).length = l.length + hs.length
 | [], l => rfl
 | h :: hs, l => by
  show (holdL r root (cpL l root h r) hs).length = _
  rw [holdL_len r root hs, cpL_len, List.length_cons]
  omega
theorem bootT_next (L : List Ln) {i : Nat} (hi : i < L.length) : bootT (L.take (i + 1)) = bootStep (bootT (L.take i)) L[i] := by
 unfold bootT
 rw [List.take_succ_eq_append_getElem hi, List.foldl_append]
 rfl
theorem boot_small : ∀ i, i ≤ 63 → (bootT (bootLns.take i)).length ≤ 200 := by
 have h : (List.range 64).all (fun i => decide ((bootT (bootLns.take i)).length ≤ 200)) = true := by decide +kernel
 intro i hi
 exact of_decide_eq_true (List.all_eq_true.1 h i (List.mem_range.2 (by omega)))
theorem boot_hold : ∀ i, i < 63 → (bootLns[i]!).l.length ≤ 20 := by
 have h : (List.range 63).all (fun i => decide ((bootLns[i]!).l.length ≤ 20)) = true := by decide +kernel
 intro i hi
 exact of_decide_eq_true (List.all_eq_true.1 h i (List.mem_range.2 hi))

end Go.Proofs.YtajkcdplmkaipaaGreatDoor
namespace Go.Proofs.YtajkcdplmkaipaaGreatDoor
open Go Go.Sx
set_option maxRecDepth 100000
set_option maxHeartbeats 4000000
set_option linter.unusedVariables false
set_option linter.unusedSimpArgs false

def lnsC (L : List Ln) (hd : Nat → Hd) : List Value := (List.range L.length).flatMap fun j => lnC L[j]! (hd j)
theorem lnsC_get (L : List Ln) (hd : Nat → Hd) {i : Nat} (hi : i < L.length) : ((lnsC L hd).drop (i * 4)).take 4 = lnC L[i] (hd i) := by
 unfold lnsC
 rw [fm_get (cf := fun j => lnC L[j]! (hd j)) (z := 4) (fun _ => rfl) (l := List.range L.length) (by simpa using hi)]
 simp [hi]

/-- What holds of a table as it grows. -/
structure TbI (L : List Ln) (i j : Nat) (l : List Cp) : Prop where
 len : l.length ≤ 300
 eq : l = holdL (lnR L[i]!) (((bootT (L.take i)).length + 1 : Nat) : Int) (cpL (bootT (L.take i)) 0 0 (lnR L[i]!)) (L[i]!.l.take j)

theorem boot_spec (entT : List Cp) (hE : ∀ h : Hd, h.Ok (bootT bootLns).length → PureSpec Tryz.prog 110 [.agg ⟨[.int .i64 (((bootT bootLns).length + 1 : Nat) : Int), h.v (bootT bootLns).length]⟩, .int .i64 16] (fun w => RowAt w h.a ((bootT bootLns).flatMap cpC))
 (fun v F => ∃ k : Hd, k.Ok entT.length ∧ v = .tuple ⟨[.agg ⟨[.int .i64 ((entT.length + 1 : Nat) : Int), k.v entT.length]⟩, .int .i64 0]⟩ ∧ F = ⟨fun w => RowAt w k.a (entT.flatMap cpC), []⟩)) :
 PureSpec Tryz.prog 74 [] (fun _ => True) (fun v F => ∃ h : Hd, h.Ok entT.length ∧ v = .agg ⟨[.int .i64 ((entT.length + 1 : Nat) : Int), h.v entT.length]⟩ ∧ F = ⟨fun w => RowAt w h.a (entT.flatMap cpC), []⟩) := by
 have h1 := lines_spec
 have hsm := boot_small
 have hho := boot_hold
 have hL63 : bootLns.length = 63 := by decide
 obtain ⟨L, hL⟩ : ∃ L, bootLns = L := ⟨_, rfl⟩
 rw [hL] at h1 hsm hho hL63
 have hEL := hE
 rw [hL] at hEL
 clear hE hL
 obtain ⟨n, hn⟩ : ∃ n, L.length = n := ⟨_, rfl⟩
 rw [hn] at h1 hL63
 refine PureSpec.of_xc tabOk Tryz.func74 rfl (by decide) (n := Tryz.f74.ntmps - 0) rfl rfl fun w0 av => ?_
 refine padK_mk ?_
 refine xc_alloc1 (ti := (Sx.look tab 110).get rfl) rfl rfl ?_
 conv => whnf
 repeat (first | (refine XSame.of ?_; conv => whnf) | (refine XDep.all _ _ _ _ ?_; conv => whnf))
 intro b0
 conv => whnf
 repeat (first | (refine XSame.of ?_; conv => whnf) | (refine XDep.all _ _ _ _ ?_; conv => whnf))
 intro b1
 conv => whnf
 repeat (first | (refine XSame.of ?_; conv => whnf) | (refine XDep.all _ _ _ _ ?_; conv => whnf))
 refine XCall.pure h1 (fun w hw => trivial) (fun v D hv => ?_)
 obtain ⟨aL, cL, hd, hcL, hhd, rfl, rfl⟩ := hv
 conv => whnf
 repeat (first | (refine XSame.of ?_; conv => whnf) | (refine XDep.all _ _ _ _ ?_; conv => whnf))
 refine XStop.loop tabOk (ι := Nat × List Cp × Option Addr × Nat × List Value) ([3, 4, 6, 10] ++ List.range' 11 20) (fun x => x.1 ≤ n ∧ x.2.1 = bootT (L.take x.1) ∧ Sx.Owg 6 x.2.1.length x.2.2.1 x.2.2.2.1 x.2.2.2.2 (x.2.1.flatMap cpC))
  (fun x => [(10, .v (.int .i64 (x.1 : Int)))]) (fun x => [[.int .i64 0, .slice none 0 0], [.int .i64 ((x.2.1.length + 1 : Nat) : Int), .slice x.2.2.1 x.2.1.length x.2.2.2.1]]) (fun x => ⟨fun w => RowAt w (some aL) (lnsC L hd) ∧ ∀ j, j < n → RowAt w (hd j).a (L[j]!.l.map numV), [] ++ orow x.2.2.1 x.2.2.2.2 ++ []⟩)
  (fun x => n - x.1) (0, [], none, 0, []) ⟨Nat.zero_le _, by simp [bootT], Sx.Owg.nil 6⟩ ?_ rfl (Ent.of_le ⟨by simp [orow, Fx.and], fun w hw => ?_⟩) fun x hx => ?_
 · conv => whnf
   repeat (first | exact FLe.nil | refine FLe.any ?_ | refine FLe.cons ?_)
 · obtain ⟨-, hw1, hw2⟩ := hw
   exact ⟨by unfold lnsC; rw [hn]; exact hw1, hw2⟩
 obtain ⟨i, l, a, cap, C⟩ := x
 obtain ⟨hi, hl, hO⟩ := hx
 dsimp only at hi hl hO ⊢
 conv => whnf
 repeat (first | (refine XSame.of ?_; conv => whnf) | (refine XDep.all _ _ _ _ ?_; conv => whnf))
 refine XIf.split (fun hlt => ?_) (fun hlt => ?_)
 · have hlt' : i < n := by
    simp [iLt_eq] at hlt
    omega
   conv => whnf
   repeat (first | (refine XSame.of ?_; conv => whnf) | (refine XDep.all _ _ _ _ ?_; conv => whnf))
   refine XVal.of_read (XRead.index tabOk rfl rfl rfl (by omega) (by omega) (fun h => by cases h) fun ad had => ?_)
   conv => whnf
   repeat (first | (refine XSame.of ?_; conv => whnf) | (refine XDep.all _ _ _ _ ?_; conv => whnf))
   refine XVal.of_read (XRead.loads tabOk rfl rfl (ad := ad) (k := i * 4) (L := lnsC L hd) (m := lnC L[i] (hd i)) (.fact fun w hw => had ▸ hw.1) (by simp) (lnsC_get L hd (by omega)) rfl ?_)
   conv => whnf
   repeat (first | (refine XSame.of ?_; conv => whnf) | (refine XDep.all _ _ _ _ ?_; conv => whnf))
   intro b3
   have hbang : L[i]! = L[i] := by simp [hn, hlt']
   have hls : l.length ≤ 200 := by rw [hl]; exact hsm i (by omega)
   have hlo := hho i (by omega)
   have hhi := hhd i hlt'
   rw [hbang] at hlo hhi
   obtain ⟨x, hx⟩ : ∃ x, L[i] = x := ⟨_, rfl⟩
   obtain ⟨hx', hhx⟩ : ∃ h, hd i = h := ⟨_, rfl⟩
   rw [hx] at hlo hhi
   rw [hhx] at hhi
   rw [hx, hhx]
   conv => whnf
   repeat (first | (refine XSame.of ?_; conv => whnf) | (refine XDep.all _ _ _ _ ?_; conv => whnf))
   refine XCall.ent (F' := ⟨fun w => RowAt w (some aL) (lnsC L hd) ∧ ∀ j, j < n → RowAt w (hd j).a (L[j]!.l.map numV), [] ++ orow a C ++ []⟩) (Ent.refl _) ?_
   refine add31 (x0 := (b0, 0)) (x1 := (b1, 0)) (x2 := (b3, 0)) (c0 := [.int .i64 0, .slice none 0 0]) (c2 := lnC x hx') (r1 := []) l hO (by omega) 0 0 (lnR x) fun a1 cap1 C1 hO1 => ?_
   conv => whnf
   repeat (first | (refine XSame.of ?_; conv => whnf) | (refine XDep.all _ _ _ _ ?_; conv => whnf))
   obtain ⟨l1, hl1⟩ : ∃ l1, l1 = cpL l 0 0 (lnR x) := ⟨_, rfl⟩
   have hl1n : l1.length = l.length + 1 := by rw [hl1, cpL_len]
   rw [← hl1] at hO1
   have hrow : ∀ w, (RowAt w (some aL) (lnsC L hd) ∧ ∀ j, j < n → RowAt w (hd j).a (L[j]!.l.map numV)) → RowAt w hx'.a (x.l.map numV) := fun w hw => by
    have := hw.2 i hlt'
    rwa [hbang, hx, hhx] at this
   refine XStop.loop tabOk (ι := Nat × List Cp × Option Addr × Nat × List Value) ([6, 20] ++ List.range' 21 9) (fun y => y.1 ≤ x.l.length ∧ y.2.1 = holdL (lnR x) ((l.length + 1 : Nat) : Int) l1 (x.l.take y.1) ∧ Sx.Owg 6 y.2.1.length y.2.2.1 y.2.2.2.1 y.2.2.2.2 (y.2.1.flatMap cpC))
    (fun y => [(20, .v (.int .i64 (y.1 : Int)))]) (fun y => [[.int .i64 0, .slice none 0 0], [.int .i64 ((y.2.1.length + 1 : Nat) : Int), .slice y.2.2.1 y.2.1.length y.2.2.2.1], lnC x hx']) (fun y => ⟨fun w => RowAt w (some aL) (lnsC L hd) ∧ ∀ j, j < n → RowAt w (hd j).a (L[j]!.l.map numV), [] ++ orow y.2.2.1 y.2.2.2.2 ++ []⟩)
    (fun y => x.l.length - y.1) (0, l1, a1, cap1, C1) ⟨Nat.zero_le _, by simp [holdL], by dsimp only; rw [hl1n]; exact hO1⟩ ?_ (by dsimp only; rw [hl1n]) (Ent.refl _) fun y hy => ?_
   · conv => whnf
     repeat (first | exact FLe.nil | refine FLe.any ?_ | refine FLe.cons ?_)
   obtain ⟨j, l2, a2, cap2, C2⟩ := y
   obtain ⟨hj, hl2, hO2⟩ := hy
   dsimp only at hj hl2 hO2 ⊢
   have hl2n : l2.length = l.length + 1 + j := by
    rw [hl2, holdL_len, hl1n, List.length_take]
    omega
   conv => whnf
   repeat (first | (refine XSame.of ?_; conv => whnf) | (refine XDep.all _ _ _ _ ?_; conv => whnf))
   refine XIf.split (fun hjt => ?_) (fun hjt => ?_)
   · have hjt' : j < x.l.length := by
      simp [iLt_eq] at hjt
      omega
     conv => whnf
     repeat (first | (refine XSame.of ?_; conv => whnf) | (refine XDep.all _ _ _ _ ?_; conv => whnf))
     refine XVal.of_read (XRead.index tabOk rfl rfl rfl (by omega) (by omega) hhi.nil fun ad had => ?_)
     conv => whnf
     repeat (first | (refine XSame.of ?_; conv => whnf) | (refine XDep.all _ _ _ _ ?_; conv => whnf))
     refine XVal.of_read (XRead.load tabOk rfl rfl (ad := ad) (k := j) (L := x.l.map numV) (v := .int .i64 x.l[j]) (.fact fun w hw => had ▸ hrow w hw) (by simp) (by rw [List.getElem?_map, List.getElem?_eq_getElem hjt']; rfl) ?_)
     conv => whnf
     repeat (first | (refine XSame.of ?_; conv => whnf) | (refine XDep.all _ _ _ _ ?_; conv => whnf))
     refine add31 (x0 := (b0, 0)) (x1 := (b1, 0)) (x2 := (b3, 0)) (c0 := [.int .i64 0, .slice none 0 0]) (c2 := lnC x hx') (r1 := []) l2 hO2 (by omega) ((l.length + 1 : Nat) : Int) x.l[j] (lnR x) fun a3 cap3 C3 hO3 => ?_
     conv => whnf
     repeat (first | (refine XSame.of ?_; conv => whnf) | (refine XDep.all _ _ _ _ ?_; conv => whnf))
     refine ⟨(j + 1, cpL l2 ((l.length + 1 : Nat) : Int) x.l[j] (lnR x), a3, cap3, C3), ⟨⟨hjt', by dsimp only; rw [holdL_next _ _ _ _ hjt', ← hl2], by dsimp only; rw [cpL_len]; exact hO3⟩, by dsimp only; omega⟩, ?_, ?_, Ent.refl _⟩
     · conv => whnf
       refine ⟨?_, rfl⟩
       repeat (first | exact FLe.nil | refine FLe.any ?_ | refine FLe.cons ?_ | refine FLe.eq (by rw [wrap_i64 (by omega)]; rfl) ?_)
     · dsimp only
       rw [cpL_len]
       conv => whnf
       exact ⟨⟨rfl, rfl⟩, ⟨rfl, rfl⟩, ⟨rfl, rfl⟩, trivial⟩
   · have hje : j = x.l.length := by
      simp [iLt_eq] at hjt
      omega
     subst hje
     rw [List.take_length] at hl2
     have hnext : l2 = bootT (L.take (i + 1)) := by
      rw [bootT_next L (by omega), hx, ← hl, hl2, hl1]
      rfl
     conv => whnf
     repeat (first | (refine XSame.of ?_; conv => whnf) | (refine XDep.all _ _ _ _ ?_; conv => whnf))
     refine ⟨(i + 1, l2, a2, cap2, C2), ⟨⟨hlt', hnext, hO2⟩, by dsimp only; omega⟩, ?_, ?_, Ent.refl _⟩
     · conv => whnf
       refine ⟨?_, rfl⟩
       repeat (first | exact FLe.nil | refine FLe.any ?_ | refine FLe.cons ?_ | refine FLe.eq (by rw [wrap_i64 (by omega)]; rfl) ?_)
     · conv => whnf
       exact ⟨⟨rfl, rfl⟩, ⟨rfl, rfl⟩, trivial⟩
 · have hie : i = n := by
    simp [iLt_eq] at hlt
    omega
   subst hie
   rw [← hn, List.take_length] at hl
   subst hl
   conv => whnf
   repeat (first | (refine XSame.of ?_; conv => whnf) | (refine XDep.all _ _ _ _ ?_; conv => whnf))
   refine XCall.ent (F' := ⟨fun w => RowAt w a ((bootT L).flatMap cpC), []⟩) ?_ ?_
   · exact Ent.trans (hO.share (r1 := []) (r2 := [])) (Ent.imp fun w hw => hw.2)
   conv => whnf
   repeat (first | (refine XSame.of ?_; conv => whnf) | (refine XDep.all _ _ _ _ ?_; conv => whnf))
   refine XCall.pure (hEL ⟨a, cap⟩ ⟨hO.none_nil, hO.fit⟩) (fun w hw => hw) (fun v D hv => ?_)
   obtain ⟨k, hk, rfl, rfl⟩ := hv
   conv => whnf
   repeat (first | (refine XSame.of ?_; conv => whnf) | (refine XDep.all _ _ _ _ ?_; conv => whnf))
   exact ⟨⟨fun w => RowAt w k.a (entT.flatMap cpC), []⟩, Ent.of_le ⟨by simp [Fx.and], fun w hw => hw.2⟩, k, hk, rfl, rfl⟩

end Go.Proofs.YtajkcdplmkaipaaGreatDoor
namespace Go.Proofs.YtajkcdplmkaipaaGreatDoor
open Go Go.Sx
set_option maxRecDepth 100000
set_option maxHeartbeats 4000000
set_option linter.unusedVariables false
set_option linter.unusedSimpArgs false

def isRoot (c : Cp) : Bool := iEq c.parent 0 && iEq c.r.ty 1 && iEq c.r.code 1
def rootsOf (l : List Cp) : List Cp := l.filter isRoot
def entL (l : List Cp) (rs : List Cp) : List Cp := rs.foldl (fun s c => cpL s c.id 16 c.r) l
theorem entL_next (l : List Cp) (rs : List Cp) {j : Nat} (hj : j < rs.length) : entL l (rs.take (j + 1)) = cpL (entL l (rs.take j)) rs[j].id 16 rs[j].r := by
 unfold entL
 rw [List.take_succ_eq_append_getElem hj, List.foldl_append]
 rfl
theorem entL_len : ∀ (rs l : List Cp), (entL l rs).length = l.length + rs.length
 | [], l => rfl
 | c :: rs, l => by
  show (entL (cpL l c.id 16 c.r) rs).length = _
  rw [entL_len rs, cpL_len, List.length_cons]
  omega
theorem roots_next (l : List Cp) {i : Nat} (hi : i < l.length) : rootsOf (l.take (i + 1)) = rootsOf (l.take i) ++ (if isRoot l[i] then [l[i]] else []) := by
 unfold rootsOf
 rw [List.take_succ_eq_append_getElem hi, List.filter_append]
 congr 1
 cases h : isRoot l[i] <;> simp [h]

theorem enter1_spec (x : Cp) (b2 b3 : Nat) (nx : Int) (l : List Cp) (h : Hd) (hh : h.Ok l.length) (hl : l.length ≤ 140737488355328) : PureSpec Tryz.prog 165 [.agg ⟨cpC x⟩, .pointer (some ⟨b2, 0, none⟩), .pointer (some ⟨b3, 0, none⟩)]
 (fun w => (RowAt w (some ⟨b2, 0, none⟩) [.int .i64 nx, h.v l.length] ∧ RowAt w (some ⟨b3, 0, none⟩) [.int .i64 16]) ∧ RowAt w h.a (l.flatMap cpC)) (fun v F => v = .bool (capHas l 16 x.r)) := by
 have h1 := capsHas_spec nx l h hh hl 16 x.r
 generalize capHas l 16 x.r = q1 at *
 refine PureSpec.of_xc tabOk Tryz.func165 rfl (by decide) (n := Tryz.f165.ntmps - 3) rfl rfl fun w0 av => ?_
 conv => whnf
 repeat (first | (refine XSame.of ?_; conv => whnf) | (refine XDep.all _ _ _ _ ?_; conv => whnf))
 intro b4
 conv => whnf
 repeat (first | (refine XSame.of ?_; conv => whnf) | (refine XDep.all _ _ _ _ ?_; conv => whnf))
 refine XVal.of_read (XRead.loads tabOk rfl rfl (ad := ⟨b2, 0, none⟩) (k := 0) (L := [.int .i64 nx, h.v l.length]) (m := [.int .i64 nx, h.v l.length]) (.fact fun w hw => hw.1.1) rfl rfl rfl ?_)
 conv => whnf
 repeat (first | (refine XSame.of ?_; conv => whnf) | (refine XDep.all _ _ _ _ ?_; conv => whnf))
 refine XVal.of_read (XRead.loadF tabOk rfl rfl (ad := ⟨b3, 0, none⟩) (k := 0) (L := [.int .i64 16]) (v := .int .i64 16) (.fact fun w hw => hw.1.2) (fun _ => rfl) rfl ?_)
 conv => whnf
 repeat (first | (refine XSame.of ?_; conv => whnf) | (refine XDep.all _ _ _ _ ?_; conv => whnf))
 refine XCall.val h1 (fun w hw => hw.2) (fun v D hv => ?_)
 subst hv
 conv => whnf
 repeat (first | (refine XSame.of ?_; conv => whnf) | (refine XDep.all _ _ _ _ ?_; conv => whnf))
 exact ⟨_, Ent.refl _, rfl⟩

/-- A copy that the caller owns. -/
theorem cloneCpO_spec (a : Addr) (n c : Nat) (M : List Value) (hM : M.length = n * 6) (hn0 : 0 < n) (hn : n ≤ 1000000) : PureSpec Tryz.prog 62 [.slice (some a) n c] (fun w => RowAt w (some a) M)
 (fun v F => ∃ b cap C, Sx.Owg 6 n (some ⟨b, 0, none⟩) cap C M ∧ v = .slice (some ⟨b, 0, none⟩) n cap ∧ F = ⟨fun _ => True, [(b, Row.c C)]⟩) := by
 refine PureSpec.of_xc tabOk Tryz.func62 rfl (by decide) (n := Tryz.f62.ntmps - 1) rfl rfl fun w0 av => ?_
 conv => whnf
 repeat (first | (refine XSame.of ?_; conv => whnf) | (refine XDep.all _ _ _ _ ?_; conv => whnf))
 refine XVal.of_read (XRead.eqNil tabOk (t := 108) rfl rfl ?_)
 conv => whnf
 repeat (first | (refine XSame.of ?_; conv => whnf) | (refine XDep.all _ _ _ _ ?_; conv => whnf))
 refine XVal.build tabOk (t := 108) rfl rfl rfl [] rfl rfl (by simp) (by decide) fun b0 => ?_
 conv => whnf
 repeat (first | (refine XSame.of ?_; conv => whnf) | (refine XDep.all _ _ _ _ ?_; conv => whnf))
 refine XVal.ent (F' := ⟨fun w => RowAt w (some a) M, []⟩) (Ent.of_le ⟨by simp, fun w hw => hw⟩) ?_
 refine XVal.appendNew tabOk rfl rfl rfl rfl rfl rfl (L := []) (M := M) (fun w _ => RowAt.none' _) (by simp) (.fact fun w hw => hw) hM (by omega) (by omega) (by show (2 * (0 + n) + 1000) * 48 ≤ 2 ^ 48; omega) fun b cap C hO => ?_
 conv => whnf
 repeat (first | (refine XSame.of ?_; conv => whnf) | (refine XDep.all _ _ _ _ ?_; conv => whnf))
 rw [Nat.zero_add, List.nil_append] at hO
 rw [Nat.zero_add]
 exact ⟨⟨fun _ => True, [(b, Row.c C)]⟩, Ent.of_le ⟨by simp, fun w hw => trivial⟩, b, cap, C, hO, rfl, rfl⟩

theorem enter_spec (l : List Cp) (hl : l.length ≤ 300) (hv : (allI l.length (capOk ((l.length + 1 : Nat) : Int) l) && decide (l.length ≤ 400 ∧ 1 ≤ ((l.length + 1 : Nat) : Int) ∧ ((l.length + 1 : Nat) : Int) ≤ 1099511627776)) = true)
 (hr0 : 0 < (rootsOf l).length) (hr : (rootsOf l).length ≤ 50) (hno : ((rootsOf l).any fun c => capHas l 16 c.r) = false) (h : Hd) (hh : h.Ok l.length) (hh0 : 0 < l.length) :
 PureSpec Tryz.prog 110 [.agg ⟨[.int .i64 ((l.length + 1 : Nat) : Int), h.v l.length]⟩, .int .i64 16] (fun w => RowAt w h.a (l.flatMap cpC))
  (fun v F => ∃ k : Hd, k.Ok (entL l (rootsOf l)).length ∧ v = .tuple ⟨[.agg ⟨[.int .i64 (((entL l (rootsOf l)).length + 1 : Nat) : Int), k.v (entL l (rootsOf l)).length]⟩, .int .i64 0]⟩ ∧ F = ⟨fun w => RowAt w k.a ((entL l (rootsOf l)).flatMap cpC), []⟩) := by
 have h1 := capsValid_spec ((l.length + 1 : Nat) : Int) l h hh (by omega)
 rw [hv] at h1
 obtain ⟨ha, hc⟩ := h
 rcases ha with _ | ha
 · have := hh.nil rfl
   omega
 have hhc : l.length ≤ hc := hh.cap
 refine PureSpec.of_xc tabOk Tryz.func110 rfl (by decide) (n := Tryz.f110.ntmps - 2) rfl rfl fun w0 av => ?_
 conv => whnf
 repeat (first | (refine XSame.of ?_; conv => whnf) | (refine XDep.all _ _ _ _ ?_; conv => whnf))
 intro b2
 conv => whnf
 repeat (first | (refine XSame.of ?_; conv => whnf) | (refine XDep.all _ _ _ _ ?_; conv => whnf))
 intro b3
 conv => whnf
 repeat (first | (refine XSame.of ?_; conv => whnf) | (refine XDep.all _ _ _ _ ?_; conv => whnf))
 intro b4
 conv => whnf
 repeat (first | (refine XSame.of ?_; conv => whnf) | (refine XDep.all _ _ _ _ ?_; conv => whnf))
 refine XCall.val h1 (fun w hw => hw) (fun v D hv => ?_)
 subst hv
 conv => whnf
 repeat (first | (refine XSame.of ?_; conv => whnf) | (refine XDep.all _ _ _ _ ?_; conv => whnf))
 refine XIf.no (by simp [iLt_eq, iGe_eq]) ?_
 conv => whnf
 repeat (first | (refine XSame.of ?_; conv => whnf) | (refine XDep.all _ _ _ _ ?_; conv => whnf))
 refine XStop.loop tabOk (ι := Nat × Option Addr × Nat × List Value) ([6, 8, 25] ++ List.range' 26 23) (fun x => x.1 ≤ l.length ∧ Sx.Owg 6 (rootsOf (l.take x.1)).length x.2.1 x.2.2.1 x.2.2.2 ((rootsOf (l.take x.1)).flatMap cpC))
  (fun x => [(25, .v (.int .i64 (x.1 : Int))), (6, .v (.slice x.2.1 (rootsOf (l.take x.1)).length x.2.2.1))]) (fun x => [[.int .i64 ((l.length + 1 : Nat) : Int), .slice (some ha) l.length hc], [.int .i64 16], [.int .i64 0, .slice none 0 0]]) (fun x => ⟨fun w => RowAt w (some ha) (l.flatMap cpC), [] ++ orow x.2.1 x.2.2.2 ++ []⟩)
  (fun x => l.length - x.1) (0, none, 0, []) ⟨Nat.zero_le _, Sx.Owg.nil 6⟩ ?_ rfl (Ent.refl _) fun x hx => ?_
 · conv => whnf
   repeat (first | exact FLe.nil | refine FLe.any ?_ | refine FLe.cons ?_)
 obtain ⟨i, a, cap, C⟩ := x
 obtain ⟨hi, hO⟩ := hx
 dsimp only at hi hO ⊢
 conv => whnf
 repeat (first | (refine XSame.of ?_; conv => whnf) | (refine XDep.all _ _ _ _ ?_; conv => whnf))
 refine XIf.split (fun hlt => ?_) (fun hlt => ?_)
 · have hlt' : i < l.length := by
    simp [iLt_eq] at hlt
    omega
   have hrn := roots_next l hlt'
   have hrl : (rootsOf (l.take i)).length ≤ 300 := by
    have := List.length_filter_le isRoot (l.take i)
    rw [List.length_take] at this
    unfold rootsOf
    omega
   conv => whnf
   repeat (first | (refine XSame.of ?_; conv => whnf) | (refine XDep.all _ _ _ _ ?_; conv => whnf))
   refine XVal.of_read (XRead.index tabOk rfl rfl rfl (by omega) (by omega) (fun h => by cases h) fun ad had => ?_)
   conv => whnf
   repeat (first | (refine XSame.of ?_; conv => whnf) | (refine XDep.all _ _ _ _ ?_; conv => whnf))
   refine XVal.of_read (XRead.loads tabOk rfl rfl (ad := ad) (k := i * 6) (L := l.flatMap cpC) (m := cpC l[i]) (.fact fun w hw => had ▸ hw) (by simp) (by exact fm_get (cf := cpC) (z := 6) (fun _ => rfl) hlt') rfl ?_)
   conv => whnf
   repeat (first | (refine XSame.of ?_; conv => whnf) | (refine XDep.all _ _ _ _ ?_; conv => whnf))
   intro b8
   obtain ⟨x, hx⟩ : ∃ x, l[i] = x := ⟨_, rfl⟩
   rw [hx] at hrn ⊢
   conv => whnf
   repeat (first | (refine XSame.of ?_; conv => whnf) | (refine XDep.all _ _ _ _ ?_; conv => whnf))
   obtain ⟨q, hq⟩ : ∃ q, isRoot x = q := ⟨_, rfl⟩
   have hq' : (iEq x.parent 0 && iEq x.r.ty 1 && iEq x.r.code 1) = q := hq
   rw [hq']
   rw [hq] at hrn
   cases q
   · conv => whnf
     repeat (first | (refine XSame.of ?_; conv => whnf) | (refine XDep.all _ _ _ _ ?_; conv => whnf))
     refine ⟨(i + 1, a, cap, C), ⟨⟨hlt', ?_⟩, by dsimp only; omega⟩, ?_, ?_, Ent.refl _⟩
     · dsimp only
       rw [hrn]
       simpa using hO
     · dsimp only
       rw [hrn]
       simp only [Bool.false_eq_true, if_false, List.append_nil]
       conv => whnf
       refine ⟨?_, rfl⟩
       repeat (first | exact FLe.nil | refine FLe.any ?_ | refine FLe.cons ?_ | refine FLe.eq (by rw [wrap_i64 (by omega)]; rfl) ?_)
     · conv => whnf
       exact ⟨⟨rfl, rfl⟩, ⟨rfl, rfl⟩, ⟨rfl, rfl⟩, trivial⟩
   · conv => whnf
     repeat (first | (refine XSame.of ?_; conv => whnf) | (refine XDep.all _ _ _ _ ?_; conv => whnf))
     refine XVal.build tabOk rfl rfl rfl [.agg ⟨cpC x⟩] rfl rfl (by simp [Value.cells, cpC]) (by decide) fun b5 => ?_
     conv => whnf
     repeat (first | (refine XSame.of ?_; conv => whnf) | (refine XDep.all _ _ _ _ ?_; conv => whnf))
     refine XVal.ent (F' := ⟨fun w => RowAt w (some ha) (l.flatMap cpC), [] ++ orow a C ++ [(b5, Row.c (cpC x))]⟩) (Ent.of_le ⟨by simp [Value.cells], fun w hw => hw⟩) ?_
     refine XVal.append1 tabOk rfl rfl rfl rfl rfl rfl (M := cpC x) hO (Sees.row (by simp)) rfl (List.all_eq_true.1 (by rfl)) (by omega) (by show ((rootsOf (l.take i)).length + (rootsOf (l.take i)).length / 4 + 600) * 48 ≤ 2 ^ 48; omega) fun a' c' C' hO' => ?_
     conv => whnf
     repeat (first | (refine XSame.of ?_; conv => whnf) | (refine XDep.all _ _ _ _ ?_; conv => whnf))
     have hrn2 : rootsOf (l.take (i + 1)) = rootsOf (l.take i) ++ [x] := by rw [hrn]; simp
     have hrn3 : (rootsOf (l.take (i + 1))).length = (rootsOf (l.take i)).length + 1 := by rw [hrn2]; simp
     refine ⟨(i + 1, a', c', C'), ⟨⟨hlt', ?_⟩, by dsimp only; omega⟩, ?_, ?_, Ent.of_le ⟨by simp, fun w hw => hw⟩⟩
     · dsimp only
       rw [hrn3, hrn2, List.flatMap_append]
       simpa using hO'
     · dsimp only
       rw [hrn3]
       conv => whnf
       refine ⟨?_, rfl⟩
       repeat (first | exact FLe.nil | refine FLe.any ?_ | refine FLe.cons ?_ | refine FLe.eq (by rw [wrap_i64 (by omega)]; rfl) ?_)
     · conv => whnf
       exact ⟨⟨rfl, rfl⟩, ⟨rfl, rfl⟩, ⟨rfl, rfl⟩, trivial⟩
 · have hie : i = l.length := by
    simp [iLt_eq] at hlt
    omega
   subst hie
   rw [List.take_length] at hO ⊢
   obtain ⟨rs, hrs⟩ : ∃ rs, rootsOf l = rs := ⟨_, rfl⟩
   rw [hrs] at hr0 hr hno hO ⊢
   have hch := cap_has cpC (fun _ => rfl) 165 (fun w => (RowAt w (some ⟨b2, 0, none⟩) [.int .i64 ((l.length + 1 : Nat) : Int), .slice (some ha) l.length hc] ∧ RowAt w (some ⟨b3, 0, none⟩) [.int .i64 16]) ∧ RowAt w (some ha) (l.flatMap cpC)) (fun c => capHas l 16 c.r) (.pointer (some ⟨b2, 0, none⟩)) (.pointer (some ⟨b3, 0, none⟩)) rs ⟨a, cap⟩ ⟨hO.none_nil, hO.fit⟩ (by omega) (fun e _ => enter1_spec e b2 b3 _ l ⟨some ha, hc⟩ hh (by omega))
   rw [hno] at hch
   conv => whnf
   repeat (first | (refine XSame.of ?_; conv => whnf) | (refine XDep.all _ _ _ _ ?_; conv => whnf))
   refine XCall.ent (F' := ⟨fun w => RowAt w (some ha) (l.flatMap cpC) ∧ RowAt w a (rs.flatMap cpC), []⟩) ?_ ?_
   · exact Ent.trans (hO.share (r1 := []) (r2 := [])) (Ent.imp fun w hw => hw)
   refine XCall.look hch ((Loc.row _ _).and (((Loc.row _ _).and (Loc.row _ _)).and (Loc.row _ _))) (fun w hst => ⟨hst.now.2, ⟨Sees.box 0 rfl (by simp) rfl w hst, Sees.box 1 rfl (by simp) rfl w hst⟩, hst.now.1⟩) ?_
   conv => whnf
   repeat (first | (refine XSame.of ?_; conv => whnf) | (refine XDep.all _ _ _ _ ?_; conv => whnf))
   refine XIf.no (by rw [wrap_i64 (by omega)]; simp [iGt_eq]; omega) ?_
   conv => whnf
   repeat (first | (refine XSame.of ?_; conv => whnf) | (refine XDep.all _ _ _ _ ?_; conv => whnf))
   refine XIf.yes (by simp [iGt_eq]; omega) ?_
   conv => whnf
   repeat (first | (refine XSame.of ?_; conv => whnf) | (refine XDep.all _ _ _ _ ?_; conv => whnf))
   refine XIf.no (by rw [wrap_i64 (by omega)]; simp [iGt_eq]; omega) ?_
   conv => whnf
   repeat (first | (refine XSame.of ?_; conv => whnf) | (refine XDep.all _ _ _ _ ?_; conv => whnf))
   have hM : (l.flatMap cpC).length = l.length * 6 := by rw [fm_len (z := 6) (fun _ => rfl)]
   refine XCall.pure (cloneCpO_spec ha l.length hc (l.flatMap cpC) hM hh0 (by omega)) (fun w hw => hw.1) (fun v D hv => ?_)
   obtain ⟨bk, capk, Ck, hOk, rfl, rfl⟩ := hv
   conv => whnf
   repeat (first | (refine XSame.of ?_; conv => whnf) | (refine XDep.all _ _ _ _ ?_; conv => whnf))
   refine XStop.loop tabOk (ι := Nat × Option Addr × Nat × List Value) ([10, 82] ++ List.range' 83 10) (fun x => x.1 ≤ rs.length ∧ Sx.Owg 6 (entL l (rs.take x.1)).length x.2.1 x.2.2.1 x.2.2.2 ((entL l (rs.take x.1)).flatMap cpC))
    (fun x => [(82, .v (.int .i64 (x.1 : Int)))]) (fun x => [[.int .i64 (((entL l (rs.take x.1)).length + 1 : Nat) : Int), .slice x.2.1 (entL l (rs.take x.1)).length x.2.2.1], [.int .i64 16], [.int .i64 0, .slice none 0 0]]) (fun x => ⟨fun w => RowAt w a (rs.flatMap cpC), [] ++ orow x.2.1 x.2.2.2 ++ []⟩)
    (fun x => rs.length - x.1) (0, some ⟨bk, 0, none⟩, capk, Ck) ⟨Nat.zero_le _, hOk⟩ ?_ rfl (Ent.of_le ⟨by simp [orow, Fx.and], fun w hw => hw.1.2⟩) fun x hx => ?_
   · conv => whnf
     repeat (first | exact FLe.nil | refine FLe.any ?_ | refine FLe.cons ?_)
   obtain ⟨j, a2, cap2, C2⟩ := x
   obtain ⟨hj, hO2⟩ := hx
   dsimp only at hj hO2 ⊢
   have hl2 : (entL l (rs.take j)).length = l.length + j := by
    rw [entL_len, List.length_take]
    omega
   conv => whnf
   repeat (first | (refine XSame.of ?_; conv => whnf) | (refine XDep.all _ _ _ _ ?_; conv => whnf))
   refine XIf.split (fun hjt => ?_) (fun hjt => ?_)
   · have hjt' : j < rs.length := by
      simp [iLt_eq] at hjt
      omega
     have hen := entL_next l rs hjt'
     conv => whnf
     repeat (first | (refine XSame.of ?_; conv => whnf) | (refine XDep.all _ _ _ _ ?_; conv => whnf))
     refine XVal.of_read (XRead.index tabOk rfl rfl rfl (by omega) (by omega) hO.none_nil fun ad had => ?_)
     conv => whnf
     repeat (first | (refine XSame.of ?_; conv => whnf) | (refine XDep.all _ _ _ _ ?_; conv => whnf))
     refine XVal.of_read (XRead.loads tabOk rfl rfl (ad := ad) (k := j * 6) (L := rs.flatMap cpC) (m := cpC rs[j]) (.fact fun w hw => had ▸ hw) (by simp) (by exact fm_get (cf := cpC) (z := 6) (fun _ => rfl) hjt') rfl ?_)
     conv => whnf
     repeat (first | (refine XSame.of ?_; conv => whnf) | (refine XDep.all _ _ _ _ ?_; conv => whnf))
     intro b10
     obtain ⟨x, hx⟩ : ∃ x, rs[j] = x := ⟨_, rfl⟩
     rw [hx] at hen ⊢
     obtain ⟨l2, hl2e⟩ : ∃ l2, entL l (rs.take j) = l2 := ⟨_, rfl⟩
     rw [hl2e] at hen hO2 hl2 ⊢
     conv => whnf
     repeat (first | (refine XSame.of ?_; conv => whnf) | (refine XDep.all _ _ _ _ ?_; conv => whnf))
     refine add40 (x0 := (b2, 0)) (x1 := (b3, 0)) (x2 := (b4, 0)) (x3 := (b10, 0)) (c1 := [.int .i64 16]) (c2 := [.int .i64 0, .slice none 0 0]) (c3 := cpC x) (r1 := []) l2 hO2 (by omega) x.id 16 x.r fun a3 cap3 C3 hO3 => ?_
     conv => whnf
     repeat (first | (refine XSame.of ?_; conv => whnf) | (refine XDep.all _ _ _ _ ?_; conv => whnf))
     refine ⟨(j + 1, a3, cap3, C3), ⟨⟨hjt', ?_⟩, by dsimp only; omega⟩, ?_, ?_, Ent.refl _⟩
     · dsimp only
       rw [hen, cpL_len]
       exact hO3
     · conv => whnf
       refine ⟨?_, rfl⟩
       repeat (first | exact FLe.nil | refine FLe.any ?_ | refine FLe.cons ?_ | refine FLe.eq (by rw [wrap_i64 (by omega)]; rfl) ?_)
     · dsimp only
       rw [hen, cpL_len]
       conv => whnf
       exact ⟨⟨rfl, rfl⟩, ⟨rfl, rfl⟩, ⟨rfl, rfl⟩, trivial⟩
   · have hje : j = rs.length := by
      simp [iLt_eq] at hjt
      omega
     subst hje
     rw [List.take_length] at hO2 ⊢
     conv => whnf
     repeat (first | (refine XSame.of ?_; conv => whnf) | (refine XDep.all _ _ _ _ ?_; conv => whnf))
     refine ⟨⟨fun w => RowAt w a2 ((entL l rs).flatMap cpC), []⟩, Ent.trans (hO2.share (r1 := []) (r2 := [])) (Ent.imp fun w hw => hw.2), ⟨a2, cap2⟩, ⟨hO2.none_nil, hO2.fit⟩, rfl, rfl⟩

end Go.Proofs.YtajkcdplmkaipaaGreatDoor
namespace Go.Proofs.YtajkcdplmkaipaaGreatDoor
open Go Go.Sx
set_option maxRecDepth 100000

def bootB : List Cp := bootT bootLns
def capsB : List Cp := entL bootB (rootsOf bootB)

theorem bootB_len : bootB.length = 163 := by decide +kernel
theorem rootsB_len : (rootsOf bootB).length = 4 := by decide +kernel
theorem bootB_ok : (allI bootB.length (capOk ((bootB.length + 1 : Nat) : Int) bootB) && decide (bootB.length ≤ 400 ∧ 1 ≤ ((bootB.length + 1 : Nat) : Int) ∧ ((bootB.length + 1 : Nat) : Int) ≤ 1099511627776)) = true := by decide +kernel
theorem bootB_no : ((rootsOf bootB).any fun c => capHas bootB 16 c.r) = false := by decide +kernel
theorem capsB_len : capsB.length = 167 := by
 unfold capsB
 rw [entL_len, bootB_len, rootsB_len]

theorem bootB_spec : PureSpec Tryz.prog 74 [] (fun _ => True) (fun v F => ∃ h : Hd, h.Ok capsB.length ∧ v = .agg ⟨[.int .i64 ((capsB.length + 1 : Nat) : Int), h.v capsB.length]⟩ ∧ F = ⟨fun w => RowAt w h.a (capsB.flatMap cpC), []⟩) :=
 boot_spec capsB fun h hh => enter_spec bootB (by rw [bootB_len]; decide) bootB_ok (by rw [rootsB_len]; decide) (by rw [rootsB_len]; decide) bootB_no h hh (by rw [bootB_len]; decide)

end Go.Proofs.YtajkcdplmkaipaaGreatDoor
namespace Go.Proofs.YtajkcdplmkaipaaGreatDoor
open Go Go.Sx
set_option maxRecDepth 100000
set_option maxHeartbeats 4000000
set_option linter.unusedVariables false
set_option linter.unusedSimpArgs false

def quE : List Int := quB 10 ++ [16]
def mgE : Mg := ⟨16, 3, 1, 1, 5, 0, 0, 0, default⟩
def prE : Pr := ⟨16, 3, 1⟩
def enE : En := ⟨1, 16, 5, 0, 0, 0, 0, default⟩
theorem srvE : srvT 5 = 3 := by kernel_rfl
theorem quE_ok : allI quE.length (quOk quE) = true := by decide +kernel
theorem porE_ok : porOk [mgE] [prE] = true := by decide +kernel
theorem capE_has : capHas capsB ((3 : Nat) : Int) ⟨2, 0, 2⟩ = true := by decide +kernel

theorem awakeN_spec : PureSpec Tryz.prog 4 [] (fun _ => True) (fun v F => v = .bool true) := by
 have h1 := new_spec ((capsB.length + 1 : Nat) : Int) capsB (by rw [capsB_len]; decide) bootB_spec
 obtain ⟨e, he⟩ : ∃ e : Int, e = 0 := ⟨0, rfl⟩
 obtain ⟨f, hf⟩ : ∃ e : Int, e = 0 := ⟨0, rfl⟩
 obtain ⟨r, hr⟩ : ∃ r : Int, r = 16 := ⟨16, rfl⟩
 refine PureSpec.of_xc tabOk Tryz.func4 rfl (by decide) (n := Tryz.f4.ntmps - 0) rfl rfl fun w0 av => ?_
 conv => whnf
 repeat (first | (refine XSame.of ?_; conv => whnf) | (refine XDep.all _ _ _ _ ?_; conv => whnf))
 refine XCall.pure h1 (fun w hw => trivial) (fun v D hv => ?_)
 obtain ⟨x, hq, bk, bs, hnx, hcl, hti, hx, hhq, rfl, rfl⟩ := hv
 conv => whnf
 repeat (first | (refine XSame.of ?_; conv => whnf) | (refine XDep.all _ _ _ _ ?_; conv => whnf))
 refine XVal.of_read (XRead.ptrNil tabOk (t := 30) rfl rfl ?_)
 conv => whnf
 repeat (first | (refine XSame.of ?_; conv => whnf) | (refine XDep.all _ _ _ _ ?_; conv => whnf))
 obtain ⟨S0, hS0⟩ : ∃ S0, S0 = x.sta tskE ⟨hq, quB 10 ++ [16]⟩ := ⟨_, rfl⟩
 have hq0 : S0.q = default := by rw [hS0]; rfl
 have hp0 : S0.pr = default := by rw [hS0]; rfl
 have hr0 : S0.rc = default := by rw [hS0]; rfl
 have hT0 : S0.T 16 = ⟨2, 0, 0, false, false, false, 0, default⟩ := by rw [hS0]; rfl
 rw [← hS0]
 have h2 := call_spec S0 bk bs 16 ⟨by decide, by decide⟩ 2 0 0 0 default hT0 (by decide) rfl 5 0 0 0 (by kernel_rfl) (by rw [srvE]; decide) 0 rfl (by rw [hq0]; intro x hx; cases hx) (by rw [hq0]; exact Hd.nil_ok) (by rw [hq0]; decide) (by rw [hp0]; exact Hd.nil_ok) (by rw [hp0]; decide) (by rw [hq0, hp0]; decide)
  (by rw [hp0]; kernel_rfl) (by rw [hp0]; intro j hj; cases hj) e he none 0 [] (by rw [hr0]; exact Sx.Owg.nil 8) (by rw [hr0]; rfl) (by rw [hr0]; decide)
 rw [hq0, hp0, hr0, srvE] at h2
 obtain ⟨E0, hE0⟩ : ∃ E0 : World → Prop, E0 = fun w => (x.At w ∧ RowAt w hq.a (quE.map intV)) ∧ RowAt w (some ⟨bs, 0, none⟩) (staC S0) := ⟨_, rfl⟩
 refine XCall.ent (F' := ⟨E0, [] ++ ([(bk, Row.c [.pointer (some ⟨bs, 0, none⟩)])] ++ orow none []) ++ []⟩) (Ent.of_le ⟨by simp [Fx.and, orow], fun w hw => by rw [hE0]; exact hw.2⟩) ?_
 refine XCall.rows (r1 := []) (r2 := []) h2 (fun w hw => by rw [hE0] at hw; exact ⟨hw.2, RowAt.nilA, RowAt.nilA⟩) (fun v F' hv => ?_)
 obtain ⟨bn, hq1, hp1, a1, c1, C1, ⟨hq1o, hp1o, hO1⟩, rfl, rfl⟩ := hv
 obtain ⟨S1, hS1⟩ : ∃ S1, S1 = ((S0.po ⟨hq1, [mgE]⟩ ⟨hp1, [prE]⟩).rec' ⟨⟨a1, c1⟩, [enE]⟩).tsk 16 ⟨2, 1, 5, false, false, false, 0, default⟩ := ⟨_, rfl⟩
 have hS1' : staC (((S0.po ⟨hq1, (default : Sl Mg).l ++ [(⟨((16 : Nat) : Int), 3, 1, 1, 5, 0, 0, 0, default⟩ : Mg)]⟩ ⟨hp1, (default : Sl Pr).l ++ [(⟨((16 : Nat) : Int), 3, 1⟩ : Pr)]⟩).rec' ⟨⟨a1, c1⟩, (default : Sl En).l ++ [(⟨1, ((16 : Nat) : Int), 5, 0, 0, 0, 0, default⟩ : En)]⟩).tsk 16 ⟨2, 1, 5, false, false, false, 0, default⟩) = staC S1 := by rw [hS1]; rfl
 rw [hS1']
 have hqu1 : S1.qu = ⟨hq, quE⟩ := by rw [hS1, hS0]; rfl
 have hql1 : S1.q = ⟨hq1, [mgE]⟩ := by rw [hS1]; rfl
 have hpl1 : S1.pr = ⟨hp1, [prE]⟩ := by rw [hS1]; rfl
 have hrl1 : S1.rc = ⟨⟨a1, c1⟩, [enE]⟩ := by rw [hS1]; rfl
 have hcp1 : S1.cp = x.cp := by rw [hS1, hS0]; rfl
 have hD1 : S1.D 3 = false := by rw [hS1, hS0]; rfl
 have hT1 : S1.T 16 = ⟨2, 1, 5, false, false, false, 0, default⟩ := by rw [hS1]; exact tsk_at _ _ _
 have hrun : S1.qu.l.findIdx? (fun t => runsB S1 t.toNat) = some 2 := by rw [hqu1, hS1, hS0]; kernel_rfl
 conv => whnf
 repeat (first | (refine XSame.of ?_; conv => whnf) | (refine XDep.all _ _ _ _ ?_; conv => whnf))
 have h3 := pick_spec S1 bk bn (by rw [hql1]; exact ⟨hq1o, show 1 ≤ 140737488355328 by decide⟩) (by rw [hqu1]; exact hhq) (by rw [hqu1]; show 11 ≤ 100000; decide) (by rw [hqu1]; exact quE_ok) 2 hrun
 obtain ⟨z, hz⟩ : ∃ z, S1.qu.l[2]! = z := ⟨_, rfl⟩
 have hz3 : z = 3 := by rw [← hz, hqu1]; kernel_rfl
 rw [hz] at h3
 obtain ⟨NQ, hNQ⟩ : ∃ NQ, nextQ S1.qu.l 2 = NQ := ⟨_, rfl⟩
 rw [hNQ] at h3
 obtain ⟨E1, hE1⟩ : ∃ E1 : World → Prop, E1 = fun w => (x.cp.At cpC w ∧ RowAt w hq.a (quE.map intV)) ∧ (RowAt w (some ⟨bn, 0, none⟩) (staC S1) ∧ (RowAt w hq1.a ([mgE].flatMap mgC) ∧ RowAt w hp1.a ([prE].flatMap prC))) := ⟨_, rfl⟩
 refine XCall.ent (F' := ⟨E1, [] ++ [(bk, Row.c [.pointer (some ⟨bn, 0, none⟩)])] ++ orow a1 C1⟩) (Ent.of_le ⟨by simp, fun w hw => by
  obtain ⟨hw0, hw1, hw2, hw3⟩ := hw
  rw [hE0] at hw0
  rw [hE1]
  exact ⟨⟨hw0.1.1.1, hw0.1.2⟩, hw1, hw2, hw3⟩⟩) ?_
 refine XCall.rows (r1 := []) (r2 := orow a1 C1) h3 (fun w hw => by rw [hE1] at hw; exact ⟨hw.2.1, by rw [hql1]; exact hw.2.2.1, by rw [hqu1]; exact hw.1.2⟩) (fun v F' hv => ?_)
 obtain ⟨bn2, h2q, h2qo, rfl, rfl⟩ := hv
 obtain ⟨S2, hS2⟩ : ∃ S2, S2 = S1.quo ⟨h2q, NQ⟩ := ⟨_, rfl⟩
 rw [← hS2]
 have hql2 : S2.q = ⟨hq1, [mgE]⟩ := by rw [hS2]; exact hql1
 have hpl2 : S2.pr = ⟨hp1, [prE]⟩ := by rw [hS2]; exact hpl1
 have hrl2 : S2.rc = ⟨⟨a1, c1⟩, [enE]⟩ := by rw [hS2]; exact hrl1
 have hcp2 : S2.cp = x.cp := by rw [hS2]; exact hcp1
 have hD2 : S2.D 3 = false := by rw [hS2]; exact hD1
 have hT2 : S2.T 16 = ⟨2, 1, 5, false, false, false, 0, default⟩ := by rw [hS2]; exact hT1
 conv => whnf
 repeat (first | (refine XSame.of ?_; conv => whnf) | (refine XDep.all _ _ _ _ ?_; conv => whnf))
 refine XVal.build tabOk rfl rfl rfl [.agg ⟨efC 2 16 16 0 0 default⟩] rfl rfl (by simp [Value.cells, efC]) (by simp) fun b9 => ?_
 conv => whnf
 repeat (first | (refine XSame.of ?_; conv => whnf) | (refine XDep.all _ _ _ _ ?_; conv => whnf))
 have hcpo : S2.cp.Ok := by rw [hcp2]; exact ⟨hx.cp, by rw [hcl, capsB_len]; decide⟩
 have h4 := commitK_spec S2 bk bn2 3 rfl hD2 2 rfl 16 ⟨by decide, by decide⟩ 2 1 5 0 r 0 0 false default hT2 (by decide) rfl (by rw [hr]; kernel_rfl) hcpo (by rw [hcp2, hcl]; exact capE_has) (by rw [hql2]; intro y hy; simp at hy; subst hy; rfl) (by rw [hql2]; exact hq1o) (by rw [hql2]; show 1 ≤ 400; decide) (by rw [hpl2]; exact hp1o) (by rw [hpl2]; show 1 ≤ 100000; decide) (by rw [hql2, hpl2]; exact porE_ok) 0 (by rw [hql2]; kernel_rfl)
  f hf a1 c1 C1 (by rw [hrl2]; exact hO1) (by rw [hrl2]) (by rw [hrl2]; show 1 ≤ 100000000; decide) b9 1 rfl
 refine XCall.ent (F' := ⟨fun w => (x.cp.At cpC w ∧ (RowAt w hq1.a ([mgE].flatMap mgC) ∧ RowAt w hp1.a ([prE].flatMap prC))) ∧ (RowAt w (some ⟨bn2, 0, none⟩) (staC S2) ∧ RowAt w (some ⟨b9, 0, none⟩) (efC 2 16 r 0 0 default)), [] ++ ([(bk, Row.c [.pointer (some ⟨bn2, 0, none⟩)])] ++ orow a1 C1) ++ []⟩) ?_ ?_
 · refine Ent.trans (Ent.of_le (F' := ⟨fun w => (x.cp.At cpC w ∧ (RowAt w hq1.a ([mgE].flatMap mgC) ∧ RowAt w hp1.a ([prE].flatMap prC))) ∧ RowAt w (some ⟨bn2, 0, none⟩) (staC S2), ([(bk, Row.c [.pointer (some ⟨bn2, 0, none⟩)])] ++ orow a1 C1) ++ [(b9, Row.c (efC 2 16 16 0 0 default))]⟩) ⟨by simp [Value.cells], fun w hw => by
    have hw1 : E1 w := hw.1
    rw [hE1] at hw1
    exact ⟨⟨hw1.1.1, hw1.2.2.1, hw1.2.2.2⟩, hw.2.1⟩⟩) (Ent.trans Ent.shareLast (Ent.of_le ⟨by simp, fun w hw => ⟨hw.1.1, hw.1.2, by rw [hr]; exact hw.2⟩⟩))
 refine XCall.rows (r1 := []) (r2 := []) h4 (fun w hw => ⟨hw.2.1, ⟨by rw [hql2]; exact hw.1.2.1, by rw [hpl2]; exact hw.1.2.2⟩, by rw [hcp2]; exact hw.1.1, hw.2.2⟩) (fun v F' hv => ?_)
 obtain ⟨bn3, S3, a3, c3, C3, hT3, rfl, rfl⟩ := hv
 conv => whnf
 repeat (first | (refine XSame.of ?_; conv => whnf) | (refine XDep.all _ _ _ _ ?_; conv => whnf))
 refine XCall.ent (F' := ⟨fun w => RowAt w (some ⟨bn3, 0, none⟩) (staC S3), [] ++ [(bk, Row.c [.pointer (some ⟨bn3, 0, none⟩)])] ++ orow a3 C3⟩) (Ent.of_le ⟨by simp, fun w hw => hw.2⟩) ?_
 refine XCall.rows (r1 := []) (r2 := orow a3 C3) (result_spec S3 bk bn3 16 ⟨by decide, by decide⟩ 2 0 0 r false false hT3) (fun w hw => hw) (fun v F' hv => ?_)
 subst hv
 conv => whnf
 repeat (first | (refine XSame.of ?_; conv => whnf) | (refine XDep.all _ _ _ _ ?_; conv => whnf))
 refine ⟨_, Ent.refl _, ?_⟩
 show Value.bool _ = Value.bool true
 congr 1
 simp [iEq_eq, he, hf, hz3, hr]

end Go.Proofs.YtajkcdplmkaipaaGreatDoor
namespace Go.Proofs.YtajkcdplmkaipaaGreatDoor
open Go Go.Sx
set_option maxRecDepth 100000
set_option maxHeartbeats 4000000
set_option linter.unusedVariables false
set_option linter.unusedSimpArgs false

theorem doE_fails : ∀ (i : Nat), i < 10 → iEq (doE (i : Int)) 7 = (iNe (i : Int) 0 && iNe (i : Int) 1 && iNe (i : Int) 5)
 | 0, _ => by kernel_rfl
 | 1, _ => by kernel_rfl
 | 2, _ => by kernel_rfl
 | 3, _ => by kernel_rfl
 | 4, _ => by kernel_rfl
 | 5, _ => by kernel_rfl
 | 6, _ => by kernel_rfl
 | 7, _ => by kernel_rfl
 | 8, _ => by kernel_rfl
 | 9, _ => by kernel_rfl
 | i + 10, h => absurd h (by omega)

theorem kernelNil_spec (k t a0 a1 a2 a3 : Int) (d : Bs) (eh : Hd) (l : List Ef) (hh : eh.Ok l.length) (hl : l.length ≤ 140737488355328) :
 PureSpec Tryz.prog 3 [.agg ⟨stC k t a0 a1 a2 a3 d eh l⟩] (fun w => RowAt w eh.a (l.flatMap efG)) (fun v F => v = .bool true) := by
 obtain ⟨z, hz⟩ : ∃ z : Int, z = 0 := ⟨0, rfl⟩
 obtain ⟨n, hn⟩ : ∃ n : Nat, n = 0 := ⟨0, rfl⟩
 have h1 := awakeN_spec
 have hdo : ∀ i : Nat, PureSpec Tryz.prog 6 [.pointer none, .agg ⟨stC (i : Int) t a0 a1 a2 a3 d eh l⟩] (fun _ => True) (fun v F => v = .agg ⟨[.int .i64 (doE (i : Int)), .int .i64 z, .bool false, .slice none n 0]⟩) := fun i => by
  subst hz
  subst hn
  exact doN (i : Int) t a0 a1 a2 a3 d.h.a d.n d.h.c (eh.v l.length) rfl
 have hmsg : PureSpec Tryz.prog 7 [.pointer none, .int .i64 t] (fun _ => True) (fun v F => v = .tuple ⟨[.agg ⟨mgC ⟨0, 0, z, 0, 0, 0, 0, 0, default⟩⟩, .bool false]⟩) := by
  subst hz
  exact messageN t
 have hmis : PureSpec Tryz.prog 8 [.pointer none, .int .i64 t, .int .i64 0, .int .i64 1, .bool false] (fun _ => True) (fun v F => v = .tuple ⟨[.int .i64 z, .bool false]⟩) := by
  subst hz
  exact missingN t 0 1 false
 have hdown : PureSpec Tryz.prog 9 [.pointer none] (fun _ => True) (fun v F => v = .tuple ⟨[.int .i64 z, .bool false]⟩) := by
  subst hz
  exact kdownN
 have hrec : PureSpec Tryz.prog 10 [.pointer none] (fun _ => True) (fun v F => v = .slice none n 0) := by
  subst hn
  exact recordN
 have hacc : PureSpec Tryz.prog 11 [.pointer none] (fun _ => True) (fun v F => v = .slice none n 0) := by
  subst hn
  exact accessesN
 have hnew : PureSpec Tryz.prog 12 [.pointer none] (fun _ => True) (fun v F => v = .slice none n 0) := by
  subst hn
  exact newsN
 have hout : PureSpec Tryz.prog 13 [.pointer none] (fun _ => True) (fun v F => v = .slice none n 0) := by
  subst hn
  exact outputN
 have hdsk : PureSpec Tryz.prog 14 [.pointer none] (fun _ => True) (fun v F => v = .slice none n 0) := by
  subst hn
  exact diskN
 have hnow : PureSpec Tryz.prog 15 [.pointer none] (fun _ => True) (fun v F => v = .int .i64 z) := by
  subst hz
  exact nowN
 have hfr := from_zero 0 rfl
 rw [zN_zero] at hfr
 have hst := stateN
 have hsm := same_zero
 obtain ⟨Z, hZ⟩ : ∃ Z, refC zS = Z := ⟨_, rfl⟩
 obtain ⟨Y, hY⟩ : ∃ Y, staC zS = Y := ⟨_, rfl⟩
 rw [hZ] at hsm
 rw [hZ, hY] at hfr
 rw [hY] at hst
 have hf := fewSteps_any k t a0 a1 a2 a3 d eh l hh hl
 have hal := aliveN t
 refine PureSpec.of_xc tabOk Tryz.func3 rfl (by decide) (n := Tryz.f3.ntmps - 1) rfl rfl fun w0 av => ?_
 conv => whnf
 repeat (first | (refine XSame.of ?_; conv => whnf) | (refine XDep.all _ _ _ _ ?_; conv => whnf))
 intro b1
 conv => whnf
 repeat (first | (refine XSame.of ?_; conv => whnf) | (refine XDep.all _ _ _ _ ?_; conv => whnf))
 refine XCall.val h1 (fun w hw => trivial) (fun v D hv => ?_)
 subst hv
 conv => whnf
 repeat (first | (refine XSame.of ?_; conv => whnf) | (refine XDep.all _ _ _ _ ?_; conv => whnf))
 refine XVal.build tabOk rfl rfl rfl [.agg ⟨stC k t a0 a1 a2 a3 d eh l⟩] rfl rfl (by simp [Value.cells, stC]) (by simp) fun b17 => ?_
 conv => whnf
 repeat (first | (refine XSame.of ?_; conv => whnf) | (refine XDep.all _ _ _ _ ?_; conv => whnf))
 refine XCall.ent (F' := ⟨fun w => RowAt w (some ⟨b17, 0, none⟩) (stC k t a0 a1 a2 a3 d eh l) ∧ RowAt w eh.a (l.flatMap efG), []⟩) (Ent.trans (Ent.of_le (F' := ⟨fun w => RowAt w eh.a (l.flatMap efG), [(b17, Row.c (stC k t a0 a1 a2 a3 d eh l))]⟩) ⟨by simp [Value.cells], fun w hw => hw⟩) (Ent.trans Ent.share1 (Ent.imp fun w hw => ⟨hw.2, hw.1⟩))) ?_
 refine XCall.val (hf b17 1 rfl) (fun w hw => hw) (fun v D hv => ?_)
 obtain ⟨q, rfl⟩ := hv
 cases q
 · conv => whnf
   repeat (first | (refine XSame.of ?_; conv => whnf) | (refine XDep.all _ _ _ _ ?_; conv => whnf))
   refine XCall.val h1 (fun w hw => trivial) (fun v D hv => ?_)
   subst hv
   conv => whnf
   repeat (first | (refine XSame.of ?_; conv => whnf) | (refine XDep.all _ _ _ _ ?_; conv => whnf))
   exact ⟨_, Ent.refl _, rfl⟩
 conv => whnf
 repeat (first | (refine XSame.of ?_; conv => whnf) | (refine XDep.all _ _ _ _ ?_; conv => whnf))
 refine XStop.loop tabOk (ι := Nat × Int) ([4, 5, 6, 22] ++ List.range' 23 38) (fun x => x.1 ≤ 10) (fun x => [(22, .v (.int .i64 (x.1 : Int)))]) (fun x => [stC x.2 t a0 a1 a2 a3 d eh l]) (fun _ => ⟨fun _ => True, []⟩)
  (fun x => 10 - x.1) (0, k) (Nat.zero_le _) ?_ rfl (Ent.of_le ⟨by simp, fun w hw => trivial⟩) fun x hx => ?_
 · conv => whnf
   repeat (first | exact FLe.nil | refine FLe.any ?_ | refine FLe.cons ?_)
 obtain ⟨i, pk⟩ := x
 dsimp only at hx ⊢
 conv => whnf
 repeat (first | (refine XSame.of ?_; conv => whnf) | (refine XDep.all _ _ _ _ ?_; conv => whnf))
 refine XIf.split (fun hlt => ?_) (fun hlt => ?_)
 · have hlt' : i < 10 := by
    simp only [iLt_eq, decide_eq_true_eq] at hlt
    omega
   have hE := doE_fails i hlt'
   conv => whnf
   repeat (first | (refine XSame.of ?_; conv => whnf) | (refine XDep.all _ _ _ _ ?_; conv => whnf))
   refine XCall.val (hdo i) (fun w hw => trivial) (fun v D hv => ?_)
   subst hv
   conv => whnf
   repeat (first | (refine XSame.of ?_; conv => whnf) | (refine XDep.all _ _ _ _ ?_; conv => whnf))
   intro b5
   conv => whnf
   repeat (first | (refine XSame.of ?_; conv => whnf) | (refine XDep.all _ _ _ _ ?_; conv => whnf))
   refine XIf.no (by rw [hE]; simp [hz, hn, iNe_eq, iGt_eq]) ?_
   conv => whnf
   repeat (first | (refine XSame.of ?_; conv => whnf) | (refine XDep.all _ _ _ _ ?_; conv => whnf))
   refine ⟨(i + 1, (i : Int)), ⟨hlt', by dsimp only; omega⟩, ?_, ?_, Ent.refl _⟩
   · conv => whnf
     refine ⟨?_, rfl⟩
     repeat (first | exact FLe.nil | refine FLe.any ?_ | refine FLe.cons ?_ | refine FLe.eq (by rw [wrap_i64 (by omega)]; rfl) ?_)
   · conv => whnf
     exact ⟨⟨rfl, rfl⟩, trivial⟩
 · conv => whnf
   repeat (first | (refine XSame.of ?_; conv => whnf) | (refine XDep.all _ _ _ _ ?_; conv => whnf))
   refine XCall.val hmsg (fun w hw => trivial) (fun v D hv => ?_)
   subst hv
   conv => whnf
   repeat (first | (refine XSame.of ?_; conv => whnf) | (refine XDep.all _ _ _ _ ?_; conv => whnf))
   intro b7
   conv => whnf
   repeat (first | (refine XSame.of ?_; conv => whnf) | (refine XDep.all _ _ _ _ ?_; conv => whnf))
   refine XCall.val hmis (fun w hw => trivial) (fun v D hv => ?_)
   subst hv
   conv => whnf
   repeat (first | (refine XSame.of ?_; conv => whnf) | (refine XDep.all _ _ _ _ ?_; conv => whnf))
   refine XCall.val hdown (fun w hw => trivial) (fun v D hv => ?_)
   subst hv
   conv => whnf
   repeat (first | (refine XSame.of ?_; conv => whnf) | (refine XDep.all _ _ _ _ ?_; conv => whnf))
   have hc : iEq z 0 = true := by simp [iEq_eq, hz]
   have hck : iEq (⟨0, 0, z, 0, 0, 0, 0, 0, default⟩ : Mg).kind 0 = true := hc
   rw [hck]
   conv => whnf
   repeat (first | (refine XSame.of ?_; conv => whnf) | (refine XDep.all _ _ _ _ ?_; conv => whnf))
   refine XCall.val hrec (fun w hw => trivial) (fun v D hv => ?_)
   subst hv
   conv => whnf
   repeat (first | (refine XSame.of ?_; conv => whnf) | (refine XDep.all _ _ _ _ ?_; conv => whnf))
   refine XCall.val hacc (fun w hw => trivial) (fun v D hv => ?_)
   subst hv
   conv => whnf
   repeat (first | (refine XSame.of ?_; conv => whnf) | (refine XDep.all _ _ _ _ ?_; conv => whnf))
   refine XCall.val hnew (fun w hw => trivial) (fun v D hv => ?_)
   subst hv
   conv => whnf
   repeat (first | (refine XSame.of ?_; conv => whnf) | (refine XDep.all _ _ _ _ ?_; conv => whnf))
   refine XCall.val hout (fun w hw => trivial) (fun v D hv => ?_)
   subst hv
   conv => whnf
   repeat (first | (refine XSame.of ?_; conv => whnf) | (refine XDep.all _ _ _ _ ?_; conv => whnf))
   refine XCall.val hdsk (fun w hw => trivial) (fun v D hv => ?_)
   subst hv
   conv => whnf
   repeat (first | (refine XSame.of ?_; conv => whnf) | (refine XDep.all _ _ _ _ ?_; conv => whnf))
   refine XCall.val hnow (fun w hw => trivial) (fun v D hv => ?_)
   subst hv
   conv => whnf
   repeat (first | (refine XSame.of ?_; conv => whnf) | (refine XDep.all _ _ _ _ ?_; conv => whnf))
   have hsum : iEq (IntKind.i64.wrap (IntKind.i64.wrap (IntKind.i64.wrap (IntKind.i64.wrap (IntKind.i64.wrap ((n : Int) + (n : Int)) + (n : Int)) + (n : Int)) + (n : Int)) + z)) 0 = true := by
    subst hz
    subst hn
    kernel_rfl
   rw [hsum]
   conv => whnf
   repeat (first | (refine XSame.of ?_; conv => whnf) | (refine XDep.all _ _ _ _ ?_; conv => whnf))
   refine XCall.val hal (fun w hw => trivial) (fun v D hv => ?_)
   subst hv
   conv => whnf
   repeat (first | (refine XSame.of ?_; conv => whnf) | (refine XDep.all _ _ _ _ ?_; conv => whnf))
   refine XCall.val hst (fun w hw => trivial) (fun v D hv => ?_)
   subst hv
   conv => whnf
   repeat (first | (refine XSame.of ?_; conv => whnf) | (refine XDep.all _ _ _ _ ?_; conv => whnf))
   refine XCall.val hfr (fun w hw => trivial) (fun v D hv => ?_)
   subst hv
   conv => whnf
   repeat (first | (refine XSame.of ?_; conv => whnf) | (refine XDep.all _ _ _ _ ?_; conv => whnf))
   refine XVal.of_read (XRead.buildBig tabOk rfl rfl (fillK_to (n := 380) (X := Z) (by kernel_rfl) (by kernel_rfl) (by rw [← hZ]; kernel_rfl) ?_))
   conv => whnf
   repeat (first | (refine XSame.of ?_; conv => whnf) | (refine XDep.all _ _ _ _ ?_; conv => whnf))
   refine XCall.val hsm (fun w hw => trivial) (fun v D hv => ?_)
   subst hv
   conv => whnf
   repeat (first | (refine XSame.of ?_; conv => whnf) | (refine XDep.all _ _ _ _ ?_; conv => whnf))
   exact ⟨_, Ent.refl _, rfl⟩

end Go.Proofs.YtajkcdplmkaipaaGreatDoor
