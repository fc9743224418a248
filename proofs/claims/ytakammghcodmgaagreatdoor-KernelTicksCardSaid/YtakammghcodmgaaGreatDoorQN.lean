/- Parts of the proof: AdQ, AdB, KnA, KnB, KnC, KnD, KnF. -/
import Derived.Test.YtakammghcodmgaaGreatDoorQH
import Derived.Test.YtakammghcodmgaaGreatDoorQL
import Derived.Test.YtakammghcodmgaaGreatDoorQM
import Derived.Test.YtakammghcodmgaaGreatDoorRows
import Derived.SizedLaws
import Derived.Test.YtakammghcodmgaaGreatDoorQF
namespace Go.Proofs.YtakammghcodmgaaGreatDoor
open Go Go.Sx Go.ChangeShapes Go.WideShapes
set_option maxRecDepth 100000
set_option maxHeartbeats 2000000
set_option linter.unusedVariables false
set_option linter.unusedSimpArgs false

section
variable {H : Type} (enc : TypeId × Value → H) (w : World) (base : Nat) (spare : Nat → Bool) (held : Bool)

/-- Cells of a type that can be read are those of some datum. -/
structure Op (t : TypeId) (n : Nat) {β : Type} (f : β → List Value) (good : β → Prop) : Prop where
 cells : Tryz.prog.cellsOf t = n
 get : ∀ (m : Nat) (cs : List Value) (x : DataW H × List MemPlace), DataW.trod enc Tryz.prog w base spare held m t cs = some x → cs.length = n → (∀ k ∈ x.1.weights Tryz.prog t, k ≤ reachBytes) → ∃ b : β, cs = f b ∧ good b
end

section
variable {H : Type} {enc : TypeId × Value → H} {w : World} {base : Nat} {spare : Nat → Bool} {held : Bool}

theorem one_of {α : Type} {cs : List α} (h : cs.length = 1) : ∃ v, cs = [v] := by
 rcases cs with _ | ⟨v, _ | ⟨u, r⟩⟩ <;> simp at h
 exact ⟨v, rfl⟩

def slC {β : Type} (s : Sl β) : List Value := [s.v]

/-- A slice that can be read: its elements, each by its cells. -/
theorem slice_openW {P : Program} {t e : TypeId} {n sz : Nat} {v : Value} {x : DataW H × List MemPlace} (ht : P.underlying t = some (.slice e)) (hs : P.cellsOf e = sz) (hsz : 0 < sz)
 (h : DataW.trod enc P w base spare held n t [v] = some x) : ∃ (k : Hd) (L : List (List Value)), v = k.v L.length ∧ k.Ok L.length ∧ RowAt w k.a L.flatten ∧
  (∀ c ∈ L, c.length = sz ∧ ∃ m y, DataW.trod enc P w base spare held m e c = some y ∧ ∃ el sp, x.1 = .slice el sp ∧ y.1 ∈ el) ∧ (L = [] ∨ ∃ el sp, x.1 = .slice el sp ∧ el.length = L.length) := by
 rcases DataW.trod_slice ht h with ⟨h1, _⟩ | ⟨a, len, cap, elems, rest, m, _, h1, hx, _, hle, _, hel, hat, _, _⟩
 · cases h1
   exact ⟨Hd.nil, [], rfl, Hd.nil_ok, rfl, by simp, .inl rfl⟩
 · cases h1
   have hcell : ∀ i, i < len → ∃ c : List Value, c.length = sz ∧ (∀ j, j < sz → w.cell? ((a.add (i * sz)).add j) = c[j]?) ∧ ∃ m y, DataW.trod enc P w base spare held m e c = some y ∧ ∃ el sp, x.1 = .slice el sp ∧ y.1 ∈ el := by
    intro i hi
    have h2 := hat i hi
    rw [hs, List.getElem?_eq_getElem (by omega)] at h2
    cases hcs : w.cells? base (a.add (i * sz)) sz with
    | none => rw [hcs] at h2; cases h2
    | some cs =>
     rw [hcs] at h2
     obtain ⟨_, h4, h3⟩ := World.cells?_some hcs
     exact ⟨cs, h4, h3, m, _, h2, _, _, by rw [hx], List.mem_map.2 ⟨_, List.getElem_mem _, rfl⟩⟩
   obtain ⟨L, hl, hp⟩ := list_of len hcell
   have hlen : ∀ c ∈ L, c.length = sz := fun c hc => by
    obtain ⟨i, hi, rfl⟩ := List.getElem_of_mem hc
    exact (hp i hi).1
   refine ⟨⟨some a, cap⟩, L, by simp [Hd.v, hl], ⟨by simp, by simpa [hl] using hle⟩, ?_, fun c hc => ?_, .inr ⟨_, _, by rw [hx], by simp [hel, hl]⟩⟩
   · rcases Nat.eq_zero_or_pos len with h0 | h0
     · have : L = [] := List.eq_nil_of_length_eq_zero (by omega)
       subst this
       exact .inl rfl
     · have hl0 : 0 < L.length := by omega
       have c0 := (hp 0 hl0).2.1 0 hsz
       have z0 : (a.add (0 * sz)).add 0 = a := by simp [Addr.add]
       rw [z0, List.getElem?_eq_getElem (by rw [(hp 0 hl0).1]; exact hsz)] at c0
       have hh : a.spot = none ∧ ∃ arr e fz, w.heap[a.block]? = some (.cells arr e fz) := by
        unfold World.cell? at c0
        split at c0
        · rename_i c el fz hb
          split at c0
          · cases c0
          · rename_i hsp
            exact ⟨by cases hq : a.spot <;> simp_all, c, el, fz, hb⟩
        · cases c0
       obtain ⟨hsp, arr, el, fz, hb⟩ := hh
       refine .inr ⟨hsp, arr, el, fz, hb, fun j hj => ?_⟩
       rw [flatten_len hlen] at hj
       have hq : j / sz < L.length := (Nat.div_lt_iff_lt_mul hsz).2 hj
       have hr : j % sz < sz := Nat.mod_lt _ hsz
       have e1 : j / sz * sz + j % sz = j := by rw [Nat.mul_comm]; exact Nat.div_add_mod j sz
       have h5 := (hp _ hq).2.1 _ hr
       rw [Addr.addAdd hsp, e1] at h5
       have h6 := flatten_at hlen hq hr
       rw [e1] at h6
       rw [h6, ← h5]
       obtain ⟨b, o, sp⟩ := a
       simp only at hsp hb
       subst hsp
       rw [Addr.add_none]
       simp [World.cell?, hb]
   · obtain ⟨i, hi, rfl⟩ := List.getElem_of_mem hc
     exact ⟨(hp i hi).1, (hp i hi).2.2⟩

theorem weightsAll_mem {P : Program} {e : TypeId} : ∀ {l : List (DataW H)} {d : DataW H}, d ∈ l → ∀ k ∈ d.weights P e, k ∈ DataW.weightsAll P e l
 | d0 :: l, d, hd, k, hk => by
  rcases List.mem_cons.1 hd with rfl | h
  · unfold DataW.weightsAll
    exact List.mem_append.2 (.inl hk)
  · unfold DataW.weightsAll
    exact List.mem_append.2 (.inr (weightsAll_mem h k hk))

/-- What is known of a slice that can be read. -/
structure SlG {β : Type} (w : World) (f : β → List Value) (bz : Nat) (good : β → Prop) (s : Sl β) : Prop where
 h : s.h.Ok s.l.length
 sz : s.l.length * bz ≤ 140737488351232
 row : RowAt w s.h.a (s.l.flatMap f)
 all : ∀ b ∈ s.l, good b

theorem SlG.ok {β : Type} {f : β → List Value} {bz : Nat} {good : β → Prop} {s : Sl β} (h : SlG w f bz good s) (hb : 0 < bz) : s.Ok := by
 refine ⟨h.h, ?_⟩
 have := h.sz
 have : s.l.length * 1 ≤ s.l.length * bz := Nat.mul_le_mul_left _ hb
 omega

theorem op_slice {t e : TypeId} {sz bz : Nat} {β : Type} {f : β → List Value} {good : β → Prop} (ht : Tryz.prog.underlying t = some (.slice e)) (hc : Tryz.prog.cellsOf t = 1) (hbz : Tryz.prog.bytesOf e = bz) (hsz : 0 < sz) (he : Op enc w base spare held e sz f good) :
 Op enc w base spare held t 1 (slC (β := β)) (SlG w f bz good) := by
 refine ⟨hc, fun m cs x h hl hw => ?_⟩
 obtain ⟨v, rfl⟩ := one_of hl
 obtain ⟨k, L, rfl, hk, hr, hcl, hsl⟩ := slice_openW ht he.cells hsz h
 have hwl : L.length * bz ≤ 140737488351232 := by
  rcases hsl with rfl | ⟨el, sp, h1, h2⟩
  · simp
  rw [h1] at hw
  have := hw ((el.length + sp.length) * Tryz.prog.bytesOf e) (by
   unfold DataW.weights
   rw [ht]
   exact List.mem_cons_self ..)
  rw [hbz] at this
  unfold reachBytes at this
  have h3 : L.length * bz ≤ (el.length + sp.length) * bz := Nat.mul_le_mul_right _ (by omega)
  omega
 obtain ⟨l, rfl, hg⟩ := each_of (f := f) (good := good) (L := L) fun c hcm => by
  obtain ⟨h1, m, y, h2, el, sp, h3, h4⟩ := hcl c hcm
  refine he.get m c y h2 h1 fun k hk => hw k ?_
  rw [h3]
  unfold DataW.weights
  rw [ht]
  exact List.mem_cons_of_mem _ (List.mem_append.2 (.inl (weightsAll_mem h4 k hk)))
 rw [List.length_map] at hwl hk
 refine ⟨⟨k, l⟩, ?_, hk, hwl, ?_, hg⟩
 · unfold slC Sl.v
   rw [List.length_map]
 · show RowAt w k.a (l.flatMap f)
   rw [List.flatMap_def]
   exact hr

theorem op_field {t u : TypeId} {fs : Array Field} {m o n : Nat} {cs : List Value} {x : DataW H × List MemPlace} {β : Type} {f : β → List Value} {good : β → Prop} (ht : Tryz.prog.underlying t = some (.struct fs)) (h : DataW.trod enc Tryz.prog w base spare held m t cs = some x) (hw : ∀ k ∈ x.1.weights Tryz.prog t, k ≤ reachBytes)
 (i : Nat) (hf : (fs[i]?).map (fun f => (f.type, f.offset)) = some (u, o)) (he : Op enc w base spare held u n f good) (hl : o + n ≤ cs.length) : ∃ b : β, (cs.drop o).take n = f b ∧ good b := by
 obtain ⟨xs, m', _, hx, _, hxl, hel⟩ := DataW.trod_struct ht h
 cases hg : fs[i]? with
 | none => rw [hg] at hf; cases hf
 | some fd =>
  rw [hg] at hf
  have hi : i < fs.size := (Array.getElem?_eq_some_iff.1 hg).1
  have h1 := hel i fd hg
  cases hf
  rw [he.cells, List.getElem?_eq_getElem (by omega)] at h1
  refine he.get _ _ _ h1 (by rw [List.length_take, List.length_drop]; omega) fun k hk => hw k ?_
  rw [hx]
  unfold DataW.weights
  rw [ht]
  refine DataW.weights_mem_each (j := i) (t := fd.type) (d := xs[i].1) ?_ ?_ k hk
  · rw [List.getElem?_map]
    have : fs.toList[i]? = some fd := by rw [Array.getElem?_toList]; exact hg
    rw [this]
    rfl
  · rw [List.getElem?_map, List.getElem?_eq_getElem (by omega)]
    rfl

theorem chain {cs a r : List Value} {o n : Nat} (h : (cs.drop o).take n = a) (k : cs.drop (o + n) = r) : cs.drop o = a ++ r := by
 rw [← h, ← k, ← List.drop_drop, List.take_append_drop]

end
end Go.Proofs.YtakammghcodmgaaGreatDoor
namespace Go.Proofs.YtakammghcodmgaaGreatDoor
open Go Go.Sx
set_option maxRecDepth 100000
set_option maxHeartbeats 4000000
set_option linter.unusedVariables false
set_option linter.unusedSimpArgs false

theorem cloneFl_nil : PureSpec Tryz.prog 121 [.slice none 0 0] (fun _ => True) (fun v F => v = .slice none 0 0) := by
 refine PureSpec.of_xc tabOk Tryz.func121 rfl (by decide) (n := Tryz.f121.ntmps - 1) rfl rfl fun w0 av => ?_
 conv => whnf
 repeat (first | (refine XSame.of ?_; conv => whnf) | (refine XDep.all _ _ _ _ ?_; conv => whnf))
 refine XVal.of_read (XRead.eqNil tabOk (t := 83) rfl rfl ?_)
 conv => whnf
 repeat (first | (refine XSame.of ?_; conv => whnf) | (refine XDep.all _ _ _ _ ?_; conv => whnf))
 exact ⟨_, Ent.refl _, rfl⟩

theorem cloneAl_nil : PureSpec Tryz.prog 58 [.slice none 0 0] (fun _ => True) (fun v F => v = .slice none 0 0) := by
 refine PureSpec.of_xc tabOk Tryz.func58 rfl (by decide) (n := Tryz.f58.ntmps - 1) rfl rfl fun w0 av => ?_
 conv => whnf
 repeat (first | (refine XSame.of ?_; conv => whnf) | (refine XDep.all _ _ _ _ ?_; conv => whnf))
 refine XVal.of_read (XRead.eqNil tabOk (t := 123) rfl rfl ?_)
 conv => whnf
 repeat (first | (refine XSame.of ?_; conv => whnf) | (refine XDep.all _ _ _ _ ?_; conv => whnf))
 exact ⟨_, Ent.refl _, rfl⟩

theorem cloneAc_nil : PureSpec Tryz.prog 42 [.slice none 0 0] (fun _ => True) (fun v F => v = .slice none 0 0) := by
 refine PureSpec.of_xc tabOk Tryz.func42 rfl (by decide) (n := Tryz.f42.ntmps - 1) rfl rfl fun w0 av => ?_
 conv => whnf
 repeat (first | (refine XSame.of ?_; conv => whnf) | (refine XDep.all _ _ _ _ ?_; conv => whnf))
 refine XVal.of_read (XRead.eqNil tabOk (t := 46) rfl rfl ?_)
 conv => whnf
 repeat (first | (refine XSame.of ?_; conv => whnf) | (refine XDep.all _ _ _ _ ?_; conv => whnf))
 exact ⟨_, Ent.refl _, rfl⟩

theorem cloneBb_nil : PureSpec Tryz.prog 115 [.slice none 0 0] (fun _ => True) (fun v F => v = .slice none 0 0) := by
 refine PureSpec.of_xc tabOk Tryz.func115 rfl (by decide) (n := Tryz.f115.ntmps - 1) rfl rfl fun w0 av => ?_
 conv => whnf
 repeat (first | (refine XSame.of ?_; conv => whnf) | (refine XDep.all _ _ _ _ ?_; conv => whnf))
 refine XVal.of_read (XRead.eqNil tabOk (t := 66) rfl rfl ?_)
 conv => whnf
 repeat (first | (refine XSame.of ?_; conv => whnf) | (refine XDep.all _ _ _ _ ?_; conv => whnf))
 exact ⟨_, Ent.refl _, rfl⟩

theorem cloneBy_nil : PureSpec Tryz.prog 41 [.slice none 0 0] (fun _ => True) (fun v F => v = .slice none 0 0) := by
 refine PureSpec.of_xc tabOk Tryz.func41 rfl (by decide) (n := Tryz.f41.ntmps - 1) rfl rfl fun w0 av => ?_
 conv => whnf
 repeat (first | (refine XSame.of ?_; conv => whnf) | (refine XDep.all _ _ _ _ ?_; conv => whnf))
 refine XVal.of_read (XRead.eqNil tabOk (t := 22) rfl rfl ?_)
 conv => whnf
 repeat (first | (refine XSame.of ?_; conv => whnf) | (refine XDep.all _ _ _ _ ?_; conv => whnf))
 exact ⟨_, Ent.refl _, rfl⟩

end Go.Proofs.YtakammghcodmgaaGreatDoor
namespace Go.Proofs.YtakammghcodmgaaGreatDoor
open Go Go.Sx
set_option maxRecDepth 100000
set_option maxHeartbeats 4000000
set_option linter.unusedVariables false
set_option linter.unusedSimpArgs false

theorem laid_take_eq {X Z : List Value} {k : Nat} (h : k ≤ X.length) : (laid X k Z).take k = X.take k := by
 unfold laid
 rw [List.append_assoc, List.take_append_of_le_length (by simp; omega), List.take_take]
 simp
theorem fm_drop {α : Type} {cf : α → List Value} {z : Nat} (hz : ∀ x, (cf x).length = z) : ∀ (l : List α) (i : Nat), (l.flatMap cf).drop (i * z) = (l.drop i).flatMap cf
 | [], i => by simp
 | x :: l, 0 => by simp
 | x :: l, i + 1 => by
  rw [List.flatMap_cons, List.drop_succ_cons, ← fm_drop hz l i, Nat.succ_mul, List.drop_append, hz x, Nat.add_sub_cancel, List.drop_eq_nil_of_le (by rw [hz x]; omega), List.nil_append]
theorem orow_CM' {a : Option Addr} {C : List Value} : ∀ r ∈ orow a C, CM r.2 := by
 cases a <;> simp [orow]

theorem mgs_idx {α : Type} (cf : α → List Value) (hz : ∀ x, (cf x).length = 9) (f : FuncId) (Pre : World → Prop) (p : α → Bool) (u0 : Value) (l : List α) (h : Hd) (hh : h.Ok l.length) (hl : l.length ≤ 140737488355328) (hf : ∀ e ∈ l, PureSpec Tryz.prog f [.agg ⟨cf e⟩, u0] Pre (fun v F => v = .bool (p e))) :
 PureSpec Tryz.prog 155 [h.v l.length, .func (.func f) #[] #[u0]] (fun w => RowAt w h.a (l.flatMap cf) ∧ Pre w) (fun v F => v = .int .i64 (fint (l.findIdx? p))) := by
 refine PureSpec.of_xc tabOk Tryz.func155 rfl (by decide) (n := Tryz.f155.ntmps - 2) rfl rfl fun w0 av => ?_
 conv => whnf
 refine XStop.loop tabOk (ι := Nat) ([5] ++ List.range' 8 11) (fun x => x ≤ l.length ∧ ∀ j (hj : j < l.length), j < x → p l[j] = false)
  (fun x => [(8, .v (.int .i64 (x : Int)))]) (fun _ => []) (fun _ => ⟨fun w => RowAt w h.a (l.flatMap cf) ∧ Pre w, []⟩)
  (fun x => l.length - x) 0 ⟨Nat.zero_le _, fun j hj h => by omega⟩ ?_ rfl (Ent.refl _) fun i hi => ?_
 · conv => whnf
   repeat (first | exact FLe.nil | refine FLe.any ?_ | refine FLe.cons ?_)
 obtain ⟨hi, hall⟩ := hi
 conv => whnf
 refine XIf.split (fun hlt => ?_) (fun hlt => ?_)
 · have hlt' : i < l.length := by
    simp only [iLt_eq, decide_eq_true_eq] at hlt
    omega
   conv => whnf
   repeat (first | (refine XSame.of ?_; conv => whnf) | (refine XDep.all _ _ _ _ ?_; conv => whnf))
   refine XVal.of_read (XRead.index tabOk (t := 108) rfl rfl rfl (by omega) (by omega) hh.nil fun ad had => ?_)
   conv => whnf
   repeat (first | (refine XSame.of ?_; conv => whnf) | (refine XDep.all _ _ _ _ ?_; conv => whnf))
   refine XVal.of_read (XRead.loads tabOk (t := 53) rfl rfl (ad := ad) (k := i * 9) (L := l.flatMap cf) (m := cf l[i]) (.fact fun w hw => had ▸ hw.1) (by simp) (fm_get hz hlt') (hz _) ?_)
   conv => whnf
   repeat (first | (refine XSame.of ?_; conv => whnf) | (refine XDep.all _ _ _ _ ?_; conv => whnf))
   refine XCall.val (hf _ (List.getElem_mem hlt')) (fun w hw => hw.2) (fun v D hv => ?_)
   generalize hq : p l[i] = q at hv
   subst hv
   cases q
   · conv => whnf
     repeat (first | (refine XSame.of ?_; conv => whnf) | (refine XDep.all _ _ _ _ ?_; conv => whnf))
     refine ⟨i + 1, ⟨⟨hlt', fun j hj h => ?_⟩, by dsimp only; omega⟩, ?_, ?_, Ent.refl _⟩
     · rcases Nat.lt_or_eq_of_le (Nat.lt_succ_iff.1 h) with h5 | h5
       · exact hall j hj h5
       · subst h5
         exact hq
     · conv => whnf
       refine ⟨?_, rfl⟩
       repeat (first | exact FLe.nil | refine FLe.any ?_ | refine FLe.cons ?_ | refine FLe.eq (by rw [wrap_i64 (by omega)]; rfl) ?_)
     · conv => whnf
       exact trivial
   · conv => whnf
     repeat (first | (refine XSame.of ?_; conv => whnf) | (refine XDep.all _ _ _ _ ?_; conv => whnf))
     refine ⟨_, Ent.refl _, ?_⟩
     have : l.findIdx? p = some i := by
      rw [List.findIdx?_eq_some_iff_getElem]
      exact ⟨hlt', hq, fun j hj => by simpa using hall j (by omega) hj⟩
     rw [this]
     rfl
 · have hie : i = l.length := by
    simp only [iLt_eq, decide_eq_false_iff_not] at hlt
    omega
   subst hie
   conv => whnf
   repeat (first | (refine XSame.of ?_; conv => whnf) | (refine XDep.all _ _ _ _ ?_; conv => whnf))
   refine ⟨_, Ent.refl _, ?_⟩
   have : l.findIdx? p = none := by
    rw [List.findIdx?_eq_none_iff]
    intro x hx
    obtain ⟨j, hj, rfl⟩ := List.getElem_of_mem hx
    simpa using hall j hj hj
   rw [this]
   rfl

theorem que_idx {α : Type} (vf : α → Value) (hone : ∀ x, oneCell (vf x) = true) (f : FuncId) (Pre : World → Prop) (p : α → Bool) (u0 : Value) (l : List α) (h : Hd) (hh : h.Ok l.length) (hl : l.length ≤ 140737488355328) (hf : ∀ e ∈ l, PureSpec Tryz.prog f [u0, (vf e)] Pre (fun v F => v = .bool (p e))) :
 PureSpec Tryz.prog 94 [h.v l.length, .func (.func f) #[u0] #[]] (fun w => RowAt w h.a (l.map vf) ∧ Pre w) (fun v F => v = .int .i64 (fint (l.findIdx? p))) := by
 refine PureSpec.of_xc tabOk Tryz.func94 rfl (by decide) (n := Tryz.f94.ntmps - 2) rfl rfl fun w0 av => ?_
 conv => whnf
 refine XStop.loop tabOk (ι := Nat) ([5] ++ List.range' 8 11) (fun x => x ≤ l.length ∧ ∀ j (hj : j < l.length), j < x → p l[j] = false)
  (fun x => [(8, .v (.int .i64 (x : Int)))]) (fun _ => []) (fun _ => ⟨fun w => RowAt w h.a (l.map vf) ∧ Pre w, []⟩)
  (fun x => l.length - x) 0 ⟨Nat.zero_le _, fun j hj h => by omega⟩ ?_ rfl (Ent.refl _) fun i hi => ?_
 · conv => whnf
   repeat (first | exact FLe.nil | refine FLe.any ?_ | refine FLe.cons ?_)
 obtain ⟨hi, hall⟩ := hi
 conv => whnf
 refine XIf.split (fun hlt => ?_) (fun hlt => ?_)
 · have hlt' : i < l.length := by
    simp only [iLt_eq, decide_eq_true_eq] at hlt
    omega
   conv => whnf
   repeat (first | (refine XSame.of ?_; conv => whnf) | (refine XDep.all _ _ _ _ ?_; conv => whnf))
   refine XVal.of_read (XRead.index tabOk (t := 115) rfl rfl rfl (by omega) (by omega) hh.nil fun ad had => ?_)
   conv => whnf
   repeat (first | (refine XSame.of ?_; conv => whnf) | (refine XDep.all _ _ _ _ ?_; conv => whnf))
   refine XVal.of_read (XRead.loadF tabOk (t := 3) rfl rfl (ad := ad) (k := i) (L := l.map vf) (v := vf l[i]) (.fact fun w hw => had ▸ hw.1) (fun hs => by rw [Nat.mul_one]; rfl) (by rw [List.getElem?_map, List.getElem?_eq_getElem hlt']; rfl) ?_)
   conv => whnf
   repeat (first | (refine XSame.of ?_; conv => whnf) | (refine XDep.all _ _ _ _ ?_; conv => whnf))
   refine XCall.val (hf _ (List.getElem_mem hlt')) (fun w hw => hw.2) (fun v D hv => ?_)
   generalize hq : p l[i] = q at hv
   subst hv
   cases q
   · conv => whnf
     repeat (first | (refine XSame.of ?_; conv => whnf) | (refine XDep.all _ _ _ _ ?_; conv => whnf))
     refine ⟨i + 1, ⟨⟨hlt', fun j hj h => ?_⟩, by dsimp only; omega⟩, ?_, ?_, Ent.refl _⟩
     · rcases Nat.lt_or_eq_of_le (Nat.lt_succ_iff.1 h) with h5 | h5
       · exact hall j hj h5
       · subst h5
         exact hq
     · conv => whnf
       refine ⟨?_, rfl⟩
       repeat (first | exact FLe.nil | refine FLe.any ?_ | refine FLe.cons ?_ | refine FLe.eq (by rw [wrap_i64 (by omega)]; rfl) ?_)
     · conv => whnf
       exact trivial
   · conv => whnf
     repeat (first | (refine XSame.of ?_; conv => whnf) | (refine XDep.all _ _ _ _ ?_; conv => whnf))
     refine ⟨_, Ent.refl _, ?_⟩
     have : l.findIdx? p = some i := by
      rw [List.findIdx?_eq_some_iff_getElem]
      exact ⟨hlt', hq, fun j hj => by simpa using hall j (by omega) hj⟩
     rw [this]
     rfl
 · have hie : i = l.length := by
    simp only [iLt_eq, decide_eq_false_iff_not] at hlt
    omega
   subst hie
   conv => whnf
   repeat (first | (refine XSame.of ?_; conv => whnf) | (refine XDep.all _ _ _ _ ?_; conv => whnf))
   refine ⟨_, Ent.refl _, ?_⟩
   have : l.findIdx? p = none := by
    rw [List.findIdx?_eq_none_iff]
    intro x hx
    obtain ⟨j, hj, rfl⟩ := List.getElem_of_mem hx
    simpa using hall j hj hj
   rw [this]
   rfl

/-- A copy, in rows of its own. -/
theorem clonePrO (h : Hd) (n : Nat) (hh : h.Ok n) (M : List Value) (hM : M.length = n * 3) (hn : n ≤ 1000000) (hone : ∀ v ∈ M, oneCell v = true) : PureSpec Tryz.prog 208 [h.v n] (fun w => RowAt w h.a M)
 (fun v F => ∃ a cap C, Sx.Owg 3 n a cap C M ∧ v = .slice a n cap ∧ F = ⟨fun _ => True, orow a C⟩) := by
 obtain ⟨ha, hc⟩ := h
 rcases ha with _ | ha
 · have h0 := hh.nil rfl
   subst h0
   have hM0 : M = [] := List.length_eq_zero_iff.1 (by omega)
   subst hM0
   refine PureSpec.of_xc tabOk Tryz.func208 rfl (by decide) (n := Tryz.f208.ntmps - 1) rfl rfl fun w0 av => ?_
   conv => whnf
   repeat (first | (refine XSame.of ?_; conv => whnf) | (refine XDep.all _ _ _ _ ?_; conv => whnf))
   refine XVal.of_read (XRead.eqNil tabOk (t := 109) rfl rfl ?_)
   conv => whnf
   repeat (first | (refine XSame.of ?_; conv => whnf) | (refine XDep.all _ _ _ _ ?_; conv => whnf))
   exact ⟨⟨fun _ => True, []⟩, Ent.of_le ⟨by simp, fun w hw => trivial⟩, none, 0, [], Sx.Owg.nil 3, rfl, rfl⟩
 refine PureSpec.of_xc tabOk Tryz.func208 rfl (by decide) (n := Tryz.f208.ntmps - 1) rfl rfl fun w0 av => ?_
 conv => whnf
 repeat (first | (refine XSame.of ?_; conv => whnf) | (refine XDep.all _ _ _ _ ?_; conv => whnf))
 refine XVal.of_read (XRead.eqNil tabOk (t := 109) rfl rfl ?_)
 conv => whnf
 repeat (first | (refine XSame.of ?_; conv => whnf) | (refine XDep.all _ _ _ _ ?_; conv => whnf))
 refine XVal.build tabOk (t := 109) rfl rfl rfl [] rfl rfl (by simp) (by decide) fun b0 => ?_
 conv => whnf
 repeat (first | (refine XSame.of ?_; conv => whnf) | (refine XDep.all _ _ _ _ ?_; conv => whnf))
 refine XVal.ent (F' := ⟨fun w => RowAt w (some ha) M, [] ++ orow (some ⟨b0, 0, none⟩) [] ++ []⟩) (Ent.of_le ⟨by simp [orow], fun w hw => hw⟩) ?_
 refine XVal.append tabOk rfl rfl rfl rfl rfl rfl (L := []) (M := M) (Sx.Owg.full (n := 0) (by simp)) (.fact fun w hw => hw) hM hone (by omega) (by show (2 * (0 + n) + 1000) * 24 ≤ 2 ^ 48; omega) fun a cap C hO => ?_
 conv => whnf
 repeat (first | (refine XSame.of ?_; conv => whnf) | (refine XDep.all _ _ _ _ ?_; conv => whnf))
 rw [Nat.zero_add, List.nil_append] at hO
 rw [Nat.zero_add]
 exact ⟨⟨fun _ => True, orow a C⟩, Ent.of_le ⟨by simp, fun w hw => trivial⟩, a, cap, C, hO, rfl, rfl⟩

/-- A copy, in rows of its own. -/
theorem cloneQuO (h : Hd) (n : Nat) (hh : h.Ok n) (M : List Value) (hM : M.length = n * 1) (hn : n ≤ 1000000) (hone : ∀ v ∈ M, oneCell v = true) : PureSpec Tryz.prog 95 [h.v n] (fun w => RowAt w h.a M)
 (fun v F => ∃ a cap C, Sx.Owg 1 n a cap C M ∧ v = .slice a n cap ∧ F = ⟨fun _ => True, orow a C⟩) := by
 obtain ⟨ha, hc⟩ := h
 rcases ha with _ | ha
 · have h0 := hh.nil rfl
   subst h0
   have hM0 : M = [] := List.length_eq_zero_iff.1 (by omega)
   subst hM0
   refine PureSpec.of_xc tabOk Tryz.func95 rfl (by decide) (n := Tryz.f95.ntmps - 1) rfl rfl fun w0 av => ?_
   conv => whnf
   repeat (first | (refine XSame.of ?_; conv => whnf) | (refine XDep.all _ _ _ _ ?_; conv => whnf))
   refine XVal.of_read (XRead.eqNil tabOk (t := 115) rfl rfl ?_)
   conv => whnf
   repeat (first | (refine XSame.of ?_; conv => whnf) | (refine XDep.all _ _ _ _ ?_; conv => whnf))
   exact ⟨⟨fun _ => True, []⟩, Ent.of_le ⟨by simp, fun w hw => trivial⟩, none, 0, [], Sx.Owg.nil 1, rfl, rfl⟩
 refine PureSpec.of_xc tabOk Tryz.func95 rfl (by decide) (n := Tryz.f95.ntmps - 1) rfl rfl fun w0 av => ?_
 conv => whnf
 repeat (first | (refine XSame.of ?_; conv => whnf) | (refine XDep.all _ _ _ _ ?_; conv => whnf))
 refine XVal.of_read (XRead.eqNil tabOk (t := 115) rfl rfl ?_)
 conv => whnf
 repeat (first | (refine XSame.of ?_; conv => whnf) | (refine XDep.all _ _ _ _ ?_; conv => whnf))
 refine XVal.build tabOk (t := 115) rfl rfl rfl [] rfl rfl (by simp) (by decide) fun b0 => ?_
 conv => whnf
 repeat (first | (refine XSame.of ?_; conv => whnf) | (refine XDep.all _ _ _ _ ?_; conv => whnf))
 refine XVal.ent (F' := ⟨fun w => RowAt w (some ha) M, [] ++ orow (some ⟨b0, 0, none⟩) [] ++ []⟩) (Ent.of_le ⟨by simp [orow], fun w hw => hw⟩) ?_
 refine XVal.append tabOk rfl rfl rfl rfl rfl rfl (L := []) (M := M) (Sx.Owg.full (n := 0) (by simp)) (.fact fun w hw => hw) hM hone (by omega) (by show (2 * (0 + n) + 1000) * 8 ≤ 2 ^ 48; omega) fun a cap C hO => ?_
 conv => whnf
 repeat (first | (refine XSame.of ?_; conv => whnf) | (refine XDep.all _ _ _ _ ?_; conv => whnf))
 rw [Nat.zero_add, List.nil_append] at hO
 rw [Nat.zero_add]
 exact ⟨⟨fun _ => True, orow a C⟩, Ent.of_le ⟨by simp, fun w hw => trivial⟩, a, cap, C, hO, rfl, rfl⟩

/-- One element is taken out of a row that is handed over. -/
theorem deleteMg {α : Type} (cf : α → List Value) (hz : ∀ x, (cf x).length = 9) (ho : ∀ x, ∀ v ∈ cf x, oneCell v = true) {wb cap : Nat} {C : List Value} {l : List α} {i : Nat} (hO : Sx.Owg 9 l.length (some ⟨wb, 0, none⟩) cap C (l.flatMap cf)) (hi : i < l.length) (hl : l.length ≤ 100000) (D : World → Prop) :
 RowsSpec Tryz.prog 159 [.slice (some ⟨wb, 0, none⟩) l.length cap, .int .i64 (i : Int), .int .i64 ((i : Int) + 1)] [(wb, Row.c C)] D
  (fun v F => ∃ C', Sx.Owg 9 (l.eraseIdx i).length (some ⟨wb, 0, none⟩) cap C' ((l.eraseIdx i).flatMap cf) ∧ v = .slice (some ⟨wb, 0, none⟩) (l.eraseIdx i).length cap ∧ F = ⟨D, [(wb, Row.c C')]⟩) := by
 have hfit := hO.fit
 have hCl : C.length = cap * 9 := by
  rcases hO.alt with ⟨h1, _⟩ | ⟨b', _, h2, _⟩
  · cases h1
  · exact h2
 have hCt : C.take (l.length * 9) = l.flatMap cf := by
  rcases hO.alt with ⟨h1, _⟩ | ⟨b', _, _, h3⟩
  · cases h1
  · exact h3
 refine RowsSpec.of_xc tabOk Tryz.func159 rfl (by decide) (n := Tryz.f159.ntmps - 3) rfl rfl (by simp) fun w0 av => ?_
 conv => whnf
 repeat (first | (refine XSame.of ?_; conv => whnf) | (refine XDep.all _ _ _ _ ?_; conv => whnf))
 refine XVal.of_read (XRead.slice tabOk (t := 108) rfl rfl rfl (lo := some (i : Int)) (hi := some ((i : Int) + 1)) (mx := some (l.length : Int)) i (i + 1) l.length rfl rfl rfl (by omega) (by omega) hfit (fun _ => rfl) ?_)
 conv => whnf
 repeat (first | (refine XSame.of ?_; conv => whnf) | (refine XDep.all _ _ _ _ ?_; conv => whnf))
 refine XIf.no (by simp [iEq_eq]; omega) ?_
 conv => whnf
 repeat (first | (refine XSame.of ?_; conv => whnf) | (refine XDep.all _ _ _ _ ?_; conv => whnf))
 refine XStop.draw tabOk mixed rfl rfl ?_
 conv => whnf
 have S1 : ∀ (F : Fx) (K : Value → Prop), K (.slice (some ⟨wb, 0, none⟩) i cap) → XRead Tryz.prog w0 (fun b _ => IsIn [(wb, Row.c C)] b) av (Instr.sliceAt 108 (.slice (some ⟨wb, 0, none⟩) l.length cap) none (some (.int .i64 (i : Int))) none) [] [] F K := fun F K hK => by
  refine XRead.slice tabOk (t := 108) rfl rfl rfl (lo := none) (hi := some (i : Int)) (mx := none) (k1 := .i64) (k3 := .i64) 0 i cap rfl rfl rfl (by omega) (by omega) (Nat.le_refl _) (fun h => by cases h) ?_
  rw [cutA_zero]
  exact hK
 have S2 : ∀ (F : Fx) (K : Value → Prop), K (.slice (cutA (some ⟨wb, 0, none⟩) (i + 1) cap 9) (l.length - (i + 1)) (cap - (i + 1))) → XRead Tryz.prog w0 (fun b _ => IsIn [(wb, Row.c C)] b) av (Instr.sliceAt 108 (.slice (some ⟨wb, 0, none⟩) l.length cap) (some (.int .i64 ((i : Int) + 1))) none none) [] [] F K := fun F K hK => by
  exact XRead.slice tabOk (t := 108) rfl rfl rfl (lo := some ((i : Int) + 1)) (hi := none) (mx := none) (k2 := .i64) (k3 := .i64) (i + 1) l.length cap rfl rfl rfl (by omega) (by omega) (Nat.le_refl _) (fun h => by cases h) hK
 have hsee : Sees w0 (fun b _ => IsIn [(wb, Row.c C)] b) av [] [] ⟨D, [] ++ [(wb, Row.c C)] ++ []⟩ (cutA (some ⟨wb, 0, none⟩) (i + 1) cap 9) ((l.drop (i + 1)).flatMap cf) := fun w hst => by
  have h1 := (hO.at (r1 := []) (r2 := []) hst).cut (l := i + 1) (hi := l.length) (m := cap) (size := 9) (by omega)
  rw [fm_drop hz, List.take_of_length_le (by rw [fm_len hz]; simp)] at h1
  exact h1
 have en : i + (l.length - (i + 1)) = l.length - 1 := by omega
 have e1 : l.length - (l.length - 1) = 0 + 1 := by omega
 have ecut : cutA (some ⟨wb, 0, none⟩) (l.length - 1) cap 9 = some ⟨wb, (l.length - 1) * 9, none⟩ := by
  unfold cutA
  rw [if_neg (by omega)]
  simp [Addr.add_none]
 have hlen1 : ((l.drop (i + 1)).flatMap cf).length = (l.length - (i + 1)) * 9 := by rw [fm_len hz]; simp
 have hlaid : (laid C (i * 9) ((l.drop (i + 1)).flatMap cf)).length = C.length := laid_len (by rw [hlen1, hCl]; omega)
 have S3 : ∀ (F : Fx) (K : Value → Prop), K (.slice (some ⟨wb, (l.length - 1) * 9, none⟩) (0 + 1) (cap - (l.length - 1))) → XRead Tryz.prog w0 (fun b _ => IsIn [(wb, Row.c C)] b) av (Instr.sliceAt 108 (.slice (some ⟨wb, 0, none⟩) (l.length - 1) cap) (some (.int .i64 ((l.length - 1 : Nat) : Int))) (some (.int .i64 (l.length : Int))) none) [] [] F K := fun F K hK => by
  refine XRead.slice tabOk (t := 108) rfl rfl rfl (lo := some ((l.length - 1 : Nat) : Int)) (hi := some (l.length : Int)) (mx := none) (k3 := .i64) (l.length - 1) l.length cap rfl rfl rfl (by omega) hfit (Nat.le_refl _) (fun h => by cases h) ?_
  rw [e1]
  show K (.slice (cutA (some ⟨wb, 0, none⟩) (l.length - 1) cap 9) (0 + 1) (cap - (l.length - 1)))
  rw [ecut]
  exact hK
 repeat' (first
  | (refine And.intro ?_ ?_ <;> conv => whnf)
  | (refine XHeld.same rfl ?_; conv => whnf)
  | (refine XSame.of ?_; conv => whnf)
  | (refine S1 _ _ ?_; conv => whnf)
  | (refine S2 _ _ ?_; conv => whnf)
  | (refine XVal.of_read (S1 _ _ ?_); conv => whnf)
  | (refine XVal.of_read (S2 _ _ ?_); conv => whnf))
 all_goals
  refine XVal.ent (F' := ⟨D, [] ++ [(wb, Row.c C)] ++ []⟩) (Ent.of_le ⟨by simp, fun w hw => hw⟩) ?_
  refine XVal.appendIn tabOk (t := 108) (xt := 108) rfl rfl rfl rfl rfl (r1 := []) (r2 := []) (M := (l.drop (i + 1)).flatMap cf) (by omega) hCl hsee (by rw [fm_len hz]; simp) (fm_one ho _) ?_
  conv => whnf
  repeat (first | (refine XSame.of ?_; conv => whnf) | (refine XDep.all _ _ _ _ ?_; conv => whnf))
  rw [en]
  refine XVal.of_read (S3 _ _ ?_)
  conv => whnf
  repeat (first | (refine XSame.of ?_; conv => whnf) | (refine XDep.all _ _ _ _ ?_; conv => whnf))
  refine XVal.clearIn tabOk (t := 108) rfl rfl rfl rfl (by simp [oneCell]) (r1 := []) (r2 := []) (n := 0) (k := (l.length - 1) * 9) (C := laid C (i * 9) ((l.drop (i + 1)).flatMap cf)) rfl (by rw [hlaid, hCl]; dsimp only; omega) fun Z hZ => ?_
  conv => whnf
  repeat (first | (refine XSame.of ?_; conv => whnf) | (refine XDep.all _ _ _ _ ?_; conv => whnf))
  have hel : (l.eraseIdx i).length = l.length - 1 := by rw [List.length_eraseIdx, if_pos hi]
  refine ⟨_, Ent.refl _, _, ⟨by rw [fm_len hz], by omega, .inr ⟨wb, rfl, ?_, ?_⟩⟩, by rw [hel], rfl⟩
  · rw [laid_len (by rw [hZ, hlaid, hCl]; dsimp only; omega), hlaid, hCl]
  · have h1 := laid_take_eq (Z := Z) (k := (l.length - 1) * 9) (X := laid C (i * 9) ((l.drop (i + 1)).flatMap cf)) (by rw [hlaid, hCl]; omega)
    rw [hel, h1]
    unfold laid
    rw [List.take_append_of_le_length (by simp only [List.length_append, List.length_take, hlen1]; omega), List.take_of_length_le (by simp only [List.length_append, List.length_take, hlen1]; omega)]
    rw [List.eraseIdx_eq_take_drop_succ, List.flatMap_append, ← fm_take hz, ← hCt, List.take_take, Nat.min_eq_left (by omega)]

end Go.Proofs.YtakammghcodmgaaGreatDoor
namespace Go.Proofs.YtakammghcodmgaaGreatDoor
open Go Go.Sx
set_option maxRecDepth 100000
set_option maxHeartbeats 4000000
set_option linter.unusedVariables false
set_option linter.unusedSimpArgs false

theorem mgC_one (x : Mg) : ∀ v ∈ mgC x, oneCell v = true := List.all_eq_true.1 rfl
theorem prC_one (x : Pr) : ∀ v ∈ prC x, oneCell v = true := List.all_eq_true.1 rfl

theorem porClone_spec (x : Mg) (hx : x.data = default) : PureSpec Tryz.prog 91 [.agg ⟨mgC x⟩] (fun _ => True) (fun v F => v = .agg ⟨mgC x⟩) := by
 obtain ⟨s, d, k, q, a0, a1, a2, a3, dt⟩ := x
 subst hx
 have h1 := cloneBy_nil
 refine PureSpec.of_xc tabOk Tryz.func91 rfl (by decide) (n := Tryz.f91.ntmps - 1) rfl rfl fun w0 av => ?_
 conv => whnf
 repeat (first | (refine XSame.of ?_; conv => whnf) | (refine XDep.all _ _ _ _ ?_; conv => whnf))
 intro b1
 conv => whnf
 repeat (first | (refine XSame.of ?_; conv => whnf) | (refine XDep.all _ _ _ _ ?_; conv => whnf))
 intro b2
 conv => whnf
 repeat (first | (refine XSame.of ?_; conv => whnf) | (refine XDep.all _ _ _ _ ?_; conv => whnf))
 refine XCall.val h1 (fun w hw => trivial) (fun v D hv => ?_)
 subst hv
 conv => whnf
 repeat (first | (refine XSame.of ?_; conv => whnf) | (refine XDep.all _ _ _ _ ?_; conv => whnf))
 exact ⟨_, Ent.refl _, rfl⟩

theorem mapped_spec (l : List Mg) (hd : ∀ x ∈ l, x.data = default) (h : Hd) (hh : h.Ok l.length) (hl : l.length ≤ 100000) :
 PureSpec Tryz.prog 207 [h.v l.length, .func (.func 91) #[] #[]] (fun w => RowAt w h.a (l.flatMap mgC))
  (fun v F => ∃ a cap C, Sx.Owg 9 l.length a cap C (l.flatMap mgC) ∧ v = .slice a l.length cap ∧ F = ⟨fun _ => True, orow a C⟩) := by
 refine PureSpec.of_xc tabOk Tryz.func207 rfl (by decide) (n := Tryz.f207.ntmps - 2) rfl rfl fun w0 av => ?_
 conv => whnf
 repeat (first | (refine XSame.of ?_; conv => whnf) | (refine XDep.all _ _ _ _ ?_; conv => whnf))
 refine XStop.loop tabOk (ι := Nat × Option Addr × Nat × List Value) ([5, 7] ++ List.range' 10 12) (fun x => x.1 ≤ l.length ∧ Sx.Owg 9 x.1 x.2.1 x.2.2.1 x.2.2.2 ((l.take x.1).flatMap mgC))
  (fun x => [(10, .v (.int .i64 (x.1 : Int))), (5, .v (.slice x.2.1 x.1 x.2.2.1))]) (fun _ => []) (fun x => ⟨fun w => RowAt w h.a (l.flatMap mgC), [] ++ orow x.2.1 x.2.2.2 ++ []⟩)
  (fun x => l.length - x.1) (0, none, 0, []) ⟨Nat.zero_le _, Sx.Owg.nil 9⟩ ?_ rfl (Ent.refl _) fun x hx => ?_
 · conv => whnf
   repeat (first | exact FLe.nil | refine FLe.any ?_ | refine FLe.cons ?_)
 obtain ⟨i, a, cap, C⟩ := x
 obtain ⟨hi, hO⟩ := hx
 dsimp only at hi hO ⊢
 conv => whnf
 repeat (first | (refine XSame.of ?_; conv => whnf) | (refine XDep.all _ _ _ _ ?_; conv => whnf))
 refine XIf.split (fun hlt => ?_) (fun hlt => ?_)
 · have hlt' : i < l.length := by
    simp only [iLt_eq, decide_eq_true_eq] at hlt
    omega
   have hc := porClone_spec l[i] (hd _ (List.getElem_mem hlt'))
   conv => whnf
   repeat (first | (refine XSame.of ?_; conv => whnf) | (refine XDep.all _ _ _ _ ?_; conv => whnf))
   refine XVal.of_read (XRead.index tabOk (t := 108) rfl rfl rfl (by omega) (by omega) hh.nil fun ad had => ?_)
   conv => whnf
   repeat (first | (refine XSame.of ?_; conv => whnf) | (refine XDep.all _ _ _ _ ?_; conv => whnf))
   refine XVal.of_read (XRead.loads tabOk (t := 53) rfl rfl (ad := ad) (k := i * 9) (L := l.flatMap mgC) (m := mgC l[i]) (.fact fun w hw => had ▸ hw) (by simp) (fm_get (cf := mgC) (z := 9) (fun _ => rfl) hlt') rfl ?_)
   conv => whnf
   repeat (first | (refine XSame.of ?_; conv => whnf) | (refine XDep.all _ _ _ _ ?_; conv => whnf))
   intro b7
   conv => whnf
   repeat (first | (refine XSame.of ?_; conv => whnf) | (refine XDep.all _ _ _ _ ?_; conv => whnf))
   refine XCall.val hc (fun w hw => trivial) (fun v D hv => ?_)
   subst hv
   conv => whnf
   repeat (first | (refine XSame.of ?_; conv => whnf) | (refine XDep.all _ _ _ _ ?_; conv => whnf))
   refine XVal.build tabOk (t := 108) rfl rfl rfl [.agg ⟨mgC l[i]⟩] rfl rfl (by simp [Value.cells, mgC]) (by decide) fun b5 => ?_
   conv => whnf
   repeat (first | (refine XSame.of ?_; conv => whnf) | (refine XDep.all _ _ _ _ ?_; conv => whnf))
   refine XVal.ent (F' := ⟨fun w => RowAt w h.a (l.flatMap mgC), [] ++ orow a C ++ [(b5, Row.c (mgC l[i]))]⟩) (Ent.of_le ⟨by simp [Value.cells], fun w hw => hw⟩) ?_
   refine XVal.append1 tabOk rfl rfl rfl rfl rfl rfl (M := mgC l[i]) hO (Sees.row (by simp)) rfl (mgC_one _) (by omega) (by show (i + i / 4 + 600) * 88 ≤ 2 ^ 48; omega) fun a' c' C' hO' => ?_
   conv => whnf
   repeat (first | (refine XSame.of ?_; conv => whnf) | (refine XDep.all _ _ _ _ ?_; conv => whnf))
   refine ⟨(i + 1, a', c', C'), ⟨⟨hlt', ?_⟩, by dsimp only; omega⟩, ?_, ?_, Ent.of_le ⟨by simp, fun w hw => hw⟩⟩
   · dsimp only
     rw [fm_snoc hlt']
     exact hO'
   · conv => whnf
     refine ⟨?_, rfl⟩
     repeat (first | exact FLe.nil | refine FLe.any ?_ | refine FLe.cons ?_ | refine FLe.eq (by rw [wrap_i64 (by omega)]; rfl) ?_)
   · conv => whnf
     exact trivial
 · have hie : i = l.length := by
    simp only [iLt_eq, decide_eq_false_iff_not] at hlt
    omega
   subst hie
   rw [List.take_length] at hO
   conv => whnf
   repeat (first | (refine XSame.of ?_; conv => whnf) | (refine XDep.all _ _ _ _ ?_; conv => whnf))
   exact ⟨⟨fun _ => True, orow a C⟩, Ent.of_le ⟨by simp, fun w hw => trivial⟩, a, cap, C, hO, rfl, rfl⟩

theorem copied_spec (l : List Mg) (hd : ∀ x ∈ l, x.data = default) (h : Hd) (hh : h.Ok l.length) (hl : l.length ≤ 100000) (p : List Pr) (hp : Hd) (hpo : hp.Ok p.length) (hpl : p.length ≤ 100000) :
 PureSpec Tryz.prog 151 [.agg ⟨[h.v l.length, hp.v p.length]⟩] (fun w => RowAt w h.a (l.flatMap mgC) ∧ RowAt w hp.a (p.flatMap prC))
  (fun v F => ∃ a cap C a2 cap2 C2, (Sx.Owg 9 l.length a cap C (l.flatMap mgC) ∧ Sx.Owg 3 p.length a2 cap2 C2 (p.flatMap prC)) ∧ v = .agg ⟨[.slice a l.length cap, .slice a2 p.length cap2]⟩ ∧ F = ⟨fun _ => True, orow a C ++ orow a2 C2⟩) := by
 have h1 := mapped_spec l hd h hh hl
 have h2 := clonePrO hp p.length hpo (p.flatMap prC) (fm_len (cf := prC) (z := 3) (fun _ => rfl) p) (by omega) (fm_one prC_one p)
 refine PureSpec.of_xc tabOk Tryz.func151 rfl (by decide) (n := Tryz.f151.ntmps - 1) rfl rfl fun w0 av => ?_
 conv => whnf
 repeat (first | (refine XSame.of ?_; conv => whnf) | (refine XDep.all _ _ _ _ ?_; conv => whnf))
 intro b1
 conv => whnf
 repeat (first | (refine XSame.of ?_; conv => whnf) | (refine XDep.all _ _ _ _ ?_; conv => whnf))
 intro b2
 refine XStop.draw tabOk mixed rfl rfl ?_
 conv => whnf
 repeat' (first
  | (refine And.intro ?_ ?_ <;> conv => whnf)
  | (refine XHeld.same rfl ?_; conv => whnf)
  | (refine XHeld.row rfl ?_; conv => whnf)
  | (refine XHeld.call rfl ?_; conv => whnf)
  | (refine XHeld.factCall rfl ?_; conv => whnf)
  | (refine XKeep.of ?_; conv => whnf)
  | (refine XSame.of ?_; conv => whnf)
  | (refine XDep.all _ _ _ _ ?_; conv => whnf)
  | (refine XCall.pure h1 (fun w hw => hw.1) (fun v D hv => ?_); obtain ⟨a, cap, C, hO, rfl, rfl⟩ := hv; conv => whnf)
  | (refine XCall.pure h2 (fun w hw => hw.1.2) (fun v D hv => ?_); obtain ⟨a2, cap2, C2, hO2, rfl, rfl⟩ := hv; conv => whnf)
  | (refine XHeld.mk ?_ ?_; (focus (first | exact Ent.refl _ | exact Ent.left _ _ | exact Ent.of_le ⟨List.sublist_append_left _ _, fun w h => h⟩ | exact Ent.of_le ⟨List.Sublist.refl _, fun w h => h.1⟩)); conv => whnf))
 all_goals exact ⟨⟨fun _ => True, orow a C ++ orow a2 C2⟩, Ent.of_le ⟨by simp [Fx.and], fun w hw => trivial⟩, a, cap, C, a2, cap2, C2, ⟨hO, hO2⟩, rfl, rfl⟩

theorem first1_spec (x : Mg) (b : Nat) (d : Int) : PureSpec Tryz.prog 156 [.agg ⟨mgC x⟩, .pointer (some ⟨b, 0, none⟩)] (fun w => RowAt w (some ⟨b, 0, none⟩) [.int .i64 d]) (fun v F => v = .bool (iEq x.dst d)) := by
 refine PureSpec.of_xc tabOk Tryz.func156 rfl (by decide) (n := Tryz.f156.ntmps - 2) rfl rfl fun w0 av => ?_
 conv => whnf
 repeat (first | (refine XSame.of ?_; conv => whnf) | (refine XDep.all _ _ _ _ ?_; conv => whnf))
 intro b3
 conv => whnf
 repeat (first | (refine XSame.of ?_; conv => whnf) | (refine XDep.all _ _ _ _ ?_; conv => whnf))
 refine XVal.of_read (XRead.loadF tabOk rfl rfl (ad := ⟨b, 0, none⟩) (k := 0) (L := [.int .i64 d]) (v := .int .i64 d) (.fact fun w hw => hw) (fun _ => rfl) rfl ?_)
 conv => whnf
 repeat (first | (refine XSame.of ?_; conv => whnf) | (refine XDep.all _ _ _ _ ?_; conv => whnf))
 exact ⟨_, Ent.refl _, rfl⟩

theorem first_spec (l : List Mg) (h : Hd) (hh : h.Ok l.length) (hl : l.length ≤ 140737488355328) (pv : Value) (hpv : oneCell pv = true) (d : Int) :
 PureSpec Tryz.prog 90 [.agg ⟨[h.v l.length, pv]⟩, .int .i64 d] (fun w => RowAt w h.a (l.flatMap mgC)) (fun v F => v = .int .i64 (fint (l.findIdx? fun x => iEq x.dst d))) := by
 have hg := fun (b : Nat) => mgs_idx mgC (fun _ => rfl) 156 (fun w => RowAt w (some ⟨b, 0, none⟩) [.int .i64 d]) (fun x => iEq x.dst d) (.pointer (some ⟨b, 0, none⟩)) l h hh hl (fun e _ => first1_spec e b d)
 generalize fint (l.findIdx? fun x => iEq x.dst d) = z at *
 refine PureSpec.of_xc tabOk Tryz.func90 rfl (by decide) (n := Tryz.f90.ntmps - 2) rfl rfl fun w0 av => ?_
 conv => whnf
 repeat (first | (refine XSame.of ?_; conv => whnf) | (refine XDep.all _ _ _ _ ?_; conv => whnf))
 intro b2
 conv => whnf
 repeat (first | (refine XSame.of ?_; conv => whnf) | (refine XDep.all _ _ _ _ ?_; conv => whnf))
 intro b3
 conv => whnf
 repeat (first | (refine XSame.of ?_; conv => whnf) | (refine XDep.all _ _ _ _ ?_; conv => whnf))
 refine XCall.look (hg b3) ((Loc.row _ _).and (Loc.row _ _)) (fun w hst => ⟨hst.now, Sees.box 1 rfl (by simp) rfl w hst⟩) ?_
 conv => whnf
 repeat (first | (refine XSame.of ?_; conv => whnf) | (refine XDep.all _ _ _ _ ?_; conv => whnf))
 exact ⟨_, Ent.refl _, rfl⟩

end Go.Proofs.YtakammghcodmgaaGreatDoor
namespace Go.Proofs.YtakammghcodmgaaGreatDoor
open Go Go.Sx
set_option maxRecDepth 100000
set_option maxHeartbeats 4000000
set_option linter.unusedVariables false
set_option linter.unusedSimpArgs false

theorem search_spec {α : Type} (cf : α → List Value) (hz : ∀ x, (cf x).length = 3) (f : FuncId) (Pre : World → Prop) (x0 x1 x2 : Value) (c : α → Int) (l : List α) (h : Hd) (hh : h.Ok l.length) (hl : l.length ≤ 1000000)
 (hf : ∀ e ∈ l, PureSpec Tryz.prog f [.agg ⟨cf e⟩, .agg ⟨[x0, x1, x2]⟩] Pre (fun v F => v = .int .i64 (c e))) (k : Nat) (hk : k ≤ l.length) (h1 : ∀ j (hj : j < l.length), j < k → c l[j] < 0) (h2 : ∀ j (hj : j < l.length), k ≤ j → 0 ≤ c l[j]) :
 PureSpec Tryz.prog 209 [h.v l.length, .agg ⟨[x0, x1, x2]⟩, .func (.func f) #[] #[]] (fun w => RowAt w h.a (l.flatMap cf) ∧ Pre w)
  (fun v F => v = .tuple ⟨[.int .i64 (k : Int), .bool (l[k]?.any fun e => iEq (c e) 0)]⟩) := by
 refine PureSpec.of_xc tabOk Tryz.func209 rfl (by decide) (n := Tryz.f209.ntmps - 3) rfl rfl fun w0 av => ?_
 conv => whnf
 repeat (first | (refine XSame.of ?_; conv => whnf) | (refine XDep.all _ _ _ _ ?_; conv => whnf))
 intro b4
 conv => whnf
 repeat (first | (refine XSame.of ?_; conv => whnf) | (refine XDep.all _ _ _ _ ?_; conv => whnf))
 refine XStop.loop tabOk (ι := Nat × Nat) ([9, 10, 11] ++ List.range' 15 17) (fun x => x.1 ≤ k ∧ k ≤ x.2 ∧ x.2 ≤ l.length)
  (fun x => [(9, .v (.int .i64 (x.1 : Int))), (10, .v (.int .i64 (x.2 : Int)))]) (fun _ => [[x0, x1, x2]]) (fun _ => ⟨fun w => RowAt w h.a (l.flatMap cf) ∧ Pre w, []⟩)
  (fun x => x.2 - x.1) (0, l.length) ⟨Nat.zero_le _, hk, Nat.le_refl _⟩ ?_ rfl (Ent.refl _) fun x hx => ?_
 · conv => whnf
   repeat (first | exact FLe.nil | refine FLe.any ?_ | refine FLe.cons ?_)
 obtain ⟨i, j⟩ := x
 obtain ⟨hi, hj, hjl⟩ := hx
 dsimp only at hi hj hjl ⊢
 conv => whnf
 repeat (first | (refine XSame.of ?_; conv => whnf) | (refine XDep.all _ _ _ _ ?_; conv => whnf))
 refine XIf.split (fun hlt => ?_) (fun hlt => ?_)
 · have hlt' : i < j := by
    simp only [iLt_eq, decide_eq_true_eq] at hlt
    omega
   conv => whnf
   repeat (first | (refine XSame.of ?_; conv => whnf) | (refine XDep.all _ _ _ _ ?_; conv => whnf))
   rw [wrap_i64 (by omega)]
   obtain ⟨m, hm⟩ : ∃ m : Nat, m = (i + j) / 2 ^ 1 := ⟨_, rfl⟩
   have hm1 : i ≤ m ∧ m < j := by omega
   have hml : m < l.length := by omega
   rw [show IntKind.u64.wrap ((i : Int) + (j : Int)) = ((i + j : Nat) : Int) from by
    show ((i : Int) + (j : Int)).emod (2 ^ 64) = _
    have : ((i : Int) + (j : Int)) % 18446744073709551616 = ((i + j : Nat) : Int) := by omega
    exact this]
   refine XVal.of_read (XRead.shr (a := i + j) (j := 1) rfl (by decide) ?_)
   rw [← hm]
   conv => whnf
   repeat (first | (refine XSame.of ?_; conv => whnf) | (refine XDep.all _ _ _ _ ?_; conv => whnf))
   rw [wrap_i64 (by omega)]
   refine XStop.draw tabOk mixed rfl rfl ?_
   conv => whnf
   repeat' (first
    | (refine And.intro ?_ ?_ <;> conv => whnf)
    | (refine XHeld.same rfl ?_; conv => whnf)
    | (refine XHeld.row rfl ?_; conv => whnf)
    | (refine XHeld.call rfl ?_; conv => whnf)
    | (refine XHeld.factCall rfl ?_; conv => whnf)
    | (refine XKeep.of ?_; conv => whnf)
    | (refine XSame.of ?_; conv => whnf)
    | (refine XDep.all _ _ _ _ ?_; conv => whnf)
    | (refine XRead.index tabOk (t := 109) rfl rfl rfl (by omega) (by omega) hh.nil fun ad had => ?_; conv => whnf)
    | (refine XRead.loads tabOk (t := 297) rfl rfl (ad := ad) (k := m * 3) (L := l.flatMap cf) (m := cf l[m]) (.fact fun w hw => had ▸ hw.1) (by simp) (fm_get hz hml) (hz _) ?_; conv => whnf)
    | (refine XCall.val (hf _ (List.getElem_mem hml)) (fun w hw => hw.2) (fun v D hv => ?_); subst hv; conv => whnf)
    | (refine XIf.split (fun hc => ?_) (fun hc => ?_) <;> conv => whnf)
    | (refine XHeld.mk ?_ ?_; (focus (first | exact Ent.refl _ | exact Ent.left _ _ | exact Ent.of_le ⟨List.sublist_append_left _ _, fun w h => h⟩ | exact Ent.of_le ⟨List.Sublist.refl _, fun w h => h.1⟩)); conv => whnf))
   · have hkm : m < k := by
      rcases Nat.lt_or_ge m k with h5 | h5
      · exact h5
      · have := h2 m hml h5
        simp [iLt_eq] at hc
        omega
     refine ⟨(m + 1, j), ⟨⟨hkm, hj, hjl⟩, by dsimp only; omega⟩, ?_, ?_, Ent.refl _⟩
     · conv => whnf
       refine ⟨?_, rfl⟩
       repeat (first | exact FLe.nil | refine FLe.any ?_ | refine FLe.cons ?_ | refine FLe.eq (by rw [wrap_i64 (by omega)]; rfl) ?_)
     · conv => whnf
       exact ⟨⟨rfl, rfl⟩, trivial⟩
   · have hkm : k ≤ m := by
      rcases Nat.lt_or_ge m k with h5 | h5
      · have := h1 m hml h5
        simp [iLt_eq] at hc
        omega
      · exact h5
     refine ⟨(i, m), ⟨⟨hi, hkm, by dsimp only; omega⟩, by dsimp only; omega⟩, ?_, ?_, Ent.refl _⟩
     · conv => whnf
       refine ⟨?_, rfl⟩
       repeat (first | exact FLe.nil | refine FLe.any ?_ | refine FLe.cons ?_ | refine FLe.eq (by rw [wrap_i64 (by omega)]; rfl) ?_)
     · conv => whnf
       exact ⟨⟨rfl, rfl⟩, trivial⟩
 · have hie : i = j := by
    simp only [iLt_eq, decide_eq_false_iff_not] at hlt
    omega
   have hik : i = k := by omega
   subst hik
   subst hie
   conv => whnf
   repeat (first | (refine XSame.of ?_; conv => whnf) | (refine XDep.all _ _ _ _ ?_; conv => whnf))
   refine XStop.draw tabOk mixed rfl rfl ?_
   conv => whnf
   rcases Nat.lt_or_ge i l.length with h5 | h5
   · have hg : iLt (i : Int) (l.length : Int) = true := by simp [iLt_eq]; omega
     rw [List.getElem?_eq_getElem h5]
     repeat' (first
      | (refine And.intro ?_ ?_ <;> conv => whnf)
      | (refine XHeld.same rfl ?_; conv => whnf)
      | (refine XHeld.row rfl ?_; conv => whnf)
      | (refine XHeld.call rfl ?_; conv => whnf)
      | (refine XHeld.factCall rfl ?_; conv => whnf)
      | (refine XKeep.of ?_; conv => whnf)
      | (refine XSame.of ?_; conv => whnf)
      | (refine XDep.all _ _ _ _ ?_; conv => whnf)
      | (rw [hg]; conv => whnf)
      | (refine XRead.index tabOk (t := 109) rfl rfl rfl (by omega) (by omega) hh.nil fun ad had => ?_; conv => whnf)
      | (refine XRead.loads tabOk (t := 297) rfl rfl (ad := ad) (k := i * 3) (L := l.flatMap cf) (m := cf l[i]) (.fact fun w hw => had ▸ hw.1) (by simp) (fm_get hz h5) (hz _) ?_; conv => whnf)
      | (refine XCall.val (hf _ (List.getElem_mem h5)) (fun w hw => hw.2) (fun v D hv => ?_); subst hv; conv => whnf)
      | (refine XHeld.mk ?_ ?_; (focus (first | exact Ent.refl _ | exact Ent.left _ _ | exact Ent.of_le ⟨List.sublist_append_left _ _, fun w h => h⟩ | exact Ent.of_le ⟨List.Sublist.refl _, fun w h => h.1⟩)); conv => whnf))
     all_goals exact ⟨_, Ent.refl _, rfl⟩
   · have hg : iLt (i : Int) (l.length : Int) = false := by simp [iLt_eq]; omega
     rw [List.getElem?_eq_none h5]
     repeat' (first
      | (refine And.intro ?_ ?_ <;> conv => whnf)
      | (refine XHeld.same rfl ?_; conv => whnf)
      | (refine XHeld.row rfl ?_; conv => whnf)
      | (refine XHeld.call rfl ?_; conv => whnf)
      | (refine XHeld.factCall rfl ?_; conv => whnf)
      | (refine XKeep.of ?_; conv => whnf)
      | (refine XSame.of ?_; conv => whnf)
      | (refine XDep.all _ _ _ _ ?_; conv => whnf)
      | (rw [hg]; conv => whnf)
      | (refine XHeld.mk ?_ ?_; (focus (first | exact Ent.refl _ | exact Ent.left _ _ | exact Ent.of_le ⟨List.sublist_append_left _ _, fun w h => h⟩ | exact Ent.of_le ⟨List.Sublist.refl _, fun w h => h.1⟩)); conv => whnf))
     all_goals exact ⟨_, Ent.refl _, rfl⟩

theorem find_spec (qv : Value) (hq : oneCell qv = true) (l : List Pr) (h : Hd) (hh : h.Ok l.length) (hl : l.length ≤ 1000000) (s d : Int) (k : Nat) (hk : k ≤ l.length) (h1 : ∀ j (hj : j < l.length), j < k → ordI l[j].src s l[j].dst d < 0) (h2 : ∀ j (hj : j < l.length), k ≤ j → 0 ≤ ordI l[j].src s l[j].dst d) :
 PureSpec Tryz.prog 152 [.agg ⟨[qv, h.v l.length]⟩, .int .i64 s, .int .i64 d] (fun w => RowAt w h.a (l.flatMap prC)) (fun v F => v = .tuple ⟨[.int .i64 (k : Int), .bool (l[k]?.any fun e => iEq (ordI e.src s e.dst d) 0)]⟩) := by
 have h1 := search_spec prC (fun _ => rfl) 204 (fun _ => True) (.int .i64 s) (.int .i64 d) (.int .i64 0) (fun e => ordI e.src s e.dst d) l h hh hl (fun e _ => porOrder_spec e.src e.dst e.seq s d 0) k hk h1 h2
 refine PureSpec.of_xc tabOk Tryz.func152 rfl (by decide) (n := Tryz.f152.ntmps - 3) rfl rfl fun w0 av => ?_
 conv => whnf
 repeat (first | (refine XSame.of ?_; conv => whnf) | (refine XDep.all _ _ _ _ ?_; conv => whnf))
 intro b3
 conv => whnf
 repeat (first | (refine XSame.of ?_; conv => whnf) | (refine XDep.all _ _ _ _ ?_; conv => whnf))
 refine XCall.val h1 (fun w hw => ⟨hw, trivial⟩) (fun v D hv => ?_)
 subst hv
 conv => whnf
 repeat (first | (refine XSame.of ?_; conv => whnf) | (refine XDep.all _ _ _ _ ?_; conv => whnf))
 exact ⟨_, Ent.refl _, rfl⟩

/-- An element is added at the end. -/
theorem insertEnd_spec (n : Nat) (a : Option Addr) (cap : Nat) (C L : List Value) (hO : Sx.Owg 3 n a cap C L) (hn : n ≤ 1000000) (b m : Nat) (hm : m = 1) (M : List Value) (hM : M.length = 3) (hone : ∀ v ∈ M, oneCell v = true) :
 RowsSpec Tryz.prog 153 [.slice a n cap, .int .i64 (n : Int), .slice (some ⟨b, 0, none⟩) m m] (orow a C) (fun w => RowAt w (some ⟨b, 0, none⟩) M)
  (fun v F => ∃ a' cap' C', Sx.Owg 3 (n + 1) a' cap' C' (L ++ M) ∧ v = .slice a' (n + 1) cap' ∧ F = ⟨fun _ => True, orow a' C'⟩) := by
 have hfit := hO.fit
 refine RowsSpec.of_xc tabOk Tryz.func153 rfl (by decide) (n := Tryz.f153.ntmps - 3) rfl rfl orow_CM' fun w0 av => ?_
 conv => whnf
 repeat (first | (refine XSame.of ?_; conv => whnf) | (refine XDep.all _ _ _ _ ?_; conv => whnf))
 refine XVal.of_read (XRead.slice tabOk (t := 109) rfl rfl rfl (lo := some (n : Int)) (hi := none) (mx := none) (k2 := .i64) (k3 := .i64) n n cap rfl rfl rfl (by omega) (by omega) (Nat.le_refl _) (fun h => by cases h) ?_)
 conv => whnf
 repeat (first | (refine XSame.of ?_; conv => whnf) | (refine XDep.all _ _ _ _ ?_; conv => whnf))
 refine XIf.no (by simp [iEq_eq]; omega) ?_
 conv => whnf
 repeat (first | (refine XSame.of ?_; conv => whnf) | (refine XDep.all _ _ _ _ ?_; conv => whnf))
 refine XIf.yes (by simp [iEq_eq]) ?_
 conv => whnf
 repeat (first | (refine XSame.of ?_; conv => whnf) | (refine XDep.all _ _ _ _ ?_; conv => whnf))
 refine XVal.ent (F' := ⟨fun w => RowAt w (some ⟨b, 0, none⟩) M, [] ++ orow a C ++ []⟩) (Ent.of_le ⟨by simp, fun w hw => hw⟩) ?_
 refine XVal.append tabOk rfl rfl rfl rfl rfl rfl (M := M) hO (.fact fun w hw => hw) (by rw [hM, hm]; rfl) hone (by omega) (by show (2 * (n + m) + 1000) * 24 ≤ 2 ^ 48; omega) fun a' c' C' hO' => ?_
 conv => whnf
 repeat (first | (refine XSame.of ?_; conv => whnf) | (refine XDep.all _ _ _ _ ?_; conv => whnf))
 subst hm
 exact ⟨⟨fun _ => True, orow a' C'⟩, Ent.of_le ⟨by simp, fun w hw => trivial⟩, a', c', C', hO', rfl, rfl⟩

end Go.Proofs.YtakammghcodmgaaGreatDoor
namespace Go.Proofs.YtakammghcodmgaaGreatDoor
open Go Go.Sx
set_option maxRecDepth 100000
set_option maxHeartbeats 4000000
set_option linter.unusedVariables false
set_option linter.unusedSimpArgs false

theorem XRead_max {P : Program} {w0 : World} {R : Nat → Nat → Prop} {av : Nat → Prop} {bs : List (Nat × Nat)} {cs : List (List Value)} {F : Fx} {ts : Array TypeId} {ty : TypeId} {k : IntKind} {a b : Int} {K : Value → Prop} (h : K (.int k (if b > a then b else a))) :
 XRead P w0 R av (Builtin.max_ ts ty #[.int k a, .int k b]) bs cs F K := (XRead_iff _ _ _ _).2 ⟨_, fun w _ => rfl, h⟩

/-- The first of some truth values that is true. -/
theorem boolIdx_spec (l : List Bool) (a : Option Addr) (c : Nat) (ha : a = none → l.length = 0) (hl : l.length ≤ 140737488355328) : PureSpec Tryz.prog 55 [.slice a l.length c, .bool true] (fun w => RowAt w a (l.map Value.bool)) (fun v F => v = .int .i64 (fint (l.findIdx? id))) := by
 refine PureSpec.of_xc tabOk Tryz.func55 rfl (by decide) (n := Tryz.f55.ntmps - 2) rfl rfl fun w0 av => ?_
 conv => whnf
 refine XStop.loop tabOk (ι := Nat) ([5] ++ List.range' 8 11) (fun x => x ≤ l.length ∧ ∀ j (hj : j < l.length), j < x → l[j] = false)
  (fun x => [(8, .v (.int .i64 (x : Int)))]) (fun _ => []) (fun _ => ⟨fun w => RowAt w a (l.map Value.bool), []⟩)
  (fun x => l.length - x) 0 ⟨Nat.zero_le _, fun j hj h => by omega⟩ ?_ rfl (Ent.refl _) fun i hi => ?_
 · conv => whnf
   repeat (first | exact FLe.nil | refine FLe.any ?_ | refine FLe.cons ?_)
 obtain ⟨hi, hall⟩ := hi
 conv => whnf
 refine XIf.split (fun hlt => ?_) (fun hlt => ?_)
 · have hlt' : i < l.length := by
    simp only [iLt_eq, decide_eq_true_eq] at hlt
    omega
   conv => whnf
   repeat (first | (refine XSame.of ?_; conv => whnf) | (refine XDep.all _ _ _ _ ?_; conv => whnf))
   refine XVal.of_read (XRead.index tabOk (t := 184) rfl rfl rfl (by omega) (by omega) ha fun ad had => ?_)
   conv => whnf
   repeat (first | (refine XSame.of ?_; conv => whnf) | (refine XDep.all _ _ _ _ ?_; conv => whnf))
   refine XVal.of_read (XRead.loadF tabOk (t := 4) rfl rfl (ad := ad) (k := i) (L := l.map Value.bool) (v := .bool l[i]) (.fact fun w hw => had ▸ hw) (fun hs => by rw [Nat.mul_one]; rfl) (by rw [List.getElem?_map, List.getElem?_eq_getElem hlt']; rfl) ?_)
   generalize hq : l[i] = q
   cases q
   · conv => whnf
     repeat (first | (refine XSame.of ?_; conv => whnf) | (refine XDep.all _ _ _ _ ?_; conv => whnf))
     refine ⟨i + 1, ⟨⟨hlt', fun j hj h => ?_⟩, by dsimp only; omega⟩, ?_, ?_, Ent.refl _⟩
     · rcases Nat.lt_or_eq_of_le (Nat.lt_succ_iff.1 h) with h5 | h5
       · exact hall j hj h5
       · subst h5
         exact hq
     · conv => whnf
       refine ⟨?_, rfl⟩
       repeat (first | exact FLe.nil | refine FLe.any ?_ | refine FLe.cons ?_ | refine FLe.eq (by rw [wrap_i64 (by omega)]; rfl) ?_)
     · conv => whnf
       exact trivial
   · conv => whnf
     repeat (first | (refine XSame.of ?_; conv => whnf) | (refine XDep.all _ _ _ _ ?_; conv => whnf))
     refine ⟨_, Ent.refl _, ?_⟩
     have : l.findIdx? id = some i := by
      rw [List.findIdx?_eq_some_iff_getElem]
      exact ⟨hlt', hq, fun j hj => by simpa using hall j (by omega) hj⟩
     rw [this]
     rfl
 · have hie : i = l.length := by
    simp only [iLt_eq, decide_eq_false_iff_not] at hlt
    omega
   subst hie
   conv => whnf
   repeat (first | (refine XSame.of ?_; conv => whnf) | (refine XDep.all _ _ _ _ ?_; conv => whnf))
   refine ⟨_, Ent.refl _, ?_⟩
   have : l.findIdx? id = none := by
    rw [List.findIdx?_eq_none_iff]
    intro x hx
    obtain ⟨j, hj, rfl⟩ := List.getElem_of_mem hx
    simpa using hall j hj hj
   rw [this]
   rfl

def downL (s : Sta) : List Bool := (List.range 11).map s.D
def downI (s : Sta) : Int := let z := fint ((downL s).findIdx? id); if z > 0 then z else 0
theorem downL_len (s : Sta) : (downL s).length = 11 := rfl
theorem staC_down (s : Sta) : ((staC s).drop 256).take 11 = (downL s).map Value.bool := by kernel_rfl

theorem down_spec (s : Sta) (bs : Nat) : PureSpec Tryz.prog 25 [.pointer (some ⟨bs, 0, none⟩)] (fun w => RowAt w (some ⟨bs, 0, none⟩) (staC s)) (fun v F => v = .int .i64 (downI s)) := by
 have h1 := boolIdx_spec (downL s) (some ⟨bs, 256, none⟩) 11 (fun h => by cases h) (by rw [downL_len]; decide)
 rw [downL_len] at h1
 have hd : downI s = if fint ((downL s).findIdx? id) > 0 then fint ((downL s).findIdx? id) else 0 := rfl
 generalize fint ((downL s).findIdx? id) = z at *
 rw [hd]
 refine PureSpec.of_xc tabOk Tryz.func25 rfl (by decide) (n := Tryz.f25.ntmps - 1) rfl rfl fun w0 av => ?_
 conv => whnf
 repeat (first | (refine XSame.of ?_; conv => whnf) | (refine XDep.all _ _ _ _ ?_; conv => whnf))
 refine XVal.of_read (XRead.sliceArr tabOk rfl rfl rfl rfl ?_)
 conv => whnf
 repeat (first | (refine XSame.of ?_; conv => whnf) | (refine XDep.all _ _ _ _ ?_; conv => whnf))
 refine XCall.val h1 (fun w hw => ?_) (fun v D hv => ?_)
 · have := (hw.drop 256).take 11
   rw [staC_down] at this
   exact this
 subst hv
 conv => whnf
 repeat (first | (refine XSame.of ?_; conv => whnf) | (refine XDep.all _ _ _ _ ?_; conv => whnf))
 refine XVal.of_read (XRead_max ?_)
 conv => whnf
 repeat (first | (refine XSame.of ?_; conv => whnf) | (refine XDep.all _ _ _ _ ?_; conv => whnf))
 exact ⟨_, Ent.refl _, rfl⟩

/-- The number of queued messages to a task. -/
def cnt (l : List Mg) (d : Int) : Nat := (l.filter fun x => iEq x.dst d).length
theorem cnt_next {l : List Mg} {d : Int} {i : Nat} (h : i < l.length) : cnt (l.take (i + 1)) d = cnt (l.take i) d + (if iEq l[i].dst d then 1 else 0) := by
 unfold cnt
 rw [List.take_succ_eq_append_getElem h, List.filter_append, List.length_append]
 cases hq : iEq l[i].dst d <;> simp [hq]
theorem cnt_le (l : List Mg) (d : Int) : cnt l d ≤ l.length := List.length_filter_le _ _

theorem count_spec (l : List Mg) (h : Hd) (hh : h.Ok l.length) (hl : l.length ≤ 140737488355328) (pv : Value) (hpv : oneCell pv = true) (d : Int) :
 PureSpec Tryz.prog 96 [.agg ⟨[h.v l.length, pv]⟩, .int .i64 d] (fun w => RowAt w h.a (l.flatMap mgC)) (fun v F => v = .int .i64 (cnt l d : Int)) := by
 refine PureSpec.of_xc tabOk Tryz.func96 rfl (by decide) (n := Tryz.f96.ntmps - 2) rfl rfl fun w0 av => ?_
 conv => whnf
 repeat (first | (refine XSame.of ?_; conv => whnf) | (refine XDep.all _ _ _ _ ?_; conv => whnf))
 intro b2
 conv => whnf
 repeat (first | (refine XSame.of ?_; conv => whnf) | (refine XDep.all _ _ _ _ ?_; conv => whnf))
 refine XStop.loop tabOk (ι := Nat) ([5, 7] ++ List.range' 11 12) (fun x => x ≤ l.length)
  (fun x => [(11, .v (.int .i64 (x : Int))), (5, .v (.int .i64 (cnt (l.take x) d : Int)))]) (fun _ => [[h.v l.length, pv]]) (fun _ => ⟨fun w => RowAt w h.a (l.flatMap mgC), []⟩)
  (fun x => l.length - x) 0 (Nat.zero_le _) ?_ rfl (Ent.refl _) fun i hi => ?_
 · conv => whnf
   repeat (first | exact FLe.nil | refine FLe.any ?_ | refine FLe.cons ?_)
 conv => whnf
 repeat (first | (refine XSame.of ?_; conv => whnf) | (refine XDep.all _ _ _ _ ?_; conv => whnf))
 refine XIf.split (fun hlt => ?_) (fun hlt => ?_)
 · have hlt' : i < l.length := by
    simp only [iLt_eq, decide_eq_true_eq] at hlt
    omega
   have hcn := cnt_next (d := d) hlt'
   have hcl := cnt_le (l.take i) d
   rw [List.length_take] at hcl
   conv => whnf
   repeat (first | (refine XSame.of ?_; conv => whnf) | (refine XDep.all _ _ _ _ ?_; conv => whnf))
   refine XVal.of_read (XRead.index tabOk (t := 108) rfl rfl rfl (by omega) (by omega) hh.nil fun ad had => ?_)
   conv => whnf
   repeat (first | (refine XSame.of ?_; conv => whnf) | (refine XDep.all _ _ _ _ ?_; conv => whnf))
   refine XVal.of_read (XRead.loads tabOk (t := 53) rfl rfl (ad := ad) (k := i * 9) (L := l.flatMap mgC) (m := mgC l[i]) (.fact fun w hw => had ▸ hw) (by simp) (fm_get (cf := mgC) (z := 9) (fun _ => rfl) hlt') rfl ?_)
   conv => whnf
   repeat (first | (refine XSame.of ?_; conv => whnf) | (refine XDep.all _ _ _ _ ?_; conv => whnf))
   intro b7
   conv => whnf
   repeat (first | (refine XSame.of ?_; conv => whnf) | (refine XDep.all _ _ _ _ ?_; conv => whnf))
   generalize iEq l[i].dst d = q at *
   generalize cnt (l.take i) d = n at *
   cases q
   · conv => whnf
     repeat (first | (refine XSame.of ?_; conv => whnf) | (refine XDep.all _ _ _ _ ?_; conv => whnf))
     refine ⟨i + 1, ⟨hlt', by dsimp only; omega⟩, ?_, ?_, Ent.refl _⟩
     · dsimp only
       rw [hcn]
       conv => whnf
       refine ⟨?_, rfl⟩
       repeat (first | exact FLe.nil | refine FLe.any ?_ | refine FLe.cons ?_ | refine FLe.eq (by rw [wrap_i64 (by omega)]; rfl) ?_)
     · conv => whnf
       exact ⟨⟨rfl, rfl⟩, trivial⟩
   · conv => whnf
     repeat (first | (refine XSame.of ?_; conv => whnf) | (refine XDep.all _ _ _ _ ?_; conv => whnf))
     refine ⟨i + 1, ⟨hlt', by dsimp only; omega⟩, ?_, ?_, Ent.refl _⟩
     · dsimp only
       rw [hcn]
       conv => whnf
       refine ⟨?_, rfl⟩
       repeat (first | exact FLe.nil | refine FLe.any ?_ | refine FLe.cons ?_ | refine FLe.eq (by rw [wrap_i64 (by omega)]; rfl) ?_)
     · conv => whnf
       exact ⟨⟨rfl, rfl⟩, trivial⟩
 · have hie : i = l.length := by
    simp only [iLt_eq, decide_eq_false_iff_not] at hlt
    omega
   subst hie
   rw [List.take_length]
   conv => whnf
   repeat (first | (refine XSame.of ?_; conv => whnf) | (refine XDep.all _ _ _ _ ?_; conv => whnf))
   exact ⟨_, Ent.refl _, rfl⟩

end Go.Proofs.YtakammghcodmgaaGreatDoor
namespace Go.Proofs.YtakammghcodmgaaGreatDoor
open Go Go.Sx
set_option maxRecDepth 100000
set_option maxHeartbeats 4000000
set_option linter.unusedVariables false
set_option linter.unusedSimpArgs false

/-- A queue goes on: the first task that is ready, at the end. -/
def nextQ (l : List Int) (i : Nat) : List Int := l.take i ++ l.drop (i + 1) ++ [l[i]!]

theorem next_spec (l : List Int) (h : Hd) (hh : h.Ok l.length) (hl : l.length ≤ 100000) (hv : allI l.length (quOk l) = true) (f : FuncId) (Pre : World → Prop) (p : Int → Bool) (u0 : Value)
 (hf : ∀ e ∈ l, PureSpec Tryz.prog f [u0, intV e] Pre (fun v F => v = .bool (p e))) (i : Nat) (hi : l.findIdx? p = some i) :
 PureSpec Tryz.prog 48 [h.v l.length, .func (.func f) #[u0] #[]] (fun w => RowAt w h.a (l.map intV) ∧ Pre w)
  (fun v F => ∃ a cap C, Sx.Owg 1 l.length a cap C ((nextQ l i).map intV) ∧ v = .tuple ⟨[.slice a l.length cap, .int .i64 l[i]!, .bool true]⟩ ∧ F = ⟨fun _ => True, orow a C⟩) := by
 have h1 := schedValid_spec l h hh (by omega)
 rw [hv] at h1
 have h2 := que_idx intV (fun _ => rfl) f Pre p u0 l h hh (by omega) hf
 have hil : i < l.length := (List.findIdx?_eq_some_iff_getElem.1 hi).1
 rw [hi] at h2
 obtain ⟨z, hz⟩ : ∃ z : Int, z = (i : Int) := ⟨_, rfl⟩
 rw [show fint (some i) = z from hz.symm] at h2
 have hgi : l[i]! = l[i] := by simp [hil]
 have hcap := hh.cap
 have h3 := cloneQuO h i (hh.less (by omega)) ((l.take i).map intV) (by simp; omega) (by omega) (by intro v hv; obtain ⟨x, _, rfl⟩ := List.mem_map.1 hv; rfl)
 refine PureSpec.of_xc tabOk Tryz.func48 rfl (by decide) (n := Tryz.f48.ntmps - 2) rfl rfl fun w0 av => ?_
 conv => whnf
 repeat (first | (refine XSame.of ?_; conv => whnf) | (refine XDep.all _ _ _ _ ?_; conv => whnf))
 refine XCall.val h1 (fun w hw => hw.1) (fun v D hv => ?_)
 subst hv
 conv => whnf
 repeat (first | (refine XSame.of ?_; conv => whnf) | (refine XDep.all _ _ _ _ ?_; conv => whnf))
 refine XCall.val h2 (fun w hw => hw) (fun v D hv => ?_)
 subst hv
 conv => whnf
 repeat (first | (refine XSame.of ?_; conv => whnf) | (refine XDep.all _ _ _ _ ?_; conv => whnf))
 refine XIf.no (by simp [iLt_eq]; omega) ?_
 conv => whnf
 repeat (first | (refine XSame.of ?_; conv => whnf) | (refine XDep.all _ _ _ _ ?_; conv => whnf))
 rw [hz]
 refine XStop.draw tabOk mixed rfl rfl ?_
 conv => whnf
 refine XRead.slice tabOk (t := 115) rfl rfl rfl (lo := none) (hi := some (i : Int)) (mx := none) (k1 := .i64) (k3 := .i64) 0 i h.c rfl rfl rfl (by omega) (by omega) (Nat.le_refl _) (fun h => by cases h) ?_
 rw [cutA_zero]
 conv => whnf
 rw [wrap_i64 (by omega)]
 refine XRead.slice tabOk (t := 115) rfl rfl rfl (lo := some ((i : Int) + 1)) (hi := none) (mx := none) (k2 := .i64) (k3 := .i64) (i + 1) l.length h.c rfl rfl rfl (by omega) (by omega) (Nat.le_refl _) (fun h => by cases h) ?_
 conv => whnf
 refine XCall.pure h3 (fun w hw => ?_) (fun v D hv => ?_)
 · have := hw.1.take i
   rw [← List.map_take] at this
   exact this
 obtain ⟨a, cap, C, hO, rfl, rfl⟩ := hv
 conv => whnf
 obtain ⟨mm, hmm⟩ : ∃ mm, mm = l.length - (i + 1) := ⟨_, rfl⟩
 obtain ⟨E, hE⟩ : ∃ E : World → Prop, E = fun w => RowAt w h.a (l.map intV) ∧ Pre w := ⟨_, rfl⟩
 refine XVal.ent (F' := ⟨E, [] ++ orow a C ++ []⟩) (Ent.of_le ⟨by simp [Fx.and], fun w hw => by rw [hE]; exact hw.1⟩) ?_
 rw [← hmm]
 refine XVal.append tabOk rfl rfl rfl rfl rfl rfl (M := (l.drop (i + 1)).map intV) hO (.fact fun w hw => ?_) (by simp; omega) (by intro v hv; obtain ⟨x, _, rfl⟩ := List.mem_map.1 hv; rfl) (by omega) (by show (2 * (i + mm) + 1000) * 8 ≤ 2 ^ 48; omega) fun a1 c1 C1 hO1 => ?_
 · rw [hE] at hw
   have := hw.1.cut (l := i + 1) (hi := l.length) (m := h.c) (size := 1) (by omega)
   simp only [Nat.mul_one] at this
   rw [List.take_of_length_le (by simp), ← List.map_drop] at this
   exact this
 conv => whnf
 repeat (first | (refine XSame.of ?_; conv => whnf) | (refine XDep.all _ _ _ _ ?_; conv => whnf))
 have hld : ∀ (ad : Addr), h.a = some ad → ∀ w0 av, XRead Tryz.prog w0 (fun _ _ => False) av (Instr.loadAt 3 (.pointer (some (ad.add ((i : Int).toNat * 1))))) [] [] ⟨E, []⟩ fun u => u = intV l[i] := fun ad had w0 av =>
  XRead.loadF tabOk (t := 3) rfl rfl (ad := ad) (k := i) (L := l.map intV) (v := intV l[i]) (.fact fun w hw => by rw [hE] at hw; exact had ▸ hw.1) (fun hs => by rw [Nat.mul_one]; rfl) (by rw [List.getElem?_map, List.getElem?_eq_getElem hil]; rfl) rfl
 refine XStop.drawF tabOk mixed rfl rfl ?_
 conv => whnf
 refine XRead.index tabOk (t := 115) rfl rfl rfl (by omega) (by omega) hh.nil fun ad had => ?_
 conv => whnf
 repeat (first | (refine XSame.of ?_; conv => whnf) | (refine XDep.all _ _ _ _ ?_; conv => whnf))
 refine XRead.loadF tabOk (t := 3) rfl rfl (ad := ad) (k := i) (L := l.map intV) (v := intV l[i]) (.fact fun w hw => by rw [hE] at hw; exact had ▸ hw.1) (fun hs => by rw [Nat.mul_one]; rfl) (by rw [List.getElem?_map, List.getElem?_eq_getElem hil]; rfl) ?_
 conv => whnf
 refine XDep.fact _ _ _ _ (hld ad had w0 av) ?_
 conv => whnf
 repeat (first | (refine XSame.of ?_; conv => whnf) | (refine XDep.all _ _ _ _ ?_; conv => whnf))
 refine XRead.index tabOk (t := 115) rfl rfl rfl (by omega) (by omega) hh.nil fun ad2 had2 => ?_
 conv => whnf
 repeat (first | (refine XSame.of ?_; conv => whnf) | (refine XDep.all _ _ _ _ ?_; conv => whnf))
 refine XRead.loadF tabOk (t := 3) rfl rfl (ad := ad2) (k := i) (L := l.map intV) (v := intV l[i]) (.fact fun w hw => by rw [hE] at hw; exact had2 ▸ hw.1) (fun hs => by rw [Nat.mul_one]; rfl) (by rw [List.getElem?_map, List.getElem?_eq_getElem hil]; rfl) ?_
 conv => whnf
 refine XDep.fact _ _ _ _ (hld ad2 had2 w0 av) ?_
 conv => whnf
 repeat (first | (refine XSame.of ?_; conv => whnf) | (refine XDep.all _ _ _ _ ?_; conv => whnf))
 refine XVal.build tabOk rfl rfl rfl [intV l[i]] rfl rfl (by simp [Value.cells, intV]) (by simp) fun b5 => ?_
 conv => whnf
 refine XHeld.same rfl ?_
 conv => whnf
 refine XVal.ent (F' := ⟨E, [] ++ orow a1 C1 ++ [(b5, Row.c [intV l[i]])]⟩) (Ent.of_le ⟨by simp [Value.cells, intV], fun w hw => hw⟩) ?_
 refine XVal.append1 tabOk rfl rfl rfl rfl rfl rfl (M := [intV l[i]]) hO1 (Sees.row (by simp)) rfl (by intro v hv; simp at hv; subst hv; rfl) (by omega) (by show (i + mm + (i + mm) / 4 + 600) * 8 ≤ 2 ^ 48; omega) fun a2 c2 C2 hO2 => ?_
 conv => whnf
 refine XHeld.same rfl ?_
 conv => whnf
 repeat (first | (refine XSame.of ?_; conv => whnf) | (refine XDep.all _ _ _ _ ?_; conv => whnf))
 have hn : i + mm + 1 = l.length := by omega
 refine ⟨⟨fun _ => True, orow a2 C2⟩, Ent.of_le ⟨by simp, fun w hw => trivial⟩, a2, c2, C2, ?_, ?_, rfl⟩
 · rw [hn] at hO2
   unfold nextQ
   rw [List.map_append, List.map_append, hgi]
   exact hO2
 · rw [hn, hgi]
   rfl

end Go.Proofs.YtakammghcodmgaaGreatDoor
