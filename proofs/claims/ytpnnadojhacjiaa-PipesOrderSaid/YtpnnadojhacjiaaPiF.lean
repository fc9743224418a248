/- Pipes, part F: write, settle. -/
import Derived.Test.YtpnnadojhacjiaaPiE
namespace Go.Proofs.Ytpnnadojhacjiaa
open Go Go.Sx
set_option maxRecDepth 100000
set_option maxHeartbeats 4000000
set_option linter.unusedVariables false
set_option linter.unusedSimpArgs false

theorem write_call {w0 : World} {R : Nat → Nat → Prop} {av : Nat → Prop} {x1 x2 : Nat × Nat} {c1 c2 : List Value} {b3 : Nat} {D : World → Prop} {p : Pipe} {o : OP} {la : List (An × Hd)} {aa : Option Addr} {ac : Nat} {aC : List Value} {K : KV}
    (ho : o.Ok p) (hf : p.Few) (hp : ∀ r ∈ p.wait, r.proper = true) (hr : p.writes = true) (hOa : Own 3 la.length aa ac aC (anCells la)) (hla : la.length ≤ 100000) (hD : ∀ w, D w → o.D w)
    (h : ∀ (o' : OP) (kh : Hd) aa' ac' aC', o'.Ok p.write.1 → (∀ q ∈ o'.l, q ∈ o.l) → Own 3 (la.length + 1) aa' ac' aC' (anCells (la ++ [(p.write.2, kh)])) → kh.Ok p.write.2.data.length →
      K (.tuple #[]) [x1, x2, (b3, 0)] [c1, c2, o'.cells p.write.1 ++ [.slice aa' (la.length + 1) ac']] ⟨fun w => D w ∧ By w kh p.write.2.data, o'.rs ++ orow aa' aC'⟩) :
    XCall Try.prog w0 R av 46 [.pointer (some ⟨b3, 0 + 0, none⟩)] [x1, x2, (b3, 0)] [c1, c2, o.cells p ++ [.slice aa la.length ac]] ⟨D, o.rs ++ orow aa aC⟩ K := by
  have hfr : iGe (first p true) 0 = true := by
    unfold Pipe.writes at hr
    simp only [Bool.and_eq_true] at hr
    exact hr.1
  obtain ⟨k, ek, hk⟩ := first_at p true hfr
  have hlen : o.l.length = p.wait.length := by rw [← ho.l]; simp
  have hk' : k < o.l.length := by omega
  have hw := hf.w
  obtain ⟨wb, ewa⟩ := own_some ho.w (by omega)
  have hOw := ho.w
  rw [ewa] at hOw
  refine XCall.inlineD tabOk Try.func46 rfl (by decide) (n := Try.f46.ntmps - 1) [.p 2 0] rfl (by exact ⟨⟨rfl, by simp⟩, trivial⟩) ?_
  conv => whnf
  refine XCall.look (first' p o.ph (OP.phOk ho) hf true) (PH.loc _ _) (fun w hst => OP.sees ho hD hst) ?_
  rw [ek]
  conv => whnf
  refine XCall.ent (F' := ⟨D, orow o.ba o.bC ++ [(wb, Row.c o.wC)] ++ orow aa aC⟩) (Ent.of_le ⟨by simp [OP.rs, ewa, orow], fun _ h => h⟩) ?_
  unfold OP.cells
  rw [ewa]
  refine take_call (va := .slice aa la.length ac) hOw hk' (by omega) fun C' hO' => ?_
  conv => whnf
  intro b4
  conv => whnf
  have hpw : p.wait[k] = o.l[k].1 := by
    have : p.wait[k]? = (o.l.map (·.1))[k]? := by rw [ho.l]
    simpa [hk, hk'] using this
  have hat : p.at (first p true).toNat = o.l[k].1 := by
    rw [ek]
    simp [Pipe.at, hk, hpw]
  have hmap : (o.l.eraseIdx k).map (·.1) = p.wait.eraseIdx k := by rw [List.eraseIdx_eq_take_drop_succ, List.map_append, List.map_take, List.map_drop, ho.l, ← List.eraseIdx_eq_take_drop_succ]
  have hbl := hf.b
  have hdl := hf.d o.l[k].1 (by rw [← hpw]; exact List.getElem_mem hk)
  refine XIf.split (fun hz => ?_) (fun hz => ?_)
  · conv => whnf
    refine XStop.draw tabOk mixed rfl rfl ?_
    conv => whnf
    refine XVal.build tabOk (t := 32) rfl rfl rfl [.agg ⟨[.int .i64 o.l[k].1.task, .int .i64 (-17), .slice none 0 0]⟩] rfl rfl (by simp [Value.cells]) (by decide) fun b5 => ?_
    conv => whnf
    repeat (first
      | (refine XHeld.same rfl ?_; conv => whnf)
      | (refine XHeld.row rfl ?_; conv => whnf)
      | (refine XKeep.of ?_; conv => whnf))
    refine XVal.ent (F' := ⟨D, (orow o.ba o.bC ++ [(wb, Row.c C')]) ++ orow aa aC ++ [(b5, Row.c [.int .i64 o.l[k].1.task, .int .i64 (-17), .slice none 0 0])]⟩) (Ent.of_le ⟨by simp [Value.cells], fun w h => h⟩) ?_
    refine XVal.append tabOk (t := 32) (xt := 32) rfl rfl rfl rfl rfl rfl (r1 := orow o.ba o.bC ++ [(wb, Row.c C')]) (r2 := [(b5, Row.c [.int .i64 o.l[k].1.task, .int .i64 (-17), .slice none 0 0])]) (M := [.int .i64 o.l[k].1.task, .int .i64 (-17), .slice none 0 0]) hOa (Sees.row (by simp)) rfl (by simp [oneCell]) (by omega) (by simp; omega) fun aa' ac' aC' hOa' => ?_
    conv => whnf
    repeat (first
      | (refine XHeld.same rfl ?_; conv => whnf)
      | (refine XKeep.of ?_; conv => whnf))
    have er : p.write = ({ p with wait := p.wait.eraseIdx k }, ⟨o.l[k].1.task, -17, []⟩) := by
      unfold Pipe.write
      dsimp only
      rw [hat, ek, if_pos hz]
      rfl
    rw [er] at h
    have hh := h ⟨o.ba, o.bc, o.bC, some ⟨wb, 0, none⟩, o.wc, C', o.l.eraseIdx k⟩ Hd.nil aa' ac' aC' ⟨ho.b, hO', hmap, fun q hq => ho.d q (List.mem_of_mem_eraseIdx hq)⟩ (fun q hq => List.mem_of_mem_eraseIdx hq)
      (by rw [anCells_snoc]; exact hOa') Hd.nil_ok
    simp only [OP.cells, List.cons_append, List.nil_append] at hh
    refine ⟨⟨[(b4, 0)], [c1, c2, _], [_], _, rfl, rfl, rfl, ?_, hh⟩⟩
    exact Ent.of_le ⟨by simp [OP.rs, orow], fun w h => ⟨h, By.nil w⟩⟩
  · conv => whnf
    refine XStop.draw tabOk mixed rfl rfl ?_
    conv => whnf
    refine XVal.build tabOk (t := 32) rfl rfl rfl [.agg ⟨[.int .i64 o.l[k].1.task, .int .i64 (o.l[k].1.data.length : Int), .slice none 0 0]⟩] rfl rfl (by simp [Value.cells]) (by decide) fun b5 => ?_
    conv => whnf
    repeat (first
      | (refine XHeld.same rfl ?_; conv => whnf)
      | (refine XHeld.row rfl ?_; conv => whnf)
      | (refine XKeep.of ?_; conv => whnf))
    refine XVal.ent (F' := ⟨D, (orow o.ba o.bC ++ [(wb, Row.c C')]) ++ orow aa aC ++ [(b5, Row.c [.int .i64 o.l[k].1.task, .int .i64 (o.l[k].1.data.length : Int), .slice none 0 0])]⟩) (Ent.of_le ⟨by simp [Value.cells], fun w h => h⟩) ?_
    refine XVal.append tabOk (t := 32) (xt := 32) rfl rfl rfl rfl rfl rfl (r1 := orow o.ba o.bC ++ [(wb, Row.c C')]) (r2 := [(b5, Row.c [.int .i64 o.l[k].1.task, .int .i64 (o.l[k].1.data.length : Int), .slice none 0 0])]) (M := [.int .i64 o.l[k].1.task, .int .i64 (o.l[k].1.data.length : Int), .slice none 0 0]) hOa (Sees.row (by simp)) rfl (by simp [oneCell]) (by omega) (by simp; omega) fun aa' ac' aC' hOa' => ?_
    conv => whnf
    repeat (first
      | (refine XHeld.same rfl ?_; conv => whnf)
      | (refine XKeep.of ?_; conv => whnf))
    refine XStop.draw tabOk mixed rfl rfl ?_
    conv => whnf
    repeat (first
      | (refine XHeld.same rfl ?_; conv => whnf)
      | (refine XKeep.of ?_; conv => whnf))
    refine XVal.ent (F' := ⟨D, [] ++ orow o.ba o.bC ++ ([(wb, Row.c C')] ++ orow aa' aC' ++ [(b5, Row.c [.int .i64 o.l[k].1.task, .int .i64 (o.l[k].1.data.length : Int), .slice none 0 0])])⟩) (Ent.of_le ⟨by simp, fun w h => h⟩) ?_
    refine XVal.append tabOk (t := 25) (xt := 25) rfl rfl rfl rfl rfl rfl (r1 := []) (r2 := [(wb, Row.c C')] ++ orow aa' aC' ++ [(b5, Row.c [.int .i64 o.l[k].1.task, .int .i64 (o.l[k].1.data.length : Int), .slice none 0 0])]) (M := o.l[k].1.data.map byteV) ho.b (Sees.fact fun w h => hD w h _ (List.getElem_mem hk')) (by simp) byte_one (by omega) (by simp; omega) fun a3 cp3 C3 hO3 => ?_
    conv => whnf
    repeat (first
      | (refine XHeld.same rfl ?_; conv => whnf)
      | (refine XKeep.of ?_; conv => whnf))
    have er : p.write = ({ p with wait := p.wait.eraseIdx k, buf := p.buf ++ o.l[k].1.data }, ⟨o.l[k].1.task, o.l[k].1.data.length, []⟩) := by
      unfold Pipe.write
      dsimp only
      rw [hat, ek, if_neg (by simp [hz])]
      rfl
    rw [er] at h
    have ht1 : (p.buf ++ o.l[k].1.data).length = p.buf.length + o.l[k].1.data.length := by simp
    have hh := h ⟨a3, cp3, C3, some ⟨wb, 0, none⟩, o.wc, C', o.l.eraseIdx k⟩ Hd.nil aa' ac' aC' ⟨by dsimp only; rw [ht1, List.map_append]; exact hO3, hO', hmap, fun q hq => ho.d q (List.mem_of_mem_eraseIdx hq)⟩ (fun q hq => List.mem_of_mem_eraseIdx hq)
      (by rw [anCells_snoc]; exact hOa') Hd.nil_ok
    simp only [OP.cells, List.cons_append, List.nil_append, ht1] at hh
    refine ⟨⟨[(b4, 0)], [c1, c2, _], [_], _, rfl, rfl, rfl, ?_, hh⟩⟩
    exact Ent.of_le ⟨by simp [OP.rs, orow], fun w h => ⟨h, By.nil w⟩⟩

end Go.Proofs.Ytpnnadojhacjiaa
