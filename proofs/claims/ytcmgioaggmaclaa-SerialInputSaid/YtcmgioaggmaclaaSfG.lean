/- Serial, part AG: reads that follow one another, plainly. -/
import Derived.Test.YtcmgioaggmaclaaSfD
import Derived.Test.YtcmgioaggmaclaaSerY
namespace Go.Proofs.Ytcmgioaggmaclaa
open Go Go.Sx
set_option maxRecDepth 100000
set_option maxHeartbeats 2000000
set_option linter.unusedVariables false
set_option linter.unusedSimpArgs false

/-- The state, what was read and the next tag, between two ticks. -/
structure Rin (l : List UInt8) (s : S) (g : List UInt8) (tag : Int) (j : Nat) : Prop where
  valid : s.valid = true
  input : s.input = l
  got : s.got = sBytes (l.take s.pos.toNat)
  oshut : s.o.isOpen = false
  few : s.Few
  glen : g.length ≤ s.got.length
  pre : g = s.got.take g.length
  tagp : proper tag 1 = true
  taglt : s.i.last.tag < tag
  tagle : tag ≤ 1 + 2 * (j : Int)
  cmd : s.i.isOpen = true → s.i.cmd = ⟨tag, 1, (g.length : Int), []⟩

theorem proper_next {t : Int} (h : proper t 1 = true) : proper (t + 2) 1 = true := by
  simp only [proper, iEq_eq, iGe_eq] at *
  simp at *
  have e : (t + 2).tmod 2 = t.tmod 2 := by
    rw [Int.tmod_eq_emod_of_nonneg (by omega), Int.tmod_eq_emod_of_nonneg (by omega)]
    omega
  rw [e]
  omega

theorem arrive_got' {s : S} (hv : s.Va) (hg : s.got = sBytes (s.input.take s.pos.toNat)) :
    s.arrive.1.got = s.got ++ s.arrive.2 ∧ s.arrive.1.input = s.input ∧ s.arrive.1.got = sBytes (s.input.take s.arrive.1.pos.toNat) := by
  have h2 := hv.le
  have h4 := hv.pos
  unfold S.arrive
  split
  · exact ⟨by simp, rfl, hg⟩
  · split
    · exact ⟨by simp, rfl, hg⟩
    · rename_i hp hn
      simp [iEq_eq] at hn
      have hi : s.pos.toNat < s.input.length := by omega
      have htk : s.input.take (s.pos.toNat + 1) = s.input.take s.pos.toNat ++ [s.input[s.pos.toNat]] := List.take_succ_eq_append_getElem hi
      have hgd : s.input.getD s.pos.toNat 0 = s.input[s.pos.toNat] := by simp [hi]
      have hpp : (s.pos + 1).toNat = s.pos.toNat + 1 := by omega
      dsimp only
      rw [hgd]
      split
      · rename_i hc
        have hc' : iLt ((s.input[s.pos.toNat]).toNat : Int) 128 = false := by simp [iLt_eq]; omega
        refine ⟨by simp, rfl, ?_⟩
        show s.got = sBytes (s.input.take (s.pos + 1).toNat)
        rw [hpp, htk, sBytes_hi _ hc', hg]
      · rename_i hc
        have hc' : iLt ((s.input[s.pos.toNat]).toNat : Int) 128 = true := by simp [iLt_eq]; omega
        refine ⟨rfl, rfl, ?_⟩
        show s.got ++ [s.input[s.pos.toNat]] = sBytes (s.input.take (s.pos + 1).toNat)
        rw [hpp, htk, sBytes_lo _ hc', ← hg]

theorem take_pre {g a b : List UInt8} (h : g.length ≤ a.length) (hp : g = a.take g.length) : g = (a ++ b).take g.length := by
  rw [List.take_append_of_le_length h]
  exact hp

theorem tickIn_rest (s : S) : s.tickIn.1.input = s.input ∧ s.tickIn.1.got = s.got ∧ s.tickIn.1.pos = s.pos := by
  unfold S.tickIn
  split
  · generalize (if iNe s.i.cmd.tag s.i.last.tag then s.rd s.i.cmd else (0, [], true)) = r
    dsimp only
    split <;> exact ⟨rfl, rfl, rfl⟩
  · exact ⟨rfl, rfl, rfl⟩

theorem tickIn_shut {s : S} (h : s.i.isOpen = false) : s.tickIn = (s, []) := by
  unfold S.tickIn
  rw [h]
  rfl

/-- One tick. -/
theorem Rin.tick {l : List UInt8} {s : S} {g : List UInt8} {tag : Int} {j : Nat} (h : Rin l s g tag j) :
    s.tick.1.got = s.got ++ s.tick.2.2 ∧
    ((ansOf s.tick.2.1 tag).2 = false → Rin l s.tick.1 g tag (j + 1)) ∧
    ((ansOf s.tick.2.1 tag).2 = true → (ansOf s.tick.2.1 tag).1.ans = ((g.length + (ansOf s.tick.2.1 tag).1.data.length : Nat) : Int) ∧ Rin l s.tick.1 (g ++ (ansOf s.tick.2.1 tag).1.data) (tag + 2) (j + 1)) := by
  have hv := h.valid
  have hva := S.valid_va hv
  have hin := h.input
  obtain ⟨r1, r2, r3, _⟩ := s.arrive_rest
  have hgi : s.got = sBytes (s.input.take s.pos.toNat) := by rw [hin]; exact h.got
  obtain ⟨a1, a2, a3⟩ := arrive_got' hva hgi
  have ht := tick_parts hv
  have hto : s.arrive.1.tickOut = (s.arrive.1, []) := tickOut_shut (by rw [r2]; exact h.oshut)
  rw [hto] at ht
  simp only [List.nil_append] at ht
  obtain ⟨i1, i2, i3⟩ := tickIn_rest s.arrive.1
  have io := tickIn_o s.arrive.1
  have hvt := S.tick_valid s
  have hft := (tick_few h.few).1
  have k1 : s.tick.1.got = s.got ++ s.arrive.2 := by rw [ht]; show s.arrive.1.tickIn.1.got = _; rw [i2, a1]
  have k2 : s.tick.1.input = l := by rw [ht]; show s.arrive.1.tickIn.1.input = _; rw [i1, a2, hin]
  have k3 : s.tick.1.got = sBytes (l.take s.tick.1.pos.toNat) := by
    rw [ht]
    show s.arrive.1.tickIn.1.got = sBytes (l.take s.arrive.1.tickIn.1.pos.toNat)
    rw [i2, i3, a3, hin]
  have k4 : s.tick.1.o.isOpen = false := by rw [ht]; show s.arrive.1.tickIn.1.o.isOpen = _; rw [io, r2]; exact h.oshut
  have k5 : s.tick.2.2 = s.arrive.2 := by rw [ht]
  have k6 : g.length ≤ s.tick.1.got.length := by rw [k1]; have := h.glen; simp; omega
  have k7 : g = s.tick.1.got.take g.length := by rw [k1]; exact take_pre h.glen h.pre
  refine ⟨by rw [k5]; exact k1, ?_⟩
  cases hop : s.i.isOpen with
  | false =>
    have hti : s.arrive.1.tickIn = (s.arrive.1, []) := tickIn_shut (by rw [r3]; exact hop)
    have ea : s.tick.2.1 = [] := by rw [ht, hti]
    have ei : s.tick.1.i = s.i := by rw [ht, hti]; exact r3
    refine ⟨fun _ => ⟨hvt, k2, k3, k4, hft, k6, k7, h.tagp, by rw [ei]; exact h.taglt, by have := h.tagle; omega, fun e => by rw [ei, hop] at e; cases e⟩, fun e => by rw [ea] at e; cases e⟩
  | true =>
    have hc := h.cmd hop
    have hop' : s.arrive.1.i.isOpen = true := by rw [r3]; exact hop
    have hne : iNe tag s.i.last.tag = true := by have := h.taglt; simp [iNe_eq]; omega
    have hti : s.arrive.1.tickIn = if (s.arrive.1.rd ⟨tag, 1, (g.length : Int), []⟩).2.2 then
        ({ s.arrive.1 with i := ⟨false, ⟨0, 0, 0, []⟩, ⟨tag, (s.arrive.1.rd ⟨tag, 1, (g.length : Int), []⟩).1, (s.arrive.1.rd ⟨tag, 1, (g.length : Int), []⟩).2.1⟩⟩ },
          [⟨tag, (s.arrive.1.rd ⟨tag, 1, (g.length : Int), []⟩).1, (s.arrive.1.rd ⟨tag, 1, (g.length : Int), []⟩).2.1⟩]) else (s.arrive.1, []) := by
      unfold S.tickIn
      rw [r3]
      simp only [hop, if_true, hc, hne, Chan.finish]
    have hgl : g.length ≤ s.arrive.1.got.length := by rw [a1]; have := h.glen; simp; omega
    have hrd : s.arrive.1.rd ⟨tag, 1, (g.length : Int), []⟩ = if g.length = s.arrive.1.got.length then (0, [], false) else
        (((g.length + min (s.arrive.1.got.length - g.length) 128 : Nat) : Int), (s.arrive.1.got.drop g.length).take (min (s.arrive.1.got.length - g.length) 128), true) := by
      unfold S.rd
      have c1 : iGt (([] : List UInt8).length : Int) 0 = false := by simp [iGt_eq]
      have c2 : (iLt (g.length : Int) 0 || iGt (g.length : Int) s.arrive.1.got.length) = false := by simp [iLt_eq, iGt_eq]; omega
      simp only [c1, c2, Bool.false_eq_true, if_false]
      by_cases e : g.length = s.arrive.1.got.length
      · have c3 : iEq (g.length : Int) s.arrive.1.got.length = true := by simp [iEq_eq, e]
        rw [if_pos c3, if_pos e]
      · have c3 : ¬ iEq (g.length : Int) s.arrive.1.got.length = true := by simp [iEq_eq]; omega
        rw [if_neg c3, if_neg e]
        simp
    by_cases e : g.length = s.arrive.1.got.length
    · rw [hrd, if_pos e] at hti
      simp only [Bool.false_eq_true, if_false] at hti
      have ea : s.tick.2.1 = [] := by rw [ht, hti]
      have ei : s.tick.1.i = s.i := by rw [ht, hti]; exact r3
      refine ⟨fun _ => ⟨hvt, k2, k3, k4, hft, k6, k7, h.tagp, by rw [ei]; exact h.taglt, by have := h.tagle; omega, fun _ => by rw [ei]; exact hc⟩, fun e => by rw [ea] at e; cases e⟩
    · rw [hrd, if_neg e] at hti
      simp only [if_true] at hti
      generalize hn : min (s.arrive.1.got.length - g.length) 128 = n at *
      have hnl : g.length + n ≤ s.arrive.1.got.length := by omega
      have hdl : ((s.arrive.1.got.drop g.length).take n).length = n := by simp; omega
      have ea : ansOf s.tick.2.1 tag = (⟨tag, ((g.length + n : Nat) : Int), (s.arrive.1.got.drop g.length).take n⟩, true) := by
        rw [ht, hti]
        exact ansOf_head ⟨tag, _, _⟩ []
      have ei : s.tick.1.i = ⟨false, ⟨0, 0, 0, []⟩, ⟨tag, ((g.length + n : Nat) : Int), (s.arrive.1.got.drop g.length).take n⟩⟩ := by rw [ht, hti]
      rw [ea]
      refine ⟨fun e => (by cases e), fun _ => ⟨by rw [hdl], hvt, k2, k3, k4, hft, ?_, ?_, proper_next h.tagp, by rw [ei]; show tag < tag + 2; omega, by have := h.tagle; omega, fun e => by rw [ei] at e; cases e⟩⟩
      · rw [k1, ← a1, List.length_append, hdl]
        exact hnl
      · rw [k1, ← a1, List.length_append, hdl, List.take_add]
        have : g = s.arrive.1.got.take g.length := by rw [a1]; exact take_pre h.glen h.pre
        rw [← this]

theorem Rin.give {l : List UInt8} {s : S} {g : List UInt8} {tag : Int} {j : Nat} (h : Rin l s g tag j) (hs : s.i.isOpen = false) :
    (s.do ⟨tag, 1, (g.length : Int), []⟩).2 = 0 ∧ Rin l (s.do ⟨tag, 1, (g.length : Int), []⟩).1 g tag j := by
  have ht := h.taglt
  have hk : s.i.take ⟨tag, 1, (g.length : Int), []⟩ = (⟨true, ⟨tag, 1, (g.length : Int), []⟩, s.i.last⟩, 0) := by
    unfold Chan.take
    have h1 : iLt tag s.i.last.tag = false := by simp [iLt_eq]; omega
    have h2 : iEq tag s.i.last.tag = false := by simp [iEq_eq]; omega
    simp [hs, h1, h2]
  have e := do1 (x := ⟨tag, 1, (g.length : Int), []⟩) h.valid h.tagp rfl (by rw [hk])
  rw [hk] at e
  have hv := S.do_valid (s := s) (c := ⟨tag, 1, (g.length : Int), []⟩) (by rw [e])
  have hf := do_few h.few (c := ⟨tag, 1, (g.length : Int), []⟩) (by simp)
  refine ⟨by rw [e], hv, ?_, ?_, ?_, hf, ?_, ?_, h.tagp, ?_, h.tagle, ?_⟩
  all_goals rw [e]
  · exact h.input
  · exact h.got
  · exact h.oshut
  · exact h.glen
  · exact h.pre
  · exact h.taglt
  · intro _; rfl

theorem Rin.start {l : List UInt8} (hl : l.length ≤ 4000) : (S.new l).2 = 0 ∧ (S.new l).1.got = [] ∧ Rin l (S.new l).1 [] 1 0 := by
  have e : S.new l = (Q l 0 0, 0) := by
    unfold S.new
    have : iGt (l.length : Int) 4000 = false := by simp [iGt_eq]; omega
    rw [this]
    rfl
  have hf := new_few (l := l) (by omega)
  rw [e] at *
  exact ⟨rfl, rfl, Q_valid hl (Nat.zero_le _) (by omega) (by omega), rfl, rfl, rfl, hf, by simp, by simp, by decide +kernel, (by show (0 : Int) < 1; omega), by omega, fun h => by cases h⟩

theorem sBytes_append (l m : List UInt8) : sBytes (l ++ m) = sBytes l ++ sBytes m := by simp [sBytes]

theorem Rin.want {l : List UInt8} {s : S} {g : List UInt8} {tag : Int} {j : Nat} (h : Rin l s g tag j) : s.got.length ≤ (sBytes l).length ∧ s.got = (sBytes l).take s.got.length := by
  have : sBytes l = s.got ++ sBytes (l.drop s.pos.toNat) := by
    rw [h.got, ← sBytes_append, List.take_append_drop]
  rw [this]
  exact ⟨by simp, by simp⟩

end Go.Proofs.Ytcmgioaggmaclaa
